/- The builder's WriteString, by the library's shelf; the walk of asm.Text. -/
import Derived.Test.YtlaohefgofmfdaaDoorShelf
import Derived.Test.YtlaohefgofmfdaaDoorLine
import Derived.Test.YtlaohefgofmfdaaDoorAsm11
import Derived.Test.YtlaohefgofmfdaaDoorWMore
import Derived.Test.YtlaohefgofmfdaaDoorRefT
namespace Go.Proofs
open Go.Shelf
def Tryd.lays166_ren : Go.Shelf.Ren := ⟨fun | 166 => 43 | 240 => 65 | 276 => 76 | n => n, fun | 0 => 0 | 3 => 3 | 4 => 4 | 9 => 9 | 20 => 20 | 37 => 22 | 70 => 94 | 72 => 96 | 75 => 98 | 80 => 101 | 164 => 139 | 5 => 5 | n => n, fun | n => n⟩
theorem Tryd.lays166 : Go.Proofs.Lays.n166 Tryd.prog Tryd.lays166_ren := {
  mixed := by kernel_rfl
  f166 := Tryd.func43.trans (congrArg some (by kernel_rfl))
  f240 := Tryd.func65.trans (congrArg some (by kernel_rfl))
  f276 := Tryd.func76.trans (congrArg some (by kernel_rfl))
  t0 := Tryd.underlying0
  a0 := Tryd.isAgg0
  z0 := Tryd.sizeOf0
  v0 := Tryd.zeroValue0
  t3 := Tryd.underlying3
  a3 := Tryd.isAgg3
  z3 := Tryd.sizeOf3
  v3 := Tryd.zeroValue3
  t4 := Tryd.underlying4
  a4 := Tryd.isAgg4
  z4 := Tryd.sizeOf4
  v4 := Tryd.zeroValue4
  t9 := Tryd.underlying9
  a9 := Tryd.isAgg9
  z9 := Tryd.sizeOf9
  v9 := Tryd.zeroValue9
  t20 := Tryd.underlying20
  a20 := Tryd.isAgg20
  z20 := Tryd.sizeOf20
  v20 := Tryd.zeroValue20
  t37 := Tryd.underlying22
  a37 := Tryd.isAgg22
  z37 := Tryd.sizeOf22
  v37 := Tryd.zeroValue22
  t70 := Tryd.underlying94
  a70 := Tryd.isAgg94
  z70 := Tryd.sizeOf94
  v70 := Tryd.zeroValue94
  t72 := Tryd.underlying96
  a72 := Tryd.isAgg96
  z72 := Tryd.sizeOf96
  v72 := Tryd.zeroValue96
  t75 := Tryd.underlying98
  a75 := Tryd.isAgg98
  z75 := Tryd.sizeOf98
  v75 := Tryd.zeroValue98
  t164 := Tryd.underlying139
  a164 := Tryd.isAgg139
  z164 := Tryd.sizeOf139
  v164 := Tryd.zeroValue139 }
theorem Tryd.Builder_Extra_166 : Builder.Extra Tryd.prog Tryd.lays166_ren := {
  sizeBuilder := by kernel_rfl
  liesBuilder := by kernel_rfl
  t5 := Tryd.underlying5
  a5 := Tryd.isAgg5
  z5 := Tryd.sizeOf5
  v5 := Tryd.zeroValue5
  infoByte := by kernel_rfl
  cellsByte := by kernel_rfl
  sizeByte := by kernel_rfl
  neB5 := by decide }
open Go.RowKit in
theorem Tryd.Builder_WriteString_k (B b : Nat) (bs : List Value) (s : ByteArray) (w : World) (h : Lib.IsBuilderF 96 5 B b bs w) (hlen : bs.length + s.size ≤ 140737488355328) (hBw : B ≤ w.heap.size) :
    Calls Tryd.prog 43 #[.pointer (some ⟨b, 0, none⟩), .string s] w fun e w' => e = .returned (.tuple #[.int .i64 s.size, .nilIface]) ∧ (Lib.BuilderAtF 96 5 B b (.pointer (some ⟨b, 0, none⟩)) (bs ++ Lib.strCells s) w' ∧ Below B w w' ∧ Lib.OthersKept 5 (some b) w w') := Any.Builder_WriteString_k Tryd.lays166 Tryd.Builder_Extra_166 B b bs s w h hlen hBw
end Go.Proofs
namespace Go.Proofs.YtlaohefgofmfdaaDoor
open Go Go.RowKit Go.Proofs.YtlaohefgofmfdaaDoorW.PrintWords
open Go.Proofs.YtlaohefgofmfdaaDoorW.PrintMore
attribute [local go_sem] min2_int min_two
set_option maxRecDepth 100000
/-- Bytes as words, a blank ahead of each. -/
def wordsB (bs : List Int) : Bs := bs.flatMap fun b => 32 :: decI b
theorem byteRow_eq : ∀ bs, byteRow bs = sByte ++ wordsB bs := by
  have h : ∀ (bs : List Int) (a : Bs), joinW (a :: bs.map decI) = a ++ wordsB bs := by
    intro bs
    induction bs with
    | nil => intro a; simp [joinW, wordsB]
    | cons b r ih => intro a; rw [List.map_cons, joinW, ih]; simp [wordsB]
  intro bs; exact h bs sByte
theorem rows_right (a b c d : Int) (r : List Int) (h : checkI a b c d = 0) : linesT (rowsT (a :: b :: c :: d :: r)) = textI a b c d ++ 10 :: linesT (rowsT r) := by
  rw [rowsT, if_pos h]; simp [linesT]
theorem rows_wrong (a b c d : Int) (r : List Int) (h : checkI a b c d ≠ 0) : linesT (rowsT (a :: b :: c :: d :: r)) = sByte ++ wordsB [a, b, c, d] ++ 10 :: linesT (rowsT r) := by
  rw [rowsT, if_neg h]; simp [linesT, byteRow_eq]
theorem rows_few (bs : List Int) (h0 : bs ≠ []) (h : bs.length < 4) : linesT (rowsT bs) = sByte ++ wordsB bs ++ [10] := by
  match bs, h0, h with
  | [a], _, _ => simp [rowsT, linesT, byteRow_eq]
  | [a, b], _, _ => simp [rowsT, linesT, byteRow_eq]
  | [a, b, c], _, _ => simp [rowsT, linesT, byteRow_eq]
theorem textP_eq (x : Int) (code : List Int) : textP x code = (if 0 < x then extraRow x ++ [10] else []) ++ linesT (rowsT code) := by
  unfold textP rowsP
  split <;> simp [linesT]
/-- What is written next. -/
theorem rows_bytes (code : List Int) (m : Nat) (bs : List Int) (hb : bs = (code.drop m).take 4) (hm : m < code.length) (hr : ∀ a b c d, bs = [a, b, c, d] → checkI a b c d ≠ 0) :
    linesT (rowsT (code.drop m)) = sByte ++ wordsB bs ++ 10 :: linesT (rowsT (code.drop (m + 4))) := by
  have hd : code.drop (m + 4) = (code.drop m).drop 4 := by rw [List.drop_drop]
  have hl : (code.drop m).length = code.length - m := by simp
  rw [hd]
  revert hb hl
  generalize code.drop m = l
  intro hb hl
  match l, hb, hl with
  | [], _, hl => simp at hl; omega
  | [a], hb, _ => subst hb; rw [rows_few [a] (by simp) (by simp)]; simp [rowsT, linesT]
  | [a, b], hb, _ => subst hb; rw [rows_few [a, b] (by simp) (by simp)]; simp [rowsT, linesT]
  | [a, b, c], hb, _ => subst hb; rw [rows_few [a, b, c] (by simp) (by simp)]; simp [rowsT, linesT]
  | a :: b :: c :: d :: r, hb, _ =>
    have hb : bs = [a, b, c, d] := by simpa using hb
    rw [rows_wrong a b c d r (hr a b c d hb), hb]; simp
theorem wordsB_len (bs : List Int) (h : ∀ b ∈ bs, Byt b) : (wordsB bs).length ≤ 8 * bs.length := by
  induction bs with
  | nil => simp [wordsB]
  | cons b r ih =>
    have h1 := decI_len b (by have := h b (by simp); unfold Byt at this; omega) (by have := h b (by simp); unfold Byt at this; omega)
    have h2 := ih fun q hq => h q (by simp [hq])
    simp only [wordsB, List.flatMap_cons, List.length_append, List.length_cons] at h2 ⊢
    omega
/-- The builder's writing. -/
theorem write_any (B : Nat) (T : Bs) (s : ByteArray) (W : World) (h : Lib.IsBuilderF 96 5 B B (Lib.byteCells T) W) (hlen : T.length + s.size ≤ 140737488355328) (hB : B ≤ W.heap.size) :
    Calls Tryd.prog 43 #[.pointer (some ⟨B, 0, none⟩), .string s] W fun e w' => ∃ r, e = .returned (.tuple #[.int .i64 r, .nilIface]) ∧ Hid (Lib.IsBuilderF 96 5 B B (Lib.byteCells (T ++ s.data.toList)) w') ∧ Below B W w' := by
  refine (Tryd.Builder_WriteString_k B B (Lib.byteCells T) s W h (by simpa [Lib.byteCells] using hlen) hB).mono ?_
  rintro e w' ⟨rfl, h1, h2, _⟩
  refine ⟨_, rfl, Lib.hid (.inr ?_), h2⟩
  have : Lib.byteCells (T ++ s.data.toList) = Lib.byteCells T ++ Lib.strCells s := by simp [Lib.byteCells, Lib.strCells]
  rw [this]; exact h1
theorem text_reads {w : World} {base : Nat} {v : Value} {code : List Int} (h : w.ownsRow base 5 1 v code.length (u8s code)) :
    ∃ p c, v = .slice p code.length c ∧ code.length ≤ c ∧ c ≤ 9223372036854775807 ∧ ∀ m, m < code.length → ∃ g, p = some ⟨g, 0, none⟩ ∧ g < w.heap.size ∧ ∀ j, j < code.length → w.cell? ⟨g, j, none⟩ = some (.int .u8 (code.getD j 0)) := by
  obtain ⟨h1, ⟨rfl, h0⟩ | ⟨g, cap, cur, rfl, hg, hh, hcap, hm, hsz, htk⟩⟩ := id h
  · exact ⟨none, 0, by rw [h0], by omega, by omega, fun m hm => by omega⟩
  · refine ⟨_, cap, rfl, hcap, by simpa [maxLen] using hm, fun m _ => ⟨g, rfl, (Array.getElem?_eq_some_iff.1 hh).1, fun j hj => ?_⟩⟩
    have := h.cells rfl j (.int .u8 (code.getD j 0)) (by simp [u8s, List.getElem?_eq_getElem hj, List.getD_eq_getElem?_getD])
    rwa [show Addr.add ⟨g, 0, none⟩ j = ⟨g, j, none⟩ by unfold Addr.add; split <;> simp_all] at this
theorem four_of (bs : List Int) (h : bs.length = 4) : ∃ a b c d, bs = [a, b, c, d] := by
  match bs, h with
  | [a, b, c, d], _ => exact ⟨a, b, c, d, rfl⟩
theorem getD_take4 (code : List Int) (m i : Nat) (hi : i < 4) : ((code.drop m).take 4).getD i 0 = code.getD (m + i) 0 := by
  rw [List.getD_eq_getElem?_getD, List.getElem?_take_of_lt hi, List.getElem?_drop, List.getD_eq_getElem?_getD]
theorem getD_mem (bs : List Int) (k : Nat) (h : k < bs.length) : bs.getD k 0 ∈ bs := by
  rw [List.getD_eq_getElem?_getD, List.getElem?_eq_getElem h]; exact List.getElem_mem h
theorem mem_take4 {code bs : List Int} {m : Nat} (h : bs = (code.drop m).take 4) (y : Int) (hy : y ∈ bs) : y ∈ code := by
  rw [h] at hy; exact List.mem_of_mem_drop (List.mem_of_mem_take hy)
theorem drop4 (code : List Int) (m : Nat) (a b c d : Int) (h : [a, b, c, d] = (code.drop m).take 4) : code.drop m = a :: b :: c :: d :: code.drop (m + 4) := by
  have := List.take_append_drop 4 (code.drop m)
  rw [← h, List.drop_drop] at this
  exact this.symm
theorem wordsB_snoc (bs : List Int) (k : Nat) (h : k < bs.length) : wordsB (bs.take (k + 1)) = wordsB (bs.take k) ++ 32 :: decI (bs.getD k 0) := by
  rw [List.getD_eq_getElem?_getD, List.getElem?_eq_getElem h]
  rw [List.take_add_one, List.getElem?_eq_getElem h]
  simp only [wordsB, List.flatMap_append, Option.toList_some, List.flatMap_cons, List.flatMap_nil, List.append_nil, Option.getD_some]
theorem wordsB_take (bs : List Int) (k : Nat) (h : ∀ b ∈ bs, Byt b) (hl : bs.length ≤ 4) : (wordsB (bs.take k)).length ≤ 32 := by
  have := wordsB_len (bs.take k) fun b hb => h b (List.mem_of_mem_take hb)
  have h2 : (bs.take k).length ≤ 4 := by rw [List.length_take]; omega
  omega
theorem text_lenT (a b c d : Int) (hb : Byt b) (hc : Byt c) (hd : Byt d) (hck : checkI a b c d = 0) : (textI a b c d).length ≤ 1000 := by
  have ho := check_op a b c d hck
  have h0 := opName_len a ho
  unfold Byt at hb hc hd
  have h1 := decI_len b (by omega) (by omega)
  have h2 := decI_len c (by omega) (by omega)
  have h3 := decI_len d (by omega) (by omega)
  have h4 := decI_len (c + 256 * d) (by omega) (by omega)
  have h5 := decI_len (near8 d) (by unfold near8; split <;> omega) (by unfold near8; split <;> omega)
  unfold textI argsW
  repeat' split
  all_goals simp [joinW, regW]
  all_goals omega
theorem lb_b {w a c : World} {B : Nat} (h : LBel w a) (hb : Below B a c) (hB : w.heap.size ≤ B) : LBel w c := Below.trans h (hb.mono hB)
theorem isb_below {B b : Nat} {bs : List Value} {W W' : World} (h : Lib.IsBuilderF 96 5 B b bs W) (hb : Below W.heap.size W W') : Lib.IsBuilderF 96 5 B b bs W' := by
  rcases h with ⟨hB, v, hv, hown, hne⟩ | ⟨hB, v, hv, hown, hne⟩
  · exact .inl ⟨hB, v, (hb.block b (Array.getElem?_eq_some_iff.1 hv).1).trans hv, hown.kept (row := none) ⟨hb.os, hb.tape, hb.output, hb.size, fun k hk _ => hb.block k hk⟩ (Classical.em _), hne⟩
  · exact .inr ⟨hB, v, (hb.block b (Array.getElem?_eq_some_iff.1 hv).1).trans hv, hown.kept (row := none) ⟨hb.os, hb.tape, hb.output, hb.size, fun k hk _ => hb.block k hk⟩ (Classical.em _), hne⟩
theorem heap_stay {a b : World} {G : Nat} {o : Obj} (h : a.heap[G]? = some o) (hb : Below a.heap.size a b) : b.heap[G]? = some o := (hb.block G (Array.getElem?_eq_some_iff.1 h).1).trans h
theorem heap_stay_al {a : World} {G : Nat} {o : Obj} (h : a.heap[G]? = some o) (x : Obj) : (a.alloc x).heap[G]? = some o := heap_stay h (below_one a x)
set_option maxHeartbeats 4000000 in
theorem text_any (x : Int) (code : List Int) (v : Value) (hx : Byt x) (hcode : ∀ b ∈ code, Byt b) (hn : code.length ≤ 2048) (w : World) (base : Nat) (hown : w.ownsRow base 5 1 v code.length (u8s code)) :
    Calls Tryd.prog 18 #[.agg #[.int .u8 x, v]] w fun e w' => e = .returned (.string ⟨(textP x code).toArray⟩) ∧ LBel w w' := by
  unfold Byt at hx
  obtain ⟨p, c, rfl, hc, hcm, hrd⟩ := text_reads hown
  have HRD := Lib.hid hrd
  have HCODE := Lib.hid hcode
  have HD : Hid (∀ n W, Byt n → Calls Tryd.prog 38 #[.int .i64 n] W fun e w' => e = .returned (.string ⟨(decI n).toArray⟩) ∧ Below W.heap.size W w') := Lib.hid fun n W h => by unfold Byt at h; exact printed_any n (by omega) (by omega) W
  have HDL : Hid (∀ n, Byt n → (decI n).length ≤ 7) := Lib.hid fun n h => by unfold Byt at h; exact decI_len n (by omega) (by omega)
  clear hrd hown hcode
  obtain ⟨n, hnn⟩ : ∃ n, n = code.length := ⟨_, rfl⟩
  have HN := Lib.hid hnn
  rw [← hnn] at hc hn ⊢
  clear hnn
  obtain ⟨hx0, hx1⟩ := hx
  have wx : IntKind.i64.wrap x = x := by rw [IntKind.wrap_i64]; omega
  obtain ⟨D, hD⟩ : ∃ D, D = decI x := ⟨_, rfl⟩
  have hDl : D.length ≤ 7 := by rw [hD]; exact HDL.out x ⟨hx0, hx1⟩
  have HX : Hid (∀ W, Calls Tryd.prog 38 #[.int .i64 x] W fun e w' => e = .returned (.string ⟨D.toArray⟩) ∧ Below W.heap.size W w') := Lib.hid fun W => by rw [hD]; exact HD.out x W ⟨hx0, hx1⟩
  have HDX := Lib.hid hD
  clear hD
  have hq1 : ¬ (9223372036854775807 < 6 + List.length D) := by omega
  have hq2 : ¬ (9223372036854775807 < 6 + List.length D + 1) := by omega
  obtain ⟨B, hB⟩ : ∃ B, B = w.heap.size + 1 := ⟨_, rfl⟩
  go_enter Tryd.func18, Tryd.ntmps18
  go_upto_region 2 with fail
  have h00 := heap_stay_al (heap_alloc_new w (.cells #[.int .u8 x, .slice p n c] 27)) (.cells #[.pointer none, .slice none 0 0] 96)
  have h01 := heap_alloc_new (w.alloc (.cells #[.int .u8 x, .slice p n c] 27)) (.cells #[.pointer none, .slice none 0 0] 96)
  rw [World.size_alloc, ← hB] at h01
  have HIB : Hid (Lib.IsBuilderF 96 5 B B (Lib.byteCells []) ((w.alloc (.cells #[.int .u8 x, .slice p n c] 27)).alloc (.cells #[.pointer none, .slice none 0 0] 96))) := Lib.hid (.inl ⟨Nat.le_refl _, _, h01, World.ownsRowF_of (World.ownsRow_nil _ _ _ _), by simp [Value.ownBlock]⟩)
  have HLB : Hid (LBel w ((w.alloc (.cells #[.int .u8 x, .slice p n c] 27)).alloc (.cells #[.pointer none, .slice none 0 0] 96))) := Lib.hid (lb_alloc (below_one w _) _)
  have hsz : ((w.alloc (.cells #[.int .u8 x, .slice p n c] 27)).alloc (.cells #[.pointer none, .slice none 0 0] 96)).heap.size = B + 1 := by simp [hB]
  have z0 : ((w.alloc (.cells #[.int .u8 x, .slice p n c] 27)).alloc (.cells #[.pointer none, .slice none 0 0] 96)).cell? ⟨w.heap.size, 0, none⟩ = some (.int .u8 x) := by rw [cell_of_row _ _ _ _ _ _ h00]; rfl
  have z1 : ((w.alloc (.cells #[.int .u8 x, .slice p n c] 27)).alloc (.cells #[.pointer none, .slice none 0 0] 96)).cell? ⟨w.heap.size, 1, none⟩ = some (.slice p n c) := by rw [cell_of_row _ _ _ _ _ _ h00]; rfl
  have HIN : Hid (∀ g j, g < w.heap.size → ((w.alloc (.cells #[.int .u8 x, .slice p n c] 27)).alloc (.cells #[.pointer none, .slice none 0 0] 96)).cell? ⟨g, j, none⟩ = w.cell? ⟨g, j, none⟩) := Lib.hid fun g j h => (bcell (show Below w.heap.size w _ from (lb_alloc (below_one w (.cells #[.int .u8 x, .slice p n c] 27)) (.cells #[.pointer none, .slice none 0 0] 96)))).1 g j h
  clear h00 h01
  generalize (w.alloc (.cells #[.int .u8 x, .slice p n c] 27)).alloc (.cells #[.pointer none, .slice none 0 0] 96) = W0 at *
  rw [← hB]
  have hwB : w.heap.size < B := by omega
  have HBB := Lib.hid hB
  clear hB
  have hBW : B < W0.heap.size := by omega
  have hwW : w.heap.size < W0.heap.size := by omega
  by_cases hx0' : 0 < x
  · have HW1 : Hid (∀ W, Hid (Lib.IsBuilderF 96 5 B B (Lib.byteCells []) W) → B ≤ W.heap.size → Calls Tryd.prog 43 #[.pointer (some ⟨B, 0, none⟩), .string ((⟨#[101, 120, 116, 114, 97, 32]⟩ : ByteArray) ++ ⟨D.toArray⟩ ++ ⟨#[10]⟩)] W fun e w' => ∃ r, e = .returned (.tuple #[.int .i64 r, .nilIface]) ∧ Hid (Lib.IsBuilderF 96 5 B B (Lib.byteCells (sExtra ++ 32 :: D ++ [10])) w') ∧ Below B W w') := Lib.hid fun W h1 h2 => by
      have := write_any B [] ((⟨#[101, 120, 116, 114, 97, 32]⟩ : ByteArray) ++ ⟨D.toArray⟩ ++ ⟨#[10]⟩) W h1.out (by simp [ByteArray.size]; omega) h2
      simpa [sExtra] using this
    go_upto_region 4 with (first | (go_at_call 38; (with_reducible refine (HX.out _).mono ?_); rintro e w1 ⟨rfl, hb1⟩; have hbs1 := hb1.size; have HIB1 := Lib.hid (isb_below HIB.out hb1)) | (go_at_call 43; (with_reducible refine (HW1.out _ HIB1 (by omega)).mono ?_); rintro e w2 ⟨r2, rfl, HIB2, hb2⟩))
    obtain ⟨T0, hT0e⟩ : ∃ T0, T0 = extraRow x ++ [10] := ⟨_, rfl⟩
    have hT0 : T0.length ≤ 1000 := by rw [hT0e, extraRow, ← HDX.out]; simp [joinW, sExtra]; omega
    have HIB0 : Hid (Lib.IsBuilderF 96 5 B B (Lib.byteCells T0) w2) := by rw [hT0e, extraRow, ← HDX.out]; simpa [joinW, sExtra] using HIB2
    have HBW0 : Hid (Below B W0 w2) := Lib.hid (Below.trans (hb1.mono (by omega)) hb2)
    have HTX0 : Hid (textP x code = T0 ++ linesT (rowsT code)) := by show _ = _; rw [textP_eq, if_pos hx0', hT0e]
    clear hb1 hb2 hbs1 HIB1 HIB2 hT0e HIB
    go_wp2
    go_loopw [4] (fun i wr => ∃ (m : Nat) (T : Bs), i = .int .i64 m ∧ m ≤ n + 3 ∧ T.length ≤ 1000 + 1000 * m ∧ Hid (Lib.IsBuilderF 96 5 B B (Lib.byteCells T) wr) ∧ Hid (Below B W0 wr) ∧ Hid (textP x code = T ++ linesT (rowsT (code.drop m)))) (fun i _ => n + 3 - (intOf i).toNat)
    case atStart => exact ⟨0, T0, rfl, by omega, by omega, HIB0, HBW0, by simpa using HTX0⟩
    case round =>
      clear HIB0 HBW0 HTX0 hT0
      obtain ⟨m, T, rfl, hm, hTl, HIB, HBW, HTX⟩ := hrel
      have hbsz := HBW.out.size
      have k0 : wr.cell? ⟨w.heap.size, 0, none⟩ = some (.int .u8 x) := (HBW.out.cell (p := ⟨w.heap.size, 0, none⟩) (by show w.heap.size < B; omega)).trans z0
      have k1 : wr.cell? ⟨w.heap.size, 1, none⟩ = some (.slice p n c) := (HBW.out.cell (p := ⟨w.heap.size, 1, none⟩) (by show w.heap.size < B; omega)).trans z1
      by_cases hlt : m < n
      · obtain ⟨g, rfl, hg, hrd⟩ := HRD.out m (by rw [← HN.out]; exact hlt)
        obtain ⟨bs, hbs⟩ : ∃ bs, bs = (code.drop m).take 4 := ⟨_, rfl⟩
        obtain ⟨q, hq⟩ : ∃ q, q = bs.length := ⟨_, rfl⟩
        have hqv : q = min 4 (n - m) := by rw [hq, hbs, HN.out]; simp
        have hq0 : 0 < q := by omega
        have hq4 : q ≤ 4 := by omega
        have hmq : m + q ≤ n := by omega
        have hmc : m + q ≤ c := by omega
        have hne : ¬ c = m := by omega
        have hmin : (if (n : Int) < (m : Int) + 4 then (n : Int) else (m : Int) + 4) = ((m + q : Nat) : Int) := by split <;> omega
        have hmqm : m + q - m = q := by omega
        by_cases h4 : q = 4
        · obtain ⟨a, b, d, e', hbe⟩ : ∃ a b d e', bs = [a, b, d, e'] := four_of bs (by rw [← hq]; exact h4)
          have HQ := Lib.hid hq
          have HQV := Lib.hid hqv
          have HBSE := Lib.hid hbs
          have rd : ∀ i y, i < 4 → bs[i]? = some y → wr.cell? ⟨g, m + i, none⟩ = some (.int .u8 y) := fun i y hi hy => ((HBW.out.cell (p := ⟨g, m + i, none⟩) (by show g < B; omega)).trans (HIN.out g _ hg)).trans (by rw [hrd (m + i) (by rw [← HN.out]; omega), ← getD_take4 code m i hi, ← hbs, List.getD_eq_getElem?_getD, hy]; rfl)
          have r0 : wr.cell? ⟨g, m, none⟩ = some (.int .u8 a) := rd 0 a (by omega) (by rw [hbe]; rfl)
          have r1 := rd 1 b (by omega) (by rw [hbe]; rfl)
          have r2 := rd 2 d (by omega) (by rw [hbe]; rfl)
          have r3 := rd 3 e' (by omega) (by rw [hbe]; rfl)
          have ha : Byt a := HCODE.out _ (mem_take4 hbs _ (by rw [hbe]; simp))
          have hb : Byt b := HCODE.out _ (mem_take4 hbs _ (by rw [hbe]; simp))
          have hd : Byt d := HCODE.out _ (mem_take4 hbs _ (by rw [hbe]; simp))
          have he : Byt e' := HCODE.out _ (mem_take4 hbs _ (by rw [hbe]; simp))
          clear rd
          by_cases hk4 : checkI a b d e' = 0
          · have HTT : Hid (textP x code = (T ++ textI a b d e' ++ [10]) ++ linesT (rowsT (code.drop (m + 4)))) := by
              show _ = _
              rw [HTX.out, drop4 code m a b d e' (by rw [← hbe, hbs]), rows_right a b d e' _ hk4]; simp
            have HLN : Hid (∀ W, Calls Tryd.prog 14 #[instrV a b d e'] W fun e w' => e = .returned (.tuple #[.string ⟨(textI a b d e').toArray⟩, .bool true]) ∧ Below W.heap.size W w') := Lib.hid fun W => by
              have := line_any a b d e' hb hd he W
              unfold LineEnd lineT at this
              rw [if_pos hk4, hk4] at this
              exact this
            have hTI := text_lenT a b d e' hb hd he hk4
            generalize textI a b d e' = S at *
            have hSq : ¬ (9223372036854775807 < List.length S + 1) := by omega
            have HWS : Hid (∀ W, Hid (Lib.IsBuilderF 96 5 B B (Lib.byteCells T) W) → B ≤ W.heap.size → Calls Tryd.prog 43 #[.pointer (some ⟨B, 0, none⟩), .string ((⟨S.toArray⟩ : ByteArray) ++ ⟨#[10]⟩)] W fun e w' => ∃ r, e = .returned (.tuple #[.int .i64 r, .nilIface]) ∧ Hid (Lib.IsBuilderF 96 5 B B (Lib.byteCells (T ++ S ++ [10])) w') ∧ Below B W w') := Lib.hid fun W h1 h2 => by
              have := write_any B T ((⟨S.toArray⟩ : ByteArray) ++ ⟨#[10]⟩) W h1.out (by simp [ByteArray.size]; omega) h2
              simpa using this
            have hTS : (T ++ S ++ [10]).length ≤ 1000 + 1000 * (m + 4) := by simp; omega
            clear hq hqv hbs hbe hrd hk4 HTX
            subst h4
            have harr := fun (W : World) (a : Option Addr) (cap : Nat) => run_arrayAt (P := Tryd.prog) (w := W) 40 5 4 a (m + 4 - m) cap Tryd.underlying40 (by omega)
            go_wp2_with fail
            (rename_i hK; refine hK _ _ ?_; clear hK)
            go_wp2_with (first | (go_at_call 12; refine (unpack_any a b d e' _).mono ?_; rintro e w3 ⟨rfl, hb3⟩; have hbs3 := hb3.size; have HIB3 := Lib.hid (isb_below HIB.out hb3)) | (go_at_call 14; refine (HLN.out _).mono ?_; rintro e w4 ⟨rfl, hb4⟩; have hbs4 := hb4.size; have HIB4 := Lib.hid (isb_below HIB3.out hb4)) | (go_at_call 43; (with_reducible refine (HWS.out _ HIB4 (by omega)).mono ?_); rintro e w5 ⟨r5, rfl, HIB5, hb5⟩))
            go_roundw
            case rel => exact ⟨m + 4, _, by go_num, by omega, hTS, HIB5, Lib.hid (Below.trans (Below.trans (Below.trans HBW.out (hb3.mono (by omega))) (hb4.mono (by omega))) hb5), HTT⟩
            case measure => simp [intOf]; omega
          · have HNR : Hid (∀ a b c d, bs = [a, b, c, d] → checkI a b c d ≠ 0) := Lib.hid fun a1 b1 c1 d1 h => by
              rw [hbe] at h
              injection h with h1 h2; injection h2 with h2 h3; injection h3 with h3 h4; injection h4 with h4 _
              subst h1 h2 h3 h4; exact hk4
            have HLN : Hid (∀ W, Calls Tryd.prog 14 #[instrV a b d e'] W fun e w' => e = .returned (.tuple #[.string ⟨#[]⟩, .bool false]) ∧ Below W.heap.size W w') := Lib.hid fun W => by
              have := line_any a b d e' hb hd he W
              unfold LineEnd lineT at this
              rw [if_neg hk4, decide_eq_false hk4] at this
              exact this
            clear hq hqv hbs hbe hk4
            subst h4
            have harr := fun (W : World) (a : Option Addr) (cap : Nat) => run_arrayAt (P := Tryd.prog) (w := W) 40 5 4 a (m + 4 - m) cap Tryd.underlying40 (by omega)
            have HWB : Hid (∀ W, Hid (Lib.IsBuilderF 96 5 B B (Lib.byteCells T) W) → B ≤ W.heap.size → Calls Tryd.prog 43 #[.pointer (some ⟨B, 0, none⟩), .string (⟨#[98, 121, 116, 101]⟩ : ByteArray)] W fun e w' => ∃ r, e = .returned (.tuple #[.int .i64 r, .nilIface]) ∧ Hid (Lib.IsBuilderF 96 5 B B (Lib.byteCells (T ++ sByte)) w') ∧ Below B W w') := Lib.hid fun W h1 h2 => write_any B T (⟨#[98, 121, 116, 101]⟩ : ByteArray) W h1.out (by simp [ByteArray.size]; omega) h2
            go_wp2_with fail
            (rename_i hK; refine hK _ _ ?_; clear hK)
            go_wp2_with (first | (go_at_call 12; refine (unpack_any a b d e' _).mono ?_; rintro e w3 ⟨rfl, hb3⟩; have hbs3 := hb3.size; have HIB3 := Lib.hid (isb_below HIB.out hb3)) | (go_at_call 14; refine (HLN.out _).mono ?_; rintro e w4 ⟨rfl, hb4⟩; have hbs4 := hb4.size; have HIB4 := Lib.hid (isb_below HIB3.out hb4)) | (go_at_call 43; (with_reducible refine (HWB.out _ HIB4 (by omega)).mono ?_); rintro e w5 ⟨r5, rfl, HIB5, hb5⟩))
            have HBW5 := Lib.hid (Below.trans (Below.trans (Below.trans HBW.out (hb3.mono (by omega))) (hb4.mono (by omega))) hb5)
            clear hb5 HIB HBW k0 k1 hb3 hb4 HIB3 HIB4 hbs3 hbs4 r0 r1 r2 r3
            go_loopw [55] (fun i wr => ∃ k : Nat, k ≤ 4 ∧ i = .int .i64 k ∧ Hid (Lib.IsBuilderF 96 5 B B (Lib.byteCells (T ++ sByte ++ wordsB (bs.take k))) wr) ∧ Hid (Below B W0 wr)) (fun i _ => 4 - (intOf i).toNat)
            case atStart => exact ⟨0, Nat.zero_le _, rfl, by simpa [wordsB] using HIB5, HBW5⟩
            case round =>
              clear HIB5 HBW5
              obtain ⟨k, hk, rfl, HIB, HBW⟩ := hrel
              have hbsz2 := HBW.out.size
              have hTk : (wordsB (bs.take k)).length ≤ 32 := wordsB_take bs k (fun y hy => HCODE.out y (mem_take4 HBSE.out y hy)) (by rw [← HQ.out]; exact hq4)
              by_cases hlk : k < 4
              · obtain ⟨y, hy⟩ : ∃ y, y = bs.getD k 0 := ⟨_, rfl⟩
                have hyB : Byt y := by rw [hy]; exact HCODE.out _ (mem_take4 HBSE.out _ (getD_mem bs k (by rw [← HQ.out]; exact hlk)))
                have hcy : wr.cell? ⟨g, m + k, none⟩ = some (.int .u8 y) := ((HBW.out.cell (p := ⟨g, m + k, none⟩) (by show g < B; omega)).trans (HIN.out g _ hg)).trans (by rw [hrd (m + k) (by rw [← HN.out]; omega), hy, HBSE.out, getD_take4 code m k (by omega)])
                have HDY : Hid (∀ W, Calls Tryd.prog 38 #[.int .i64 y] W fun e w' => e = .returned (.string ⟨(decI y).toArray⟩) ∧ Below W.heap.size W w') := Lib.hid fun W => HD.out y W hyB
                have hyl := HDL.out y hyB
                have HTK : Hid (wordsB (bs.take (k + 1)) = wordsB (bs.take k) ++ 32 :: decI y) := by show _ = _; rw [hy]; exact wordsB_snoc bs k (by rw [← HQ.out]; exact hlk)
                have wy : IntKind.i64.wrap y = y := by rw [IntKind.wrap_i64]; unfold Byt at hyB; omega
                generalize decI y = Y at *
                have hyq : ¬ (9223372036854775807 < 1 + List.length Y) := by omega
                have HWY : Hid (∀ W, Hid (Lib.IsBuilderF 96 5 B B (Lib.byteCells (T ++ sByte ++ wordsB (bs.take k))) W) → B ≤ W.heap.size → Calls Tryd.prog 43 #[.pointer (some ⟨B, 0, none⟩), .string ((⟨#[32]⟩ : ByteArray) ++ ⟨Y.toArray⟩)] W fun e w' => ∃ r, e = .returned (.tuple #[.int .i64 r, .nilIface]) ∧ Hid (Lib.IsBuilderF 96 5 B B (Lib.byteCells (T ++ sByte ++ wordsB (bs.take (k + 1)))) w') ∧ Below B W w') := Lib.hid fun W h1 h2 => by
                  have := write_any B (T ++ sByte ++ wordsB (bs.take k)) ((⟨#[32]⟩ : ByteArray) ++ ⟨Y.toArray⟩) W h1.out (by simp [ByteArray.size, sByte]; omega) h2
                  rw [HTK.out]
                  simpa using this
                unfold Byt at hyB
                obtain ⟨hy0, hy1⟩ := hyB
                clear hy hrd HBSE HTK hTk
                go_wp2_with (first | (go_at_call 38; (with_reducible refine (HDY.out _).mono ?_); rintro e w6 ⟨rfl, hb6⟩; have hbs6 := hb6.size; have HIB6 := Lib.hid (isb_below HIB.out hb6)) | (go_at_call 43; (with_reducible refine (HWY.out _ HIB6 (by omega)).mono ?_); rintro e w7 ⟨r7, rfl, HIB7, hb7⟩))
                go_roundw
                case rel => exact ⟨k + 1, by omega, by go_num, HIB7, Lib.hid (Below.trans (Below.trans HBW.out (hb6.mono (by omega))) hb7)⟩
                case measure => simp [intOf]; omega
              · obtain rfl : k = 4 := by omega
                have hbt : bs.take 4 = bs := by rw [HQ.out, List.take_length]
                have HWN : Hid (∀ W, Hid (Lib.IsBuilderF 96 5 B B (Lib.byteCells (T ++ sByte ++ wordsB (bs.take 4))) W) → B ≤ W.heap.size → Calls Tryd.prog 43 #[.pointer (some ⟨B, 0, none⟩), .string (⟨#[10]⟩ : ByteArray)] W fun e w' => ∃ r, e = .returned (.tuple #[.int .i64 r, .nilIface]) ∧ Hid (Lib.IsBuilderF 96 5 B B (Lib.byteCells (T ++ sByte ++ wordsB bs ++ [10])) w') ∧ Below B W w') := Lib.hid fun W h1 h2 => by
                  have := write_any B (T ++ sByte ++ wordsB (bs.take 4)) (⟨#[10]⟩ : ByteArray) W h1.out (by simp [ByteArray.size, sByte]; omega) h2
                  rw [hbt] at this
                  exact this
                have HTT : Hid (textP x code = (T ++ sByte ++ wordsB bs ++ [10]) ++ linesT (rowsT (code.drop (m + 4)))) := by
                  show _ = _
                  rw [HTX.out, rows_bytes code m bs HBSE.out (by rw [← HN.out]; exact hlt) HNR.out]; simp
                have hTW : (T ++ sByte ++ wordsB bs ++ [10]).length ≤ 1000 + 1000 * (m + 4) := by
                  rw [hbt] at hTk
                  simp [sByte]; omega
                clear hrd HTX
                go_wp2_with (go_at_call 43; (with_reducible refine (HWN.out _ HIB (by omega)).mono ?_); rintro e w8 ⟨r8, rfl, HIB8, hb8⟩)
                go_roundw
                case rel => exact ⟨m + 4, _, by go_num, by omega, hTW, HIB8, Lib.hid (Below.trans HBW.out hb8), HTT⟩
                case measure => simp [intOf]; omega
        · have HNR : Hid (∀ a b c d, bs = [a, b, c, d] → checkI a b c d ≠ 0) := Lib.hid fun a1 b1 c1 d1 h => absurd (by rw [hq, h]; rfl) h4
          have HQ := Lib.hid hq
          have HQV := Lib.hid hqv
          have HBSE := Lib.hid hbs
          have h4i : ((q : Int) == 4) = false := by rw [beq_eq_false_iff_ne]; omega
          clear hq hqv hbs
          have HWB : Hid (∀ W, Hid (Lib.IsBuilderF 96 5 B B (Lib.byteCells T) W) → B ≤ W.heap.size → Calls Tryd.prog 43 #[.pointer (some ⟨B, 0, none⟩), .string (⟨#[98, 121, 116, 101]⟩ : ByteArray)] W fun e w' => ∃ r, e = .returned (.tuple #[.int .i64 r, .nilIface]) ∧ Hid (Lib.IsBuilderF 96 5 B B (Lib.byteCells (T ++ sByte)) w') ∧ Below B W w') := Lib.hid fun W h1 h2 => write_any B T (⟨#[98, 121, 116, 101]⟩ : ByteArray) W h1.out (by simp [ByteArray.size]; omega) h2
          go_wp2_with ((go_at_call 43; (with_reducible refine (HWB.out _ HIB (by omega)).mono ?_); rintro e w5 ⟨r5, rfl, HIB5, hb5⟩))
          have HBW5 := Lib.hid (Below.trans HBW.out hb5)
          clear hb5 HIB HBW k0 k1
          go_loopw [55] (fun i wr => ∃ k : Nat, k ≤ q ∧ i = .int .i64 k ∧ Hid (Lib.IsBuilderF 96 5 B B (Lib.byteCells (T ++ sByte ++ wordsB (bs.take k))) wr) ∧ Hid (Below B W0 wr)) (fun i _ => q - (intOf i).toNat)
          case atStart => exact ⟨0, Nat.zero_le _, rfl, by simpa [wordsB] using HIB5, HBW5⟩
          case round =>
            clear HIB5 HBW5
            obtain ⟨k, hk, rfl, HIB, HBW⟩ := hrel
            have hbsz2 := HBW.out.size
            have hTk : (wordsB (bs.take k)).length ≤ 32 := wordsB_take bs k (fun y hy => HCODE.out y (mem_take4 HBSE.out y hy)) (by rw [← HQ.out]; exact hq4)
            by_cases hlk : k < q
            · obtain ⟨y, hy⟩ : ∃ y, y = bs.getD k 0 := ⟨_, rfl⟩
              have hyB : Byt y := by rw [hy]; exact HCODE.out _ (mem_take4 HBSE.out _ (getD_mem bs k (by rw [← HQ.out]; exact hlk)))
              have hcy : wr.cell? ⟨g, m + k, none⟩ = some (.int .u8 y) := ((HBW.out.cell (p := ⟨g, m + k, none⟩) (by show g < B; omega)).trans (HIN.out g _ hg)).trans (by rw [hrd (m + k) (by rw [← HN.out]; omega), hy, HBSE.out, getD_take4 code m k (by omega)])
              have HDY : Hid (∀ W, Calls Tryd.prog 38 #[.int .i64 y] W fun e w' => e = .returned (.string ⟨(decI y).toArray⟩) ∧ Below W.heap.size W w') := Lib.hid fun W => HD.out y W hyB
              have hyl := HDL.out y hyB
              have HTK : Hid (wordsB (bs.take (k + 1)) = wordsB (bs.take k) ++ 32 :: decI y) := by show _ = _; rw [hy]; exact wordsB_snoc bs k (by rw [← HQ.out]; exact hlk)
              have wy : IntKind.i64.wrap y = y := by rw [IntKind.wrap_i64]; unfold Byt at hyB; omega
              generalize decI y = Y at *
              have hyq : ¬ (9223372036854775807 < 1 + List.length Y) := by omega
              have HWY : Hid (∀ W, Hid (Lib.IsBuilderF 96 5 B B (Lib.byteCells (T ++ sByte ++ wordsB (bs.take k))) W) → B ≤ W.heap.size → Calls Tryd.prog 43 #[.pointer (some ⟨B, 0, none⟩), .string ((⟨#[32]⟩ : ByteArray) ++ ⟨Y.toArray⟩)] W fun e w' => ∃ r, e = .returned (.tuple #[.int .i64 r, .nilIface]) ∧ Hid (Lib.IsBuilderF 96 5 B B (Lib.byteCells (T ++ sByte ++ wordsB (bs.take (k + 1)))) w') ∧ Below B W w') := Lib.hid fun W h1 h2 => by
                have := write_any B (T ++ sByte ++ wordsB (bs.take k)) ((⟨#[32]⟩ : ByteArray) ++ ⟨Y.toArray⟩) W h1.out (by simp [ByteArray.size, sByte]; omega) h2
                rw [HTK.out]
                simpa using this
              unfold Byt at hyB
              obtain ⟨hy0, hy1⟩ := hyB
              clear hy hrd HBSE HTK hTk
              go_wp2_with (first | (go_at_call 38; (with_reducible refine (HDY.out _).mono ?_); rintro e w6 ⟨rfl, hb6⟩; have hbs6 := hb6.size; have HIB6 := Lib.hid (isb_below HIB.out hb6)) | (go_at_call 43; (with_reducible refine (HWY.out _ HIB6 (by omega)).mono ?_); rintro e w7 ⟨r7, rfl, HIB7, hb7⟩))
              go_roundw
              case rel => exact ⟨k + 1, by omega, by go_num, HIB7, Lib.hid (Below.trans (Below.trans HBW.out (hb6.mono (by omega))) hb7)⟩
              case measure => simp [intOf]; omega
            · obtain rfl : k = q := by omega
              have hbt : bs.take k = bs := by rw [HQ.out, List.take_length]
              have HWN : Hid (∀ W, Hid (Lib.IsBuilderF 96 5 B B (Lib.byteCells (T ++ sByte ++ wordsB (bs.take k))) W) → B ≤ W.heap.size → Calls Tryd.prog 43 #[.pointer (some ⟨B, 0, none⟩), .string (⟨#[10]⟩ : ByteArray)] W fun e w' => ∃ r, e = .returned (.tuple #[.int .i64 r, .nilIface]) ∧ Hid (Lib.IsBuilderF 96 5 B B (Lib.byteCells (T ++ sByte ++ wordsB bs ++ [10])) w') ∧ Below B W w') := Lib.hid fun W h1 h2 => by
                have := write_any B (T ++ sByte ++ wordsB (bs.take k)) (⟨#[10]⟩ : ByteArray) W h1.out (by simp [ByteArray.size, sByte]; omega) h2
                rw [hbt] at this
                exact this
              have HTT : Hid (textP x code = (T ++ sByte ++ wordsB bs ++ [10]) ++ linesT (rowsT (code.drop (m + 4)))) := by
                show _ = _
                rw [HTX.out, rows_bytes code m bs HBSE.out (by rw [← HN.out]; exact hlt) HNR.out]; simp
              have hTW : (T ++ sByte ++ wordsB bs ++ [10]).length ≤ 1000 + 1000 * (m + 4) := by
                rw [hbt] at hTk
                simp [sByte]; omega
              clear hrd HTX
              go_wp2_with (go_at_call 43; (with_reducible refine (HWN.out _ HIB (by omega)).mono ?_); rintro e w8 ⟨r8, rfl, HIB8, hb8⟩)
              go_roundw
              case rel => exact ⟨m + 4, _, by go_num, by omega, hTW, HIB8, Lib.hid (Below.trans HBW.out hb8), HTT⟩
              case measure => simp [intOf]; omega
      · have HTE : Hid (textP x code = T) := by
          show _ = _
          rw [HTX.out, List.drop_eq_nil_of_le (by rw [← HN.out]; omega)]; simp [rowsT, linesT]
        have HST := Lib.hid (fun W (h : Lib.IsBuilderF 96 5 B B (Lib.byteCells T) W) (hB : B ≤ W.heap.size) => Tryd.Builder_String_any_f B B T W h hB)
        go_wp2_with (go_at_call 44; (with_reducible refine (HST.out _ HIB.out (by omega)).mono ?_); rintro e w9 ⟨rfl, -, hb9⟩)
        go_ret
        exact ⟨congrArg (fun l : Bs => Ending.returned (Value.string ⟨l.toArray⟩)) HTE.out.symm, lb_b HLB.out (Below.trans HBW.out hb9) (by omega)⟩
  · go_upto_region 4 with fail
    obtain ⟨T0, hT0e⟩ : ∃ T0 : Bs, T0 = [] := ⟨_, rfl⟩
    have hT0 : T0.length ≤ 1000 := by rw [hT0e]; simp
    have HIB0 : Hid (Lib.IsBuilderF 96 5 B B (Lib.byteCells T0) W0) := by rw [hT0e]; exact HIB
    have HBW0 : Hid (Below B W0 W0) := Lib.hid (Below.refl _ _)
    have HTX0 : Hid (textP x code = T0 ++ linesT (rowsT code)) := by show _ = _; rw [textP_eq, if_neg hx0', hT0e]
    clear hT0e HIB
    go_wp2
    go_loopw [4] (fun i wr => ∃ (m : Nat) (T : Bs), i = .int .i64 m ∧ m ≤ n + 3 ∧ T.length ≤ 1000 + 1000 * m ∧ Hid (Lib.IsBuilderF 96 5 B B (Lib.byteCells T) wr) ∧ Hid (Below B W0 wr) ∧ Hid (textP x code = T ++ linesT (rowsT (code.drop m)))) (fun i _ => n + 3 - (intOf i).toNat)
    case atStart => exact ⟨0, T0, rfl, by omega, by omega, HIB0, HBW0, by simpa using HTX0⟩
    case round =>
      clear HIB0 HBW0 HTX0 hT0
      obtain ⟨m, T, rfl, hm, hTl, HIB, HBW, HTX⟩ := hrel
      have hbsz := HBW.out.size
      have k0 : wr.cell? ⟨w.heap.size, 0, none⟩ = some (.int .u8 x) := (HBW.out.cell (p := ⟨w.heap.size, 0, none⟩) (by show w.heap.size < B; omega)).trans z0
      have k1 : wr.cell? ⟨w.heap.size, 1, none⟩ = some (.slice p n c) := (HBW.out.cell (p := ⟨w.heap.size, 1, none⟩) (by show w.heap.size < B; omega)).trans z1
      by_cases hlt : m < n
      · obtain ⟨g, rfl, hg, hrd⟩ := HRD.out m (by rw [← HN.out]; exact hlt)
        obtain ⟨bs, hbs⟩ : ∃ bs, bs = (code.drop m).take 4 := ⟨_, rfl⟩
        obtain ⟨q, hq⟩ : ∃ q, q = bs.length := ⟨_, rfl⟩
        have hqv : q = min 4 (n - m) := by rw [hq, hbs, HN.out]; simp
        have hq0 : 0 < q := by omega
        have hq4 : q ≤ 4 := by omega
        have hmq : m + q ≤ n := by omega
        have hmc : m + q ≤ c := by omega
        have hne : ¬ c = m := by omega
        have hmin : (if (n : Int) < (m : Int) + 4 then (n : Int) else (m : Int) + 4) = ((m + q : Nat) : Int) := by split <;> omega
        have hmqm : m + q - m = q := by omega
        by_cases h4 : q = 4
        · obtain ⟨a, b, d, e', hbe⟩ : ∃ a b d e', bs = [a, b, d, e'] := four_of bs (by rw [← hq]; exact h4)
          have HQ := Lib.hid hq
          have HQV := Lib.hid hqv
          have HBSE := Lib.hid hbs
          have rd : ∀ i y, i < 4 → bs[i]? = some y → wr.cell? ⟨g, m + i, none⟩ = some (.int .u8 y) := fun i y hi hy => ((HBW.out.cell (p := ⟨g, m + i, none⟩) (by show g < B; omega)).trans (HIN.out g _ hg)).trans (by rw [hrd (m + i) (by rw [← HN.out]; omega), ← getD_take4 code m i hi, ← hbs, List.getD_eq_getElem?_getD, hy]; rfl)
          have r0 : wr.cell? ⟨g, m, none⟩ = some (.int .u8 a) := rd 0 a (by omega) (by rw [hbe]; rfl)
          have r1 := rd 1 b (by omega) (by rw [hbe]; rfl)
          have r2 := rd 2 d (by omega) (by rw [hbe]; rfl)
          have r3 := rd 3 e' (by omega) (by rw [hbe]; rfl)
          have ha : Byt a := HCODE.out _ (mem_take4 hbs _ (by rw [hbe]; simp))
          have hb : Byt b := HCODE.out _ (mem_take4 hbs _ (by rw [hbe]; simp))
          have hd : Byt d := HCODE.out _ (mem_take4 hbs _ (by rw [hbe]; simp))
          have he : Byt e' := HCODE.out _ (mem_take4 hbs _ (by rw [hbe]; simp))
          clear rd
          by_cases hk4 : checkI a b d e' = 0
          · have HTT : Hid (textP x code = (T ++ textI a b d e' ++ [10]) ++ linesT (rowsT (code.drop (m + 4)))) := by
              show _ = _
              rw [HTX.out, drop4 code m a b d e' (by rw [← hbe, hbs]), rows_right a b d e' _ hk4]; simp
            have HLN : Hid (∀ W, Calls Tryd.prog 14 #[instrV a b d e'] W fun e w' => e = .returned (.tuple #[.string ⟨(textI a b d e').toArray⟩, .bool true]) ∧ Below W.heap.size W w') := Lib.hid fun W => by
              have := line_any a b d e' hb hd he W
              unfold LineEnd lineT at this
              rw [if_pos hk4, hk4] at this
              exact this
            have hTI := text_lenT a b d e' hb hd he hk4
            generalize textI a b d e' = S at *
            have hSq : ¬ (9223372036854775807 < List.length S + 1) := by omega
            have HWS : Hid (∀ W, Hid (Lib.IsBuilderF 96 5 B B (Lib.byteCells T) W) → B ≤ W.heap.size → Calls Tryd.prog 43 #[.pointer (some ⟨B, 0, none⟩), .string ((⟨S.toArray⟩ : ByteArray) ++ ⟨#[10]⟩)] W fun e w' => ∃ r, e = .returned (.tuple #[.int .i64 r, .nilIface]) ∧ Hid (Lib.IsBuilderF 96 5 B B (Lib.byteCells (T ++ S ++ [10])) w') ∧ Below B W w') := Lib.hid fun W h1 h2 => by
              have := write_any B T ((⟨S.toArray⟩ : ByteArray) ++ ⟨#[10]⟩) W h1.out (by simp [ByteArray.size]; omega) h2
              simpa using this
            have hTS : (T ++ S ++ [10]).length ≤ 1000 + 1000 * (m + 4) := by simp; omega
            clear hq hqv hbs hbe hrd hk4 HTX
            subst h4
            have harr := fun (W : World) (a : Option Addr) (cap : Nat) => run_arrayAt (P := Tryd.prog) (w := W) 40 5 4 a (m + 4 - m) cap Tryd.underlying40 (by omega)
            go_wp2_with fail
            (rename_i hK; refine hK _ _ ?_; clear hK)
            go_wp2_with (first | (go_at_call 12; refine (unpack_any a b d e' _).mono ?_; rintro e w3 ⟨rfl, hb3⟩; have hbs3 := hb3.size; have HIB3 := Lib.hid (isb_below HIB.out hb3)) | (go_at_call 14; refine (HLN.out _).mono ?_; rintro e w4 ⟨rfl, hb4⟩; have hbs4 := hb4.size; have HIB4 := Lib.hid (isb_below HIB3.out hb4)) | (go_at_call 43; (with_reducible refine (HWS.out _ HIB4 (by omega)).mono ?_); rintro e w5 ⟨r5, rfl, HIB5, hb5⟩))
            go_roundw
            case rel => exact ⟨m + 4, _, by go_num, by omega, hTS, HIB5, Lib.hid (Below.trans (Below.trans (Below.trans HBW.out (hb3.mono (by omega))) (hb4.mono (by omega))) hb5), HTT⟩
            case measure => simp [intOf]; omega
          · have HNR : Hid (∀ a b c d, bs = [a, b, c, d] → checkI a b c d ≠ 0) := Lib.hid fun a1 b1 c1 d1 h => by
              rw [hbe] at h
              injection h with h1 h2; injection h2 with h2 h3; injection h3 with h3 h4; injection h4 with h4 _
              subst h1 h2 h3 h4; exact hk4
            have HLN : Hid (∀ W, Calls Tryd.prog 14 #[instrV a b d e'] W fun e w' => e = .returned (.tuple #[.string ⟨#[]⟩, .bool false]) ∧ Below W.heap.size W w') := Lib.hid fun W => by
              have := line_any a b d e' hb hd he W
              unfold LineEnd lineT at this
              rw [if_neg hk4, decide_eq_false hk4] at this
              exact this
            clear hq hqv hbs hbe hk4
            subst h4
            have harr := fun (W : World) (a : Option Addr) (cap : Nat) => run_arrayAt (P := Tryd.prog) (w := W) 40 5 4 a (m + 4 - m) cap Tryd.underlying40 (by omega)
            have HWB : Hid (∀ W, Hid (Lib.IsBuilderF 96 5 B B (Lib.byteCells T) W) → B ≤ W.heap.size → Calls Tryd.prog 43 #[.pointer (some ⟨B, 0, none⟩), .string (⟨#[98, 121, 116, 101]⟩ : ByteArray)] W fun e w' => ∃ r, e = .returned (.tuple #[.int .i64 r, .nilIface]) ∧ Hid (Lib.IsBuilderF 96 5 B B (Lib.byteCells (T ++ sByte)) w') ∧ Below B W w') := Lib.hid fun W h1 h2 => write_any B T (⟨#[98, 121, 116, 101]⟩ : ByteArray) W h1.out (by simp [ByteArray.size]; omega) h2
            go_wp2_with fail
            (rename_i hK; refine hK _ _ ?_; clear hK)
            go_wp2_with (first | (go_at_call 12; refine (unpack_any a b d e' _).mono ?_; rintro e w3 ⟨rfl, hb3⟩; have hbs3 := hb3.size; have HIB3 := Lib.hid (isb_below HIB.out hb3)) | (go_at_call 14; refine (HLN.out _).mono ?_; rintro e w4 ⟨rfl, hb4⟩; have hbs4 := hb4.size; have HIB4 := Lib.hid (isb_below HIB3.out hb4)) | (go_at_call 43; (with_reducible refine (HWB.out _ HIB4 (by omega)).mono ?_); rintro e w5 ⟨r5, rfl, HIB5, hb5⟩))
            have HBW5 := Lib.hid (Below.trans (Below.trans (Below.trans HBW.out (hb3.mono (by omega))) (hb4.mono (by omega))) hb5)
            clear hb5 HIB HBW k0 k1 hb3 hb4 HIB3 HIB4 hbs3 hbs4 r0 r1 r2 r3
            go_loopw [55] (fun i wr => ∃ k : Nat, k ≤ 4 ∧ i = .int .i64 k ∧ Hid (Lib.IsBuilderF 96 5 B B (Lib.byteCells (T ++ sByte ++ wordsB (bs.take k))) wr) ∧ Hid (Below B W0 wr)) (fun i _ => 4 - (intOf i).toNat)
            case atStart => exact ⟨0, Nat.zero_le _, rfl, by simpa [wordsB] using HIB5, HBW5⟩
            case round =>
              clear HIB5 HBW5
              obtain ⟨k, hk, rfl, HIB, HBW⟩ := hrel
              have hbsz2 := HBW.out.size
              have hTk : (wordsB (bs.take k)).length ≤ 32 := wordsB_take bs k (fun y hy => HCODE.out y (mem_take4 HBSE.out y hy)) (by rw [← HQ.out]; exact hq4)
              by_cases hlk : k < 4
              · obtain ⟨y, hy⟩ : ∃ y, y = bs.getD k 0 := ⟨_, rfl⟩
                have hyB : Byt y := by rw [hy]; exact HCODE.out _ (mem_take4 HBSE.out _ (getD_mem bs k (by rw [← HQ.out]; exact hlk)))
                have hcy : wr.cell? ⟨g, m + k, none⟩ = some (.int .u8 y) := ((HBW.out.cell (p := ⟨g, m + k, none⟩) (by show g < B; omega)).trans (HIN.out g _ hg)).trans (by rw [hrd (m + k) (by rw [← HN.out]; omega), hy, HBSE.out, getD_take4 code m k (by omega)])
                have HDY : Hid (∀ W, Calls Tryd.prog 38 #[.int .i64 y] W fun e w' => e = .returned (.string ⟨(decI y).toArray⟩) ∧ Below W.heap.size W w') := Lib.hid fun W => HD.out y W hyB
                have hyl := HDL.out y hyB
                have HTK : Hid (wordsB (bs.take (k + 1)) = wordsB (bs.take k) ++ 32 :: decI y) := by show _ = _; rw [hy]; exact wordsB_snoc bs k (by rw [← HQ.out]; exact hlk)
                have wy : IntKind.i64.wrap y = y := by rw [IntKind.wrap_i64]; unfold Byt at hyB; omega
                generalize decI y = Y at *
                have hyq : ¬ (9223372036854775807 < 1 + List.length Y) := by omega
                have HWY : Hid (∀ W, Hid (Lib.IsBuilderF 96 5 B B (Lib.byteCells (T ++ sByte ++ wordsB (bs.take k))) W) → B ≤ W.heap.size → Calls Tryd.prog 43 #[.pointer (some ⟨B, 0, none⟩), .string ((⟨#[32]⟩ : ByteArray) ++ ⟨Y.toArray⟩)] W fun e w' => ∃ r, e = .returned (.tuple #[.int .i64 r, .nilIface]) ∧ Hid (Lib.IsBuilderF 96 5 B B (Lib.byteCells (T ++ sByte ++ wordsB (bs.take (k + 1)))) w') ∧ Below B W w') := Lib.hid fun W h1 h2 => by
                  have := write_any B (T ++ sByte ++ wordsB (bs.take k)) ((⟨#[32]⟩ : ByteArray) ++ ⟨Y.toArray⟩) W h1.out (by simp [ByteArray.size, sByte]; omega) h2
                  rw [HTK.out]
                  simpa using this
                unfold Byt at hyB
                obtain ⟨hy0, hy1⟩ := hyB
                clear hy hrd HBSE HTK hTk
                go_wp2_with (first | (go_at_call 38; (with_reducible refine (HDY.out _).mono ?_); rintro e w6 ⟨rfl, hb6⟩; have hbs6 := hb6.size; have HIB6 := Lib.hid (isb_below HIB.out hb6)) | (go_at_call 43; (with_reducible refine (HWY.out _ HIB6 (by omega)).mono ?_); rintro e w7 ⟨r7, rfl, HIB7, hb7⟩))
                go_roundw
                case rel => exact ⟨k + 1, by omega, by go_num, HIB7, Lib.hid (Below.trans (Below.trans HBW.out (hb6.mono (by omega))) hb7)⟩
                case measure => simp [intOf]; omega
              · obtain rfl : k = 4 := by omega
                have hbt : bs.take 4 = bs := by rw [HQ.out, List.take_length]
                have HWN : Hid (∀ W, Hid (Lib.IsBuilderF 96 5 B B (Lib.byteCells (T ++ sByte ++ wordsB (bs.take 4))) W) → B ≤ W.heap.size → Calls Tryd.prog 43 #[.pointer (some ⟨B, 0, none⟩), .string (⟨#[10]⟩ : ByteArray)] W fun e w' => ∃ r, e = .returned (.tuple #[.int .i64 r, .nilIface]) ∧ Hid (Lib.IsBuilderF 96 5 B B (Lib.byteCells (T ++ sByte ++ wordsB bs ++ [10])) w') ∧ Below B W w') := Lib.hid fun W h1 h2 => by
                  have := write_any B (T ++ sByte ++ wordsB (bs.take 4)) (⟨#[10]⟩ : ByteArray) W h1.out (by simp [ByteArray.size, sByte]; omega) h2
                  rw [hbt] at this
                  exact this
                have HTT : Hid (textP x code = (T ++ sByte ++ wordsB bs ++ [10]) ++ linesT (rowsT (code.drop (m + 4)))) := by
                  show _ = _
                  rw [HTX.out, rows_bytes code m bs HBSE.out (by rw [← HN.out]; exact hlt) HNR.out]; simp
                have hTW : (T ++ sByte ++ wordsB bs ++ [10]).length ≤ 1000 + 1000 * (m + 4) := by
                  rw [hbt] at hTk
                  simp [sByte]; omega
                clear hrd HTX
                go_wp2_with (go_at_call 43; (with_reducible refine (HWN.out _ HIB (by omega)).mono ?_); rintro e w8 ⟨r8, rfl, HIB8, hb8⟩)
                go_roundw
                case rel => exact ⟨m + 4, _, by go_num, by omega, hTW, HIB8, Lib.hid (Below.trans HBW.out hb8), HTT⟩
                case measure => simp [intOf]; omega
        · have HNR : Hid (∀ a b c d, bs = [a, b, c, d] → checkI a b c d ≠ 0) := Lib.hid fun a1 b1 c1 d1 h => absurd (by rw [hq, h]; rfl) h4
          have HQ := Lib.hid hq
          have HQV := Lib.hid hqv
          have HBSE := Lib.hid hbs
          have h4i : ((q : Int) == 4) = false := by rw [beq_eq_false_iff_ne]; omega
          clear hq hqv hbs
          have HWB : Hid (∀ W, Hid (Lib.IsBuilderF 96 5 B B (Lib.byteCells T) W) → B ≤ W.heap.size → Calls Tryd.prog 43 #[.pointer (some ⟨B, 0, none⟩), .string (⟨#[98, 121, 116, 101]⟩ : ByteArray)] W fun e w' => ∃ r, e = .returned (.tuple #[.int .i64 r, .nilIface]) ∧ Hid (Lib.IsBuilderF 96 5 B B (Lib.byteCells (T ++ sByte)) w') ∧ Below B W w') := Lib.hid fun W h1 h2 => write_any B T (⟨#[98, 121, 116, 101]⟩ : ByteArray) W h1.out (by simp [ByteArray.size]; omega) h2
          go_wp2_with ((go_at_call 43; (with_reducible refine (HWB.out _ HIB (by omega)).mono ?_); rintro e w5 ⟨r5, rfl, HIB5, hb5⟩))
          have HBW5 := Lib.hid (Below.trans HBW.out hb5)
          clear hb5 HIB HBW k0 k1
          go_loopw [55] (fun i wr => ∃ k : Nat, k ≤ q ∧ i = .int .i64 k ∧ Hid (Lib.IsBuilderF 96 5 B B (Lib.byteCells (T ++ sByte ++ wordsB (bs.take k))) wr) ∧ Hid (Below B W0 wr)) (fun i _ => q - (intOf i).toNat)
          case atStart => exact ⟨0, Nat.zero_le _, rfl, by simpa [wordsB] using HIB5, HBW5⟩
          case round =>
            clear HIB5 HBW5
            obtain ⟨k, hk, rfl, HIB, HBW⟩ := hrel
            have hbsz2 := HBW.out.size
            have hTk : (wordsB (bs.take k)).length ≤ 32 := wordsB_take bs k (fun y hy => HCODE.out y (mem_take4 HBSE.out y hy)) (by rw [← HQ.out]; exact hq4)
            by_cases hlk : k < q
            · obtain ⟨y, hy⟩ : ∃ y, y = bs.getD k 0 := ⟨_, rfl⟩
              have hyB : Byt y := by rw [hy]; exact HCODE.out _ (mem_take4 HBSE.out _ (getD_mem bs k (by rw [← HQ.out]; exact hlk)))
              have hcy : wr.cell? ⟨g, m + k, none⟩ = some (.int .u8 y) := ((HBW.out.cell (p := ⟨g, m + k, none⟩) (by show g < B; omega)).trans (HIN.out g _ hg)).trans (by rw [hrd (m + k) (by rw [← HN.out]; omega), hy, HBSE.out, getD_take4 code m k (by omega)])
              have HDY : Hid (∀ W, Calls Tryd.prog 38 #[.int .i64 y] W fun e w' => e = .returned (.string ⟨(decI y).toArray⟩) ∧ Below W.heap.size W w') := Lib.hid fun W => HD.out y W hyB
              have hyl := HDL.out y hyB
              have HTK : Hid (wordsB (bs.take (k + 1)) = wordsB (bs.take k) ++ 32 :: decI y) := by show _ = _; rw [hy]; exact wordsB_snoc bs k (by rw [← HQ.out]; exact hlk)
              have wy : IntKind.i64.wrap y = y := by rw [IntKind.wrap_i64]; unfold Byt at hyB; omega
              generalize decI y = Y at *
              have hyq : ¬ (9223372036854775807 < 1 + List.length Y) := by omega
              have HWY : Hid (∀ W, Hid (Lib.IsBuilderF 96 5 B B (Lib.byteCells (T ++ sByte ++ wordsB (bs.take k))) W) → B ≤ W.heap.size → Calls Tryd.prog 43 #[.pointer (some ⟨B, 0, none⟩), .string ((⟨#[32]⟩ : ByteArray) ++ ⟨Y.toArray⟩)] W fun e w' => ∃ r, e = .returned (.tuple #[.int .i64 r, .nilIface]) ∧ Hid (Lib.IsBuilderF 96 5 B B (Lib.byteCells (T ++ sByte ++ wordsB (bs.take (k + 1)))) w') ∧ Below B W w') := Lib.hid fun W h1 h2 => by
                have := write_any B (T ++ sByte ++ wordsB (bs.take k)) ((⟨#[32]⟩ : ByteArray) ++ ⟨Y.toArray⟩) W h1.out (by simp [ByteArray.size, sByte]; omega) h2
                rw [HTK.out]
                simpa using this
              unfold Byt at hyB
              obtain ⟨hy0, hy1⟩ := hyB
              clear hy hrd HBSE HTK hTk
              go_wp2_with (first | (go_at_call 38; (with_reducible refine (HDY.out _).mono ?_); rintro e w6 ⟨rfl, hb6⟩; have hbs6 := hb6.size; have HIB6 := Lib.hid (isb_below HIB.out hb6)) | (go_at_call 43; (with_reducible refine (HWY.out _ HIB6 (by omega)).mono ?_); rintro e w7 ⟨r7, rfl, HIB7, hb7⟩))
              go_roundw
              case rel => exact ⟨k + 1, by omega, by go_num, HIB7, Lib.hid (Below.trans (Below.trans HBW.out (hb6.mono (by omega))) hb7)⟩
              case measure => simp [intOf]; omega
            · obtain rfl : k = q := by omega
              have hbt : bs.take k = bs := by rw [HQ.out, List.take_length]
              have HWN : Hid (∀ W, Hid (Lib.IsBuilderF 96 5 B B (Lib.byteCells (T ++ sByte ++ wordsB (bs.take k))) W) → B ≤ W.heap.size → Calls Tryd.prog 43 #[.pointer (some ⟨B, 0, none⟩), .string (⟨#[10]⟩ : ByteArray)] W fun e w' => ∃ r, e = .returned (.tuple #[.int .i64 r, .nilIface]) ∧ Hid (Lib.IsBuilderF 96 5 B B (Lib.byteCells (T ++ sByte ++ wordsB bs ++ [10])) w') ∧ Below B W w') := Lib.hid fun W h1 h2 => by
                have := write_any B (T ++ sByte ++ wordsB (bs.take k)) (⟨#[10]⟩ : ByteArray) W h1.out (by simp [ByteArray.size, sByte]; omega) h2
                rw [hbt] at this
                exact this
              have HTT : Hid (textP x code = (T ++ sByte ++ wordsB bs ++ [10]) ++ linesT (rowsT (code.drop (m + 4)))) := by
                show _ = _
                rw [HTX.out, rows_bytes code m bs HBSE.out (by rw [← HN.out]; exact hlt) HNR.out]; simp
              have hTW : (T ++ sByte ++ wordsB bs ++ [10]).length ≤ 1000 + 1000 * (m + 4) := by
                rw [hbt] at hTk
                simp [sByte]; omega
              clear hrd HTX
              go_wp2_with (go_at_call 43; (with_reducible refine (HWN.out _ HIB (by omega)).mono ?_); rintro e w8 ⟨r8, rfl, HIB8, hb8⟩)
              go_roundw
              case rel => exact ⟨m + 4, _, by go_num, by omega, hTW, HIB8, Lib.hid (Below.trans HBW.out hb8), HTT⟩
              case measure => simp [intOf]; omega
      · have HTE : Hid (textP x code = T) := by
          show _ = _
          rw [HTX.out, List.drop_eq_nil_of_le (by rw [← HN.out]; omega)]; simp [rowsT, linesT]
        have HST := Lib.hid (fun W (h : Lib.IsBuilderF 96 5 B B (Lib.byteCells T) W) (hB : B ≤ W.heap.size) => Tryd.Builder_String_any_f B B T W h hB)
        go_wp2_with (go_at_call 44; (with_reducible refine (HST.out _ HIB.out (by omega)).mono ?_); rintro e w9 ⟨rfl, -, hb9⟩)
        go_ret
        exact ⟨congrArg (fun l : Bs => Ending.returned (Value.string ⟨l.toArray⟩)) HTE.out.symm, lb_b HLB.out (Below.trans HBW.out hb9) (by omega)⟩
end Go.Proofs.YtlaohefgofmfdaaDoor
