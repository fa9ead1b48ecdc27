/- The walk of Line: an instruction as a line. -/
import Derived.Test.YtlaohefgofmfdaaDoorOps
import Derived.Test.YtlaohefgofmfdaaDoorDecR
import Derived.Test.YtlaohefgofmfdaaDoorBackP
import Derived.Deep.RegionHeld3
namespace Go.Proofs.YtlaohefgofmfdaaDoor
open Go Go.RowKit Go.Proofs.YtlaohefgofmfdaaDoorW.PrintWords
set_option maxRecDepth 100000
/-- What Line hands back. -/
def lineT (o x y z : Int) : Bs := if checkI o x y z = 0 then textI o x y z else []
def LineEnd (o x y z : Int) (w : World) (e : Ending) (w' : World) : Prop :=
  e = .returned (.tuple #[.string ⟨(lineT o x y z).toArray⟩, .bool (decide (checkI o x y z = 0))]) ∧ Below w.heap.size w w'
theorem line_bad (o x y z : Int) (h : checkI o x y z ≠ 0) (w : World) : Calls Tryd.prog 14 #[instrV o x y z] w (LineEnd o x y z w) := by
  have HC := Lib.hid (check_any o x y z)
  have hb : (checkI o x y z != 0) = true := by rw [bne_iff_ne]; exact h
  obtain ⟨c, hc⟩ : ∃ c, c = checkI o x y z := ⟨_, rfl⟩
  have HE : Hid (lineT o x y z = [] ∧ decide (checkI o x y z = 0) = false) := ⟨by unfold lineT; rw [if_neg h], by simpa using h⟩
  rw [← hc] at HC hb
  clear hc h
  go_enter Tryd.func14, Tryd.ntmps14
  go_wp2_with (go_at_call 34; refine (HC.out _).mono ?_; rintro e w1 ⟨rfl, hb1⟩)
  go_ret2
  refine ⟨?_, below_box hb1⟩
  rw [HE.out.1, HE.out.2]; rfl
theorem name_str (o : Int) (h : 1 ≤ o ∧ o ≤ 39) (w : World) : Calls Tryd.prog 36 #[.int .u8 o] w fun e w' => e = .returned (.string ⟨(opName o).toArray⟩) ∧ Below w.heap.size w w' := by
  refine (name_any o (by omega) (by omega) w).mono ?_
  rintro e w' ⟨rfl, rfl⟩
  exact ⟨rfl, below_one _ _⟩
theorem of_str (o f : Int) (hf : formI o = f) (h0 : 0 ≤ f) (w : World) : Calls Tryd.prog 35 #[.int .u8 o] w fun e w' => e = .returned (.tuple #[.int .u8 f, .bool true]) ∧ w = w' := by
  have := of_any o w
  rw [hf, if_neg (by omega), show decide (0 ≤ f) = true by simpa using h0] at this
  exact this
theorem opName_len (o : Int) (h : 1 ≤ o ∧ o ≤ 39) : (opName o).length ≤ 5 := by
  have : ∀ n, n < 40 → (opNames.getD n []).length ≤ 5 := by decide
  exact this o.toNat (by omega)
theorem decI_len (n : Int) (h0 : -1000000 < n) (h1 : n < 1000000) : (decI n).length ≤ 7 := by
  unfold decI
  split
  · have := (decN_len n.natAbs).2 5 (by omega); simp; omega
  · have := (decN_len n.toNat).2 5 (by omega); omega
/-- The boxed instruction's cells, wherever the walk stands. -/
def BoxAt (B : Nat) (o x y z : Int) (w : World) : Prop := w.heap[B]? = some (.cells #[.int .u8 o, .int .u8 x, .int .u8 y, .int .u8 z] 38)
theorem BoxAt.below {B : Nat} {o x y z : Int} {w w' : World} (h : BoxAt B o x y z w) (hb : Below w.heap.size w w') : BoxAt B o x y z w' := (hb.block B (Array.getElem?_eq_some_iff.1 h).1).trans h
theorem BoxAt.cells {B : Nat} {o x y z : Int} {w : World} (h : BoxAt B o x y z w) : w.cell? ⟨B, 0, none⟩ = some (.int .u8 o) ∧ w.cell? ⟨B, 1, none⟩ = some (.int .u8 x) ∧ w.cell? ⟨B, 2, none⟩ = some (.int .u8 y) ∧ w.cell? ⟨B, 3, none⟩ = some (.int .u8 z) := by
  refine ⟨?_, ?_, ?_, ?_⟩
  all_goals rw [cell_of_row _ _ _ _ _ _ h]; rfl
def LBel (w w' : World) : Prop := Below w.heap.size w w'
theorem below_th0 {a b c : World} (h : Below a.heap.size a b) (k : Below b.heap.size b c) : Below a.heap.size a c := h.trans (k.mono h.size)
theorem str_line0 (a : Bs) (c : UInt8) (b : Bs) : (⟨a.toArray⟩ : ByteArray) ++ ⟨(c :: b).toArray⟩ = ⟨(a ++ c :: b).toArray⟩ := str_app0 a (c :: b)
theorem str_line1 (a b : Bs) : (⟨a.toArray⟩ : ByteArray) ++ ((⟨#[32]⟩ : ByteArray) ++ ⟨b.toArray⟩) = ⟨(a ++ 32 :: b).toArray⟩ := by
  have := str_app0 [32] b
  rw [show (⟨#[32]⟩ : ByteArray) = ⟨([32] : Bs).toArray⟩ from rfl, this, str_app0]; rfl
theorem keep_call {w cur w' : World} {o x y z : Int} (h0 : cur.cell? ⟨w.heap.size, 0, none⟩ = some (.int .u8 o)) (h1 : cur.cell? ⟨w.heap.size, 1, none⟩ = some (.int .u8 x)) (h2 : cur.cell? ⟨w.heap.size, 2, none⟩ = some (.int .u8 y)) (h3 : cur.cell? ⟨w.heap.size, 3, none⟩ = some (.int .u8 z))
    (hs : w.heap.size < cur.heap.size) (hl : LBel w cur) (hb : Below cur.heap.size cur w') :
    w'.cell? ⟨w.heap.size, 0, none⟩ = some (.int .u8 o) ∧ w'.cell? ⟨w.heap.size, 1, none⟩ = some (.int .u8 x) ∧ w'.cell? ⟨w.heap.size, 2, none⟩ = some (.int .u8 y) ∧ w'.cell? ⟨w.heap.size, 3, none⟩ = some (.int .u8 z) ∧ w.heap.size < w'.heap.size ∧ LBel w w' :=
  ⟨(hb.cell (p := ⟨w.heap.size, 0, none⟩) hs).trans h0, (hb.cell (p := ⟨w.heap.size, 1, none⟩) hs).trans h1, (hb.cell (p := ⟨w.heap.size, 2, none⟩) hs).trans h2, (hb.cell (p := ⟨w.heap.size, 3, none⟩) hs).trans h3, Nat.lt_of_lt_of_le hs hb.size, below_th0 hl hb⟩
set_option maxHeartbeats 2000000 in
theorem line_0 (o x y z : Int) (hx : Byt x) (hy : Byt y) (hz : Byt z) (hc : checkI o x y z = 0) (hf : formI o = 0) (w : World) : Calls Tryd.prog 14 #[instrV o x y z] w (LineEnd o x y z w) := by
  have ho := check_op o x y z hc
  unfold Byt at hx hy hz
  have HCHK : Hid (∀ W, Calls Tryd.prog 34 #[instrV o x y z] W fun e w' => e = .returned (.int .i64 0) ∧ Below W.heap.size W w') := fun W => by have := check_any o x y z W; rw [hc] at this; exact this
  have HOFF : Hid (∀ W, Calls Tryd.prog 35 #[.int .u8 o] W fun e w' => e = .returned (.tuple #[.int .u8 0, .bool true]) ∧ W = w') := fun W => of_str o 0 hf (by decide) W
  obtain ⟨N, hN⟩ : ∃ N, N = opName o := ⟨_, rfl⟩
  have hNl : List.length N ≤ 5 := by rw [hN]; exact opName_len o ho
  have HNM : Hid (∀ W, Calls Tryd.prog 36 #[.int .u8 o] W fun e w' => e = .returned (.string ⟨N.toArray⟩) ∧ Below W.heap.size W w') := fun W => by rw [hN]; exact name_str o ho W
  have HT : Hid (lineT o x y z = joinW (N :: [])) := by
    show _ = _
    unfold lineT textI argsW
    rw [if_pos hc, hf, hN]
    rfl
  have HOKB : Hid (decide (checkI o x y z = 0) = true) := by show _ = _; rw [hc]; rfl
  clear hc hf hN
  go_enter Tryd.func14, Tryd.ntmps14
  go_wp2_with (first | (go_at_call 34; refine (HCHK.out _).mono ?_; rintro e w1 ⟨rfl, hb1⟩; obtain ⟨hc1, hf1⟩ := bcell hb1; have hz1 := hb1.size; simp only [World.size_alloc] at hz1; have hl1 : w.heap.size < w1.heap.size := by omega) | (go_at_call 35; refine (HOFF.out _).mono ?_; rintro e w2 ⟨rfl, rfl⟩) | (go_at_call 36; refine (HNM.out _).mono ?_; rintro e w3 ⟨rfl, hb3⟩; obtain ⟨hc3, hf3⟩ := bcell hb3; have hz3 := hb3.size; have hl3 : w.heap.size < w3.heap.size := by omega))
  go_ret2
  refine ⟨?_, below_th0 (below_box hb1) hb3⟩
  rw [HT.out, HOKB.out]
  rfl
set_option maxHeartbeats 2000000 in
theorem line_1 (o x y z : Int) (hx : Byt x) (hy : Byt y) (hz : Byt z) (hc : checkI o x y z = 0) (hf : formI o = 1) (w : World) : Calls Tryd.prog 14 #[instrV o x y z] w (LineEnd o x y z w) := by
  have ho := check_op o x y z hc
  unfold Byt at hx hy hz
  have HCHK : Hid (∀ W, Calls Tryd.prog 34 #[instrV o x y z] W fun e w' => e = .returned (.int .i64 0) ∧ Below W.heap.size W w') := fun W => by have := check_any o x y z W; rw [hc] at this; exact this
  have HOFF : Hid (∀ W, Calls Tryd.prog 35 #[.int .u8 o] W fun e w' => e = .returned (.tuple #[.int .u8 1, .bool true]) ∧ W = w') := fun W => of_str o 1 hf (by decide) W
  obtain ⟨N, hN⟩ : ∃ N, N = opName o := ⟨_, rfl⟩
  have hNl : List.length N ≤ 5 := by rw [hN]; exact opName_len o ho
  have HNM : Hid (∀ W, Calls Tryd.prog 36 #[.int .u8 o] W fun e w' => e = .returned (.string ⟨N.toArray⟩) ∧ Below W.heap.size W w') := fun W => by rw [hN]; exact name_str o ho W
  obtain ⟨A, hA⟩ : ∃ A, A = regW x := ⟨_, rfl⟩
  have hAl : List.length A ≤ 8 := by rw [hA]; have := decI_len x (by omega) (by omega); unfold regW; simp; omega
  have HA : Hid (∀ W, Calls Tryd.prog 37 #[.int .u8 x] W fun e w' => e = .returned (.string ⟨A.toArray⟩) ∧ Below W.heap.size W w') := fun W => by rw [hA]; exact reg_any x (by omega) (by omega) W
  have HT : Hid (lineT o x y z = joinW (N :: [A])) := by
    show _ = _
    unfold lineT textI argsW
    rw [if_pos hc, hf, hN, hA]
    rfl
  have HCAT : Hid ((⟨N.toArray⟩ : ByteArray) ++ ((⟨#[32]⟩ : ByteArray) ++ (⟨A.toArray⟩ : ByteArray)) = ⟨(joinW (N :: [A])).toArray⟩) := by
    show _ = _
    apply ByteArray.ext
    simp [joinW]
  have HOKB : Hid (decide (checkI o x y z = 0) = true) := by show _ = _; rw [hc]; rfl
  clear hc hf hN hA
  go_enter Tryd.func14, Tryd.ntmps14
  go_wp2_with (first | (go_at_call 34; refine (HCHK.out _).mono ?_; rintro e w1 ⟨rfl, hb1⟩; obtain ⟨hc1, hf1⟩ := bcell hb1; have hz1 := hb1.size; simp only [World.size_alloc] at hz1; have hl1 : w.heap.size < w1.heap.size := by omega) | (go_at_call 35; refine (HOFF.out _).mono ?_; rintro e w2 ⟨rfl, rfl⟩) | (go_at_call 36; refine (HNM.out _).mono ?_; rintro e w3 ⟨rfl, hb3⟩; obtain ⟨hc3, hf3⟩ := bcell hb3; have hz3 := hb3.size; have hl3 : w.heap.size < w3.heap.size := by omega) | (go_at_call 37; refine (HA.out _).mono ?_; rintro e w4 ⟨rfl, hb4⟩))
  go_ret2
  refine ⟨?_, below_th0 (below_th0 (below_box hb1) hb3) hb4⟩
  rw [HT.out, HOKB.out]
  rw [← HCAT.out]; rfl
set_option maxHeartbeats 2000000 in
theorem line_2 (o x y z : Int) (hx : Byt x) (hy : Byt y) (hz : Byt z) (hc : checkI o x y z = 0) (hf : formI o = 2) (w : World) : Calls Tryd.prog 14 #[instrV o x y z] w (LineEnd o x y z w) := by
  have ho := check_op o x y z hc
  unfold Byt at hx hy hz
  have HCHK : Hid (∀ W, Calls Tryd.prog 34 #[instrV o x y z] W fun e w' => e = .returned (.int .i64 0) ∧ Below W.heap.size W w') := fun W => by have := check_any o x y z W; rw [hc] at this; exact this
  have HOFF : Hid (∀ W, Calls Tryd.prog 35 #[.int .u8 o] W fun e w' => e = .returned (.tuple #[.int .u8 2, .bool true]) ∧ W = w') := fun W => of_str o 2 hf (by decide) W
  obtain ⟨N, hN⟩ : ∃ N, N = opName o := ⟨_, rfl⟩
  have hNl : List.length N ≤ 5 := by rw [hN]; exact opName_len o ho
  have HNM : Hid (∀ W, Calls Tryd.prog 36 #[.int .u8 o] W fun e w' => e = .returned (.string ⟨N.toArray⟩) ∧ Below W.heap.size W w') := fun W => by rw [hN]; exact name_str o ho W
  obtain ⟨A, hA⟩ : ∃ A, A = regW x := ⟨_, rfl⟩
  have hAl : List.length A ≤ 8 := by rw [hA]; have := decI_len x (by omega) (by omega); unfold regW; simp; omega
  have HA : Hid (∀ W, Calls Tryd.prog 37 #[.int .u8 x] W fun e w' => e = .returned (.string ⟨A.toArray⟩) ∧ Below W.heap.size W w') := fun W => by rw [hA]; exact reg_any x (by omega) (by omega) W
  obtain ⟨B, hB⟩ : ∃ B, B = regW y := ⟨_, rfl⟩
  have hBl : List.length B ≤ 8 := by rw [hB]; have := decI_len y (by omega) (by omega); unfold regW; simp; omega
  have HB : Hid (∀ W, Calls Tryd.prog 37 #[.int .u8 y] W fun e w' => e = .returned (.string ⟨B.toArray⟩) ∧ Below W.heap.size W w') := fun W => by rw [hB]; exact reg_any y (by omega) (by omega) W
  have HT : Hid (lineT o x y z = joinW (N :: [A, B])) := by
    show _ = _
    unfold lineT textI argsW
    rw [if_pos hc, hf, hN, hA, hB]
    rfl
  have HCAT : Hid ((⟨N.toArray⟩ : ByteArray) ++ ((((⟨#[32]⟩ : ByteArray) ++ (⟨A.toArray⟩ : ByteArray)) ++ (⟨#[32]⟩ : ByteArray)) ++ (⟨B.toArray⟩ : ByteArray)) = ⟨(joinW (N :: [A, B])).toArray⟩) := by
    show _ = _
    apply ByteArray.ext
    simp [joinW]
  have HOKB : Hid (decide (checkI o x y z = 0) = true) := by show _ = _; rw [hc]; rfl
  clear hc hf hN hA hB
  have q0 : ¬ (9223372036854775807 < 1 + List.length A) := by omega
  have q1 : ¬ (9223372036854775807 < 1 + List.length A + 1) := by omega
  have q2 : ¬ (9223372036854775807 < 1 + List.length A + 1 + List.length B) := by omega
  have q3 : ¬ (9223372036854775807 < List.length N + (1 + List.length A + 1 + List.length B)) := by omega
  go_enter Tryd.func14, Tryd.ntmps14
  go_wp2_with (first | (go_at_call 34; refine (HCHK.out _).mono ?_; rintro e w1 ⟨rfl, hb1⟩; obtain ⟨hc1, hf1⟩ := bcell hb1; have hz1 := hb1.size; simp only [World.size_alloc] at hz1; have hl1 : w.heap.size < w1.heap.size := by omega) | (go_at_call 35; refine (HOFF.out _).mono ?_; rintro e w2 ⟨rfl, rfl⟩) | (go_at_call 36; refine (HNM.out _).mono ?_; rintro e w3 ⟨rfl, hb3⟩; obtain ⟨hc3, hf3⟩ := bcell hb3; have hz3 := hb3.size; have hl3 : w.heap.size < w3.heap.size := by omega))
  have hbox : BoxAt w.heap.size o x y z w3 := ((show BoxAt w.heap.size o x y z (w.alloc _) from heap_alloc_new _ _).below hb1).below hb3
  have hbel : LBel w w3 := below_th0 (below_box hb1) hb3
  have hszz : w.heap.size < w3.heap.size := (Array.getElem?_eq_some_iff.1 hbox).1
  obtain ⟨hq0, hq1, hq2, hq3⟩ := hbox.cells
  have HBOX := Lib.hid hbox
  have hbelD : LBel w w3.drew := Below.drew hbel
  clear hb1 hb3 hc1 hf1 hc3 hf3 hz1 hz3 hbox
  go_region_held3 (fun w' => w'.cell? ⟨w.heap.size, 0, none⟩ = some (.int .u8 o) ∧ w'.cell? ⟨w.heap.size, 1, none⟩ = some (.int .u8 x) ∧ w'.cell? ⟨w.heap.size, 2, none⟩ = some (.int .u8 y) ∧ w'.cell? ⟨w.heap.size, 3, none⟩ = some (.int .u8 z) ∧ w.heap.size < w'.heap.size ∧ LBel w w')
    (first | (refine keep_call ?_ ?_ ?_ ?_ ?_ ?_ hb4 <;> assumption) | (go_split_ands; refine keep_call ?_ ?_ ?_ ?_ ?_ ?_ hb4 <;> assumption) | go_keep) (first | (go_at_call_of 37 (Value.int IntKind.u8 x); (with_reducible refine (HA.out _).mono ?_); rintro e w4 ⟨rfl, hb4⟩) | (go_at_call_of 37 (Value.int IntKind.u8 y); (with_reducible refine (HB.out _).mono ?_); rintro e w4 ⟨rfl, hb4⟩))
  go_wp2
  go_ret2
  refine ⟨?_, by (show LBel w _; go_split_ands; assumption)⟩
  rw [HT.out, HOKB.out, ← HCAT.out]; rfl
set_option maxHeartbeats 2000000 in
theorem line_3 (o x y z : Int) (hx : Byt x) (hy : Byt y) (hz : Byt z) (hc : checkI o x y z = 0) (hf : formI o = 3) (w : World) : Calls Tryd.prog 14 #[instrV o x y z] w (LineEnd o x y z w) := by
  have ho := check_op o x y z hc
  unfold Byt at hx hy hz
  have HCHK : Hid (∀ W, Calls Tryd.prog 34 #[instrV o x y z] W fun e w' => e = .returned (.int .i64 0) ∧ Below W.heap.size W w') := fun W => by have := check_any o x y z W; rw [hc] at this; exact this
  have HOFF : Hid (∀ W, Calls Tryd.prog 35 #[.int .u8 o] W fun e w' => e = .returned (.tuple #[.int .u8 3, .bool true]) ∧ W = w') := fun W => of_str o 3 hf (by decide) W
  obtain ⟨N, hN⟩ : ∃ N, N = opName o := ⟨_, rfl⟩
  have hNl : List.length N ≤ 5 := by rw [hN]; exact opName_len o ho
  have HNM : Hid (∀ W, Calls Tryd.prog 36 #[.int .u8 o] W fun e w' => e = .returned (.string ⟨N.toArray⟩) ∧ Below W.heap.size W w') := fun W => by rw [hN]; exact name_str o ho W
  obtain ⟨A, hA⟩ : ∃ A, A = regW x := ⟨_, rfl⟩
  have hAl : List.length A ≤ 8 := by rw [hA]; have := decI_len x (by omega) (by omega); unfold regW; simp; omega
  have HA : Hid (∀ W, Calls Tryd.prog 37 #[.int .u8 x] W fun e w' => e = .returned (.string ⟨A.toArray⟩) ∧ Below W.heap.size W w') := fun W => by rw [hA]; exact reg_any x (by omega) (by omega) W
  obtain ⟨B, hB⟩ : ∃ B, B = regW y := ⟨_, rfl⟩
  have hBl : List.length B ≤ 8 := by rw [hB]; have := decI_len y (by omega) (by omega); unfold regW; simp; omega
  have HB : Hid (∀ W, Calls Tryd.prog 37 #[.int .u8 y] W fun e w' => e = .returned (.string ⟨B.toArray⟩) ∧ Below W.heap.size W w') := fun W => by rw [hB]; exact reg_any y (by omega) (by omega) W
  obtain ⟨C, hC⟩ : ∃ C, C = regW z := ⟨_, rfl⟩
  have hCl : List.length C ≤ 8 := by rw [hC]; have := decI_len z (by omega) (by omega); unfold regW; simp; omega
  have HC : Hid (∀ W, Calls Tryd.prog 37 #[.int .u8 z] W fun e w' => e = .returned (.string ⟨C.toArray⟩) ∧ Below W.heap.size W w') := fun W => by rw [hC]; exact reg_any z (by omega) (by omega) W
  have HT : Hid (lineT o x y z = joinW (N :: [A, B, C])) := by
    show _ = _
    unfold lineT textI argsW
    rw [if_pos hc, hf, hN, hA, hB, hC]
    rfl
  have HCAT : Hid ((⟨N.toArray⟩ : ByteArray) ++ ((((((⟨#[32]⟩ : ByteArray) ++ (⟨A.toArray⟩ : ByteArray)) ++ (⟨#[32]⟩ : ByteArray)) ++ (⟨B.toArray⟩ : ByteArray)) ++ (⟨#[32]⟩ : ByteArray)) ++ (⟨C.toArray⟩ : ByteArray)) = ⟨(joinW (N :: [A, B, C])).toArray⟩) := by
    show _ = _
    apply ByteArray.ext
    simp [joinW]
  have HOKB : Hid (decide (checkI o x y z = 0) = true) := by show _ = _; rw [hc]; rfl
  clear hc hf hN hA hB hC
  have q0 : ¬ (9223372036854775807 < 1 + List.length A) := by omega
  have q1 : ¬ (9223372036854775807 < 1 + List.length A + 1) := by omega
  have q2 : ¬ (9223372036854775807 < 1 + List.length A + 1 + List.length B) := by omega
  have q3 : ¬ (9223372036854775807 < 1 + List.length A + 1 + List.length B + 1) := by omega
  have q4 : ¬ (9223372036854775807 < 1 + List.length A + 1 + List.length B + 1 + List.length C) := by omega
  have q5 : ¬ (9223372036854775807 < List.length N + (1 + List.length A + 1 + List.length B + 1 + List.length C)) := by omega
  go_enter Tryd.func14, Tryd.ntmps14
  go_wp2_with (first | (go_at_call 34; refine (HCHK.out _).mono ?_; rintro e w1 ⟨rfl, hb1⟩; obtain ⟨hc1, hf1⟩ := bcell hb1; have hz1 := hb1.size; simp only [World.size_alloc] at hz1; have hl1 : w.heap.size < w1.heap.size := by omega) | (go_at_call 35; refine (HOFF.out _).mono ?_; rintro e w2 ⟨rfl, rfl⟩) | (go_at_call 36; refine (HNM.out _).mono ?_; rintro e w3 ⟨rfl, hb3⟩; obtain ⟨hc3, hf3⟩ := bcell hb3; have hz3 := hb3.size; have hl3 : w.heap.size < w3.heap.size := by omega))
  have hbox : BoxAt w.heap.size o x y z w3 := ((show BoxAt w.heap.size o x y z (w.alloc _) from heap_alloc_new _ _).below hb1).below hb3
  have hbel : LBel w w3 := below_th0 (below_box hb1) hb3
  have hszz : w.heap.size < w3.heap.size := (Array.getElem?_eq_some_iff.1 hbox).1
  obtain ⟨hq0, hq1, hq2, hq3⟩ := hbox.cells
  have HBOX := Lib.hid hbox
  have hbelD : LBel w w3.drew := Below.drew hbel
  clear hb1 hb3 hc1 hf1 hc3 hf3 hz1 hz3 hbox
  go_region_held3 (fun w' => w'.cell? ⟨w.heap.size, 0, none⟩ = some (.int .u8 o) ∧ w'.cell? ⟨w.heap.size, 1, none⟩ = some (.int .u8 x) ∧ w'.cell? ⟨w.heap.size, 2, none⟩ = some (.int .u8 y) ∧ w'.cell? ⟨w.heap.size, 3, none⟩ = some (.int .u8 z) ∧ w.heap.size < w'.heap.size ∧ LBel w w')
    (first | (refine keep_call ?_ ?_ ?_ ?_ ?_ ?_ hb4 <;> assumption) | (go_split_ands; refine keep_call ?_ ?_ ?_ ?_ ?_ ?_ hb4 <;> assumption) | go_keep) (first | (go_at_call_of 37 (Value.int IntKind.u8 x); (with_reducible refine (HA.out _).mono ?_); rintro e w4 ⟨rfl, hb4⟩) | (go_at_call_of 37 (Value.int IntKind.u8 y); (with_reducible refine (HB.out _).mono ?_); rintro e w4 ⟨rfl, hb4⟩) | (go_at_call_of 37 (Value.int IntKind.u8 z); (with_reducible refine (HC.out _).mono ?_); rintro e w4 ⟨rfl, hb4⟩))
  go_wp2
  go_ret2
  refine ⟨?_, by (show LBel w _; go_split_ands; assumption)⟩
  rw [HT.out, HOKB.out, ← HCAT.out]; rfl
set_option maxHeartbeats 2000000 in
theorem line_4 (o x y z : Int) (hx : Byt x) (hy : Byt y) (hz : Byt z) (hc : checkI o x y z = 0) (hf : formI o = 4) (w : World) : Calls Tryd.prog 14 #[instrV o x y z] w (LineEnd o x y z w) := by
  have ho := check_op o x y z hc
  unfold Byt at hx hy hz
  have HCHK : Hid (∀ W, Calls Tryd.prog 34 #[instrV o x y z] W fun e w' => e = .returned (.int .i64 0) ∧ Below W.heap.size W w') := fun W => by have := check_any o x y z W; rw [hc] at this; exact this
  have HOFF : Hid (∀ W, Calls Tryd.prog 35 #[.int .u8 o] W fun e w' => e = .returned (.tuple #[.int .u8 4, .bool true]) ∧ W = w') := fun W => of_str o 4 hf (by decide) W
  obtain ⟨N, hN⟩ : ∃ N, N = opName o := ⟨_, rfl⟩
  have hNl : List.length N ≤ 5 := by rw [hN]; exact opName_len o ho
  have HNM : Hid (∀ W, Calls Tryd.prog 36 #[.int .u8 o] W fun e w' => e = .returned (.string ⟨N.toArray⟩) ∧ Below W.heap.size W w') := fun W => by rw [hN]; exact name_str o ho W
  obtain ⟨A, hA⟩ : ∃ A, A = regW x := ⟨_, rfl⟩
  have hAl : List.length A ≤ 8 := by rw [hA]; have := decI_len x (by omega) (by omega); unfold regW; simp; omega
  have HA : Hid (∀ W, Calls Tryd.prog 37 #[.int .u8 x] W fun e w' => e = .returned (.string ⟨A.toArray⟩) ∧ Below W.heap.size W w') := fun W => by rw [hA]; exact reg_any x (by omega) (by omega) W
  obtain ⟨B, hB⟩ : ∃ B, B = regW y := ⟨_, rfl⟩
  have hBl : List.length B ≤ 8 := by rw [hB]; have := decI_len y (by omega) (by omega); unfold regW; simp; omega
  have HB : Hid (∀ W, Calls Tryd.prog 37 #[.int .u8 y] W fun e w' => e = .returned (.string ⟨B.toArray⟩) ∧ Below W.heap.size W w') := fun W => by rw [hB]; exact reg_any y (by omega) (by omega) W
  obtain ⟨D, hD⟩ : ∃ D, D = decI (near8 z) := ⟨_, rfl⟩
  have hwr : IntKind.i64.wrap (near8 z) = near8 z := by rw [IntKind.wrap_i64]; have hh : -1000000 < (near8 z) ∧ (near8 z) < 1000000 := (by unfold near8; split <;> omega); omega
  have hn8 : -128 ≤ near8 z ∧ near8 z ≤ 127 := by unfold near8; split <;> omega
  have HNR : Hid (∀ W, Calls Tryd.prog 39 #[instrV o x y z] W fun e w' => e = .returned (.int .i32 (near8 z)) ∧ Below W.heap.size W w') := fun W => near_any o x y z W (by omega)
  have hDl : List.length D ≤ 8 := by rw [hD]; have := decI_len (near8 z) (by omega) (by omega); omega
  have HD : Hid (∀ W, Calls Tryd.prog 38 #[.int .i64 (near8 z)] W fun e w' => e = .returned (.string ⟨D.toArray⟩) ∧ Below W.heap.size W w') := fun W => by rw [hD]; exact printed_any (near8 z) (by omega) (by omega) W
  have HT : Hid (lineT o x y z = joinW (N :: [A, B, D])) := by
    show _ = _
    unfold lineT textI argsW
    rw [if_pos hc, hf, hN, hA, hB, hD]
    rfl
  have HCAT : Hid ((⟨N.toArray⟩ : ByteArray) ++ ((((((⟨#[32]⟩ : ByteArray) ++ (⟨A.toArray⟩ : ByteArray)) ++ (⟨#[32]⟩ : ByteArray)) ++ (⟨B.toArray⟩ : ByteArray)) ++ (⟨#[32]⟩ : ByteArray)) ++ (⟨D.toArray⟩ : ByteArray)) = ⟨(joinW (N :: [A, B, D])).toArray⟩) := by
    show _ = _
    apply ByteArray.ext
    simp [joinW]
  have HOKB : Hid (decide (checkI o x y z = 0) = true) := by show _ = _; rw [hc]; rfl
  clear hc hf hN hA hB hD
  have q0 : ¬ (9223372036854775807 < 1 + List.length A) := by omega
  have q1 : ¬ (9223372036854775807 < 1 + List.length A + 1) := by omega
  have q2 : ¬ (9223372036854775807 < 1 + List.length A + 1 + List.length B) := by omega
  have q3 : ¬ (9223372036854775807 < 1 + List.length A + 1 + List.length B + 1) := by omega
  have q4 : ¬ (9223372036854775807 < 1 + List.length A + 1 + List.length B + 1 + List.length D) := by omega
  have q5 : ¬ (9223372036854775807 < List.length N + (1 + List.length A + 1 + List.length B + 1 + List.length D)) := by omega
  go_enter Tryd.func14, Tryd.ntmps14
  go_wp2_with (first | (go_at_call 34; refine (HCHK.out _).mono ?_; rintro e w1 ⟨rfl, hb1⟩; obtain ⟨hc1, hf1⟩ := bcell hb1; have hz1 := hb1.size; simp only [World.size_alloc] at hz1; have hl1 : w.heap.size < w1.heap.size := by omega) | (go_at_call 35; refine (HOFF.out _).mono ?_; rintro e w2 ⟨rfl, rfl⟩) | (go_at_call 36; refine (HNM.out _).mono ?_; rintro e w3 ⟨rfl, hb3⟩; obtain ⟨hc3, hf3⟩ := bcell hb3; have hz3 := hb3.size; have hl3 : w.heap.size < w3.heap.size := by omega))
  have hbox : BoxAt w.heap.size o x y z w3 := ((show BoxAt w.heap.size o x y z (w.alloc _) from heap_alloc_new _ _).below hb1).below hb3
  have hbel : LBel w w3 := below_th0 (below_box hb1) hb3
  have hszz : w.heap.size < w3.heap.size := (Array.getElem?_eq_some_iff.1 hbox).1
  obtain ⟨hq0, hq1, hq2, hq3⟩ := hbox.cells
  have HBOX := Lib.hid hbox
  have hbelD : LBel w w3.drew := Below.drew hbel
  clear hb1 hb3 hc1 hf1 hc3 hf3 hz1 hz3 hbox
  go_region_held3 (fun w' => w'.cell? ⟨w.heap.size, 0, none⟩ = some (.int .u8 o) ∧ w'.cell? ⟨w.heap.size, 1, none⟩ = some (.int .u8 x) ∧ w'.cell? ⟨w.heap.size, 2, none⟩ = some (.int .u8 y) ∧ w'.cell? ⟨w.heap.size, 3, none⟩ = some (.int .u8 z) ∧ w.heap.size < w'.heap.size ∧ LBel w w')
    (first | (refine keep_call ?_ ?_ ?_ ?_ ?_ ?_ hb4 <;> assumption) | (go_split_ands; refine keep_call ?_ ?_ ?_ ?_ ?_ ?_ hb4 <;> assumption) | go_keep) (first | (go_at_call_of 37 (Value.int IntKind.u8 x); (with_reducible refine (HA.out _).mono ?_); rintro e w4 ⟨rfl, hb4⟩) | (go_at_call_of 37 (Value.int IntKind.u8 y); (with_reducible refine (HB.out _).mono ?_); rintro e w4 ⟨rfl, hb4⟩) | (go_at_call 38; (with_reducible refine (HD.out _).mono ?_); rintro e w4 ⟨rfl, hb4⟩) | (go_at_call 39; refine (HNR.out _).mono ?_; rintro e w4 ⟨rfl, hb4⟩))
  go_wp2
  go_ret2
  refine ⟨?_, by (show LBel w _; go_split_ands; assumption)⟩
  rw [HT.out, HOKB.out, ← HCAT.out]; rfl
set_option maxHeartbeats 2000000 in
theorem line_5 (o x y z : Int) (hx : Byt x) (hy : Byt y) (hz : Byt z) (hc : checkI o x y z = 0) (hf : formI o = 5) (w : World) : Calls Tryd.prog 14 #[instrV o x y z] w (LineEnd o x y z w) := by
  have ho := check_op o x y z hc
  unfold Byt at hx hy hz
  have HCHK : Hid (∀ W, Calls Tryd.prog 34 #[instrV o x y z] W fun e w' => e = .returned (.int .i64 0) ∧ Below W.heap.size W w') := fun W => by have := check_any o x y z W; rw [hc] at this; exact this
  have HOFF : Hid (∀ W, Calls Tryd.prog 35 #[.int .u8 o] W fun e w' => e = .returned (.tuple #[.int .u8 5, .bool true]) ∧ W = w') := fun W => of_str o 5 hf (by decide) W
  obtain ⟨N, hN⟩ : ∃ N, N = opName o := ⟨_, rfl⟩
  have hNl : List.length N ≤ 5 := by rw [hN]; exact opName_len o ho
  have HNM : Hid (∀ W, Calls Tryd.prog 36 #[.int .u8 o] W fun e w' => e = .returned (.string ⟨N.toArray⟩) ∧ Below W.heap.size W w') := fun W => by rw [hN]; exact name_str o ho W
  obtain ⟨A, hA⟩ : ∃ A, A = regW x := ⟨_, rfl⟩
  have hAl : List.length A ≤ 8 := by rw [hA]; have := decI_len x (by omega) (by omega); unfold regW; simp; omega
  have HA : Hid (∀ W, Calls Tryd.prog 37 #[.int .u8 x] W fun e w' => e = .returned (.string ⟨A.toArray⟩) ∧ Below W.heap.size W w') := fun W => by rw [hA]; exact reg_any x (by omega) (by omega) W
  obtain ⟨D, hD⟩ : ∃ D, D = decI (y + 256 * z) := ⟨_, rfl⟩
  have hwr : IntKind.i64.wrap (y + 256 * z) = y + 256 * z := by rw [IntKind.wrap_i64]; have hh : -1000000 < (y + 256 * z) ∧ (y + 256 * z) < 1000000 := (by omega); omega
  have HWD : Hid (∀ W, Calls Tryd.prog 33 #[instrV o x y z] W fun e w' => e = .returned (.int .u16 (y + 256 * z)) ∧ Below W.heap.size W w') := fun W => wide_any o x y z W (by omega)
  have hDl : List.length D ≤ 8 := by rw [hD]; have := decI_len (y + 256 * z) (by omega) (by omega); omega
  have HD : Hid (∀ W, Calls Tryd.prog 38 #[.int .i64 (y + 256 * z)] W fun e w' => e = .returned (.string ⟨D.toArray⟩) ∧ Below W.heap.size W w') := fun W => by rw [hD]; exact printed_any (y + 256 * z) (by omega) (by omega) W
  have HT : Hid (lineT o x y z = joinW (N :: [A, D])) := by
    show _ = _
    unfold lineT textI argsW
    rw [if_pos hc, hf, hN, hA, hD]
    rfl
  have HCAT : Hid ((⟨N.toArray⟩ : ByteArray) ++ ((((⟨#[32]⟩ : ByteArray) ++ (⟨A.toArray⟩ : ByteArray)) ++ (⟨#[32]⟩ : ByteArray)) ++ (⟨D.toArray⟩ : ByteArray)) = ⟨(joinW (N :: [A, D])).toArray⟩) := by
    show _ = _
    apply ByteArray.ext
    simp [joinW]
  have HOKB : Hid (decide (checkI o x y z = 0) = true) := by show _ = _; rw [hc]; rfl
  clear hc hf hN hA hD
  have q0 : ¬ (9223372036854775807 < 1 + List.length A) := by omega
  have q1 : ¬ (9223372036854775807 < 1 + List.length A + 1) := by omega
  have q2 : ¬ (9223372036854775807 < 1 + List.length A + 1 + List.length D) := by omega
  have q3 : ¬ (9223372036854775807 < List.length N + (1 + List.length A + 1 + List.length D)) := by omega
  go_enter Tryd.func14, Tryd.ntmps14
  go_wp2_with (first | (go_at_call 34; refine (HCHK.out _).mono ?_; rintro e w1 ⟨rfl, hb1⟩; obtain ⟨hc1, hf1⟩ := bcell hb1; have hz1 := hb1.size; simp only [World.size_alloc] at hz1; have hl1 : w.heap.size < w1.heap.size := by omega) | (go_at_call 35; refine (HOFF.out _).mono ?_; rintro e w2 ⟨rfl, rfl⟩) | (go_at_call 36; refine (HNM.out _).mono ?_; rintro e w3 ⟨rfl, hb3⟩; obtain ⟨hc3, hf3⟩ := bcell hb3; have hz3 := hb3.size; have hl3 : w.heap.size < w3.heap.size := by omega))
  have hbox : BoxAt w.heap.size o x y z w3 := ((show BoxAt w.heap.size o x y z (w.alloc _) from heap_alloc_new _ _).below hb1).below hb3
  have hbel : LBel w w3 := below_th0 (below_box hb1) hb3
  have hszz : w.heap.size < w3.heap.size := (Array.getElem?_eq_some_iff.1 hbox).1
  obtain ⟨hq0, hq1, hq2, hq3⟩ := hbox.cells
  have HBOX := Lib.hid hbox
  have hbelD : LBel w w3.drew := Below.drew hbel
  clear hb1 hb3 hc1 hf1 hc3 hf3 hz1 hz3 hbox
  go_region_held3 (fun w' => w'.cell? ⟨w.heap.size, 0, none⟩ = some (.int .u8 o) ∧ w'.cell? ⟨w.heap.size, 1, none⟩ = some (.int .u8 x) ∧ w'.cell? ⟨w.heap.size, 2, none⟩ = some (.int .u8 y) ∧ w'.cell? ⟨w.heap.size, 3, none⟩ = some (.int .u8 z) ∧ w.heap.size < w'.heap.size ∧ LBel w w')
    (first | (refine keep_call ?_ ?_ ?_ ?_ ?_ ?_ hb4 <;> assumption) | (go_split_ands; refine keep_call ?_ ?_ ?_ ?_ ?_ ?_ hb4 <;> assumption) | go_keep) (first | (go_at_call_of 37 (Value.int IntKind.u8 x); (with_reducible refine (HA.out _).mono ?_); rintro e w4 ⟨rfl, hb4⟩) | (go_at_call 38; (with_reducible refine (HD.out _).mono ?_); rintro e w4 ⟨rfl, hb4⟩) | (go_at_call 33; refine (HWD.out _).mono ?_; rintro e w4 ⟨rfl, hb4⟩))
  go_wp2
  go_ret2
  refine ⟨?_, by (show LBel w _; go_split_ands; assumption)⟩
  rw [HT.out, HOKB.out, ← HCAT.out]; rfl
set_option maxHeartbeats 2000000 in
theorem line_6 (o x y z : Int) (hx : Byt x) (hy : Byt y) (hz : Byt z) (hc : checkI o x y z = 0) (hf : formI o = 6) (w : World) : Calls Tryd.prog 14 #[instrV o x y z] w (LineEnd o x y z w) := by
  have ho := check_op o x y z hc
  unfold Byt at hx hy hz
  have HCHK : Hid (∀ W, Calls Tryd.prog 34 #[instrV o x y z] W fun e w' => e = .returned (.int .i64 0) ∧ Below W.heap.size W w') := fun W => by have := check_any o x y z W; rw [hc] at this; exact this
  have HOFF : Hid (∀ W, Calls Tryd.prog 35 #[.int .u8 o] W fun e w' => e = .returned (.tuple #[.int .u8 6, .bool true]) ∧ W = w') := fun W => of_str o 6 hf (by decide) W
  obtain ⟨N, hN⟩ : ∃ N, N = opName o := ⟨_, rfl⟩
  have hNl : List.length N ≤ 5 := by rw [hN]; exact opName_len o ho
  have HNM : Hid (∀ W, Calls Tryd.prog 36 #[.int .u8 o] W fun e w' => e = .returned (.string ⟨N.toArray⟩) ∧ Below W.heap.size W w') := fun W => by rw [hN]; exact name_str o ho W
  obtain ⟨D, hD⟩ : ∃ D, D = decI (y + 256 * z) := ⟨_, rfl⟩
  have hwr : IntKind.i64.wrap (y + 256 * z) = y + 256 * z := by rw [IntKind.wrap_i64]; have hh : -1000000 < (y + 256 * z) ∧ (y + 256 * z) < 1000000 := (by omega); omega
  have HWD : Hid (∀ W, Calls Tryd.prog 33 #[instrV o x y z] W fun e w' => e = .returned (.int .u16 (y + 256 * z)) ∧ Below W.heap.size W w') := fun W => wide_any o x y z W (by omega)
  have hDl : List.length D ≤ 8 := by rw [hD]; have := decI_len (y + 256 * z) (by omega) (by omega); omega
  have HD : Hid (∀ W, Calls Tryd.prog 38 #[.int .i64 (y + 256 * z)] W fun e w' => e = .returned (.string ⟨D.toArray⟩) ∧ Below W.heap.size W w') := fun W => by rw [hD]; exact printed_any (y + 256 * z) (by omega) (by omega) W
  have HT : Hid (lineT o x y z = joinW (N :: [D])) := by
    show _ = _
    unfold lineT textI argsW
    rw [if_pos hc, hf, hN, hD]
    rfl
  have HCAT : Hid ((⟨N.toArray⟩ : ByteArray) ++ ((⟨#[32]⟩ : ByteArray) ++ (⟨D.toArray⟩ : ByteArray)) = ⟨(joinW (N :: [D])).toArray⟩) := by
    show _ = _
    apply ByteArray.ext
    simp [joinW]
  have HOKB : Hid (decide (checkI o x y z = 0) = true) := by show _ = _; rw [hc]; rfl
  clear hc hf hN hD
  go_enter Tryd.func14, Tryd.ntmps14
  go_wp2_with (first | (go_at_call 34; refine (HCHK.out _).mono ?_; rintro e w1 ⟨rfl, hb1⟩; obtain ⟨hc1, hf1⟩ := bcell hb1; have hz1 := hb1.size; simp only [World.size_alloc] at hz1; have hl1 : w.heap.size < w1.heap.size := by omega) | (go_at_call 35; refine (HOFF.out _).mono ?_; rintro e w2 ⟨rfl, rfl⟩) | (go_at_call 36; refine (HNM.out _).mono ?_; rintro e w3 ⟨rfl, hb3⟩; obtain ⟨hc3, hf3⟩ := bcell hb3; have hz3 := hb3.size; have hl3 : w.heap.size < w3.heap.size := by omega) | (go_at_call 38; refine (HD.out _).mono ?_; rintro e w5 ⟨rfl, hb5⟩) | (go_at_call 33; refine (HWD.out _).mono ?_; rintro e w4 ⟨rfl, hb4⟩))
  go_ret2
  refine ⟨?_, below_th0 (below_th0 (below_th0 (below_box hb1) hb3) hb4) hb5⟩
  rw [HT.out, HOKB.out]
  rw [← HCAT.out]; rfl
set_option maxHeartbeats 2000000 in
theorem line_7 (o x y z : Int) (hx : Byt x) (hy : Byt y) (hz : Byt z) (hc : checkI o x y z = 0) (hf : formI o = 7) (w : World) : Calls Tryd.prog 14 #[instrV o x y z] w (LineEnd o x y z w) := by
  have ho := check_op o x y z hc
  unfold Byt at hx hy hz
  have HCHK : Hid (∀ W, Calls Tryd.prog 34 #[instrV o x y z] W fun e w' => e = .returned (.int .i64 0) ∧ Below W.heap.size W w') := fun W => by have := check_any o x y z W; rw [hc] at this; exact this
  have HOFF : Hid (∀ W, Calls Tryd.prog 35 #[.int .u8 o] W fun e w' => e = .returned (.tuple #[.int .u8 7, .bool true]) ∧ W = w') := fun W => of_str o 7 hf (by decide) W
  obtain ⟨N, hN⟩ : ∃ N, N = opName o := ⟨_, rfl⟩
  have hNl : List.length N ≤ 5 := by rw [hN]; exact opName_len o ho
  have HNM : Hid (∀ W, Calls Tryd.prog 36 #[.int .u8 o] W fun e w' => e = .returned (.string ⟨N.toArray⟩) ∧ Below W.heap.size W w') := fun W => by rw [hN]; exact name_str o ho W
  obtain ⟨A, hA⟩ : ∃ A, A = regW x := ⟨_, rfl⟩
  have hAl : List.length A ≤ 8 := by rw [hA]; have := decI_len x (by omega) (by omega); unfold regW; simp; omega
  have HA : Hid (∀ W, Calls Tryd.prog 37 #[.int .u8 x] W fun e w' => e = .returned (.string ⟨A.toArray⟩) ∧ Below W.heap.size W w') := fun W => by rw [hA]; exact reg_any x (by omega) (by omega) W
  obtain ⟨B, hB⟩ : ∃ B, B = regW y := ⟨_, rfl⟩
  have hBl : List.length B ≤ 8 := by rw [hB]; have := decI_len y (by omega) (by omega); unfold regW; simp; omega
  have HB : Hid (∀ W, Calls Tryd.prog 37 #[.int .u8 y] W fun e w' => e = .returned (.string ⟨B.toArray⟩) ∧ Below W.heap.size W w') := fun W => by rw [hB]; exact reg_any y (by omega) (by omega) W
  obtain ⟨D, hD⟩ : ∃ D, D = decI z := ⟨_, rfl⟩
  have hwr : IntKind.i64.wrap (z) = z := by rw [IntKind.wrap_i64]; have hh : -1000000 < (z) ∧ (z) < 1000000 := (by omega); omega
  have hDl : List.length D ≤ 8 := by rw [hD]; have := decI_len (z) (by omega) (by omega); omega
  have HD : Hid (∀ W, Calls Tryd.prog 38 #[.int .i64 (z)] W fun e w' => e = .returned (.string ⟨D.toArray⟩) ∧ Below W.heap.size W w') := fun W => by rw [hD]; exact printed_any (z) (by omega) (by omega) W
  have HT : Hid (lineT o x y z = joinW (N :: [A, B, D])) := by
    show _ = _
    unfold lineT textI argsW
    rw [if_pos hc, hf, hN, hA, hB, hD]
    rfl
  have HCAT : Hid ((⟨N.toArray⟩ : ByteArray) ++ ((((((⟨#[32]⟩ : ByteArray) ++ (⟨A.toArray⟩ : ByteArray)) ++ (⟨#[32]⟩ : ByteArray)) ++ (⟨B.toArray⟩ : ByteArray)) ++ (⟨#[32]⟩ : ByteArray)) ++ (⟨D.toArray⟩ : ByteArray)) = ⟨(joinW (N :: [A, B, D])).toArray⟩) := by
    show _ = _
    apply ByteArray.ext
    simp [joinW]
  have HOKB : Hid (decide (checkI o x y z = 0) = true) := by show _ = _; rw [hc]; rfl
  clear hc hf hN hA hB hD
  have q0 : ¬ (9223372036854775807 < 1 + List.length A) := by omega
  have q1 : ¬ (9223372036854775807 < 1 + List.length A + 1) := by omega
  have q2 : ¬ (9223372036854775807 < 1 + List.length A + 1 + List.length B) := by omega
  have q3 : ¬ (9223372036854775807 < 1 + List.length A + 1 + List.length B + 1) := by omega
  have q4 : ¬ (9223372036854775807 < 1 + List.length A + 1 + List.length B + 1 + List.length D) := by omega
  have q5 : ¬ (9223372036854775807 < List.length N + (1 + List.length A + 1 + List.length B + 1 + List.length D)) := by omega
  go_enter Tryd.func14, Tryd.ntmps14
  go_wp2_with (first | (go_at_call 34; refine (HCHK.out _).mono ?_; rintro e w1 ⟨rfl, hb1⟩; obtain ⟨hc1, hf1⟩ := bcell hb1; have hz1 := hb1.size; simp only [World.size_alloc] at hz1; have hl1 : w.heap.size < w1.heap.size := by omega) | (go_at_call 35; refine (HOFF.out _).mono ?_; rintro e w2 ⟨rfl, rfl⟩) | (go_at_call 36; refine (HNM.out _).mono ?_; rintro e w3 ⟨rfl, hb3⟩; obtain ⟨hc3, hf3⟩ := bcell hb3; have hz3 := hb3.size; have hl3 : w.heap.size < w3.heap.size := by omega))
  have hbox : BoxAt w.heap.size o x y z w3 := ((show BoxAt w.heap.size o x y z (w.alloc _) from heap_alloc_new _ _).below hb1).below hb3
  have hbel : LBel w w3 := below_th0 (below_box hb1) hb3
  have hszz : w.heap.size < w3.heap.size := (Array.getElem?_eq_some_iff.1 hbox).1
  obtain ⟨hq0, hq1, hq2, hq3⟩ := hbox.cells
  have HBOX := Lib.hid hbox
  have hbelD : LBel w w3.drew := Below.drew hbel
  clear hb1 hb3 hc1 hf1 hc3 hf3 hz1 hz3 hbox
  go_region_held3 (fun w' => w'.cell? ⟨w.heap.size, 0, none⟩ = some (.int .u8 o) ∧ w'.cell? ⟨w.heap.size, 1, none⟩ = some (.int .u8 x) ∧ w'.cell? ⟨w.heap.size, 2, none⟩ = some (.int .u8 y) ∧ w'.cell? ⟨w.heap.size, 3, none⟩ = some (.int .u8 z) ∧ w.heap.size < w'.heap.size ∧ LBel w w')
    (first | (refine keep_call ?_ ?_ ?_ ?_ ?_ ?_ hb4 <;> assumption) | (go_split_ands; refine keep_call ?_ ?_ ?_ ?_ ?_ ?_ hb4 <;> assumption) | go_keep) (first | (go_at_call_of 37 (Value.int IntKind.u8 x); (with_reducible refine (HA.out _).mono ?_); rintro e w4 ⟨rfl, hb4⟩) | (go_at_call_of 37 (Value.int IntKind.u8 y); (with_reducible refine (HB.out _).mono ?_); rintro e w4 ⟨rfl, hb4⟩) | (go_at_call 38; (with_reducible refine (HD.out _).mono ?_); rintro e w4 ⟨rfl, hb4⟩))
  go_wp2
  go_ret2
  refine ⟨?_, by (show LBel w _; go_split_ands; assumption)⟩
  rw [HT.out, HOKB.out, ← HCAT.out]; rfl
set_option maxHeartbeats 2000000 in
theorem line_8 (o x y z : Int) (hx : Byt x) (hy : Byt y) (hz : Byt z) (hc : checkI o x y z = 0) (hf : formI o = 8) (w : World) : Calls Tryd.prog 14 #[instrV o x y z] w (LineEnd o x y z w) := by
  have ho := check_op o x y z hc
  unfold Byt at hx hy hz
  have HCHK : Hid (∀ W, Calls Tryd.prog 34 #[instrV o x y z] W fun e w' => e = .returned (.int .i64 0) ∧ Below W.heap.size W w') := fun W => by have := check_any o x y z W; rw [hc] at this; exact this
  have HOFF : Hid (∀ W, Calls Tryd.prog 35 #[.int .u8 o] W fun e w' => e = .returned (.tuple #[.int .u8 8, .bool true]) ∧ W = w') := fun W => of_str o 8 hf (by decide) W
  obtain ⟨N, hN⟩ : ∃ N, N = opName o := ⟨_, rfl⟩
  have hNl : List.length N ≤ 5 := by rw [hN]; exact opName_len o ho
  have HNM : Hid (∀ W, Calls Tryd.prog 36 #[.int .u8 o] W fun e w' => e = .returned (.string ⟨N.toArray⟩) ∧ Below W.heap.size W w') := fun W => by rw [hN]; exact name_str o ho W
  obtain ⟨D, hD⟩ : ∃ D, D = decI y := ⟨_, rfl⟩
  have hwr : IntKind.i64.wrap (y) = y := by rw [IntKind.wrap_i64]; have hh : -1000000 < (y) ∧ (y) < 1000000 := (by omega); omega
  have hDl : List.length D ≤ 8 := by rw [hD]; have := decI_len (y) (by omega) (by omega); omega
  have HD : Hid (∀ W, Calls Tryd.prog 38 #[.int .i64 (y)] W fun e w' => e = .returned (.string ⟨D.toArray⟩) ∧ Below W.heap.size W w') := fun W => by rw [hD]; exact printed_any (y) (by omega) (by omega) W
  have HT : Hid (lineT o x y z = joinW (N :: [D])) := by
    show _ = _
    unfold lineT textI argsW
    rw [if_pos hc, hf, hN, hD]
    rfl
  have HCAT : Hid ((⟨N.toArray⟩ : ByteArray) ++ ((⟨#[32]⟩ : ByteArray) ++ (⟨D.toArray⟩ : ByteArray)) = ⟨(joinW (N :: [D])).toArray⟩) := by
    show _ = _
    apply ByteArray.ext
    simp [joinW]
  have HOKB : Hid (decide (checkI o x y z = 0) = true) := by show _ = _; rw [hc]; rfl
  clear hc hf hN hD
  go_enter Tryd.func14, Tryd.ntmps14
  go_wp2_with (first | (go_at_call 34; refine (HCHK.out _).mono ?_; rintro e w1 ⟨rfl, hb1⟩; obtain ⟨hc1, hf1⟩ := bcell hb1; have hz1 := hb1.size; simp only [World.size_alloc] at hz1; have hl1 : w.heap.size < w1.heap.size := by omega) | (go_at_call 35; refine (HOFF.out _).mono ?_; rintro e w2 ⟨rfl, rfl⟩) | (go_at_call 36; refine (HNM.out _).mono ?_; rintro e w3 ⟨rfl, hb3⟩; obtain ⟨hc3, hf3⟩ := bcell hb3; have hz3 := hb3.size; have hl3 : w.heap.size < w3.heap.size := by omega) | (go_at_call 38; refine (HD.out _).mono ?_; rintro e w5 ⟨rfl, hb5⟩))
  go_ret2
  refine ⟨?_, below_th0 (below_th0 (below_box hb1) hb3) hb5⟩
  rw [HT.out, HOKB.out]
  rw [← HCAT.out]; rfl
theorem line_any (o x y z : Int) (hx : Byt x) (hy : Byt y) (hz : Byt z) (w : World) : Calls Tryd.prog 14 #[instrV o x y z] w (LineEnd o x y z w) := by
  by_cases hc : checkI o x y z = 0
  · rcases form_range o (check_op o x y z hc) with hf | hf | hf | hf | hf | hf | hf | hf | hf
    · exact line_0 o x y z hx hy hz hc hf w
    · exact line_1 o x y z hx hy hz hc hf w
    · exact line_2 o x y z hx hy hz hc hf w
    · exact line_3 o x y z hx hy hz hc hf w
    · exact line_4 o x y z hx hy hz hc hf w
    · exact line_5 o x y z hx hy hz hc hf w
    · exact line_6 o x y z hx hy hz hc hf w
    · exact line_7 o x y z hx hy hz hc hf w
    · exact line_8 o x y z hx hy hz hc hf w
  · exact line_bad o x y z hc w
end Go.Proofs.YtlaohefgofmfdaaDoor
