/- The walk of Assemble, whole: what it comes to for any text of ASCII. -/
import Derived.Test.YtlaohefgofmfdaaDoorAsm10
import Derived.Test.YtlaohefgofmfdaaDoorNl
import Derived.Test.YtlaohefgofmfdaaDoorRef1
namespace Go.Proofs.YtlaohefgofmfdaaDoor
open Go Go.RowKit Go.Proofs.YtlaohefgofmfdaaDoorW.PrintWords
set_option maxRecDepth 100000
theorem pieces_eq (s : ByteArray) : (pieces s).map (·.data.toList) = splitNL s.data.toList := by
  unfold pieces
  rw [Lib.splitB_data, ← split_eq]; rfl
theorem pages_eq (x : Int) (l : List Int) (hx : 0 ≤ x ∧ x ≤ 32) (hl : l.length ≤ 2048) : Ref.ops_Pages.f x l = some (((l.length : Int) + 63) / 64 + x) := by
  unfold Ref.ops_Pages.f
  have e1 : wrap64 ((l.length : Int) + 64) = (l.length : Int) + 64 := by unfold wrap64; omega
  have e2 : wrap64 ((l.length : Int) + 64 - 1) = (l.length : Int) + 63 := by unfold wrap64; omega
  have e3 : Int.tdiv ((l.length : Int) + 63) 64 = ((l.length : Int) + 63) / 64 := by rw [Int.tdiv_eq_ediv_of_nonneg (by omega)]
  have e4 : wrap64 (((l.length : Int) + 63) / 64) = ((l.length : Int) + 63) / 64 := by unfold wrap64; omega
  have e5 : wrap64 x = x := by unfold wrap64; omega
  have e6 : wrap64 (((l.length : Int) + 63) / 64 + x) = ((l.length : Int) + 63) / 64 + x := by unfold wrap64; omega
  rw [e1, e2, e3, e4, e5, e6]
theorem file_eq (x : Int) (l : List Int) (hx : 0 ≤ x ∧ x ≤ 32) : ∃ r, Ref.ops_File.f x l = some (r, fileI x l.length) := by
  unfold Ref.ops_File.f Ref.ops_fits.f fileI
  by_cases h0 : (l.length : Int) = 0
  · rw [if_pos h0, if_pos h0]; exact ⟨_, rfl⟩
  · rw [if_neg h0, if_neg h0]
    by_cases h1 : (l.length : Int) > 2048
    · rw [if_pos h1, if_pos h1]; exact ⟨_, rfl⟩
    · rw [if_neg h1, if_neg h1, pages_eq x l hx (by omega)]
      simp only [Option.bind_some]
      by_cases h2 : ((l.length : Int) + 63) / 64 + x > 32
      · rw [if_pos h2, if_pos h2]; exact ⟨_, rfl⟩
      · rw [if_neg h2, if_neg h2]
        simp only [Option.bind_some, if_true]
        rw [if_pos (by simp; omega)]; exact ⟨_, rfl⟩
theorem own_reads {w : World} {base : Nat} {v : Value} {l : List Int} (h : w.ownsRow base 5 1 v l.length (u8s l)) :
    ∃ A c, v = .slice A l.length c ∧ l.length ≤ c ∧ Kd.C (Kd.int .u8) w A l.length l := by
  obtain ⟨h1, ⟨rfl, h0⟩ | ⟨g, cap, cur, rfl, hg, hh, hcap, hm, hsz, htk⟩⟩ := id h
  · have h0' : l = [] := List.eq_nil_of_length_eq_zero h0
    subst h0'
    exact ⟨none, 0, rfl, Nat.le_refl _, rfl, by simp, fun h => absurd h (by simp)⟩
  · refine ⟨_, cap, rfl, hcap, rfl, by simp [maxLen] at hm; omega, fun _ => ⟨_, rfl, fun j p hj => ⟨[.int .u8 p], rfl, rfl, fun i u hu => ?_⟩⟩⟩
    have hi : i = 0 := by
      rcases i with _ | i
      · rfl
      · simp at hu
    subst hi
    have hu' : .int .u8 p = u := by simpa using hu
    subst hu'
    have := h.cells rfl j (.int .u8 p) (by simp [u8s, hj])
    show w.cell? (Addr.add ⟨g, 0, none⟩ (j * 1 + 0)) = _
    simpa using this
theorem file_any (w' : World) (x : Int) (l : List Int) (v : Value) (B : Nat) (hown : w'.ownsRow B 5 1 v l.length (u8s l)) (hx : 0 ≤ x ∧ x ≤ 32) :
    Calls Tryd.prog 24 #[.agg #[.int .u8 x, v]] w' fun e w'' => ∃ u, e = .returned (.tuple #[u, .int .i64 (fileI x l.length)]) ∧ Below w'.heap.size w' w'' := by
  obtain ⟨A, c, rfl, hc, hC⟩ := own_reads hown
  obtain ⟨r, hr⟩ := file_eq x l hx
  refine (Ref.ops_File.calls x A c l r _ w' hC hc hr).mono ?_
  rintro e w'' ⟨u, rfl, _, hb⟩
  exact ⟨u, rfl, hb⟩
theorem long_any (s : ByteArray) (hl : 65536 < s.size) (hs : s.size ≤ maxLen) (w : World) : Calls Tryd.prog 10 #[.string s] w (AsmEnd ⟨8, 0, 0, []⟩ w) := by
  unfold maxLen at hs
  go_enter Tryd.func10, Tryd.ntmps10
  go_wp2
  refine bodyPost_ret (v := .tuple #[.agg #[.int .u8 0, .slice none 0 0], .int .i64 0, .int .i64 8]) (by simp [results, Tryd.results10, go_sem, *]) rfl ?_
  exact ⟨below_one _ _, _, rfl, World.ownsRow_nil _ _ _ _⟩
theorem count_pieces (s : ByteArray) : Lib.countB s ⟨#[10]⟩ + 1 = (pieces s).length := by
  have h : ∀ (n : Nat) (l : Bs), l.length ≤ n → (Lib.splitK [10] 0 (Lib.count l [10]) l).length = Lib.count l [10] + 1 := by
    intro n
    induction n with
    | zero =>
      intro l hl
      have : l = [] := List.eq_nil_of_length_eq_zero (by omega)
      subst this
      have h0 : Lib.index ([] : Bs) [10] = -1 := rfl
      rw [Lib.count_miss h0]; rfl
    | succ n ih =>
      intro l hl
      by_cases hm : Lib.index l [10] = -1
      · rw [Lib.count_miss hm]; rfl
      · have hge := Lib.index_ge l [10]
        obtain ⟨i, hi⟩ : ∃ i : Nat, Lib.index l [10] = i := ⟨(Lib.index l [10]).toNat, by omega⟩
        have hc := Lib.count_hit (by simp) hi
        have hr := Lib.index_room l [10] (by omega)
        have e2 : ¬ (Lib.index l [10] == -1) = true := fun e => by have := beq_iff_eq.1 e; omega
        rw [hc, Nat.add_comm, Lib.splitK, if_neg e2, hi]
        simp only [Int.toNat_natCast, List.length_cons]
        rw [ih _ (by rw [List.length_drop]; simp at hr ⊢; omega)]
  have h1 := h s.data.toList.length s.data.toList (Nat.le_refl _)
  have h2 := congrArg List.length (Lib.splitB_data ⟨#[10]⟩ 0 (Lib.countB s ⟨#[10]⟩) s)
  rw [List.length_map] at h2
  exact (h2.trans h1).symm
theorem assemble_any (s : ByteArray) (hm : s.size ≤ maxLen) (hascii : s.size ≤ 65536 → ∀ b ∈ s.data.toList, b.toNat < 128) (w : World) (hlib : LibAt w) :
    Calls Tryd.prog 10 #[.string s] w (AsmEnd (asmI (splitNL s.data.toList) (decide (65536 < s.size))) w) := by
  by_cases hl : 65536 < s.size
  · rw [asmI, if_pos (by simpa using hl)]
    exact long_any s hl hm w
  · rw [asmI, if_neg (by simpa using hl)]
    have hl' : s.size ≤ 65536 := by omega
    have hsz : s.data.toList.length = s.size := by simp
    have hbd := splitNL_bd s.data.toList
    have hmem : ∀ p ∈ pieces s, p.data.toList ∈ splitNL s.data.toList := fun p hp => by
      rw [← pieces_eq]; exact List.mem_map.2 ⟨p, hp, rfl⟩
    have hps : ∀ p ∈ pieces s, p.size ≤ 65536 ∧ (lineWords p.data.toList).length ≤ 65536 ∧ ∀ y ∈ lineWords p.data.toList, y.length ≤ 65536 := by
      intro p hp
      have h1 := hbd.2 _ (hmem p hp)
      have h2 := lineWords_bd p.data.toList
      have h3 : p.data.toList.length = p.size := by simp
      exact ⟨by omega, by omega, fun y hy => by have := h2.2 y hy; omega⟩
    have hpn : (pieces s).length = (splitNL s.data.toList).length := by rw [← pieces_eq, List.length_map]
    refine asm_any s hl' _ ?_ w (fun w' hb => ?_) (fun w' x l v B hown hx => file_any w' x l v B hown hx)
    · intro h0
      refine ⟨readGo_ok _ _ _ ⟨by simp, by simp, by simp, rfl, by simp⟩ (fun p hp => ?_) h0, ?_⟩
      · have h1 := hbd.2 _ hp
        have h2 := lineWords_bd p
        exact ⟨by omega, fun y hy => by have := h2.2 y hy; omega⟩
      · have := readGo_lines (splitNL s.data.toList) 0 ⟨[], [], 0, 0⟩
        simp at this; omega
    · have := read_any s hl' (fun p hp b hb => hascii hl' b ((hbd.2 _ (hmem p hp)).2 b hb)) hps (by rw [hpn]; omega) (count_pieces s) w' (lib_below hlib hb)
      rw [pieces_eq] at this
      exact this
end Go.Proofs.YtlaohefgofmfdaaDoor
