/- The two programs' numbers as texts are the plain ones. -/
import Derived.Test.YtlaohefgofmfdaaDoorDec
import Derived.Test.YtlaohefgofmfdaaDoorRefP
namespace Go.Proofs.YtlaohefgofmfdaaDoor
open Go Go.RowKit Go.Proofs.YtlaohefgofmfdaaDoorW.PrintWords
theorem str_app0 (a b : Bs) : (⟨a.toArray⟩ : ByteArray) ++ ⟨b.toArray⟩ = ⟨(a ++ b).toArray⟩ := by
  apply ByteArray.ext
  simp
theorem size_str (l : Bs) : (⟨l.toArray⟩ : ByteArray).size = l.length := by show l.toArray.size = _; simp
theorem strOf_dgt (n : Nat) (h : n < 10) : strOfNums [wrap64 (48 + (n : Int)) % 256] = ⟨[dgt n].toArray⟩ := by
  have e : wrap64 (48 + (n : Int)) % 256 = ((48 + n : Nat) : Int) := by unfold wrap64; omega
  have h1 : ((48 : Int) + (n : Int)).toNat = 48 + n := by omega
  rw [e]; unfold strOfNums dgt
  simp only [List.map_cons, List.map_nil]
  rw [show ((48 + n : Nat) : Int).toNat = 48 + n by omega]
theorem printed_nat : ∀ (j n k : Nat), n < 10 ^ (j + 1) → j + 2 ≤ k → n < 1000000 → Ref.asm_printed.f k (n : Int) = some ⟨(decN n).toArray⟩
  | j, n, 0, _, hk, _ => by omega
  | j, n, k + 1, hn, hk, hb => by
    rw [Ref.asm_printed.f, if_neg (by omega)]
    by_cases h : n < 10
    · rw [if_neg (by omega), strOf_dgt n h, decN_small n h]
    · rw [if_pos (by omega)]
      have e1 : wrap64 (Int.tdiv (n : Int) 10) = ((n / 10 : Nat) : Int) := by rw [Int.tdiv_eq_ediv_of_nonneg (by omega)]; unfold wrap64; omega
      have e2 : Int.tmod (n : Int) 10 = ((n % 10 : Nat) : Int) := by rw [Int.tmod_eq_emod_of_nonneg (by omega)]; omega
      cases j with
      | zero => simp at hn; omega
      | succ j =>
        rw [e1, e2, printed_nat j (n / 10) k (by rw [Nat.pow_succ] at hn; omega) (by omega) (by omega), printed_nat j (n % 10) k (by have : 1 ≤ 10 ^ j := Nat.one_le_pow _ _ (by omega); rw [Nat.pow_succ]; omega) (by omega) (by omega)]
        simp only [Option.bind_some]
        have l1 := (decN_len (n / 10)).2 5 (by omega)
        have l2 := (decN_len (n % 10)).2 5 (by omega)
        rw [if_pos (by rw [size_str, size_str]; omega), str_app0, decN_small (n % 10) (by omega), decN_big n h]
theorem printed_eq (n : Int) (h0 : -1000000 < n) (h1 : n < 1000000) : Ref.asm_printed.f 9 n = some ⟨(decI n).toArray⟩ := by
  unfold decI
  by_cases h : n < 0
  · rw [if_pos h, Ref.asm_printed.f, if_pos h]
    have e : wrap64 (-n) = ((n.natAbs : Nat) : Int) := by unfold wrap64; omega
    rw [e, printed_nat 5 n.natAbs 8 (by omega) (by omega) (by omega)]
    have l1 := (decN_len n.natAbs).2 5 (by omega)
    simp only [Option.bind_some]
    rw [if_pos (by rw [size_str]; omega)]
    congr 1
  · rw [if_neg h]
    have := printed_nat 5 n.toNat 9 (by omega) (by omega) (by omega)
    rw [show ((n.toNat : Nat) : Int) = n by omega] at this
    exact this
theorem reg_eq (n : Int) (h0 : 0 ≤ n) (h1 : n < 256) : Ref.asm_reg.f 9 n = some ⟨(114 :: decI n).toArray⟩ := by
  unfold Ref.asm_reg.f
  rw [show wrap64 n = n by unfold wrap64; omega, printed_eq n (by omega) (by omega)]
  simp only [Option.bind_some]
  have l1 := (decN_len n.toNat).2 5 (by omega)
  have e : decI n = decN n.toNat := by unfold decI; rw [if_neg (by omega)]
  rw [if_pos (by rw [size_str, e]; omega)]
  congr 1
theorem itoa_nat : ∀ (j n k : Nat), n < 10 ^ (j + 1) → j + 2 ≤ k → n < 1000000 → Ref.garrisonref01_Itoa.f k (n : Int) = some ⟨(decN n).toArray⟩
  | j, n, 0, _, hk, _ => by omega
  | j, n, k + 1, hn, hk, hb => by
    have e2 : Int.tmod (n : Int) 10 = ((n % 10 : Nat) : Int) := by rw [Int.tmod_eq_emod_of_nonneg (by omega)]; omega
    rw [Ref.garrisonref01_Itoa.f, if_neg (by omega), e2]
    simp only [Option.bind_some]
    rw [strOf_dgt (n % 10) (by omega)]
    by_cases h : n < 10
    · rw [if_neg (by omega), decN_small n h, Nat.mod_eq_of_lt h]
    · rw [if_pos (by omega)]
      have e1 : wrap64 (Int.tdiv (n : Int) 10) = ((n / 10 : Nat) : Int) := by rw [Int.tdiv_eq_ediv_of_nonneg (by omega)]; unfold wrap64; omega
      cases j with
      | zero => simp at hn; omega
      | succ j =>
        rw [e1, itoa_nat j (n / 10) k (by rw [Nat.pow_succ] at hn; omega) (by omega) (by omega)]
        simp only [Option.bind_some]
        have l1 := (decN_len (n / 10)).2 5 (by omega)
        rw [if_pos (by rw [size_str, size_str]; simp; omega), str_app0, decN_big n h]
theorem itoa_eq (n : Int) (h0 : -1000000 < n) (h1 : n < 1000000) : Ref.garrisonref01_Itoa.f 9 n = some ⟨(decI n).toArray⟩ := by
  unfold decI
  by_cases h : n < 0
  · rw [if_pos h, Ref.garrisonref01_Itoa.f, if_pos h]
    have e : wrap64 (-n) = ((n.natAbs : Nat) : Int) := by unfold wrap64; omega
    rw [e, itoa_nat 5 n.natAbs 8 (by omega) (by omega) (by omega)]
    have l1 := (decN_len n.natAbs).2 5 (by omega)
    simp only [Option.bind_some]
    rw [if_pos (by rw [size_str]; omega)]
    congr 1
  · rw [if_neg h]
    have := itoa_nat 5 n.toNat 9 (by omega) (by omega) (by omega)
    rw [show ((n.toNat : Nat) : Int) = n by omega] at this
    exact this
theorem printed_any (n : Int) (h0 : -1000000 < n) (h1 : n < 1000000) (w : World) : Calls Tryd.prog 38 #[.int .i64 n] w fun e w' => e = .returned (.string ⟨(decI n).toArray⟩) ∧ Below w.heap.size w w' :=
  Ref.asm_printed.calls 9 n _ w (printed_eq n h0 h1)
theorem reg_any (n : Int) (h0 : 0 ≤ n) (h1 : n < 256) (w : World) : Calls Tryd.prog 37 #[.int .u8 n] w fun e w' => e = .returned (.string ⟨(114 :: decI n).toArray⟩) ∧ Below w.heap.size w w' :=
  Ref.asm_reg.calls 9 n _ w (reg_eq n h0 h1)
theorem itoa_any (n : Int) (h0 : -1000000 < n) (h1 : n < 1000000) (w : World) : Calls Tryd.prog 42 #[.int .i64 n] w fun e w' => e = .returned (.string ⟨(decI n).toArray⟩) ∧ Below w.heap.size w w' :=
  Ref.garrisonref01_Itoa.calls 9 n _ w (itoa_eq n h0 h1)
end Go.Proofs.YtlaohefgofmfdaaDoor
