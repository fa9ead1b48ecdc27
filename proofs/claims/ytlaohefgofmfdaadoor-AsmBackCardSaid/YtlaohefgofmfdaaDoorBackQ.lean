/- A program's text: its size, its letters; what fits. -/
import Derived.Test.YtlaohefgofmfdaaDoorText
import Derived.Test.YtlaohefgofmfdaaDoorRef2
namespace Go.Proofs.YtlaohefgofmfdaaDoor
open Go Go.RowKit Go.Proofs.YtlaohefgofmfdaaDoorW.PrintWords
theorem text_short (a b c d : Int) (hb : Byt b) (hc : Byt c) (hd : Byt d) (hck : checkI a b c d = 0) : (textI a b c d).length ≤ 36 := by
  have ho := check_op a b c d hck
  have h0 := opName_len a ho
  unfold Byt at hb hc hd
  have h1 := decI_len b (by omega) (by omega)
  have h2 := decI_len c (by omega) (by omega)
  have h3 := decI_len d (by omega) (by omega)
  have h4 := decI_len (c + 256 * d) (by omega) (by omega)
  have h5 := decI_len (near8 d) (by unfold near8; split <;> omega) (by unfold near8; split <;> omega)
  unfold textI argsW
  repeat' split
  all_goals simp [joinW, regW]
  all_goals omega
theorem rows_len : ∀ (code : List Int), (∀ b ∈ code, Byt b) → (linesT (rowsT code)).length ≤ 40 * code.length
  | a :: b :: c :: d :: r, h => by
    have ih := rows_len r fun q hq => h q (by simp [hq])
    by_cases hk : checkI a b c d = 0
    · have := text_short a b c d (h b (by simp)) (h c (by simp)) (h d (by simp)) hk
      rw [rows_right a b c d r hk]
      simp only [List.length_append, List.length_cons]; omega
    · have := wordsB_len [a, b, c, d] fun q hq => h q (by simp at hq; rcases hq with h1 | h1 | h1 | h1 <;> simp [h1])
      rw [rows_wrong a b c d r hk]
      simp only [List.length_append, List.length_cons, List.length_nil, sByte] at this ⊢; omega
  | [], _ => by simp [rowsT, linesT]
  | [a], h => by
    have := wordsB_len [a] h
    rw [rows_few [a] (by simp) (by simp)]
    simp only [List.length_append, List.length_cons, List.length_nil, sByte] at this ⊢; omega
  | [a, b], h => by
    have := wordsB_len [a, b] h
    rw [rows_few [a, b] (by simp) (by simp)]
    simp only [List.length_append, List.length_cons, List.length_nil, sByte] at this ⊢; omega
  | [a, b, c], h => by
    have := wordsB_len [a, b, c] h
    rw [rows_few [a, b, c] (by simp) (by simp)]
    simp only [List.length_append, List.length_cons, List.length_nil, sByte] at this ⊢; omega
theorem textP_len (x : Int) (code : List Int) (hx : 0 ≤ x ∧ x ≤ 32) (h : ∀ b ∈ code, Byt b) : (textP x code).length ≤ 40 * code.length + 100 := by
  have h1 := rows_len code h
  have h2 := decI_len x (by omega) (by omega)
  rw [textP_eq, List.length_append]
  split
  · simp [extraRow, joinW, sExtra]; omega
  · simp; omega
theorem textP_ascii (x : Int) (code : List Int) (hx : 0 ≤ x ∧ x ≤ 32) (h : ∀ b ∈ code, Byt b) : ∀ b ∈ textP x code, b.toNat < 128 := by
  intro b hb
  unfold textP linesT at hb
  rw [List.mem_flatMap] at hb
  obtain ⟨r, hr, hb⟩ := hb
  rcases List.mem_append.1 hb with hb | hb
  · exact (((rowsP_ok x code hx h).1 r hr).mem b hb).2
  · rw [List.mem_singleton.1 hb]; decide
theorem pages_l0 (x : Int) (n : Nat) (hn : n ≤ 2048) (hx : 0 ≤ x ∧ x ≤ 255) : ∀ (d i k : Nat), i + d = (n + 63) / 64 → d < k → Ref.garrisonref16_Pages.l0 k x (n : Int) (i : Int) = some ((((n + 63) / 64 : Nat) : Int) + x)
  | d, i, 0, _, hk => by omega
  | 0, i, k + 1, hi, _ => by
    have e1 : wrap64 ((i : Int) * 64) = (i : Int) * 64 := by unfold wrap64; omega
    have e2 : wrap64 ((i : Int) + x) = (i : Int) + x := by unfold wrap64; omega
    rw [Ref.garrisonref16_Pages.l0, e1, if_neg (by omega), e2]
    congr 1
    omega
  | d + 1, i, k + 1, hi, hk => by
    have e1 : wrap64 ((i : Int) * 64) = (i : Int) * 64 := by unfold wrap64; omega
    have e2 : wrap64 ((i : Int) + 1) = ((i + 1 : Nat) : Int) := by unfold wrap64; omega
    rw [Ref.garrisonref16_Pages.l0, e1, if_pos (by omega), e2]
    exact pages_l0 x n hn hx d (i + 1) k (by omega) (by omega)
theorem fits_eq (x : Int) (n : Nat) (hn : n ≤ 2048) (hx : 0 ≤ x ∧ x ≤ 255) : Ref.garrisonref16_Fits.f 100 x (n : Int) = some (decide (fileI x n = 0)) := by
  unfold Ref.garrisonref16_Fits.f fileI
  by_cases h0 : n = 0
  · subst h0
    rw [if_neg (by simp), if_pos (by simp)]; rfl
  · rw [if_pos (by omega), if_pos (by omega), if_neg (by omega), if_neg (by omega)]
    have := pages_l0 x n hn hx ((n + 63) / 64) 0 100 (by omega) (by omega)
    unfold Ref.garrisonref16_Pages.f
    rw [show ((0 : Nat) : Int) = 0 from rfl] at this
    rw [this]
    simp only [Option.bind_some]
    congr 1
    by_cases h1 : ((n : Int) + 63) / 64 + x > 32
    · rw [if_pos h1, decide_eq_false (by omega)]; rfl
    · rw [if_neg h1, decide_eq_true (by omega)]; rfl
theorem fits_any (x : Int) (n : Nat) (hn : n ≤ 2048) (hx : 0 ≤ x ∧ x ≤ 255) (w : World) : Calls Tryd.prog 19 #[.int .i64 x, .int .i64 n] w fun e w' => e = .returned (.bool (decide (fileI x n = 0))) ∧ Below w.heap.size w w' := by
  refine (Ref.garrisonref16_Fits.calls 100 x n _ w (fits_eq x n hn hx)).mono ?_
  rintro e w' ⟨rfl, m, rfl⟩
  exact ⟨rfl, ⟨rfl, rfl, rfl, Nat.le_refl _, fun _ _ => rfl⟩⟩
end Go.Proofs.YtlaohefgofmfdaaDoor
