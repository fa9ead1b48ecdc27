/- Numbers as texts, and a line's words put together: in plain Lean. -/
import Derived.Test.YtlaohefgofmfdaaDoorNl
namespace Go.Proofs.YtlaohefgofmfdaaDoor
open Go
/-- A digit's letter. -/
def dgt (n : Nat) : UInt8 := UInt8.ofNat (48 + n)
theorem dgt_toNat (n : Nat) (h : n < 10) : (dgt n).toNat = 48 + n := by
  unfold dgt; simp; omega
/-- A number of base ten. -/
def decN (n : Nat) : Bs := if n < 10 then [dgt n] else decN (n / 10) ++ [dgt (n % 10)]
termination_by n
def decI (n : Int) : Bs := if n < 0 then 45 :: decN n.natAbs else decN n.toNat
theorem decN_small (n : Nat) (h : n < 10) : decN n = [dgt n] := by rw [decN, if_pos h]
theorem decN_big (n : Nat) (h : ¬ n < 10) : decN n = decN (n / 10) ++ [dgt (n % 10)] := by rw [decN, if_neg h]
theorem decGo_append : ∀ (a b : Bs) (n : Int), decGo n (a ++ b) = decGo (decGo n a) b
  | [], _, _ => rfl
  | c :: a, b, n => by rw [List.cons_append, decGo, decGo, decGo_append a b]
theorem decN_val (n : Nat) : decGo 0 (decN n) = n := by
  induction n using Nat.strongRecOn with
  | ind n ih =>
    by_cases h : n < 10
    · rw [decN_small n h]; simp only [decGo]; rw [dgt_toNat n h]; omega
    · rw [decN_big n h, decGo_append, ih (n / 10) (by omega)]
      simp only [decGo]; rw [dgt_toNat _ (by omega)]; omega
theorem dig_dgt (n : Nat) (h : n < 10) : dig (dgt n) = true := by
  have h0 := dgt_toNat n h
  unfold dig
  simp only [Bool.and_eq_true, decide_eq_true_eq, UInt8.le_iff_toNat_le, h0]
  exact ⟨by show 48 ≤ _; omega, by show _ ≤ 57; omega⟩
theorem decN_dig (n : Nat) : (decN n).all dig = true := by
  induction n using Nat.strongRecOn with
  | ind n ih =>
    by_cases h : n < 10
    · rw [decN_small n h]; simp [dig_dgt n h]
    · rw [decN_big n h, List.all_append, ih (n / 10) (by omega)]; simp [dig_dgt (n % 10) (by omega)]
theorem decN_len (n : Nat) : 1 ≤ (decN n).length ∧ ∀ k, n < 10 ^ (k + 1) → (decN n).length ≤ k + 1 := by
  induction n using Nat.strongRecOn with
  | ind n ih =>
    by_cases h : n < 10
    · rw [decN_small n h]; exact ⟨by simp, fun k _ => by simp⟩
    · rw [decN_big n h]
      refine ⟨by simp, fun k hk => ?_⟩
      cases k with
      | zero => simp at hk; omega
      | succ k =>
        have := (ih (n / 10) (by omega)).2 k (by rw [Nat.pow_succ] at hk; omega)
        simp; omega
theorem decN_head (n : Nat) (h : 0 < n) : (decN n).headD 0 ≠ 48 := by
  induction n using Nat.strongRecOn with
  | ind n ih =>
    by_cases h1 : n < 10
    · rw [decN_small n h1]
      intro e
      have h0 := dgt_toNat n h1
      simp only [List.headD_cons] at e
      rw [e] at h0
      have : (48 : UInt8).toNat = 48 := rfl
      omega
    · rw [decN_big n h1]
      have h2 := ih (n / 10) (by omega) (by omega)
      have h3 := (decN_len (n / 10)).1
      cases hd : decN (n / 10) with
      | nil => rw [hd] at h3; simp at h3
      | cons a r => rw [hd] at h2; simpa using h2
theorem head_dig (l : Bs) (h : l.all dig = true) (h1 : 1 ≤ l.length) : dig (l.headD 0) = true := by
  cases l with
  | nil => simp at h1
  | cons a r => simp at h; simpa using h.1
theorem digits_decN (n : Nat) (h : n < 1000000) : digitsI (decN n) = some (n : Int) := by
  have h1 := decN_len n
  have h2 := h1.2 5 (by omega)
  have h3 : ¬ (1 < (decN n).length ∧ (decN n).headD 0 = 48) := by
    rintro ⟨ha, hb⟩
    by_cases h0 : n = 0
    · subst h0; rw [decN_small 0 (by omega)] at ha; simp at ha
    · exact decN_head n (by omega) hb
  unfold digitsI
  rw [if_pos ⟨h1.1, h2, h3, decN_dig n⟩, decN_val]
theorem num_decN (n : Nat) (h : n < 1000000) : numI (decN n) = some (n : Int) := by
  have h1 := head_dig _ (decN_dig n) (decN_len n).1
  have h2 : (decN n).headD 0 ≠ 45 := by
    intro e
    rw [e] at h1
    exact absurd h1 (by decide)
  unfold numI
  rw [if_neg h2, digits_decN n h]
theorem numI_neg (s : Bs) (h : s ≠ [48]) : numI (45 :: s) = (digitsI s).map fun n => -n := by
  unfold numI
  show (if (45 : UInt8) = 45 then (if s = [48] then none else (digitsI s).map fun n => -n) else digitsI (45 :: s)) = _
  rw [if_pos rfl, if_neg h]
theorem num_decI (n : Int) (h0 : -1000000 < n) (h1 : n < 1000000) : numI (decI n) = some n := by
  unfold decI
  by_cases h : n < 0
  · have h2 : decN n.natAbs ≠ [48] := by
      intro e
      have := decN_head n.natAbs (by omega)
      rw [e] at this
      exact this rfl
    rw [if_pos h, numI_neg _ h2, digits_decN _ (by omega)]
    simp; omega
  · rw [if_neg h, num_decN _ (by omega)]
    simp; omega
theorem range_decI (n lo hi : Int) (h0 : lo ≤ n) (h1 : n ≤ hi) (h2 : -1000000 < lo) (h3 : hi < 1000000) : rangeI (decI n) lo hi = some n := by
  unfold rangeI
  rw [num_decI n (by omega) (by omega), Option.bind_some, if_pos ⟨h0, h1⟩]
theorem low_dig (c : UInt8) (h : dig c = true) : low c = false := by
  unfold dig at h; unfold low
  simp only [Bool.and_eq_true, decide_eq_true_eq, UInt8.le_iff_toNat_le] at h
  have h2 : c.toNat ≤ 57 := h.2
  rw [Bool.and_eq_false_iff]
  left
  simp only [decide_eq_false_iff_not, UInt8.le_iff_toNat_le]
  show ¬ 97 ≤ c.toNat
  omega
theorem word_decI (n : Int) : wordI (decI n) = false := by
  have : low ((decI n).headD 0) = false := by
    unfold decI
    split
    · simp only [List.headD_cons]; decide
    · exact low_dig _ (head_dig _ (decN_dig _) (decN_len _).1)
  unfold wordI
  rw [this]; simp
theorem value_decI (n lo hi : Int) (h0 : lo ≤ n) (h1 : n ≤ hi) (h2 : -1000000 < lo) (h3 : hi < 1000000) : valueI [] (decI n) lo hi = (n, 0) := by
  unfold valueI
  simp only [lookupP, word_decI, Bool.false_eq_true, if_false, range_decI n lo hi h0 h1 h2 h3]
theorem reg_decI (n : Int) (h0 : 0 ≤ n) (h1 : n < 16) : regI (114 :: decI n) = some n := by
  unfold regI
  simp only [List.headD_cons, List.tail_cons, ↓reduceIte]
  exact range_decI n 0 15 h0 (by omega) (by decide) (by decide)
/-- A letter that may stand in a word. -/
def wch2 (c : UInt8) : Bool := !Lib.isSp c && c != 35 && c != 10 && decide (c.toNat < 128)
/-- A word: some letters, no blank, no remark. -/
def good (s : Bs) : Bool := !s.isEmpty && s.all wch2
theorem wch2_dig (c : UInt8) (h : dig c = true) : wch2 c = true := by
  unfold dig at h
  simp only [Bool.and_eq_true, decide_eq_true_eq, UInt8.le_iff_toNat_le] at h
  have h1 : 48 ≤ c.toNat := h.1
  have h2 : c.toNat ≤ 57 := h.2
  obtain ⟨n, hn, rfl⟩ : ∃ n, n < 10 ∧ c = dgt n := ⟨c.toNat - 48, by omega, by
    apply UInt8.toNat_inj.1
    rw [dgt_toNat _ (by omega)]; omega⟩
  have : ∀ n, n < 10 → wch2 (dgt n) = true := by decide
  exact this n hn
theorem good_decI (n : Int) : good (decI n) = true := by
  have h : ∀ k, (decN k).all wch2 = true := fun k => by
    rw [List.all_eq_true]
    intro c hc
    exact wch2_dig c (List.all_eq_true.1 (decN_dig k) c hc)
  have hne : ∀ k, (decN k).isEmpty = false := fun k => by
    have := (decN_len k).1
    cases hd : decN k with
    | nil => rw [hd] at this; simp at this
    | cons a r => rfl
  unfold decI good
  split
  · simp [h]; decide
  · simp [h, hne]
theorem good_reg (n : Int) : good (114 :: decI n) = true := by
  have := good_decI n
  unfold good at this ⊢
  simp only [Bool.and_eq_true, List.all_cons, List.isEmpty_cons] at this ⊢
  exact ⟨rfl, by decide, this.2⟩
/-- Words with blanks between. -/
def joinW : List Bs → Bs
  | [] => []
  | [a] => a
  | a :: b :: r => a ++ 32 :: joinW (b :: r)
theorem fieldsGo_word : ∀ (a cur rest : Bs), a.all wch2 = true → Lib.fieldsGo cur (a ++ rest) = Lib.fieldsGo (cur ++ a) rest
  | [], cur, rest, _ => by simp
  | c :: a, cur, rest, h => by
    simp only [List.all_cons, Bool.and_eq_true] at h
    have hc : Lib.isSp c = false := by
      have := h.1; unfold wch2 at this; simp only [Bool.and_eq_true, Bool.not_eq_true'] at this; exact this.1.1.1
    rw [List.cons_append, Lib.fieldsGo_more _ c _ hc, fieldsGo_word a _ rest h.2, List.append_assoc]; rfl
theorem fields_join : ∀ (a : Bs) (ws : List Bs), (∀ s ∈ a :: ws, good s = true) → Lib.fieldsGo [] (joinW (a :: ws)) = a :: ws
  | a, [], h => by
    have ha := h a List.mem_cons_self
    unfold good at ha
    simp only [Bool.and_eq_true] at ha
    have := fieldsGo_word a [] [] ha.2
    rw [List.append_nil, List.nil_append] at this
    rw [joinW, this]
    cases a with
    | nil => simp at ha
    | cons c r => rfl
  | a, b :: r, h => by
    have ha := h a List.mem_cons_self
    unfold good at ha
    simp only [Bool.and_eq_true] at ha
    rw [joinW, fieldsGo_word a [] _ ha.2, List.nil_append, Lib.fieldsGo_end a 32 _ (by decide) (by
      intro e; subst e; simp at ha), fields_join b r (fun s hs => h s (List.mem_cons_of_mem _ hs))]
theorem good_mem (a : Bs) (h : good a = true) (c : UInt8) (hc : c ∈ a) : c ≠ 35 ∧ c ≠ 10 ∧ c.toNat < 128 := by
  unfold good at h
  simp only [Bool.and_eq_true] at h
  have := List.all_eq_true.1 h.2 c hc
  unfold wch2 at this
  simp only [Bool.and_eq_true, bne_iff_ne, decide_eq_true_eq] at this
  exact ⟨this.1.1.2, this.1.2, this.2⟩
theorem join_mem : ∀ (ws : List Bs), (∀ s ∈ ws, good s = true) → ∀ c ∈ joinW ws, c ≠ 35 ∧ c ≠ 10 ∧ c.toNat < 128
  | [], _, c, hc => by simp [joinW] at hc
  | [a], h, c, hc => good_mem a (h a List.mem_cons_self) c hc
  | a :: b :: r, h, c, hc => by
    rw [joinW, List.mem_append] at hc
    rcases hc with hc | hc
    · exact good_mem a (h a List.mem_cons_self) c hc
    · rcases List.mem_cons.1 hc with rfl | hc
      · decide
      · exact join_mem (b :: r) (fun s hs => h s (List.mem_cons_of_mem _ hs)) c hc
theorem cut_none' : ∀ (l : Bs), (∀ c ∈ l, c ≠ 35) → Lib.index l [35] = -1
  | [], _ => rfl
  | c :: l, h => by
    have h1 : c ≠ 35 := h c List.mem_cons_self
    have e : List.isPrefixOf [35] (c :: l) = false := by
      simp only [List.isPrefixOf, Bool.and_true]
      rw [Bool.eq_false_iff]; simp; exact fun h2 => h1 h2.symm
    rw [Lib.index, if_neg (by rw [e]; simp), cut_none' l fun x hx => h x (List.mem_cons_of_mem _ hx)]; rfl
theorem words_join (a : Bs) (ws : List Bs) (h : ∀ s ∈ a :: ws, good s = true) : lineWords (joinW (a :: ws)) = a :: ws := by
  unfold lineWords Lib.cut
  rw [cut_none' _ (fun c hc => (join_mem _ h c hc).1)]
  exact fields_join a ws h
end Go.Proofs.YtlaohefgofmfdaaDoor
