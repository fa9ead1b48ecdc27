/- A text's lines and a line's words, in plain Lean. -/
import Derived.Test.YtlaohefgofmfdaaDoorSpec
import Derived.Lib.Split
namespace Go.Proofs.YtlaohefgofmfdaaDoor
open Go
/-- The pieces between the newlines. -/
def splitNL : Bs → List Bs
  | [] => [[]]
  | c :: r => if c = 10 then [] :: splitNL r else match splitNL r with
    | [] => [[c]]
    | h :: t => (c :: h) :: t
theorem pre10 (c : UInt8) (r : Bs) : List.isPrefixOf [10] (c :: r) = decide (c = 10) := by
  simp only [List.isPrefixOf, Bool.and_true]
  rw [Bool.eq_iff_iff]; simp; exact eq_comm
theorem index_nl_same (r : Bs) : Lib.index (10 :: r) [10] = 0 := by rw [Lib.index, if_pos (by rw [pre10]; rfl)]
theorem index_nl_other (c : UInt8) (r : Bs) (h : c ≠ 10) : Lib.index (c :: r) [10] = if Lib.index r [10] == -1 then -1 else Lib.index r [10] + 1 := by
  rw [Lib.index, if_neg (by rw [pre10]; simpa using h)]
theorem split_eq : ∀ l : Bs, Lib.split l [10] = splitNL l
  | [] => by
    have h : Lib.index ([] : Bs) [10] = -1 := rfl
    unfold Lib.split; rw [Lib.count_miss h]; rfl
  | c :: r => by
    have ih := split_eq r
    by_cases hc : c = 10
    · subst hc
      have h0 := index_nl_same r
      have h := Lib.count_hit (i := 0) (by simp) h0
      unfold Lib.split at ih ⊢
      rw [h, Nat.add_comm, Lib.splitK, h0]
      rw [if_neg (by decide), splitNL, if_pos rfl, ← ih]
      rfl
    · have h0 := index_nl_other c r hc
      rw [splitNL, if_neg hc, ← ih]
      by_cases hm : Lib.index r [10] = -1
      · rw [hm] at h0
        have h1 : Lib.index (c :: r) [10] = -1 := h0
        unfold Lib.split
        rw [Lib.count_miss h1, Lib.count_miss hm]; rfl
      · have hge := Lib.index_ge r [10]
        obtain ⟨i, hi⟩ : ∃ i : Nat, Lib.index r [10] = i := ⟨(Lib.index r [10]).toNat, by omega⟩
        have h1 : Lib.index (c :: r) [10] = ((i + 1 : Nat) : Int) := by rw [h0, if_neg (by simpa using hm), hi]; omega
        have c1 := Lib.count_hit (by simp) h1
        have c2 := Lib.count_hit (by simp) hi
        have e : (c :: r).drop (i + 1 + [(10 : UInt8)].length) = r.drop (i + [(10 : UInt8)].length) := by simp
        rw [e] at c1
        have e1 : ¬ (Lib.index (c :: r) [10] == -1) = true := fun e => by have := beq_iff_eq.1 e; omega
        have e2 : ¬ (Lib.index r [10] == -1) = true := fun e => by have := beq_iff_eq.1 e; omega
        unfold Lib.split
        rw [c1, c2, Nat.add_comm, Lib.splitK, Lib.splitK, if_neg e1, if_neg e2, h1, hi]
        simp only [Int.toNat_natCast, e]
        simp
theorem splitNL_line : ∀ (a b : Bs), (∀ c ∈ a, c ≠ 10) → splitNL (a ++ 10 :: b) = a :: splitNL b
  | [], b, _ => by simp [splitNL]
  | c :: a, b, h => by
    rw [List.cons_append, splitNL, if_neg (h c List.mem_cons_self), splitNL_line a b fun x hx => h x (List.mem_cons_of_mem _ hx)]
theorem splitNL_last : ∀ (a : Bs), (∀ c ∈ a, c ≠ 10) → splitNL a = [a]
  | [], _ => rfl
  | c :: a, h => by
    rw [splitNL, if_neg (h c List.mem_cons_self), splitNL_last a fun x hx => h x (List.mem_cons_of_mem _ hx)]
theorem splitNL_bd : ∀ (l : Bs), (splitNL l).length ≤ l.length + 1 ∧ ∀ p ∈ splitNL l, p.length ≤ l.length ∧ ∀ x ∈ p, x ∈ l
  | [] => by simp [splitNL]
  | c :: r => by
    obtain ⟨h1, h2⟩ := splitNL_bd r
    rw [splitNL]
    split
    · refine ⟨by simp; exact h1, fun p hp => ?_⟩
      rcases List.mem_cons.1 hp with rfl | hp
      · simp
      · obtain ⟨h3, h4⟩ := h2 p hp
        exact ⟨by simp; omega, fun x hx => List.mem_cons_of_mem _ (h4 x hx)⟩
    · cases hs : splitNL r with
      | nil => refine ⟨by simp, fun p hp => ?_⟩; rw [List.mem_singleton.1 hp]; simp
      | cons a t =>
        rw [hs] at h1 h2
        refine ⟨by simp at h1 ⊢; omega, fun p hp => ?_⟩
        rcases List.mem_cons.1 hp with rfl | hp
        · obtain ⟨h3, h4⟩ := h2 a List.mem_cons_self
          exact ⟨by simp; omega, fun x hx => by
            rcases List.mem_cons.1 hx with rfl | hx
            · exact List.mem_cons_self
            · exact List.mem_cons_of_mem _ (h4 x hx)⟩
        · obtain ⟨h3, h4⟩ := h2 p (List.mem_cons_of_mem _ hp)
          exact ⟨by simp; omega, fun x hx => List.mem_cons_of_mem _ (h4 x hx)⟩
theorem fieldsGo_bd : ∀ (l cur : Bs) , (Lib.fieldsGo cur l).length ≤ l.length + (if cur.isEmpty then 0 else 1) ∧ ∀ p ∈ Lib.fieldsGo cur l, p.length ≤ cur.length + l.length
  | [], cur => by
    unfold Lib.fieldsGo
    split
    · simp
    · rename_i h; simp [h]
  | b :: l, cur => by
    obtain ⟨h1, h2⟩ := fieldsGo_bd l []
    obtain ⟨h3, h4⟩ := fieldsGo_bd l (cur ++ [b])
    have e : (cur ++ [b]).isEmpty = false := by cases cur <;> rfl
    rw [e] at h3
    simp only [List.isEmpty_nil, if_true] at h1
    unfold Lib.fieldsGo
    split
    · split
      · exact ⟨by simp; omega, fun p hp => by have := h2 p hp; simp at this ⊢; omega⟩
      · refine ⟨by simp; omega, fun p hp => ?_⟩
        rcases List.mem_cons.1 hp with rfl | hp
        · simp
        · have := h2 p hp; simp at this ⊢; omega
    · exact ⟨by simp at h3 ⊢; omega, fun p hp => by have := h4 p hp; simp at this ⊢; omega⟩
theorem cut_len (l : Bs) : (Lib.cut l [35]).1.length ≤ l.length := by
  unfold Lib.cut
  split
  · simp only [List.length_take]; exact Nat.min_le_right _ _
  · exact Nat.le_refl _
theorem lineWords_bd (l : Bs) : (lineWords l).length ≤ l.length ∧ ∀ p ∈ lineWords l, p.length ≤ l.length := by
  have h := fieldsGo_bd (Lib.cut l [35]).1 []
  have hc := cut_len l
  exact ⟨by have := h.1; simp only [List.isEmpty_nil, if_true] at this; unfold lineWords Lib.fields; omega, fun p hp => by have := h.2 p hp; simp at this; omega⟩
theorem bodyGo_lines (i : Int) (st : PS) (pl : Places) (ws : List Bs) : (bodyGo i st pl ws).2.lines.length ≤ st.lines.length + 1 := by
  cases ws with
  | nil => simp [bodyGo]
  | cons h t =>
    rw [bodyGo]
    split
    · split <;> simp
    · simp
theorem readGo_lines : ∀ (rows : List Bs) (i : Int) (st : PS), (readGo i st rows).2.2.lines.length ≤ st.lines.length + rows.length
  | [], i, st => by simp [readGo]
  | l :: rest, i, st => by
    rw [readGo]
    split
    · split
      · have h1 := readGo_lines rest (i + 1) (bodyGo i st (labelsGo st.size st.pl (lineWords l)).2.1 (labelsGo st.size st.pl (lineWords l)).2.2).2
        have h2 := bodyGo_lines i st (labelsGo st.size st.pl (lineWords l)).2.1 (labelsGo st.size st.pl (lineWords l)).2.2
        simp only [List.length_cons]; omega
      · simp
    · simp
end Go.Proofs.YtlaohefgofmfdaaDoor
