/- How the source of package asm lies in memory. -/
import Derived.Test.YtlaohefgofmfdaaDoorAsm8
import Derived.Test.YtlaohefgofmfdaaDoorSpec
namespace Go.Proofs.YtlaohefgofmfdaaDoor
open Go Go.RowKit
/-- A slice of words that lies in a block of strings. -/
def WordsB (w : World) (B : Nat) (v : Value) (ws : List Bs) : Prop :=
  ∃ (b o c : Nat) (ws0 : List Bs), B ≤ b ∧ w.heap[b]? = some (.cells (ws0.map bsV).toArray 9 (0, 0)) ∧ v = .slice (some ⟨b, o, none⟩) ws.length c ∧ ws.length ≤ c ∧ c + o ≤ ws0.length ∧ ∀ j, j < ws.length → ws0[o + j]? = some (ws.getD j [])
theorem WordsB.at {w : World} {B : Nat} {v : Value} {ws : List Bs} (h : WordsB w B v ws) : WordsAt w v ws := by
  obtain ⟨b, o, c, ws0, _, hh, rfl, hc, _, hw⟩ := h
  refine ⟨b, o, c, rfl, hc, fun j hj => ?_⟩
  rw [cell_of_row w b (o + j) _ _ _ hh]
  simp [hw j hj]
/-- Other blocks may turn. -/
theorem WordsB.kept {w w' : World} {B : Nat} {v : Value} {ws : List Bs} (h : WordsB w B v ws) (hk : ∀ k cs, B ≤ k → w.heap[k]? = some (.cells cs 9 (0, 0)) → w'.heap[k]? = w.heap[k]?) : WordsB w' B v ws := by
  obtain ⟨b, o, c, ws0, hb, hh, r⟩ := h
  exact ⟨b, o, c, ws0, hb, (hk b _ hb hh).trans hh, r⟩
theorem WordsB.below {w w' : World} {B : Nat} {v : Value} {ws : List Bs} (h : WordsB w B v ws) (hb : Below w.heap.size w w') : WordsB w' B v ws :=
  h.kept fun k _ _ hh => hb.block k (Array.getElem?_eq_some_iff.1 hh).1
/-- The lines' cells. -/
def lineCells (ls : List (Int × List Bs)) (vs : List Value) : List Value := (ls.zip vs).flatMap fun p => [.int .i64 p.1.1, p.2]
structure SrcAt (w : World) (B X m : Nat) (lv : Value) (vs : List Value) (st : PS) : Prop where
  hXm : m < B ∧ X < B ∧ m ≠ X ∧ B ≤ w.heap.size
  hX : w.heap[X]? = some (.cells #[lv, .map (some m), .int .u8 st.extra, .int .i64 st.size] 59 (0, 0))
  hm : MapIs w m st.pl
  len : vs.length = st.lines.length
  own : w.ownsRow B 61 2 lv st.lines.length (lineCells st.lines vs)
  words : ∀ j, j < st.lines.length → WordsB w B (vs.getD j undef) (st.lines.getD j (0, [])).2
variable {w w' : World} {B X m : Nat} {lv : Value} {vs : List Value} {st : PS}
theorem SrcAt.below (h : SrcAt w B X m lv vs st) (hb : Below w.heap.size w w') : SrcAt w' B X m lv vs st :=
  ⟨⟨h.hXm.1, h.hXm.2.1, h.hXm.2.2.1, Nat.le_trans h.hXm.2.2.2 hb.size⟩, (hb.block X (by have := h.hXm; omega)).trans h.hX, mapIs_below h.hm hb, h.len, ownsRow_below h.own hb, fun j hj => (h.words j hj).below hb⟩
theorem SrcAt.cell (h : SrcAt w B X m lv vs st) : w.cell? ⟨X, 0, none⟩ = some lv ∧ w.cell? ⟨X, 1, none⟩ = some (.map (some m)) ∧ w.cell? ⟨X, 2, none⟩ = some (.int .u8 st.extra) ∧ w.cell? ⟨X, 3, none⟩ = some (.int .i64 st.size) ∧ ∀ i, w.frozen? ⟨X, i, none⟩ = false := by
  refine ⟨?_, ?_, ?_, ?_, fun i => frozen_of_row _ _ _ _ _ h.hX⟩
  all_goals rw [cell_of_row _ _ _ _ _ _ h.hX]; rfl
theorem own_kept {n : Nat} {xs : List Value} (h : w.ownsRow B 61 2 lv n xs) (hk : ∀ k, B ≤ k → w'.heap[k]? = w.heap[k]?) : w'.ownsRow B 61 2 lv n xs := by
  obtain ⟨h1, h2 | ⟨g, cap, cur, rfl, hg, hh, r⟩⟩ := h
  · exact ⟨h1, .inl h2⟩
  · exact ⟨h1, .inr ⟨g, cap, cur, rfl, hg, (hk g hg).trans hh, r⟩⟩
/-- A new place. -/
theorem SrcAt.map (h : SrcAt w B X m lv vs st) (o : Obj) (pl : Places) (hm : MapIs { w with heap := w.heap.setIfInBounds m o } m pl) : SrcAt { w with heap := w.heap.setIfInBounds m o } B X m lv vs { st with pl := pl } := by
  have hk : ∀ k, k ≠ m → ({ w with heap := w.heap.setIfInBounds m o } : World).heap[k]? = w.heap[k]? := fun k hk => by
    simp [Array.getElem?_setIfInBounds, Ne.symm hk]
  refine ⟨by simpa using h.hXm, (hk X (Ne.symm h.hXm.2.2.1)).trans h.hX, hm, h.len, own_kept h.own fun k hB => hk k (by have := h.hXm; omega), fun j hj => (h.words j hj).kept fun k _ hB _ => hk k (by have := h.hXm; omega)⟩
theorem setX (h : SrcAt w B X m lv vs st) (i : Nat) (u : Value) :
    (w.setCell ⟨X, i, none⟩ u).heap[X]? = some (.cells ((#[lv, .map (some m), .int .u8 st.extra, .int .i64 st.size] : Array Value).setIfInBounds i u) 59 (0, 0)) ∧ ∀ k, k ≠ X → (w.setCell ⟨X, i, none⟩ u).heap[k]? = w.heap[k]? :=
  ⟨heap_setCell_same _ _ _ _ _ _ h.hX, fun k hk => heap_setCell_other _ _ _ _ hk⟩
theorem SrcAt.size (h : SrcAt w B X m lv vs st) (n : Int) : SrcAt (w.setCell ⟨X, 3, none⟩ (.int .i64 n)) B X m lv vs { st with size := n } := by
  obtain ⟨h1, h2⟩ := setX h 3 (.int .i64 n)
  obtain ⟨es, cl, e1, e2⟩ := h.hm
  exact ⟨by simpa using h.hXm, h1, ⟨es, cl, (h2 m h.hXm.2.2.1).trans e1, e2⟩, h.len, own_kept h.own fun k hB => h2 k (by have := h.hXm; omega), fun j hj => (h.words j hj).kept fun k _ hB _ => h2 k (by have := h.hXm; omega)⟩
theorem SrcAt.mark (h : SrcAt w B X m lv vs st) (x : Option Int) : SrcAt (markX X x w) B X m lv vs { st with extra := x.getD st.extra } := by
  cases x with
  | none => exact h
  | some n =>
    obtain ⟨h1, h2⟩ := setX h 2 (.int .u8 n)
    obtain ⟨es, cl, e1, e2⟩ := h.hm
    exact ⟨by simpa [markX] using h.hXm, h1, ⟨es, cl, (h2 m h.hXm.2.2.1).trans e1, e2⟩, h.len, own_kept h.own fun k hB => h2 k (by have := h.hXm; omega), fun j hj => (h.words j hj).kept fun k _ hB _ => h2 k (by have := h.hXm; omega)⟩
theorem lineCells_snoc (ls : List (Int × List Bs)) (vs : List Value) (h : vs.length = ls.length) (i : Int) (ws : List Bs) (v : Value) : lineCells (ls ++ [(i, ws)]) (vs ++ [v]) = lineCells ls vs ++ [.int .i64 i, v] := by
  simp [lineCells, List.zip_append h.symm]
theorem getD_left {α : Type} (l r : List α) (d : α) (j : Nat) (h : j < l.length) : (l ++ r).getD j d = l.getD j d := by
  simp [List.getD, List.getElem?_append_left h]
theorem getD_last {α : Type} (l : List α) (x d : α) : (l ++ [x]).getD l.length d = x := by
  simp [List.getD]
/-- One line more. -/
theorem SrcAt.line (h : SrcAt w B X m lv vs st) {w1 : World} {lv' v : Value} {i : Int} {ws : List Bs} (hg : w.grownBy w1 lv.ownBlock)
    (hown : w1.ownsRow B 61 2 lv' (st.lines.length + 1) (lineCells st.lines vs ++ [.int .i64 i, v])) (hw : WordsB w B v ws) :
    SrcAt (w1.setCell ⟨X, 0, none⟩ lv') B X m lv' (vs ++ [v]) { st with lines := st.lines ++ [(i, ws)] } := by
  have hrow : ∀ g, lv.ownBlock = some g → B ≤ g ∧ ∃ cs, w.heap[g]? = some (.cells cs 61 (0, 0)) := by
    intro g hgg
    obtain ⟨_, ⟨rfl, _⟩ | ⟨g', cap, cur, rfl, hb, hh, _⟩⟩ := h.own
    · simp [Value.ownBlock] at hgg
    · simp [Value.ownBlock] at hgg; subst hgg; exact ⟨hb, cur, hh⟩
  have hlow : ∀ k, k < B → w1.heap[k]? = w.heap[k]? := fun k hk => hg.block k (by have := h.hXm; omega) (fun e => by have := (hrow k e.symm).1; omega)
  have hwk : ∀ k cs, B ≤ k → w.heap[k]? = some (.cells cs 9 (0, 0)) → (w1.setCell ⟨X, 0, none⟩ lv').heap[k]? = w.heap[k]? := by
    intro k cs hB hh
    rw [heap_setCell_other _ _ _ _ (by have := h.hXm; simp; omega)]
    refine hg.block k (Array.getElem?_eq_some_iff.1 hh).1 (fun e => ?_)
    obtain ⟨_, cs', h2⟩ := hrow k e.symm
    rw [hh] at h2
    cases h2
  have hX1 : w1.heap[X]? = some (.cells #[lv, .map (some m), .int .u8 st.extra, .int .i64 st.size] 59 (0, 0)) := (hlow X h.hXm.2.1).trans h.hX
  refine ⟨⟨h.hXm.1, h.hXm.2.1, h.hXm.2.2.1, by simpa using Nat.le_trans h.hXm.2.2.2 hg.size⟩, heap_setCell_same _ _ _ _ _ _ hX1, ?_, by simp [h.len], ?_, ?_⟩
  · obtain ⟨es, cl, e1, e2⟩ := h.hm
    exact ⟨es, cl, by rw [heap_setCell_other _ _ _ _ h.hXm.2.2.1]; exact (hlow m h.hXm.1).trans e1, e2⟩
  · have : (w1.setCell ⟨X, 0, none⟩ lv').ownsRow B 61 2 lv' (st.lines.length + 1) (lineCells st.lines vs ++ [.int .i64 i, v]) := own_kept hown fun k hB => heap_setCell_other _ _ _ _ (by have := h.hXm; simp; omega)
    simp only [List.length_append, List.length_singleton]
    rw [lineCells_snoc _ _ h.len]
    exact this
  · intro j hj
    simp only [List.length_append, List.length_singleton] at hj
    by_cases hlt : j < st.lines.length
    · rw [getD_left _ _ _ _ (by rw [h.len]; exact hlt), getD_left _ _ _ _ hlt]
      exact (h.words j hlt).kept hwk
    · have hj' : j = st.lines.length := by omega
      subst hj'
      rw [getD_last]
      rw [← h.len, getD_last]
      exact hw.kept hwk
end Go.Proofs.YtlaohefgofmfdaaDoor
