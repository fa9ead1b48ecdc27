/- Laws on a map from strings to ints, over any program. -/
import Derived.Test.YtlaohefgofmfdaaDoorLaws
import Derived.Test.YtlaohefgofmfdaaDoorSpec
namespace Go.Proofs.YtlaohefgofmfdaaDoor
open Go Go.RowKit
/-- A block is a map whose entries are these, in their order. -/
def MapIs (w : World) (m : Nat) (l : List (List UInt8 × Int)) : Prop :=
  ∃ es clock, w.heap[m]? = some (.map es clock) ∧ es.toList.map (fun e => (e.key, e.val)) = l.map fun p => (Value.string ⟨p.1.toArray⟩, Value.int .i64 p.2)
theorem str_beq (s : ByteArray) (l : List UInt8) : ((s == (⟨l.toArray⟩ : ByteArray)) = true) ↔ l = s.data.toList := by
  rw [beq_toListBytes, ByteArray.toList_mk, ByteArray.toList_eq, beq_iff_eq]
  exact eq_comm
theorem findNow_str (s : ByteArray) : ∀ (es : List MapEntry) (l : List (List UInt8 × Int)) (i : Nat), es.map (fun e => (e.key, e.val)) = l.map (fun p => (Value.string ⟨p.1.toArray⟩, Value.int .i64 p.2)) →
    match lookupP s.data.toList l with
    | none => Instr.findNow .string (.string s) es i = some none
    | some v => ∃ k, Instr.findNow .string (.string s) es i = some (some (k, .int .i64 v))
  | [], [], i, _ => by simp [lookupP, Instr.findNow]
  | [], _ :: _, _, h => by simp at h
  | _ :: _, [], _, h => by simp at h
  | e :: es, p :: l, i, h => by
    simp only [List.map_cons, List.cons.injEq, Prod.mk.injEq] at h
    obtain ⟨⟨hk, hv⟩, ht⟩ := h
    have ih := findNow_str s es l (i + 1) ht
    simp only [lookupP, Instr.findNow, hk, Instr.sameNow]
    by_cases hp : p.1 = s.data.toList
    · have hb : (s == (⟨p.1.toArray⟩ : ByteArray)) = true := (str_beq s p.1).2 hp
      rw [if_pos hp, hb]
      exact ⟨i, by simp [hv]⟩
    · have hb : (s == (⟨p.1.toArray⟩ : ByteArray)) = false := by
        rw [Bool.eq_false_iff]; intro h; exact hp ((str_beq s p.1).1 h)
      rw [if_neg hp, hb]
      exact ih
section
variable {P : Program} {w : World} {T K E : TypeId}
theorem checkKey_str (hK : P.underlying K = some .string) (b : Bool) (n : Nat) (s : ByteArray) (w : World) : (Instr.checkKey b (n + 1) K (.string s)).run P w = .ok () w := by
  unfold Instr.checkKey
  rw [Sem.run_bind, run_underlying hK]
  rfl
theorem run_getObj {r : Nat} {es : Array MapEntry} {clock : Nat} (h : w.heap[r]? = some (.map es clock)) : (getObj r).run P w = .ok (.map es clock) w := by
  simp [getObj, Sem.run, h]
/-- 'v, ok := m[k]'. -/
theorem run_lookup_str (hT : P.underlying T = some (.map K E)) (hK : P.underlying K = some .string) {i : TypeInfo} (hE : P.info? E = some i) (hz : i.zero = some (.int .i64 0))
    {m : Nat} {l : List (List UInt8 × Int)} (hm : MapIs w m l) (s : ByteArray) :
    (Instr.lookup T (.map (some m)) (.string s) true).run P w = .ok (.tuple #[.int .i64 ((lookupP s.data.toList l).getD 0), .bool (lookupP s.data.toList l).isSome]) w := by
  obtain ⟨es, clock, hb, hl⟩ := hm
  have hf := findNow_str s es.toList l 0 hl
  have hck := checkKey_str (P := P) hK es.isEmpty 9999 s w
  unfold Instr.lookup
  simp only [Sem.run_bind, run_underlying hT, Result.andThen_ok, run_getObj hb, Sem.run_pure, hck, Instr.findKey, run_underlying hK]
  cases hq : lookupP s.data.toList l with
  | none =>
    rw [hq] at hf
    simp [hf, run_zero hE hz]
  | some v =>
    rw [hq] at hf
    obtain ⟨k, hk⟩ := hf
    simp [hk]
/-- 'm[k] = v' of a key that was not there. -/
theorem run_mapUpdate_str (hT : P.underlying T = some (.map K E)) (hK : P.underlying K = some .string) {m : Nat} {l : List (List UInt8 × Int)} (hm : MapIs w m l) (s : ByteArray) (v : Int)
    (hnew : lookupP s.data.toList l = none) :
    ∃ o, (Instr.mapUpdate T (.map (some m)) (.string s) (.int .i64 v)).run P w = .ok () { w with heap := w.heap.setIfInBounds m o } ∧ MapIs { w with heap := w.heap.setIfInBounds m o } m (l ++ [(s.data.toList, v)]) := by
  obtain ⟨es, clock, hb, hl⟩ := hm
  have hf := findNow_str s es.toList l 0 hl
  rw [hnew] at hf
  have hck := checkKey_str (P := P) hK false 9999 s w
  have hlt : m < w.heap.size := (Array.getElem?_eq_some_iff.1 hb).1
  refine ⟨.map (es.push { key := .string s, val := .int .i64 v, born := clock }) (clock + 1), ?_, ?_⟩
  · unfold Instr.mapUpdate
    simp only [Sem.run_bind, run_underlying hT, Result.andThen_ok, run_getObj hb, hck, Instr.findKey, run_underlying hK, hf, Sem.run_pure]
    simp [setObj, Sem.run, hb]
  · refine ⟨_, _, by simp [hlt]; exact ⟨rfl, rfl⟩, ?_⟩
    simp [hl]
end
end Go.Proofs.YtlaohefgofmfdaaDoor
namespace Go.Proofs.YtlaohefgofmfdaaDoor
open Go Go.RowKit
/-- A way to write keys as values. -/
structure KeyWay (α : Type) [DecidableEq α] where
  kV : α → Value
  d : TypeDesc
  same : ∀ a b, Instr.sameNow d (kV a) (kV b) = some (decide (a = b))
  bits : ∀ a, Instr.sameBits 10000 (kV a) (kV a) = true
  check : ∀ {P : Program} {K : TypeId} (_ : P.underlying K = some d) (b : Bool) (n : Nat) (a : α) (w : World), (Instr.checkKey b (n + 1) K (kV a)).run P w = .ok () w
def intWay (k : IntKind) : KeyWay Int where
  kV := Value.int k
  d := .int k
  same a b := by simp [Instr.sameNow, BEq.beq]
  bits a := by simp [Instr.sameBits]
  check h b n a w := by
    unfold Instr.checkKey
    rw [Sem.run_bind, run_underlying h]
    rfl
section
variable {α : Type} [DecidableEq α] (W : KeyWay α)
/-- A block is a map whose entries are these, in their order. -/
def MapAt (w : World) (m : Nat) (l : List (α × Value)) : Prop :=
  ∃ es clock, w.heap[m]? = some (.map es clock) ∧ es.toList.map (fun e => (e.key, e.val)) = l.map fun p => (W.kV p.1, p.2)
/-- What a list of pairs has for a key. -/
def lookL (k : α) : List (α × Value) → Option Value
  | [] => none
  | p :: r => if p.1 = k then some p.2 else lookL k r
/-- The same with another value for a key that is there. -/
def setL (k : α) (v : Value) : List (α × Value) → List (α × Value)
  | [] => []
  | p :: r => if p.1 = k then (k, v) :: r else p :: setL k v r
theorem findNow_way (k : α) : ∀ (es : List MapEntry) (l : List (α × Value)) (i : Nat), es.map (fun e => (e.key, e.val)) = l.map (fun p => (W.kV p.1, p.2)) →
    (lookL k l = none ∧ Instr.findNow W.d (W.kV k) es i = some none) ∨
    (∃ j v, lookL k l = some v ∧ Instr.findNow W.d (W.kV k) es i = some (some (i + j, v)) ∧ (es[j]?).map (·.key) = some (W.kV k) ∧
      ∀ (v' : Value) (b : MapEntry → Nat), (es.modify j fun e => { e with key := W.kV k, val := v', born := b e }).map (fun e => (e.key, e.val)) = (setL k v' l).map fun p => (W.kV p.1, p.2))
  | [], [], i, _ => .inl (by simp [lookL, Instr.findNow])
  | [], _ :: _, _, h => by simp at h
  | _ :: _, [], _, h => by simp at h
  | e :: es, p :: l, i, h => by
    simp only [List.map_cons, List.cons.injEq, Prod.mk.injEq] at h
    obtain ⟨⟨hk, hv⟩, ht⟩ := h
    by_cases hp : p.1 = k
    · refine .inr ⟨0, p.2, by simp [lookL, hp], ?_, by simp [hk, hp], ?_⟩
      · simp [Instr.findNow, hk, W.same, hp, hv]
      · intro v' b
        simp [setL, hp, ht]
    · have hs : Instr.sameNow W.d (W.kV k) e.key = some false := by rw [hk, W.same]; simp [Ne.symm hp]
      rcases findNow_way k es l (i + 1) ht with ⟨h1, h2⟩ | ⟨j, v, h1, h2, h3, h4⟩
      · exact .inl ⟨by simp [lookL, hp, h1], by simp [Instr.findNow, hs, h2]⟩
      · refine .inr ⟨j + 1, v, by simp [lookL, hp, h1], by simp [Instr.findNow, hs, h2]; omega, by simpa using h3, ?_⟩
        intro v' b
        have := h4 v' b
        simp [setL, hp, hk, hv, this]
variable {P : Program} {w : World} {T K E : TypeId}
theorem run_lookup_way (hT : P.underlying T = some (.map K E)) (hK : P.underlying K = some W.d) {i : TypeInfo} {z : Value} (hE : P.info? E = some i) (hz : i.zero = some z)
    {m : Nat} {l : List (α × Value)} (hm : MapAt W w m l) (k : α) (ok : Bool) :
    (Instr.lookup T (.map (some m)) (W.kV k) ok).run P w = .ok (if ok then .tuple #[(lookL k l).getD z, .bool (lookL k l).isSome] else (lookL k l).getD z) w := by
  obtain ⟨es, clock, hb, hl⟩ := hm
  have hck := W.check (P := P) hK es.isEmpty 9999 k w
  have hg : (getObj m).run P w = .ok (.map es clock) w := by simp [getObj, Sem.run, hb]
  unfold Instr.lookup
  simp only [Sem.run_bind, run_underlying hT, Result.andThen_ok, hg, Sem.run_pure, hck, Instr.findKey, run_underlying hK]
  rcases findNow_way W k es.toList l 0 hl with ⟨h1, h2⟩ | ⟨j, v, h1, h2, _, _⟩
  · simp [h1, h2, run_zero hE hz]
  · simp [h1, h2]
/-- 'm[k] = v'. -/
theorem run_mapUpdate_way (hT : P.underlying T = some (.map K E)) (hK : P.underlying K = some W.d) {m : Nat} {l : List (α × Value)} (hm : MapAt W w m l) (k : α) (v : Value) :
    ∃ es clock, (Instr.mapUpdate T (.map (some m)) (W.kV k) v).run P w = .ok () { w with heap := w.heap.setIfInBounds m (.map es clock) } ∧
      MapAt W { w with heap := w.heap.setIfInBounds m (.map es clock) } m (if (lookL k l).isSome then setL k v l else l ++ [(k, v)]) := by
  obtain ⟨es, clock, hb, hl⟩ := hm
  have hck := W.check (P := P) hK false 9999 k w
  have hg : (getObj m).run P w = .ok (.map es clock) w := by simp [getObj, Sem.run, hb]
  have hlt : m < w.heap.size := (Array.getElem?_eq_some_iff.1 hb).1
  rcases findNow_way W k es.toList l 0 hl with ⟨h1, h2⟩ | ⟨j, u, h1, h2, h3, h4⟩
  · refine ⟨es.push { key := W.kV k, val := v, born := clock }, clock + 1, ?_, ?_⟩
    · unfold Instr.mapUpdate
      simp only [Sem.run_bind, run_underlying hT, Result.andThen_ok, hg, hck, Instr.findKey, run_underlying hK, h2, Sem.run_pure]
      simp [setObj, Sem.run, hb]
    · refine ⟨_, _, by simp [hlt]; exact ⟨rfl, rfl⟩, ?_⟩
      simp [hl, h1]
  · refine ⟨es.modify j fun e => { e with key := W.kV k, val := v }, clock, ?_, ?_⟩
    · have h3' : ((es[j]?).map (·.key)).getD (W.kV k) = W.kV k := by
        rw [show (es[j]?).map (·.key) = some (W.kV k) by simpa using h3]; rfl
      unfold Instr.mapUpdate
      simp only [Sem.run_bind, run_underlying hT, Result.andThen_ok, hg, hck, Instr.findKey, run_underlying hK, h2, Sem.run_pure, Nat.zero_add, h3', Instr.keyThatStays, W.bits, if_true]
      simp [setObj, Sem.run, hb]
    · refine ⟨_, _, by simp [hlt]; exact ⟨rfl, rfl⟩, ?_⟩
      have := h4 v (fun e => e.born)
      simp only [Array.toList_modify]
      simpa [h1] using this
theorem setLast (w : World) (o o' : Obj) : { w.alloc o with heap := (w.alloc o).heap.setIfInBounds w.heap.size o' } = w.alloc o' := by
  have h : (w.heap.push o).setIfInBounds w.heap.size o' = w.heap.push o' := by
    apply Array.ext'
    simp [List.set_append]
  show World.mk _ _ _ _ _ = World.mk _ _ _ _ _
  simp only [World.alloc]
  rw [h]
theorem getLast (w : World) (es : Array MapEntry) (cl : Nat) : (getObj w.heap.size).run P (w.alloc (.map es cl)) = .ok (.map es cl) (w.alloc (.map es cl)) := by
  have h : (w.alloc (.map es cl)).heap[w.heap.size]? = some (.map es cl) := heap_alloc_new _ _
  simp only [getObj, Sem.run, h]
/-- A new entry of the map that was made last. -/
theorem run_insert_last (hT : P.underlying T = some (.map K E)) (hK : P.underlying K = some W.d) (es : Array MapEntry) (cl : Nat) (k : α) (v : Value) (hf : Instr.findNow W.d (W.kV k) es.toList 0 = some none) (n : Nat) (hn : n = w.heap.size) :
    (Instr.mapUpdate T (.map (some n)) (W.kV k) v).run P (w.alloc (.map es cl)) = .ok () (w.alloc (.map (es.push { key := W.kV k, val := v, born := cl }) (cl + 1))) := by
  subst hn
  have hck := W.check (P := P) hK false 9999 k (w.alloc (.map es cl))
  have h : (w.alloc (.map es cl)).heap[w.heap.size]? = some (.map es cl) := heap_alloc_new _ _
  unfold Instr.mapUpdate
  simp only [Sem.run_bind, run_underlying hT, Result.andThen_ok, getLast, hck, Instr.findKey, run_underlying hK, hf, Sem.run_pure]
  simp only [setObj, Sem.run, h, setLast]
end
end Go.Proofs.YtlaohefgofmfdaaDoor
