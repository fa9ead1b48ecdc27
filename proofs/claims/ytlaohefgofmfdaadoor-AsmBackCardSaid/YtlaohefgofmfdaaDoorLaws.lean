/- Laws on whole arrays and structs in memory, over any program: no law of a statement stands here. -/
import Derived.WalkKit
import Derived.Laws.CopyOwn
import Derived.Laws.Rows
import Derived.KernelRfl
import Derived.Lib.Hide
namespace Go.Proofs.YtlaohefgofmfdaaDoor
open Go Go.RowKit
section
variable {P : Program} {ops : Array Oper} {rest : List Oper} {o : Oper} {a : Act} {w : World} {Q : Exit → Act → World → Prop}

/-- An operation that yields a value. -/
theorem wpList_run (hgd : o.guard = none) (v : Value) (w' : World) (hrun : (execOp a.eval o).run P w = .ok (.value v) w')
    (h : wpList P ops Q rest (a.put o.dst v) w') : wpList P ops Q (o :: rest) a w :=
  wpList_plain hgd fun _ hK => by
    unfold Oper.wp
    rw [hrun]
    exact hK _ _ h
/-- An operation that yields nothing. -/
theorem wpList_run0 (hgd : o.guard = none) (w' : World) (hrun : (execOp a.eval o).run P w = .ok .skip w')
    (h : wpList P ops Q rest (a.put o.dst undef) w') : wpList P ops Q (o :: rest) a w :=
  wpList_plain hgd fun _ hK => by
    unfold Oper.wp
    rw [hrun]
    exact hK _ _ h
/-- A literal whose parts are constants: by the kernel. -/
theorem wpList_build (hgd : o.guard = none) (t : TypeId) (parts : Array (Nat × Operand)) (ho : o.op = .build t parts) (v : Value)
    (hrun : ∀ w, (Instr.build t (parts.map fun (i, x) => (i, a.eval x))).run P w = .ok v w)
    (h : wpList P ops Q rest (a.put o.dst v) w) : wpList P ops Q (o :: rest) a w :=
  wpList_run hgd v w (by unfold execOp; simp only [ho]; rw [Sem.run_bind, hrun]; rfl) h

theorem run_zero {t : TypeId} {i : TypeInfo} {z : Value} (hi : P.info? t = some i) (hz : i.zero = some z) (w : World) : (zeroValue t).run P w = .ok z w := by
  simp [zeroValue, typeInfo, hi, hz]
theorem run_alloc {t : TypeId} {i : TypeInfo} {z : Value} (hi : P.info? t = some i) (hz : i.zero = some z) (w : World) :
    (Instr.alloc t true (.tuple #[])).run P w = .ok (.pointer (some ⟨w.heap.size, 0, none⟩)) (w.alloc (.cells z.cells t)) := by
  simp [Instr.alloc, Sem.run_bind, run_zero hi hz, newVar, newRow, newObj]; rfl
/-- The kind of a type: several cells. -/
def aggDesc : TypeDesc → Bool
  | .struct _ | .array _ _ => true
  | _ => false
theorem run_isAgg {t : TypeId} {d : TypeDesc} (hu : P.underlying t = some d) (hd : aggDesc d = true) (w : World) : (isAgg t).run P w = .ok true w := by
  unfold isAgg
  rw [Sem.run_bind, run_underlying hu w]
  cases d <;> simp_all [aggDesc]
theorem run_sizeOf {t : TypeId} {n : Nat} (hi : (P.info? t).map (·.size) = some n) (w : World) : (sizeOf t).run P w = .ok n w := by
  cases hq : P.info? t with
  | none => simp [hq] at hi
  | some i => simp [sizeOf, typeInfo, hq]; simpa [hq] using hi

/-- The cells from an offset on are replaced. -/
def splat (cur : Array Value) (off : Nat) (vs : Array Value) : Array Value := (cur.toList.take off ++ vs.toList ++ cur.toList.drop (off + vs.size)).toArray
theorem splat_whole (cur vs : Array Value) (h : cur.size = vs.size) : splat cur 0 vs = vs := by
  unfold splat; simp; rw [List.drop_of_length_le (by simp [h])]; simp
theorem size_splat (cur : Array Value) (off : Nat) (vs : Array Value) (h : off + vs.size ≤ cur.size) : (splat cur off vs).size = cur.size := by
  unfold splat; simp; omega

theorem run_storeVar {g off : Nat} {t ty : TypeId} {cur vs : Array Value} (hg : w.heap[g]? = some (.cells cur t (0, 0))) (hi : (P.info? ty).map (·.size) = some vs.size)
    (hfit : off + vs.size ≤ cur.size) (h1 : ∀ v ∈ vs.toList, v.oneCell' = true) :
    (storeVar ty ⟨g, off, none⟩ (.agg vs)).run P w = .ok () (w.setRow g (splat cur off vs)) := by
  have hst := run_storeCells_at P g off t vs.toList 0 cur w hg (by simpa using hfit) h1
  unfold storeVar
  rw [Sem.run_bind, run_sizeOf hi]
  simp [Value.cells, hst, splat]
theorem run_loadVar {g off n : Nat} {t ty : TypeId} {cs : Array Value} {fr : Nat × Nat} {d : TypeDesc} (hg : w.heap[g]? = some (.cells cs t fr))
    (hu : P.underlying ty = some d) (hd : aggDesc d = true) (hi : (P.info? ty).map (·.size) = some n) (hfit : off + n ≤ cs.size) :
    (loadVar ty ⟨g, off, none⟩).run P w = .ok (.agg (cs.extract off (off + n))) w := by
  have hlen : (cs.extract off (off + n)).size = n := by simp; omega
  have hl : (loadCells ⟨g, off, none⟩ (cs.extract off (off + n)).toList.length).run P w = .ok (cs.extract off (off + n)).toList.toArray w :=
    run_loadCells_list (P := P) w ⟨g, off, none⟩ (cs.extract off (off + n)).toList (fun j v hv => by
      have hadd : (⟨g, off, none⟩ : Addr).add j = ⟨g, off + j, none⟩ := by unfold Addr.add; split <;> simp_all
      rw [hadd, cell_of_row w g (off + j) cs t fr hg]
      simp only [Array.getElem?_toList, Array.getElem?_extract] at hv
      split at hv
      · exact hv
      · simp at hv)
  unfold loadVar
  rw [Sem.run_bind, run_isAgg hu hd]
  simp only [Array.length_toList, hlen, Array.toArray_toList] at hl
  simp [Sem.run_bind, run_sizeOf hi, hl]

/-- 'load' of a struct or an array, out of a part of a known block. -/
theorem wpList_load (hgd : o.guard = none) (ty : TypeId) (x : Operand) (ho : o.op = .load ty x) (g off n : Nat) (hx : a.eval x = .pointer (some ⟨g, off, none⟩))
    (t : TypeId) (cs : Array Value) (fr : Nat × Nat) (d : TypeDesc) (hg : w.heap[g]? = some (.cells cs t fr)) (hu : P.underlying ty = some d) (hd : aggDesc d = true)
    (hi : (P.info? ty).map (·.size) = some n) (hfit : off + n ≤ cs.size)
    (h : wpList P ops Q rest (a.put o.dst (.agg (cs.extract off (off + n)))) w) : wpList P ops Q (o :: rest) a w :=
  wpList_run hgd _ w (by unfold execOp; simp only [ho, hx, Instr.loadAt, Instr.sureAddr, Sem.run_bind, Sem.run_pure, Result.andThen_ok, run_loadVar hg hu hd hi hfit]) h
/-- 'store' of a struct or an array, into a part of a known block. -/
theorem wpList_store (hgd : o.guard = none) (ty : TypeId) (x y : Operand) (ho : o.op = .store ty x y) (g off : Nat) (hx : a.eval x = .pointer (some ⟨g, off, none⟩))
    (t : TypeId) (cur vs : Array Value) (hy : a.eval y = .agg vs) (hg : w.heap[g]? = some (.cells cur t (0, 0))) (hi : (P.info? ty).map (·.size) = some vs.size)
    (hfit : off + vs.size ≤ cur.size) (h1 : ∀ v ∈ vs.toList, v.oneCell' = true)
    (h : wpList P ops Q rest (a.put o.dst undef) (w.setRow g (splat cur off vs))) : wpList P ops Q (o :: rest) a w :=
  wpList_run0 hgd _ (by unfold execOp; simp only [ho, hx, hy, Instr.storeAt, Instr.sureAddr, Sem.run_bind, Sem.run_pure, Result.andThen_ok, run_storeVar hg hi hfit h1]) h
theorem setRow_alloc (w : World) (cs cs' : Array Value) (t : TypeId) : (w.alloc (.cells cs t)).setRow w.heap.size cs' = w.alloc (.cells cs' t) := by
  unfold World.setRow World.alloc
  congr 1
  apply Array.ext
  · simp
  · intro k h1 h2
    simp only [Array.getElem_modify, Array.getElem_push]
    split
    · rename_i hk; subst hk; simp
    · rename_i hk
      have : k < w.heap.size := by simp at h1; omega
      simp [this]
/-- A new variable of a struct's or an array's type, and what is stored into it next. -/
theorem wpList_new {o1 o2 : Oper} (hg1 : o1.guard = none) (hg2 : o2.guard = none) (t : TypeId) (d : Tmp) (x : Operand) (hd : o1.dst = some d) (ho1 : o1.op = .alloc t) (ho2 : o2.op = .store t (.tmp d) x)
    (i : TypeInfo) (z : Value) (hi : P.info? t = some i) (hz : i.zero = some z) (hzs : z.cells.size = i.size) (cs : Array Value)
    (hp : (a.put (some d) (.pointer (some ⟨w.heap.size, 0, none⟩))).eval (.tmp d) = .pointer (some ⟨w.heap.size, 0, none⟩))
    (hx : (a.put (some d) (.pointer (some ⟨w.heap.size, 0, none⟩))).eval x = .agg cs) (hs : i.size = cs.size) (h1 : ∀ v ∈ cs.toList, v.oneCell' = true)
    (h : wpList P ops Q rest ((a.put (some d) (.pointer (some ⟨w.heap.size, 0, none⟩))).put o2.dst undef) (w.alloc (.cells cs t))) : wpList P ops Q (o1 :: o2 :: rest) a w := by
  refine wpList_run hg1 (.pointer (some ⟨w.heap.size, 0, none⟩)) (w.alloc (.cells z.cells t)) (by unfold execOp; simp only [ho1]; rw [Sem.run_bind, run_alloc hi hz]; rfl) ?_
  rw [hd]
  refine wpList_store hg2 t (.tmp d) x ho2 w.heap.size 0 hp t z.cells cs hx (heap_alloc_new _ _) (by rw [hi]; simp [hs]) (by omega) h1 ?_
  rw [splat_whole _ _ (by omega), setRow_alloc]
  exact h
theorem below_box {w w' : World} {o : Obj} (h : Below (w.alloc o).heap.size (w.alloc o) w') : Below w.heap.size w w' :=
  ((Below.refl _ _).alloc (Nat.le_refl _) _).trans (h.mono (by simp))
theorem below_one (w : World) (o : Obj) : Below w.heap.size w (w.alloc o) := (Below.refl _ _).alloc (Nat.le_refl _) _
theorem below_two (w : World) (o o2 : Obj) : Below w.heap.size w ((w.alloc o).alloc o2) := ((Below.refl _ _).alloc (Nat.le_refl _) _).alloc (by simp) _
theorem ownsRow_below {w w' : World} {base : Nat} {e : TypeId} {size : Nat} {v : Value} {n : Nat} {xs : List Value} (h : w.ownsRow base e size v n xs) (hb : Below w.heap.size w w') : w'.ownsRow base e size v n xs := by
  obtain ⟨h1, h2 | ⟨g, cap, cur, rfl, hg, hh, r⟩⟩ := h
  · exact ⟨h1, .inl h2⟩
  · exact ⟨h1, .inr ⟨g, cap, cur, rfl, hg, (hb.block g (Array.getElem?_eq_some_iff.1 hh).1).trans hh, r⟩⟩
theorem bcell {W w1 : World} (hb : Below W.heap.size W w1) : (∀ b o, b < W.heap.size → w1.cell? ⟨b, o, none⟩ = W.cell? ⟨b, o, none⟩) ∧ (∀ b o, b < W.heap.size → w1.frozen? ⟨b, o, none⟩ = W.frozen? ⟨b, o, none⟩) :=
  ⟨fun b o h => hb.cell (p := ⟨b, o, none⟩) h, fun b o h => hb.frozen (p := ⟨b, o, none⟩) h⟩
end
end Go.Proofs.YtlaohefgofmfdaaDoor
