/- Any instruction as a line: for every input the law returns true; nothing is asked of the input. -/
import Derived.Test.YtlaohefgofmfdaaDoorLift
import Derived.Test.YtlaohefgofmfdaaDoorLaw3
import Derived.Lib.SmallJoins
namespace Go.Proofs.YtlaohefgofmfdaaDoor.fnLines
open Go.ChangeShapes Go.WideShapes Go.ChangeAt Go.RowKit Go.Joins
set_option maxRecDepth 100000
theorem contract (H : Type) (enc : TypeId × Value → H) (W : World) (base : Nat) (args : Array Value) (ds gs : List (DataW H)) (before : List MemPlace)
    (hval : ∀ (j : Nat) t v, Tryd.f6.params[j]? = some t → args[j]? = some v → Value.okWide Tryd.prog W .any base t v)
    (hW : DataW.Whole enc Tryd.prog Tryd.f6.params.toList Rows.asmLinesSpec.vars false W args.toList ds gs before) (hL : laidMetH Tryd.prog Rows.asmLinesRow.laid W) (hS : W.ShapedOpen Tryd.prog) :
    Calls Tryd.prog 6 args W fun e W' => ∃ v, e = .returned v ∧ Rows.asmLinesSpec.post enc Tryd.prog Tryd.f6 false true false false W args v W' := by
  have hW' := hW
  obtain ⟨p, q, hA0, hV, rfl, hfz, hnd⟩ := hW
  have hA : DataW.TrodAll enc Tryd.prog W 0 (fun _ => true) true Tryd.f6.params.toList args.toList ds p := hA0
  rw [Tryd.params6] at hA hval
  obtain ⟨v0, vs0, d0, ds0, p0, q0, hargs, rfl, rfl, h0, r0⟩ := trodAll_cons hA
  obtain ⟨v1, vs1, d1, ds1, p1, q1, rfl, rfl, rfl, h1, r1⟩ := trodAll_cons r0
  obtain ⟨rfl, rfl, rfl⟩ := trodAll_nil r1
  obtain rfl : args = #[v0, v1] := by cases args; simp_all
  obtain ⟨rfl, rfl⟩ := trodVars_none hV
  obtain ⟨k, rfl, rfl, rfl, wk⟩ := open_int Tryd.underlying5 (hval 1 5 v1 rfl rfl) h1
  obtain ⟨c0, c1, c2, c3, y0, y1, y2, y3, m, rfl, rfl, rfl, hy0, hy1, hy2, hy3⟩ := open_agg4 Tryd.underlying38 (by kernel_rfl) (show Tryd.prog.cellsOf 38 = 4 by kernel_rfl) (hval 0 38 v0 rfl rfl) h0
  obtain ⟨o, i0, rfl, wo⟩ := DataW.trod_int Tryd.underlying36 hy0
  obtain ⟨x, i1, rfl, wx⟩ := DataW.trod_int Tryd.underlying5 hy1
  obtain ⟨y, i2, rfl, wy⟩ := DataW.trod_int Tryd.underlying5 hy2
  obtain ⟨z, i3, rfl, wz⟩ := DataW.trod_int Tryd.underlying5 hy3
  simp at i0 i1 i2 i3
  subst i0 i1 i2 i3
  clear hA0
  simp only [List.append_nil] at hW'
  have byt : ∀ n : Int, (Lit.int .u8 n).wf = true → 0 ≤ n ∧ n ≤ 255 := fun n h => by simpa [Lit.wf, IntKind.min, IntKind.max, IntKind.bits, IntKind.signed] using h
  have insReads : ∀ (W' : World) (n : Nat) (sp : Nat → Bool) (hd : Bool), DataW.Trod enc Tryd.prog W' n sp hd 38 (.agg #[.int .u8 o, .int .u8 x, .int .u8 y, .int .u8 z]) (.agg [.lit (.int .u8 o), .lit (.int .u8 x), .lit (.int .u8 y), .lit (.int .u8 z)]) [] := fun W' n sp hd =>
    shut_agg4 (y0 := (.lit (.int .u8 o), [])) (y1 := (.lit (.int .u8 x), [])) (y2 := (.lit (.int .u8 y), [])) (y3 := (.lit (.int .u8 z), [])) Tryd.underlying38 (by kernel_rfl) (show Tryd.prog.cellsOf 38 = 4 by kernel_rfl)
      ⟨1, by simp [DataW.trod, Tryd.underlying36, wo]⟩ ⟨1, by simp [DataW.trod, Tryd.underlying5, wx]⟩ ⟨1, by simp [DataW.trod, Tryd.underlying5, wy]⟩ ⟨1, by simp [DataW.trod, Tryd.underlying5, wz]⟩
  refine (lines_any o x y z k (byt o wo) (byt x wx) (byt y wy) (byt z wz) (byt k wk) W (lib_of_laid hL hS)).mono fun e W' ⟨he, hb'⟩ => ?_
  have hb : Below W.heap.size W W' := hb'
  subst he
  exact ⟨_, rfl, _, _, _, [], _, [], hW', trodAll_mk1 (shut_bool Tryd.underlying4 _), trodAll_cons_mk (insReads _ _ _ _) (trodAll_cons_mk (shut_int Tryd.underlying5 wk) trodAll_mk0), rfl, hb.frame _, fun h => by cases h⟩
theorem witness_row (os : Os) {H : Type} (enc : TypeId × Value → H) :
    (OpenSpec.ofChange Rows.asmLinesSpec).preRow enc Tryd.prog Tryd.f6 Rows.asmLinesRow.domain false Rows.asmLinesRow.laid ((laidWorld os).forCall (fun _ _ => 0) ⟨#[], #[.agg #[.int .u8 0, .int .u8 0, .int .u8 0, .int .u8 0], .int .u8 0], []⟩).memory #[.agg #[.int .u8 0, .int .u8 0, .int .u8 0, .int .u8 0], .int .u8 0] := by
  have hw : (DataW.whole enc Tryd.prog ((laidWorld os).forCall (fun _ _ => 0) ⟨#[], #[.agg #[.int .u8 0, .int .u8 0, .int .u8 0, .int .u8 0], .int .u8 0], []⟩).memory Tryd.f6.params.toList Rows.asmLinesSpec.vars false #[Value.agg #[.int .u8 0, .int .u8 0, .int .u8 0, .int .u8 0], Value.int .u8 0].toList 8).map (fun x => (x.1, x.2.1)) =
      some ([.agg [.lit (.int .u8 0), .lit (.int .u8 0), .lit (.int .u8 0), .lit (.int .u8 0)], .lit (.int .u8 0)], []) := by kernel_rfl
  obtain ⟨⟨x1, x2, x3⟩, hx, hx1⟩ := Option.map_eq_some_iff.1 hw
  simp only [Prod.mk.injEq] at hx1
  obtain ⟨rfl, rfl⟩ := hx1
  exact OpenSpec.preRow_of_cond 8 hx (by kernel_rfl) (fun k hk => by cases hk) (by kernel_rfl) (laid_met os _)
theorem lifted (os : Os) (started : os.Started) (H : Type) (enc : TypeId × Value → H) (F : Stop.Interp) :
    ReturnsInHanded {} Tryd.checked os 6 .any ((OpenSpec.ofChange Rows.asmLinesSpec).preRow enc Tryd.prog Tryd.f6 Rows.asmLinesRow.domain false Rows.asmLinesRow.laid) (((OpenSpec.ofChange Rows.asmLinesSpec).at F).post enc Tryd.prog Tryd.f6 false true false false) := by
  refine returnsInHanded_of_row (C := Tryd.checked) (s := OpenSpec.ofChange Rows.asmLinesSpec) own started (by kernel_rfl) Tryd.func6
    (witness_row_atRef (enc := enc) (C := Tryd.checked) false (laidWorld os) #[.agg #[.int .u8 0, .int .u8 0, .int .u8 0, .int .u8 0], .int .u8 0] rfl (by kernel_rfl) (by kernel_rfl) (by kernel_rfl) (witness_row os enc)) ?_
  intro W base args ds gs before hval hW _ _ _ hL hS _
  exact contract H enc W base args ds gs before hval hW hL hS
theorem said : Rows.AsmLinesSaid :=
  OpenClaim.holds_of_cond 6 Tryd.f6 rfl rfl rfl rfl rfl rfl rfl ⟨rfl, rfl, rfl, rfl, rfl⟩ rfl rfl rfl rfl rfl (by kernel_rfl) Tryd.func6 (by kernel_rfl)
    (of_decide_eq_true (by kernel_rfl)) (by unfold Func.isWrapper; first | (rw [if_pos (by decide +kernel)]; kernel_rfl) | (rw [if_neg (by decide +kernel)]; exact ⟨rfl, rfl⟩))
    (fun os started H enc _ F => by rw [OpenClaim.pre_eq_preRow]; exact lifted os started H enc F)
/-- No parameter wants a stand-in; the program's own looks are off: what the card asks. -/
theorem plain (f : FuncId) (fn : Func) (hf : Tryd.pinned.checked.prog.funcNamed "garrison/garrisonlaw17.AsmLines" = some f) (hfn : Tryd.pinned.checked.prog.funcs[f]? = some fn) :
    false = Tryd.pinned.checked.prog.looks [] ∧ ∀ (j : Nat) t, fn.params[j]? = some t → Tryd.pinned.checked.prog.wantsStandIn t = false := by
  obtain rfl : f = 6 := Option.some.inj ((show Tryd.prog.funcNamed "garrison/garrisonlaw17.AsmLines" = some 6 by kernel_rfl).symm.trans hf) |>.symm
  obtain rfl : fn = Tryd.f6 := (Option.some.inj (Tryd.func6.symm.trans hfn)).symm
  refine ⟨by kernel_rfl, fun j t ht => ?_⟩
  rw [Tryd.params6] at ht
  have hm : t ∈ [38, 5] := by simpa using Array.mem_of_getElem? ht
  have hall : ([38, 5].all fun u => !Tryd.prog.wantsStandIn u) = true := by kernel_rfl
  exact (show Tryd.prog.wantsStandIn t = false by simpa using List.all_eq_true.1 hall t hm)
/-- The card. -/
theorem card : Rows.AsmLinesCardSaid :=
  Claim7.holds_tied_plain_at .later [] _ _ _ _ said (fun _ h => by cases h) (by kernel_rfl) (fun _ h => by cases h) asmLines_row_tie rfl ⟨rfl, rfl⟩ (by kernel_rfl) rfl plain (by kernel_rfl)
#print axioms card
end Go.Proofs.YtlaohefgofmfdaaDoor.fnLines
