/- A program's text is that program, whatever its bytes are: for every input the law returns true; nothing is asked of the input. -/
import Derived.Test.YtlaohefgofmfdaaDoorLift
import Derived.Test.YtlaohefgofmfdaaDoorLaw4
import Derived.Lib.SmallJoins
import Derived.Carry
namespace Go.Proofs.YtlaohefgofmfdaaDoor.fnBack
open Go.ChangeShapes Go.WideShapes Go.ChangeAt Go.RowKit Go.Joins Go.Deep
set_option maxRecDepth 100000
theorem cell_lt {w : World} {a : Addr} {v : Value} (h : w.cell? a = some v) : a.block < w.heap.size := by
  rcases Nat.lt_or_ge a.block w.heap.size with h' | h'
  · exact h'
  · simp [World.cell?, Array.getElem?_eq_none h'] at h
theorem byt_of {n : Int} (h : (Lit.int .u8 n).wf = true) : 0 ≤ n ∧ n ≤ 255 := by simpa [Lit.wf, IntKind.min, IntKind.max, IntKind.bits, IntKind.signed] using h
theorem add_block (a : Addr) (i : Nat) : (a.add i).block = a.block := by unfold Addr.add; split <;> rfl
/-- Bytes that came in. -/
theorem bytes_in {H : Type} {enc : TypeId × Value → H} {W : World} {a : Option Addr} {len cap : Nat} {d : DataW H} {p : List MemPlace} (h : DataW.Trod enc Tryd.prog W 0 (fun _ => true) true 22 (.slice a len cap) d p) :
    ∃ ci : List Int, len = ci.length ∧ (∀ b ∈ ci, 0 ≤ b ∧ b ≤ 255) ∧ BytesIn W (.slice a ci.length cap) ci := by
  obtain ⟨fuel, hf⟩ := h
  rcases open_slice1 Tryd.underlying22 (show Tryd.prog.cellsOf 5 = 1 by kernel_rfl) hf with ⟨h1, _⟩ | ⟨ad, len', cap', m, n, V, D, Pl, h1, _, hl, _, hm, _, hx⟩
  · have h1 : Value.slice a len cap = .slice none 0 0 := by simpa [Value.cells] using h1
    injection h1 with h1 h2 h3
    subst h1 h2 h3
    exact ⟨[], rfl, by simp, .inl ⟨rfl, rfl⟩⟩
  · have h1 : Value.slice a len cap = .slice (some ad) len' cap' := by simpa [Value.cells] using h1
    injection h1 with h1 h2 h3
    subst h1 h2 h3
    simp only [if_true] at hm
    have hv : ∀ i, i < len → V i = .int .u8 (intOf (V i)) ∧ 0 ≤ intOf (V i) ∧ intOf (V i) ≤ 255 ∧ W.cell? (ad.add i) = some (V i) := fun i hi => by
      obtain ⟨hc, ht⟩ := hx i (by omega)
      obtain ⟨z, hz, _, wz⟩ := DataW.trod_int Tryd.underlying5 ht
      have hz : V i = .int .u8 z := by simpa using hz
      have := byt_of wz
      rw [hz]
      exact ⟨rfl, this.1, this.2, by rw [hc, hz]⟩
    refine ⟨(List.range len).map fun i => intOf (V i), by simp, fun b hb => ?_, .inr ⟨ad, cap, rfl, by simpa using hl, fun j u hu => ?_⟩⟩
    · obtain ⟨i, hi, rfl⟩ := List.mem_map.1 hb
      have := hv i (List.mem_range.1 hi)
      exact ⟨this.2.1, this.2.2.1⟩
    · have hj : j < len := by
        have := (List.getElem?_eq_some_iff.1 hu).1
        simpa [u8s] using this
      have hu' : u = V j := by
        rw [(hv j hj).1]
        simp [u8s, List.getElem?_range hj] at hu
        exact hu.symm
      subst hu'
      have hc := (hv j hj).2.2.2
      exact ⟨by have := cell_lt hc; rwa [add_block] at this, hc⟩
/-- Instructions that came in. -/
theorem ins_in {H : Type} {enc : TypeId × Value → H} {W : World} {a : Option Addr} {len cap : Nat} {d : DataW H} {p : List MemPlace} (h : DataW.Trod enc Tryd.prog W 0 (fun _ => true) true 43 (.slice a len cap) d p) : InsAt W a len := by
  obtain ⟨fuel, hf⟩ := h
  have hC : Tryd.prog.cellsOf 38 = 4 := by kernel_rfl
  rcases open_slice Tryd.underlying43 hf with ⟨h1, _⟩ | ⟨ad, len', cap', m, n, D, Pl, h1, _, hl, _, hm, _, hx⟩
  · have h1 : Value.slice a len cap = .slice none 0 0 := by simpa [Value.cells] using h1
    injection h1 with h1 h2 h3
    subst h2
    intro j hj
    omega
  · have h1 : Value.slice a len cap = .slice (some ad) len' cap' := by simpa [Value.cells] using h1
    injection h1 with h1 h2 h3
    subst h1 h2 h3
    simp only [if_true] at hm
    rw [hC] at hx
    intro j hj
    obtain ⟨cs, hcs, ht⟩ := hx j (by omega)
    obtain ⟨_, hlen, hcell⟩ := World.cells?_some hcs
    obtain ⟨y0, y1, y2, y3, n', _, _, t0, t1, t2, t3⟩ := trod_struct4 Tryd.underlying38 ht
    obtain ⟨o, i0, _, wo⟩ := DataW.trod_int Tryd.underlying36 t0
    obtain ⟨x, i1, _, wx⟩ := DataW.trod_int Tryd.underlying5 t1
    obtain ⟨y, i2, _, wy⟩ := DataW.trod_int Tryd.underlying5 t2
    obtain ⟨z, i3, _, wz⟩ := DataW.trod_int Tryd.underlying5 t3
    have c36 : Tryd.prog.cellsOf 36 = 1 := by kernel_rfl
    have c5 : Tryd.prog.cellsOf 5 = 1 := by kernel_rfl
    match cs, hlen with
    | [v0, v1, v2, v3], _ =>
      simp only [c36, c5, List.drop_zero, List.take_succ_cons, List.take_zero, List.drop_succ_cons, List.cons.injEq, and_true] at i0 i1 i2 i3
      subst i0 i1 i2 i3
      have k0 := hcell 0 (by omega)
      have k1 := hcell 1 (by omega)
      have k2 := hcell 2 (by omega)
      have k3 := hcell 3 (by omega)
      obtain ⟨g, off, sp⟩ := ad
      have hsp : sp = none := by
        obtain ⟨cs0, hcs0, _⟩ := hx 0 (by omega)
        obtain ⟨_, hlen0, hcell0⟩ := World.cells?_some hcs0
        have h00 := hcell0 0 (by omega)
        rw [List.getElem?_eq_getElem (by omega)] at h00
        simpa [Addr.add] using World.cell?_spot h00
      subst hsp
      rw [add_plain, add_plain] at k0 k1 k2 k3
      exact ⟨g, off, rfl, o, x, y, z, byt_of wo, byt_of wx, byt_of wy, byt_of wz, cell_lt k0, k0, k1, k2, k3⟩
theorem contract (H : Type) (enc : TypeId × Value → H) (W : World) (base : Nat) (args : Array Value) (ds gs : List (DataW H)) (before : List MemPlace)
    (hval : ∀ (j : Nat) t v, Tryd.f7.params[j]? = some t → args[j]? = some v → Value.okWide Tryd.prog W .any base t v)
    (hW : DataW.Whole enc Tryd.prog Tryd.f7.params.toList Rows.asmBackSpec.vars false W args.toList ds gs before) (hL : laidMetH Tryd.prog Rows.asmBackRow.laid W) (hS : W.ShapedOpen Tryd.prog) :
    Calls Tryd.prog 7 args W fun e W' => ∃ v, e = .returned v ∧ Rows.asmBackSpec.post enc Tryd.prog Tryd.f7 false true false false W args v W' := by
  have hW' := hW
  obtain ⟨p, q, hA0, hV, rfl, hfz, hnd⟩ := hW
  have hA : DataW.TrodAll enc Tryd.prog W 0 (fun _ => true) true Tryd.f7.params.toList args.toList ds p := hA0
  rw [Tryd.params7] at hA hval
  obtain ⟨v0, vs0, d0, ds0, p0, q0, hargs, rfl, rfl, h0, r0⟩ := trodAll_cons hA
  obtain ⟨v1, vs1, d1, ds1, p1, q1, rfl, rfl, rfl, h1, r1⟩ := trodAll_cons r0
  obtain ⟨v2, vs2, d2, ds2, p2, q2, rfl, rfl, rfl, h2, r2⟩ := trodAll_cons r1
  obtain ⟨rfl, rfl, rfl⟩ := trodAll_nil r2
  obtain rfl : args = #[v0, v1, v2] := by cases args; simp_all
  obtain ⟨rfl, rfl⟩ := trodVars_none hV
  obtain ⟨a1, len1, cap1, rfl⟩ := okWide_slice Tryd.underlying22 (hval 1 22 v1 rfl rfl)
  obtain ⟨a2, len2, cap2, rfl⟩ := okWide_slice Tryd.underlying43 (hval 2 43 v2 rfl rfl)
  obtain ⟨x, rfl, rfl, rfl, wx⟩ := open_int Tryd.underlying5 (hval 0 5 v0 rfl rfl) h0
  clear hA0
  simp only [List.append_nil] at hW'
  have hlt : ∀ x ∈ p1 ++ p2, x.block < W.heap.size := fun x hx => by simpa using hW'.lt x (by simpa using hx)
  obtain ⟨ci, hlen, hci, hcv⟩ := bytes_in h1
  have hli := ins_in h2
  subst hlen
  refine (back_any x a1 a2 cap1 len2 cap2 ci (byt_of wx) hci W hcv hli (lib_of_laid hL hS)).mono fun e W' ⟨he, hb'⟩ => ?_
  have hb : Below W.heap.size W W' := hb'
  subst he
  have laidOut : laidOutB Tryd.prog = true := by kernel_rfl
  have harg1 := Below.trod laidOut (by kernel_rfl) (of_decide_eq_true (by kernel_rfl)) h1 hb (fun x hx => hlt x (List.mem_append.2 (.inl hx)))
  have harg2 := Below.trod laidOut (by kernel_rfl) (of_decide_eq_true (by kernel_rfl)) h2 hb (fun x hx => hlt x (List.mem_append.2 (.inr hx)))
  exact ⟨_, rfl, _, _, _, [], _, [], hW', trodAll_mk1 (shut_bool Tryd.underlying4 _), trodAll_cons_mk (shut_int Tryd.underlying5 wx) (trodAll_cons_mk harg1 (trodAll_cons_mk harg2 trodAll_mk0)), rfl, hb.frame _, fun h => by cases h⟩
theorem witness_row (os : Os) {H : Type} (enc : TypeId × Value → H) :
    (OpenSpec.ofChange Rows.asmBackSpec).preRow enc Tryd.prog Tryd.f7 Rows.asmBackRow.domain false Rows.asmBackRow.laid ((laidWorld os).forCall (fun _ _ => 0) ⟨#[], #[.int .u8 0, .slice none 0 0, .slice none 0 0], []⟩).memory #[.int .u8 0, .slice none 0 0, .slice none 0 0] := by
  have hw : (DataW.whole enc Tryd.prog ((laidWorld os).forCall (fun _ _ => 0) ⟨#[], #[.int .u8 0, .slice none 0 0, .slice none 0 0], []⟩).memory Tryd.f7.params.toList Rows.asmBackSpec.vars false #[Value.int .u8 0, Value.slice none 0 0, Value.slice none 0 0].toList 8).map (fun x => (x.1, x.2.1)) =
      some ([.lit (.int .u8 0), .nil, .nil], []) := by kernel_rfl
  obtain ⟨⟨x1, x2, x3⟩, hx, hx1⟩ := Option.map_eq_some_iff.1 hw
  simp only [Prod.mk.injEq] at hx1
  obtain ⟨rfl, rfl⟩ := hx1
  exact OpenSpec.preRow_of_cond 8 hx (by kernel_rfl) (fun k hk => by cases hk) (by kernel_rfl) (laid_met os _)
theorem lifted (os : Os) (started : os.Started) (H : Type) (enc : TypeId × Value → H) (F : Stop.Interp) :
    ReturnsInHanded {} Tryd.checked os 7 .any ((OpenSpec.ofChange Rows.asmBackSpec).preRow enc Tryd.prog Tryd.f7 Rows.asmBackRow.domain false Rows.asmBackRow.laid) (((OpenSpec.ofChange Rows.asmBackSpec).at F).post enc Tryd.prog Tryd.f7 false true false false) := by
  refine returnsInHanded_of_row (C := Tryd.checked) (s := OpenSpec.ofChange Rows.asmBackSpec) own started (by kernel_rfl) Tryd.func7
    (witness_row_atRef (enc := enc) (C := Tryd.checked) false (laidWorld os) #[.int .u8 0, .slice none 0 0, .slice none 0 0] rfl (by kernel_rfl) (by kernel_rfl) (by kernel_rfl) (witness_row os enc)) ?_
  intro W base args ds gs before hval hW _ _ _ hL hS _
  exact contract H enc W base args ds gs before hval hW hL hS
theorem said : Rows.AsmBackSaid :=
  OpenClaim.holds_of_cond 7 Tryd.f7 rfl rfl rfl rfl rfl rfl rfl ⟨rfl, rfl, rfl, rfl, rfl⟩ rfl rfl rfl rfl rfl (by kernel_rfl) Tryd.func7 (by kernel_rfl)
    (of_decide_eq_true (by kernel_rfl)) (by unfold Func.isWrapper; first | (rw [if_pos (by decide +kernel)]; kernel_rfl) | (rw [if_neg (by decide +kernel)]; exact ⟨rfl, rfl⟩))
    (fun os started H enc _ F => by rw [OpenClaim.pre_eq_preRow]; exact lifted os started H enc F)
/-- No parameter wants a stand-in; the program's own looks are off: what the card asks. -/
theorem plain (f : FuncId) (fn : Func) (hf : Tryd.pinned.checked.prog.funcNamed "garrison/garrisonlaw17.AsmBack" = some f) (hfn : Tryd.pinned.checked.prog.funcs[f]? = some fn) :
    false = Tryd.pinned.checked.prog.looks [] ∧ ∀ (j : Nat) t, fn.params[j]? = some t → Tryd.pinned.checked.prog.wantsStandIn t = false := by
  obtain rfl : f = 7 := Option.some.inj ((show Tryd.prog.funcNamed "garrison/garrisonlaw17.AsmBack" = some 7 by kernel_rfl).symm.trans hf) |>.symm
  obtain rfl : fn = Tryd.f7 := (Option.some.inj (Tryd.func7.symm.trans hfn)).symm
  refine ⟨by kernel_rfl, fun j t ht => ?_⟩
  rw [Tryd.params7] at ht
  have hm : t ∈ [5, 22, 43] := by simpa using Array.mem_of_getElem? ht
  have hall : ([5, 22, 43].all fun u => !Tryd.prog.wantsStandIn u) = true := by kernel_rfl
  exact (show Tryd.prog.wantsStandIn t = false by simpa using List.all_eq_true.1 hall t hm)
/-- The card. -/
theorem card : Rows.AsmBackCardSaid :=
  Claim7.holds_tied_plain_at .later [] _ _ _ _ said (fun _ h => by cases h) (by kernel_rfl) (fun _ h => by cases h) asmBack_row_tie rfl ⟨rfl, rfl⟩ (by kernel_rfl) rfl plain (by kernel_rfl)
#print axioms card
end Go.Proofs.YtlaohefgofmfdaaDoor.fnBack
