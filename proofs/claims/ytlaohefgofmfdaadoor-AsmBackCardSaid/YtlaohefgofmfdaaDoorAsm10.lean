/- The walk of the second pass. -/
import Derived.Test.YtlaohefgofmfdaaDoorAsm9
import Derived.Test.YtlaohefgofmfdaaDoorSpec
import Derived.Deep.Cut
import Derived.Laws.AppendOwnNone
import Derived.Deep.CutBlock
import Derived.Deep.CutRange
import Derived.Deep.DeepCutAuto
namespace Go.Proofs.YtlaohefgofmfdaaDoor
open Go Go.RowKit
set_option maxRecDepth 100000
def AsmEnd (R : Asmd) (w : World) (e : Ending) (w' : World) : Prop :=
  Below w.heap.size w w' ∧ ∃ v, e = .returned (.tuple #[.agg #[.int .u8 R.extra, v], .int .i64 R.line, .int .i64 R.err]) ∧ w'.ownsRow w.heap.size 5 1 v R.code.length (u8s R.code)
theorem lineCells_at : ∀ (ls : List (Int × List Bs)) (vs : List Value), vs.length = ls.length → ∀ j, j < ls.length →
    (lineCells ls vs)[j * 2]? = some (.int .i64 (ls.getD j (0, [])).1) ∧ (lineCells ls vs)[j * 2 + 1]? = some (vs.getD j undef)
  | [], _, _, j, hj => by simp at hj
  | l :: ls, [], h, _, _ => by simp at h
  | l :: ls, v :: vs, h, 0, _ => by simp [lineCells]
  | l :: ls, v :: vs, h, j + 1, hj => by
    have := lineCells_at ls vs (by simpa using h) j (by simpa using hj)
    have e : lineCells (l :: ls) (v :: vs) = [.int .i64 l.1, v] ++ lineCells ls vs := by simp [lineCells]
    rw [e, show (j + 1) * 2 = j * 2 + 2 by omega]
    refine ⟨?_, ?_⟩
    · rw [List.getElem?_append_right (by simp)]; simpa using this.1
    · rw [show j * 2 + 2 + 1 = j * 2 + 1 + 2 by omega, List.getElem?_append_right (by simp)]; simpa using this.2
theorem lines_at {w : World} {B X m : Nat} {lv : Value} {vs : List Value} {st : PS} (h : SrcAt w B X m lv vs st) :
    ∃ lp lc, lv = .slice lp st.lines.length lc ∧ (st.lines.length = 0 ∨ ∃ g, lp = some ⟨g, 0, none⟩ ∧ g < w.heap.size ∧ ∀ j, j < st.lines.length →
      w.cell? ⟨g, j * 2, none⟩ = some (.int .i64 (st.lines.getD j (0, [])).1) ∧ w.cell? ⟨g, j * 2 + 1, none⟩ = some (vs.getD j undef)) := by
  obtain ⟨hlen, ⟨rfl, h0⟩ | ⟨g, cap, cur, rfl, hb, hh, hcap, _, hsz, htk⟩⟩ := h.own
  · exact ⟨none, 0, by rw [h0], .inl h0⟩
  · refine ⟨_, _, rfl, .inr ⟨g, rfl, (Array.getElem?_eq_some_iff.1 hh).1, fun j hj => ?_⟩⟩
    have hz : st.lines.zip vs = st.lines.zip vs := rfl
    have key : ∀ k, k < st.lines.length * 2 → w.cell? ⟨g, k, none⟩ = (lineCells st.lines vs)[k]? := by
      intro k hk
      rw [cell_of_row _ _ _ _ _ _ hh, ← htk, List.getElem?_take_of_lt hk]; simp
    have hcellj := lineCells_at st.lines vs h.len j hj
    exact ⟨(key _ (by omega)).trans hcellj.1, (key _ (by omega)).trans hcellj.2⟩
/-- Bytes that a slice holds. -/
def Holds (w : World) (v : Value) (bs : List Int) : Prop :=
  (v = .slice none 0 0 ∧ bs = []) ∨ ∃ ad c, v = .slice (some ad) bs.length c ∧ ∀ j u, (u8s bs)[j]? = some u → w.cell? (ad.add j) = some u
def DataEnd (D : List Int × Int) (wr : World) (la : Int) (b o nt c : Nat) (e : Ending) (w2 : World) : Prop :=
  ∃ bv, e = .returned (.tuple #[bv, .int .i64 D.2]) ∧ (D.2 = 0 → Holds w2 bv D.1) ∧ Below wr.heap.size wr w2 ∧ w2.heap[wr.heap.size]? = some (.cells #[.int .i64 la, .slice (some ⟨b, o, none⟩) (nt + 1) c] 61)
theorem wordsAt_tail {w : World} {b o nt c : Nat} {h : Bs} {t : List Bs} (hv : WordsAt w (.slice (some ⟨b, o, none⟩) (nt + 1) c) (h :: t)) (hn : nt = t.length) (v' : Value)
    (hv' : v' = .slice (some ⟨b, o + 1, none⟩) nt (c - 1) ∨ (v' = .slice (some ⟨b, o, none⟩) nt 0 ∧ nt = 0)) : WordsAt w v' t := by
  obtain ⟨b', o', c', e, hc, hw⟩ := hv
  injection e with e1 e2 e3
  injection e1 with e1
  injection e1 with e4 e5
  subst e4 e5 e3
  rcases hv' with rfl | ⟨rfl, h0⟩
  · refine ⟨b, o + 1, c - 1, by rw [hn], by simp at hc; omega, fun j hj => ?_⟩
    have := hw (j + 1) (by simp; exact hj)
    rw [show o + 1 + j = o + (j + 1) by omega, this]; simp [List.getD]
  · refine ⟨b, o, 0, by rw [hn], by omega, fun j hj => by omega⟩
theorem WordsAt.below {w w' : World} {v : Value} {ws : List Bs} (h : WordsAt w v ws) (hb : Below w.heap.size w w') : WordsAt w' v ws := by
  obtain ⟨b, o, c, e, hc, hw⟩ := h
  exact ⟨b, o, c, e, hc, fun j hj => ((bcell hb).1 b _ (block_lt_of_cell (hw j hj))).trans (hw j hj)⟩
theorem holds_own {w : World} {base : Nat} {v : Value} {bs : List Int} (h : w.ownsRow base 5 1 v bs.length (u8s bs)) : Holds w v bs := by
  obtain ⟨_, ⟨rfl, h0⟩ | ⟨g, cap, cur, rfl, _⟩⟩ := id h
  · exact .inl ⟨rfl, List.eq_nil_of_length_eq_zero h0⟩
  · exact .inr ⟨_, _, rfl, h.cells rfl⟩
theorem holds_bytes {W : World} {g : Nat} {t : TypeId} {fr : Nat × Nat} (y : Bs) (cap cap' : Nat) (h : W.heap[g]? = some (.cells (bytesRow ⟨y.toArray⟩ cap) t fr)) :
    Holds W (.slice (some ⟨g, 0, none⟩) y.length cap') (y.map fun b => (b.toNat : Int)) := by
  refine .inr ⟨⟨g, 0, none⟩, cap', by simp, fun j u hj => ?_⟩
  rw [show (Addr.add ⟨g, 0, none⟩ j) = ⟨g, j, none⟩ by simp [Addr.add]; try exact fun h => h.symm, cell_of_row _ _ _ _ _ _ h]
  have hjl : j < y.length := by
    have := (List.getElem?_eq_some_iff.1 hj).1
    simpa [u8s] using this
  rw [bytesRow_at ⟨y.toArray⟩ cap j (by simpa using hjl)]
  simp [u8s, List.getElem?_eq_getElem hjl] at hj
  rw [← hj]; simp
theorem holds_bytes2 {W0 : World} {g cap cap' : Nat} {t : TypeId} {fr : Nat × Nat} (y : Bs) (hg : g = W0.heap.size) :
    Holds (W0.alloc (.cells (bytesRow ⟨y.toArray⟩ cap) t fr)) (.slice (some ⟨g, 0, none⟩) y.length cap') (y.map fun b => (b.toNat : Int)) := by
  subst hg; exact holds_bytes y cap cap' (heap_alloc_new _ _)
theorem sumI_nonneg : ∀ ls, 0 ≤ sumI ls
  | [] => Int.le_refl _
  | l :: ls => by
    have := sumI_nonneg ls; have := sizeI_nonneg (l.2.headD []) l.2.tail
    simp only [sumI, List.map_cons, List.sum_cons] at *; omega
theorem sumI_cons (l : Int × List Bs) (ls : List (Int × List Bs)) : sumI (l :: ls) = (sizeI (l.2.headD []) l.2.tail).1 + sumI ls := by simp [sumI]
theorem cell_four (w : World) (a b c d : Int) (j : Nat) (u : Value) (hj : (u8s [a, b, c, d])[j]? = some u) : (w.alloc (.cells #[.int .u8 a, .int .u8 b, .int .u8 c, .int .u8 d] 40)).cell? (Addr.add ⟨w.heap.size, 0, none⟩ j) = some u := by
  rw [show Addr.add ⟨w.heap.size, 0, none⟩ j = ⟨w.heap.size, j, none⟩ by simp [Addr.add]; try exact fun h => h.symm]
  rw [cell_of_row _ _ _ _ _ _ (heap_alloc_new _ _)]
  simpa [u8s] using hj
theorem four_kept {wr w2 w3 : World} {ob o2 : Obj} {u0 u1 u2 u3 : Value} (hb2 : Below ((wr.alloc ob).alloc o2).heap.size ((wr.alloc ob).alloc o2) w2)
    (hb3 : Below ((((w2.setCell ⟨wr.heap.size + 1, 0, none⟩ u0).setCell ⟨wr.heap.size + 1, 1, none⟩ u1).setCell ⟨wr.heap.size + 1, 2, none⟩ u2).setCell ⟨wr.heap.size + 1, 3, none⟩ u3).heap.size ((((w2.setCell ⟨wr.heap.size + 1, 0, none⟩ u0).setCell ⟨wr.heap.size + 1, 1, none⟩ u1).setCell ⟨wr.heap.size + 1, 2, none⟩ u2).setCell ⟨wr.heap.size + 1, 3, none⟩ u3) w3) :
    Below wr.heap.size wr w3 ∧ w3.heap[wr.heap.size]? = some ob ∧ wr.heap.size < w3.heap.size := by
  have h2 : Below wr.heap.size wr w2 := (below_two wr ob o2).trans (hb2.mono (by simp; omega))
  have hs2 := hb2.size
  have hs3 := hb3.size
  simp only [World.size_alloc, World.size_setCell] at hs2 hs3
  have h3 := (((h2.setCell (p := ⟨wr.heap.size + 1, 0, none⟩) (by simp) u0).setCell (p := ⟨wr.heap.size + 1, 1, none⟩) (by simp) u1).setCell (p := ⟨wr.heap.size + 1, 2, none⟩) (by simp) u2).setCell (p := ⟨wr.heap.size + 1, 3, none⟩) (by simp) u3
  refine ⟨h3.trans (hb3.mono (by simp only [World.size_setCell]; omega)), ?_, by omega⟩
  rw [hb3.block _ (by simp only [World.size_setCell]; omega), heap_setCell_other _ _ _ _ (by simp), heap_setCell_other _ _ _ _ (by simp), heap_setCell_other _ _ _ _ (by simp), heap_setCell_other _ _ _ _ (by simp), hb2.block _ (by simp; omega)]
  rw [heap_alloc_old _ _ (by simp)]; exact heap_alloc_new _ _
theorem two_more {wr : World} {a b : Obj} : Below wr.heap.size wr ((wr.alloc a).drew.alloc b) ∧ ((wr.alloc a).drew.alloc b).heap[wr.heap.size]? = some a := by
  refine ⟨(show Below wr.heap.size wr (wr.alloc a).drew from (below_one wr a).trans ⟨rfl, rfl, rfl, Nat.le_refl _, fun _ _ => rfl⟩).alloc (by show _ ≤ (wr.heap.push a).size; simp) _, ?_⟩
  show ((wr.heap.push a).push b)[wr.heap.size]? = _
  rw [Array.getElem?_push_lt (by simp)]; simp
theorem own_kept' {w w' : World} {base : Nat} {e : TypeId} {size n : Nat} {v : Value} {xs : List Value} (h : w.ownsRow base e size v n xs) (hk : ∀ k, base ≤ k → w'.heap[k]? = w.heap[k]?) : w'.ownsRow base e size v n xs := by
  obtain ⟨h1, h2 | ⟨g, cap, cur, rfl, hg, hh, r⟩⟩ := h
  · exact ⟨h1, .inl h2⟩
  · exact ⟨h1, .inr ⟨g, cap, cur, rfl, hg, (hk g hg).trans hh, r⟩⟩
theorem row_two {w : World} {g : Nat} {a b : Value} {t : TypeId} (h : w.heap[g]? = some (.cells #[a, b] t)) : w.cell? ⟨g, 0, none⟩ = some a ∧ w.cell? ⟨g, 1, none⟩ = some b ∧ ∀ i, w.frozen? ⟨g, i, none⟩ = false := by
  refine ⟨?_, ?_, fun i => frozen_of_row _ _ _ _ _ h⟩
  all_goals rw [cell_of_row _ _ _ _ _ _ h]; rfl
theorem own_lower {w : World} {base base' : Nat} {e : TypeId} {size n : Nat} {v : Value} {xs : List Value} (h : w.ownsRow base e size v n xs) (hb : base' ≤ base) : w.ownsRow base' e size v n xs := by
  obtain ⟨h1, h2 | ⟨g, cap, cur, rfl, hg, hh, r⟩⟩ := h
  · exact ⟨h1, .inl h2⟩
  · exact ⟨h1, .inr ⟨g, cap, cur, rfl, Nat.le_trans hb hg, hh, r⟩⟩
theorem own_slice {w : World} {base : Nat} {e : TypeId} {size n : Nat} {v : Value} {xs : List Value} (h : w.ownsRow base e size v n xs) : ∃ p c, v = .slice p n c := by
  obtain ⟨_, ⟨rfl, h0⟩ | ⟨g, cap, cur, rfl, _⟩⟩ := h
  · exact ⟨_, _, by rw [h0]⟩
  · exact ⟨_, _, rfl⟩
set_option maxHeartbeats 4000000 in
theorem asm_any (s : ByteArray) (hl : s.size ≤ 65536) (R : Int × Int × PS) (hok : R.1 = 0 → StOk R.2.2 ∧ R.2.2.lines.length ≤ 65537) (w : World) (hread : ∀ w', Below w.heap.size w w' → Calls Tryd.prog 21 #[.string s] w' (ReadEnd R w'))
    (hfile : ∀ (w' : World) (x : Int) (l : List Int) (v : Value) (B : Nat), w'.ownsRow B 5 1 v l.length (u8s l) → 0 ≤ x ∧ x ≤ 32 → Calls Tryd.prog 24 #[.agg #[.int .u8 x, v]] w' fun e w'' => ∃ u, e = .returned (.tuple #[u, .int .i64 (fileI x l.length)]) ∧ Below w'.heap.size w' w'') :
    Calls Tryd.prog 10 #[.string s] w (AsmEnd (asmRest R) w) := by
  have HC := Lib.hid hread
  have HF := Lib.hid hfile
  clear hread hfile
  obtain ⟨er, at_, st⟩ := R
  by_cases he : er = 0
  · subst he
    obtain ⟨RES, hR⟩ : ∃ RES, RES = asmRest (0, at_, st) := ⟨_, rfl⟩
    rw [← hR]
    have HR := Lib.hid hR
    have HOK := Lib.hid (hok rfl)
    clear hR hok
    go_enter Tryd.func10, Tryd.ntmps10
    go_wp2_with (go_at_call 21; refine (HC.out _ (below_one _ _)).mono ?_; rintro e w1 ⟨hb1, hr1, -⟩; obtain ⟨B, X, m, lv, vs, rfl, hsrc, hBX⟩ := hr1 rfl; obtain ⟨lp, lc, rfl, hlp⟩ := lines_at hsrc; obtain ⟨nl, hnl⟩ : ∃ nl, nl = st.lines.length := ⟨_, rfl⟩; rw [← hnl] at hsrc hlp; have HNL := Lib.hid hnl; have HLP := Lib.hid hlp; obtain ⟨hx0, hx1, hx2, hx3, hxf⟩ := hsrc.cell; obtain ⟨hy0, -, -, -, -⟩ := (hsrc.below (below_one w1 (.cells #[.int .u8 st.extra, .slice none 0 0] 27))).cell; clear hr1 hnl hlp; have HSRC := Lib.hid hsrc; clear hsrc)
    go_loopw [42] (fun i wr => ∃ (j : Nat) (code : List Int) (cv : Value), j ≤ nl ∧ i = .int .i64 j ∧ Hid (Below w1.heap.size w1 wr) ∧ Hid (wr.heap[w1.heap.size]? = some (.cells #[.int .u8 st.extra, cv] 27)) ∧ Hid (wr.ownsRow (w1.heap.size + 1) 5 1 cv code.length (u8s code)) ∧ Hid (codeGo st.pl [] st.lines = codeGo st.pl code (st.lines.drop j)) ∧ Hid ((code.length : Int) + sumI (st.lines.drop j) ≤ 2048 ∧ w.heap.size < B ∧ B ≤ w1.heap.size ∧ w1.heap.size < wr.heap.size)) (fun i _ => nl - (intOf i).toNat)
    case atStart =>
      have hb := hb1.size
      have hXm := HSRC.out.hXm
      have hw1 : w.heap.size < w1.heap.size := by simp at hb; omega
      refine ⟨0, [], .slice none 0 0, Nat.zero_le _, rfl, Lib.hid (below_one _ _), Lib.hid (heap_alloc_new _ _), Lib.hid (World.ownsRow_nil _ _ _ _), Lib.hid rfl, Lib.hid ⟨?_, ?_, hXm.2.2.2, by simp⟩⟩
      · have := HOK.out.1.sum; have := HOK.out.1.size; simp; omega
      · simp at hBX; omega
    case round =>
      obtain ⟨j, code, cv, hj, rfl, ib1, ipb, iown, icode, isum⟩ := hrel
      have isrc := Lib.hid (HSRC.out.below ib1.out)
      have ibel : Hid (Below w.heap.size w wr) := Lib.hid ((below_box hb1).trans (ib1.out.mono (by have := hb1.size; simp at this; omega)))
      have irb : Hid (wr.heap[w.heap.size]? = some (.cells #[.int .u8 0, .slice none 0 0] 27)) :=
        Lib.hid ((ib1.out.block _ (by have := hb1.size; simp at this; omega)).trans ((hb1.block _ (by simp)).trans (heap_alloc_new _ _)))
      have hww : w.heap.size < w1.heap.size := by have := hb1.size; simp at this; omega
      have hwr : w1.heap.size < wr.heap.size := isum.out.2.2.2
      have hnlb : nl ≤ 65537 := by rw [HNL.out]; exact HOK.out.2
      by_cases hlt : j < nl
      case neg =>
        obtain rfl : j = nl := by omega
        have hcd := icode.out
        rw [List.drop_of_length_le (by rw [← HNL.out]; exact Nat.le_refl _), codeGo] at hcd
        obtain ⟨lcv, cvp, rfl⟩ := own_slice iown.out
        have HFL := Lib.hid (HF.out wr st.extra code (.slice lcv code.length cvp) (w1.heap.size + 1) iown.out HOK.out.1.extra)
        obtain ⟨hp0, hp1, hpf⟩ := row_two irb.out
        obtain ⟨hq0, hq1, hqf⟩ := row_two ipb.out
        have hne : w.heap.size ≠ w1.heap.size := by have := isum.out; omega
        have hne2 := hne.symm
        have hlen : w.heap.size < wr.heap.size := by have := isum.out; omega
        have hlen1 : w1.heap.size < wr.heap.size := by have := isum.out; omega
        obtain ⟨cn, hcn⟩ : ∃ cn, cn = code.length := ⟨_, rfl⟩
        have hres : RES = if fileI st.extra cn = 0 then ⟨0, 0, st.extra, code⟩ else ⟨19, 0, 0, []⟩ := by
          rw [HR.out, asmRest]; simp only [↓reduceIte]; rw [hcd, hcn]; simp
        have HFN : fileI st.extra cn = 0 ∨ fileI st.extra cn = 19 := by
          unfold fileI; split
          · exact .inr rfl
          · split
            · exact .inr rfl
            · split
              · exact .inr rfl
              · exact .inl rfl
        rw [← hcn] at HFL hq1
        have HCN := Lib.hid hcn
        clear hcd hcn hj
        rcases HFN with hf | hf
        · rw [if_pos hf] at hres
          rw [hf] at HFL
          have HE := Lib.hid hres
          clear hres hf
          go_wp2_with (go_at_call 24; refine HFL.out.mono ?_; rintro e w2 ⟨u, rfl, hb2⟩; obtain ⟨hbc, hbf⟩ := bcell hb2)
          refine bodyPost_ret (v := .tuple #[.agg #[.int .u8 st.extra, .slice lcv cn cvp], .int .i64 0, .int .i64 0]) (by simp [results, Tryd.results10, go_sem, *]) rfl ?_
          refine ⟨((ibel.out.trans (hb2.mono ibel.out.size)).setCell (by simp) _).setCell (by simp) _, ?_⟩
          rw [HE.out]
          refine ⟨_, rfl, ?_⟩
          rw [HCN.out]
          refine own_lower (own_kept' (ownsRow_below iown.out hb2) fun k hk => ?_) (base := w1.heap.size + 1) (by omega)
          rw [heap_setCell_other _ _ _ _ (by simp; omega), heap_setCell_other _ _ _ _ (by simp; omega)]
        · rw [if_neg (by rw [hf]; decide)] at hres
          rw [hf] at HFL
          have HE := Lib.hid hres
          clear hres hf
          go_wp2_with (go_at_call 24; refine HFL.out.mono ?_; rintro e w2 ⟨u, rfl, hb2⟩; obtain ⟨hbc, hbf⟩ := bcell hb2)
          refine bodyPost_ret (v := .tuple #[.agg #[.int .u8 0, .slice none 0 0], .int .i64 0, .int .i64 19]) (by simp [results, Tryd.results10, go_sem, *]) rfl ?_
          refine ⟨((ibel.out.trans (hb2.mono ibel.out.size)).setCell (by simp) _).setCell (by simp) _, ?_⟩
          rw [HE.out]; exact ⟨_, rfl, World.ownsRow_nil _ _ _ _⟩
      case pos =>
        obtain ⟨lp', lc', hlv, hlines⟩ := lines_at isrc.out
        rw [← HNL.out] at hlv hlines
        obtain ⟨rfl, rfl⟩ : lp = lp' ∧ lc = lc' := by cases hlv; exact ⟨rfl, rfl⟩
        clear hlv
        obtain ⟨g, rfl, hg, hcells⟩ := hlines.resolve_left (by omega)
        obtain ⟨hc1, hc2⟩ := hcells j hlt
        clear hcells hlines
        have hjl : j < st.lines.length := by rw [← HNL.out]; exact hlt
        obtain ⟨l, hl0⟩ : ∃ l, l = st.lines.getD j (0, []) := ⟨_, rfl⟩
        have hlm : l ∈ st.lines := by rw [hl0]; simp [List.getD, List.getElem?_eq_getElem hjl]
        have hdrop : st.lines.drop j = l :: st.lines.drop (j + 1) := by rw [List.drop_eq_getElem_cons hjl, hl0]; simp [List.getD, List.getElem?_eq_getElem hjl]
        obtain ⟨h, t, hw, hsz, htl, hta⟩ := HOK.out.1.lines l hlm
        obtain ⟨la, lw⟩ := l
        have hw : lw = h :: t := hw
        subst hw
        have hwords := isrc.out.words j hjl
        rw [← hl0] at hwords hc1
        obtain ⟨wv, hwv⟩ : ∃ wv, wv = vs.getD j undef := ⟨_, rfl⟩
        rw [← hwv] at hwords hc2
        have hwd := hwords.at
        obtain ⟨b, o, c, rfl, hcap, hcw⟩ := hwords.at
        have hh0 : wr.cell? ⟨b, o, none⟩ = some (bsV h) := hcw 0 (by simp)
        obtain ⟨nt, hnt⟩ : ∃ nt, nt = t.length := ⟨_, rfl⟩
        have hlen : (h :: t).length = nt + 1 := by simp [hnt]
        rw [hlen] at hc2 hwd hcap
        have hcd := icode.out
        rw [hdrop, codeGo] at hcd
        have HCD := Lib.hid hcd
        have HDR := Lib.hid hdrop
        have HWD := Lib.hid hwd
        have HSZ := Lib.hid hsz
        have HTA := Lib.hid (And.intro htl hta)
        have HNT := Lib.hid hnt
        have HHW := Lib.hid hcw
        clear hcd hdrop hwd hsz hta htl hlm hl0 hwv hwords hlen hcw hnt
        have hho : ∀ ob, (wr.alloc ob).cell? ⟨b, o, none⟩ = some (bsV h) := fun ob => ((bcell (below_one wr ob)).1 b o (block_lt_of_cell hh0)).trans hh0
        have hdata : ∀ (k : Nat), (k = 1 ∨ k = 4) → ∀ least most, ((k = 4 ∧ least = -999999 ∧ most = 999999) ∨ (k = 1 ∧ least = -128 ∧ most = 255)) → ∀ v', (v' = .slice (some ⟨b, o + 1, none⟩) nt (c - 1) ∨ (v' = .slice (some ⟨b, o, none⟩) nt 0 ∧ nt = 0)) →
            Calls Tryd.prog 22 #[.pointer (some ⟨X, 0, none⟩), v', .int .i64 k] (wr.alloc (.cells #[.int .i64 la, .slice (some ⟨b, o, none⟩) (nt + 1) c] 61)) (fun e w2 => DataEnd (dataGo st.pl k least most [] t) wr la b o nt c e w2) := by
          intro k hk least most hb4 v' hv'
          have hs2 := isrc.out.below (below_one wr (.cells #[.int .i64 la, .slice (some ⟨b, o, none⟩) (nt + 1) c] 61))
          have := data_f X m st.pl t v' k hk least most hb4 _ hs2.cell.2.1 hs2.hm HOK.out.1.pl (wordsAt_tail (HWD.out.below (below_one _ _)) HNT.out _ hv') (by have := HTA.out.1; omega)
          refine this.mono ?_
          rintro e w2 ⟨bv, rfl, hown, hb⟩
          refine ⟨bv, rfl, fun h0 => holds_own (hown h0), (below_one wr _).trans (hb.mono (by simp)), ?_⟩
          rw [hb.block _ (by simp)]; exact heap_alloc_new _ _
        go_upto_block 2 with fail
        go_cut [11, 12] (fun s11 s12 wc => ∃ (bs : List Int) (er : Int), Hid (lineI st.pl h t code.length = (bs, er)) ∧ s12 = .int .i64 er ∧ Hid (er = 0 → Holds wc s11 bs) ∧ Hid (Below wr.heap.size wr wc ∧ wc.heap[wr.heap.size]? = some (.cells #[.int .i64 la, .slice (some ⟨b, o, none⟩) (nt + 1) c] 61)))
        case first =>
          by_cases e1 : h = sExtra
          · have b1 : (h == [101, 120, 116, 114, 97]) = true := by rw [e1]; rfl
            have HLI : lineI st.pl h t code.length = ([], 0) := by rw [lineI, if_pos e1]
            have HLI := Lib.hid HLI
            clear e1
            go_wp2_with fail
            go_meet
            case rel => exact ⟨[], 0, HLI, rfl, Lib.hid (fun _ => .inl ⟨rfl, rfl⟩), Lib.hid ⟨below_one _ _, heap_alloc_new _ _⟩⟩
          · have b1 : (h == [101, 120, 116, 114, 97]) = false := beq_no e1
            by_cases e2 : h = sByte
            · have b2 : (h == [98, 121, 116, 101]) = true := by rw [e2]; rfl
              have HLI : lineI st.pl h t code.length = dataGo st.pl 1 (-128) 255 [] t := by rw [lineI, if_neg e1, if_pos e2]
              have HLI := Lib.hid HLI
              have HDA : Hid (Calls Tryd.prog 22 #[.pointer (some ⟨X, 0, none⟩), .slice (some ⟨b, o + 1, none⟩) nt (c - 1), .int .i64 1] (wr.alloc (.cells #[.int .i64 la, .slice (some ⟨b, o, none⟩) (nt + 1) c] 61)) (fun e w2 => DataEnd (dataGo st.pl 1 (-128) 255 [] t) wr la b o nt c e w2)) := hdata 1 (.inl rfl) (-128) 255 (.inr ⟨rfl, rfl, rfl⟩) _ (.inl rfl)
              have HDB : nt = 0 → Hid (Calls Tryd.prog 22 #[.pointer (some ⟨X, 0, none⟩), .slice (some ⟨b, o, none⟩) nt 0, .int .i64 1] (wr.alloc (.cells #[.int .i64 la, .slice (some ⟨b, o, none⟩) (nt + 1) c] 61)) (fun e w2 => DataEnd (dataGo st.pl 1 (-128) 255 [] t) wr la b o nt c e w2)) := fun h0 => hdata 1 (.inl rfl) (-128) 255 (.inr ⟨rfl, rfl, rfl⟩) _ (.inr ⟨rfl, h0⟩)
              clear e1 e2 hdata
              by_cases hc1 : c = 1
              · subst hc1
                have hn0 : nt = 0 := by omega
                subst hn0
                have HDB := HDB rfl
                go_wp2_with (go_at_call 22; refine (HDB.out).mono ?_; rintro e w2 ⟨bv, rfl, hbv, hb2, hl2⟩)
                all_goals (go_meet; try (case rel => exact ⟨_, _, HLI, rfl, Lib.hid hbv, Lib.hid ⟨hb2, hl2⟩⟩))
              · clear HDB
                go_wp2_with (go_at_call 22; refine (HDA.out).mono ?_; rintro e w2 ⟨bv, rfl, hbv, hb2, hl2⟩)
                all_goals (go_meet; try (case rel => exact ⟨_, _, HLI, rfl, Lib.hid hbv, Lib.hid ⟨hb2, hl2⟩⟩))
            · have b2 : (h == [98, 121, 116, 101]) = false := beq_no e2
              by_cases e3 : h = sWord
              · have b3 : (h == [119, 111, 114, 100]) = true := by rw [e3]; rfl
                have HLI : lineI st.pl h t code.length = dataGo st.pl 4 (-999999) 999999 [] t := by rw [lineI, if_neg e1, if_neg e2, if_pos e3]
                have HLI := Lib.hid HLI
                have HDA : Hid (Calls Tryd.prog 22 #[.pointer (some ⟨X, 0, none⟩), .slice (some ⟨b, o + 1, none⟩) nt (c - 1), .int .i64 4] (wr.alloc (.cells #[.int .i64 la, .slice (some ⟨b, o, none⟩) (nt + 1) c] 61)) (fun e w2 => DataEnd (dataGo st.pl 4 (-999999) 999999 [] t) wr la b o nt c e w2)) := hdata 4 (.inr rfl) (-999999) 999999 (.inl ⟨rfl, rfl, rfl⟩) _ (.inl rfl)
                have HDB : nt = 0 → Hid (Calls Tryd.prog 22 #[.pointer (some ⟨X, 0, none⟩), .slice (some ⟨b, o, none⟩) nt 0, .int .i64 4] (wr.alloc (.cells #[.int .i64 la, .slice (some ⟨b, o, none⟩) (nt + 1) c] 61)) (fun e w2 => DataEnd (dataGo st.pl 4 (-999999) 999999 [] t) wr la b o nt c e w2)) := fun h0 => hdata 4 (.inr rfl) (-999999) 999999 (.inl ⟨rfl, rfl, rfl⟩) _ (.inr ⟨rfl, h0⟩)
                clear e1 e2 e3 hdata
                by_cases hc1 : c = 1
                · subst hc1
                  have hn0 : nt = 0 := by omega
                  subst hn0
                  have HDB := HDB rfl
                  go_wp2_with (go_at_call 22; refine (HDB.out).mono ?_; rintro e w2 ⟨bv, rfl, hbv, hb2, hl2⟩)
                  all_goals (go_meet; try (case rel => exact ⟨_, _, HLI, rfl, Lib.hid hbv, Lib.hid ⟨hb2, hl2⟩⟩))
                · clear HDB
                  go_wp2_with (go_at_call 22; refine (HDA.out).mono ?_; rintro e w2 ⟨bv, rfl, hbv, hb2, hl2⟩)
                  all_goals (go_meet; try (case rel => exact ⟨_, _, HLI, rfl, Lib.hid hbv, Lib.hid ⟨hb2, hl2⟩⟩))
              · have b3 : (h == [119, 111, 114, 100]) = false := beq_no e3
                by_cases e4 : h = sText
                · have b4 : (h == [116, 101, 120, 116]) = true := by rw [e4]; rfl
                  have hn1 : nt = 1 := by
                    have := HSZ.out
                    unfold sizeI at this
                    rw [if_neg e1, if_neg e2, if_neg e3, if_pos e4] at this
                    split at this
                    · rename_i hh; rw [HNT.out]; omega
                    · simp at this
                  subst hn1
                  obtain ⟨y, hy⟩ : ∃ y, y = t.headD [] := ⟨_, rfl⟩
                  have hy1 : wr.cell? ⟨b, o + 1, none⟩ = some (bsV y) := by
                    have := HHW.out 1 (by have := HNT.out; simp; omega)
                    rw [this, hy]; cases t with
                    | nil => rfl
                    | cons a r => rfl
                  have hyo : ∀ ob, (wr.alloc ob).cell? ⟨b, o + 1, none⟩ = some (bsV y) := fun ob => ((bcell (below_one wr ob)).1 b _ (block_lt_of_cell hy1)).trans hy1
                  have HLI : lineI st.pl h t code.length = (y.map fun b => (b.toNat : Int), 0) := by rw [lineI, if_neg e1, if_neg e2, if_neg e3, if_pos e4, hy]
                  have HLI := Lib.hid HLI
                  have hconv := run_bytes_of_string (P := Tryd.prog) (wr.alloc (.cells #[.int .i64 la, .slice (some ⟨b, o, none⟩) (1 + 1) c] 61)) 9 22 5 ⟨y.toArray⟩ Tryd.underlying9 Tryd.underlying22 Tryd.underlying5
                  clear e1 e2 e3 e4 hdata hy
                  go_wp2_with fail
                  go_meet
                  case rel =>
                    exact ⟨_, _, HLI, rfl, Lib.hid (fun _ => holds_bytes2 y (by simp)), Lib.hid two_more⟩
                · have b4 : (h == [116, 101, 120, 116]) = false := beq_no e4
                  have hk : namedI h ≠ 0 := by
                    have := HSZ.out
                    unfold sizeI at this
                    rw [if_neg e1, if_neg e2, if_neg e3, if_neg e4] at this
                    intro h0; rw [if_pos h0] at this; simp at this
                  have HLI : lineI st.pl h t code.length = instrI st.pl (namedI h) t code.length := by rw [lineI, if_neg e1, if_neg e2, if_neg e3, if_neg e4]
                  have HLI := Lib.hid HLI
                  obtain ⟨cn, hcn⟩ : ∃ cn, cn = code.length := ⟨_, rfl⟩
                  have hinstr : ∀ w2, Below wr.heap.size wr w2 → Calls Tryd.prog 23 #[.pointer (some ⟨X, 0, none⟩), .slice (some ⟨b, o, none⟩) (nt + 1) c, .int .i64 cn] w2 (FE (namedI h) (instrI st.pl (namedI h) t code.length).1 (instrI st.pl (namedI h) t code.length).2 w2) := by
                    intro w2 hw2
                    have hs2 := isrc.out.below hw2
                    have hcl : 0 ≤ sumI (st.lines.drop (j + 1)) := sumI_nonneg _
                    have hsm := isum.out
                    rw [HDR.out, sumI_cons] at hsm
                    have hz := sizeI_nonneg h t
                    have := instr_any X m st.pl HOK.out.1.pl h t (.slice (some ⟨b, o, none⟩) (nt + 1) c) w2 code.length (by simp at hsm; omega) hs2.cell.2.1 hs2.hm (HWD.out.below hw2) (by have := HTA.out.1; omega) hk
                    rw [hcn]; exact this
                  obtain ⟨lcv, cvp, rfl⟩ : ∃ lcv cvp, cv = .slice lcv code.length cvp := by
                    obtain ⟨_, ⟨rfl, h0⟩ | ⟨g', cap, cur, rfl, _⟩⟩ := iown.out
                    · exact ⟨_, _, by rw [h0]⟩
                    · exact ⟨_, _, rfl⟩
                  rw [← hcn] at ipb
                  have hpb : wr.cell? ⟨w1.heap.size, 1, none⟩ = some (.slice lcv cn cvp) := by rw [cell_of_row _ _ _ _ _ _ ipb.out]; rfl
                  have hpo : ∀ ob o2, ((wr.alloc ob).alloc o2).cell? ⟨w1.heap.size, 1, none⟩ = some (.slice lcv cn cvp) := fun ob o2 => ((bcell (below_two wr ob o2)).1 _ _ (block_lt_of_cell hpb)).trans hpb
                  have HIN := Lib.hid hinstr
                  clear e1 e2 e3 e4 hdata hinstr hcn hk
                  go_wp2_with (first | (go_at_call 23; refine (HIN.out _ (below_two _ _ _)).mono ?_; rintro e w2 ⟨fx, fy, fz, rfl, hbs, hb2⟩; obtain ⟨hbc, hbf⟩ := bcell hb2) | (go_at_call 17; refine (pack_any _ _ _ _ _).mono ?_; rintro e w3 ⟨rfl, hb3⟩))
                  go_meet
                  case rel =>
                    have hk1 := four_kept hb2 hb3
                    refine ⟨(instrI st.pl (namedI h) t code.length).1, (instrI st.pl (namedI h) t code.length).2, Lib.hid HLI.out, rfl, Lib.hid (fun h0 => ?_), Lib.hid ⟨hk1.1.alloc hk1.1.size _, ?_⟩⟩
                    · rw [hbs h0]
                      exact .inr ⟨⟨w3.heap.size, 0, none⟩, 4, rfl, fun jj u hj => (cell_four w3 _ _ _ _ jj u hj)⟩
                    · rw [heap_alloc_old _ _ (by have := hk1.2.2; omega)]; exact hk1.2.1
        case rest =>
          obtain ⟨bs, er, HLI, rfl, HHO, HBE⟩ := hcut
          have hbe := HBE.out
          have hl1 : wc.cell? ⟨wr.heap.size, 0, none⟩ = some (.int .i64 la) := by rw [cell_of_row _ _ _ _ _ _ hbe.2]; rfl
          have hl2 : wc.frozen? ⟨wr.heap.size, 0, none⟩ = false := frozen_of_row _ _ _ _ _ hbe.2
          have hcd := HCD.out
          simp only [List.headD_cons, List.tail_cons] at hcd
          have hli : lineI st.pl h t (code.length : Int) = (bs, er) := HLI.out
          simp only [hli] at hcd
          clear hbe hli
          by_cases her : er = 0
          · subst her
            rw [if_pos rfl] at hcd
            have HC2 := Lib.hid hcd
            obtain ⟨lcv, cvp, rfl⟩ := own_slice iown.out
            obtain ⟨i0, hi, hz0, hz1, hz2⟩ := info_parts infoByte
            have hbsz := HBE.out.1.size
            have hown := ownsRow_below iown.out HBE.out.1
            have hHO := HHO.out rfl
            have hpc : wc.heap[w1.heap.size]? = some (.cells #[.int .u8 st.extra, .slice lcv code.length cvp] 27) := (HBE.out.1.block _ isum.out.2.2.2).trans ipb.out
            obtain ⟨hq0, hq1, hqf⟩ := row_two hpc
            have HOWN := Lib.hid hown
            have HPC := Lib.hid hpc
            have hbl : (code.length : Int) + bs.length + sumI (st.lines.drop (j + 1)) ≤ 2048 ∧ 0 ≤ sumI (st.lines.drop (j + 1)) := by
              have hsm := isum.out.1
              rw [HDR.out, sumI_cons] at hsm
              simp only [List.headD_cons, List.tail_cons] at hsm
              have h1 := lineI_len st.pl h t code.length HSZ.out (by rw [HLI.out])
              rw [HLI.out] at h1
              have := sumI_nonneg (st.lines.drop (j + 1))
              simp only at h1
              omega
            have HBL := Lib.hid hbl
            have hb1c : Below w1.heap.size w1 wc := ib1.out.trans (HBE.out.1.mono ib1.out.size)
            have HB1C := Lib.hid hb1c
            clear hcd hown hpc hbl hb1c
            rcases hHO with ⟨rfl, rfl⟩ | ⟨ad, cc, rfl, hce⟩
            · go_wp2_with (at_builtin; refine wpList_append_own_none rfl _ _ 22 rfl (w1.heap.size + 1) 5 i0 1 Tryd.underlying22 hi _ _ _ rfl HOWN.out rfl ?_)
              refine ⟨⟨j + 1, code, .slice lcv code.length cvp, by omega, by go_num, Lib.hid (HB1C.out.setCell (Nat.le_refl _) _), Lib.hid ?_, Lib.hid ?_, Lib.hid ?_, Lib.hid ⟨by have := HBL.out; simp at this; omega, isum.out.2.1, isum.out.2.2.1, by simp; omega⟩⟩, by simp [intOf]; omega⟩
              · have := heap_setCell_same _ _ 1 _ _ (.slice lcv code.length cvp) HPC.out
                simpa using this
              · exact own_kept' HOWN.out fun k hk => heap_setCell_other _ _ _ _ (by simp; omega)
              · have := HC2.out; rw [List.append_nil] at this; exact this
            · have HCE := Lib.hid hce
              clear hce
              go_wp2_with (at_builtin; refine wpList_append_own _ rfl _ _ 22 rfl (w1.heap.size + 1) 5 i0 (.int .u8 0) 1 1 Tryd.underlying22 hi hz0 hz1 hz2 rfl (by decide) _ _ _ rfl HOWN.out ad bs.length cc (u8s bs) rfl ?c0 ?c1 ?c2 ?c3 ?c4 ?c5 ?_)
              case c0 => simp [u8s]
              case c1 => exact HCE.out
              case c2 => intro u hu; simp [u8s] at hu; obtain ⟨a, _, rfl⟩ := hu; rfl
              case c3 => have := HBL.out; unfold maxLen; omega
              case c4 => have := HBL.out; omega
              case c5 => omega
              intro v' w2 hown2 hgrow _
              obtain ⟨sp, sc, rfl⟩ := own_slice hown2
              have hrow : ∀ g, (Value.slice lcv code.length cvp).ownBlock = some g → w1.heap.size + 1 ≤ g := fun g hg => (HOWN.out.lt g hg).1
              have hg1 : w2.heap[w1.heap.size]? = some (.cells #[.int .u8 st.extra, .slice lcv code.length cvp] 27) := (hgrow.block _ (Array.getElem?_eq_some_iff.1 HPC.out).1 (fun e => by have := hrow _ e.symm; omega)).trans HPC.out
              obtain ⟨hr0, hr1, hrf⟩ := row_two hg1
              have HG1 := Lib.hid hg1
              have HB2 := Lib.hid (HB1C.out.grown hgrow (by omega) (fun g hg => by have := hrow g hg; omega))
              have HO2 := Lib.hid hown2
              have hsz2 := hgrow.size
              clear hg1 hown2 hgrow hrow hi hz0 hz1 hz2 hq0 hq1 hqf
              go_wp2
              refine ⟨⟨j + 1, code ++ bs, .slice sp (code.length + bs.length) sc, by omega, by go_num, Lib.hid (HB2.out.setCell (Nat.le_refl _) _), Lib.hid ?_, Lib.hid ?_, Lib.hid HC2.out, Lib.hid ⟨by have := HBL.out; rw [List.length_append]; omega, isum.out.2.1, isum.out.2.2.1, by simp; omega⟩⟩, by simp [intOf]; omega⟩
              · have := heap_setCell_same _ _ 1 _ _ (.slice sp (code.length + bs.length) sc) HG1.out
                simpa using this
              · rw [List.length_append, show u8s (code ++ bs) = u8s code ++ u8s bs by simp [u8s]]
                exact own_kept' HO2.out fun k hk => heap_setCell_other _ _ _ _ (by simp; omega)
          · have HE : Hid (RES = ⟨er, la, 0, []⟩) := by
              show _ = _
              rw [HR.out, asmRest]
              simp only [↓reduceIte, if_neg her] at hcd ⊢
              rw [hcd]; simp [her]
            have HER := Lib.hid her
            clear hcd
            have hp0 : wc.cell? ⟨w.heap.size, 0, none⟩ = some (.int .u8 0) ∧ wc.cell? ⟨w.heap.size, 1, none⟩ = some (.slice none 0 0) ∧ ∀ i, wc.frozen? ⟨w.heap.size, i, none⟩ = false := by
              have h1 : wc.heap[w.heap.size]? = some (.cells #[.int .u8 0, .slice none 0 0] 27) := (HBE.out.1.block _ (by have := isum.out; have := isrc.out.hXm; omega)).trans irb.out
              refine ⟨?_, ?_, fun i => frozen_of_row _ _ _ _ _ h1⟩
              all_goals rw [cell_of_row _ _ _ _ _ _ h1]; rfl
            obtain ⟨hp0, hp1, hpf⟩ := hp0
            have hne : w.heap.size ≠ wr.heap.size := by have := isum.out; have := isrc.out.hXm; omega
            have hne2 := hne.symm
            go_wp2
            go_region
            go_wp2
            refine bodyPost_ret (v := .tuple #[.agg #[.int .u8 0, .slice none 0 0], .int .i64 la, .int .i64 er]) (by simp [results, Tryd.results10, go_sem, *]) rfl ?_
            refine ⟨?_, ?_⟩
            · exact ((ibel.out.trans (HBE.out.1.mono ibel.out.size)).setCell (by simp) _).setCell (by simp) _ |>.drew
            · rw [HE.out]; exact ⟨_, rfl, World.ownsRow_nil _ _ _ _⟩
  · have HE : Hid (asmRest (er, at_, st) = ⟨er, at_, 0, []⟩) := by show _ = _; rw [asmRest]; simp [he]
    have HER := Lib.hid he
    have he0 : (er != 0) = true := by rw [bne_iff_ne]; exact he
    clear hok he
    go_enter Tryd.func10, Tryd.ntmps10
    go_wp2_with (go_at_call 21; refine (HC.out _ (below_one _ _)).mono ?_; rintro e w1 ⟨hb1, -, hr1⟩; obtain rfl := hr1 HER.out; clear hr1; obtain ⟨hbc, hbf⟩ := bcell hb1; have hbz := hb1.size; simp at hbz)
    refine bodyPost_ret (v := .tuple #[.agg #[.int .u8 0, .slice none 0 0], .int .i64 at_, .int .i64 er]) (by simp [results, Tryd.results10, go_sem, *]) rfl ?_
    refine ⟨((below_box hb1).setCell (by simp) _).setCell (by simp) _, ?_⟩
    rw [HE.out]; exact ⟨_, rfl, World.ownsRow_nil _ _ _ _⟩
end Go.Proofs.YtlaohefgofmfdaaDoor
