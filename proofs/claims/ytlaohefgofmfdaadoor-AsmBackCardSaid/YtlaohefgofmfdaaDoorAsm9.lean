/- The walk of the first pass. -/
import Derived.Test.YtlaohefgofmfdaaDoorSrc
import Derived.WalkSmall
import Derived.OwnWalk
import Derived.StillTailTactics
namespace Go.Proofs.YtlaohefgofmfdaaDoor
open Go Go.RowKit
set_option maxRecDepth 100000
def lenV : Value → Nat
  | .slice _ n _ => n
  | _ => 0
/-- The pieces between the newlines. -/
def pieces (s : ByteArray) : List ByteArray := Lib.splitB ⟨#[10]⟩ 0 (Lib.countB s ⟨#[10]⟩) s
/-- What the world has of the library's: a number, a table. -/
def LibAt (w : World) : Prop := (∃ ml : Int, w.cell? ⟨2, 0, none⟩ = some (.int .i64 ml)) ∧ Lib.TabIs Tryd.prog w "strings.asciiSpace" .u8 Lib.asciiSpaceTab
def ReadEnd (R : Int × Int × PS) (w : World) (e : Ending) (w' : World) : Prop :=
  Below w.heap.size w w' ∧ (R.1 = 0 → ∃ B X m lv vs, e = .returned (.tuple #[.pointer (some ⟨X, 0, none⟩), .int .i64 0, .int .i64 0]) ∧ SrcAt w' B X m lv vs R.2.2 ∧ w.heap.size ≤ X) ∧
  (R.1 ≠ 0 → e = .returned (.tuple #[.pointer none, .int .i64 R.2.1, .int .i64 R.1]))
structure Good (st : PS) (k : Nat) : Prop where
  pl : ∀ p ∈ st.pl, 0 ≤ p.2 ∧ p.2 ≤ 2048
  size : 0 ≤ st.size ∧ st.size ≤ 2048
  lines : st.lines.length ≤ k
theorem lib_below {w w' : World} (h : LibAt w) (hb : Below w.heap.size w w') : LibAt w' := by
  obtain ⟨⟨ml, hml⟩, ht⟩ := h
  refine ⟨⟨ml, (hb.cell (p := ⟨2, 0, none⟩) (block_lt_of_cell hml)).trans hml⟩, ?_⟩
  unfold Lib.TabIs at ht ⊢
  cases hg : Tryd.prog.globalNamed "strings.asciiSpace" with
  | none => simp [World.var?, hg] at ht
  | some g =>
    refine var?_below hb hg ?_ ht
    rcases Nat.lt_or_ge g w.heap.size with h | h
    · exact h
    · simp [World.var?, hg, Array.getElem?_eq_none h] at ht

theorem below_mark {X : Nat} {x : Option Int} {w wr : World} {b : Nat} (h : Below b w wr) (hb : b ≤ X) : Below b w (markX X x wr) := by
  cases x with
  | none => exact h
  | some n => exact h.setCell hb _
theorem infoLine : (Tryd.prog.info? 61).map (fun i => (i.zero, i.size, i.bytes)) = some (some (.agg #[.int .i64 0, .slice none 0 0]), 2, 32) := by kernel_rfl
theorem markX_other {X kk : Nat} {x : Option Int} {w : World} (h : kk ≠ X) : (markX X x w).heap[kk]? = w.heap[kk]? := by
  cases x with
  | none => rfl
  | some n => exact heap_setCell_other _ _ _ _ h
theorem markX_size {X : Nat} {x : Option Int} {w : World} : (markX X x w).heap.size = w.heap.size := by
  cases x with
  | none => rfl
  | some n => simp [markX]
theorem cell_top (w1 : World) (p : Addr) (u a b : Value) (t : TypeId) : ∀ j u', [a, b][j]? = some u' → ((w1.setCell p u).alloc (.cells #[a, b] t)).cell? (Addr.add ⟨w1.heap.size, 0, none⟩ j) = some u' := by
  intro j u' hj
  have h0 : ((w1.setCell p u).alloc (.cells #[a, b] t)).heap[w1.heap.size]? = some (.cells #[a, b] t) := by
    have := heap_alloc_new (w1.setCell p u) (.cells #[a, b] t)
    simpa using this
  rw [show Addr.add ⟨w1.heap.size, 0, none⟩ j = ⟨w1.heap.size, j, none⟩ by simp [Addr.add, Nat.zero_add]; try exact fun h => h.symm]
  rw [cell_of_row _ _ _ _ _ _ h0]
  simpa using hj
theorem SrcAt.other {w : World} {B X m k : Nat} {lv : Value} {vs cs : List Value} {st : PS} {fr : Nat × Nat} (h : SrcAt w B X m lv vs st) (hk : w.heap[k]? = some (.cells cs.toArray 9 fr)) : some k ≠ lv.ownBlock := by
  intro e
  obtain ⟨_, ⟨rfl, _⟩ | ⟨g', cap, cur, rfl, hb, hh, _⟩⟩ := h.own
  · simp [Value.ownBlock] at e
  · simp [Value.ownBlock] at e; subst e; rw [hk] at hh; cases hh
theorem SrcAt.low {w : World} {B X m k : Nat} {lv : Value} {vs : List Value} {st : PS} (h : SrcAt w B X m lv vs st) (hk : k < B) : some k ≠ lv.ownBlock := by
  intro e
  obtain ⟨_, ⟨rfl, _⟩ | ⟨g', cap, cur, rfl, hb, hh, _⟩⟩ := h.own
  · simp [Value.ownBlock] at e
  · simp [Value.ownBlock] at e; omega
theorem size_bd (h : Bs) (t : List Bs) (ht : t.length ≤ 65536) (hh : ∀ a, a ∈ t → a.length ≤ 65536) : 0 ≤ (sizeI h t).1 ∧ (sizeI h t).1 ≤ 300000 := by
  unfold sizeI
  split
  · split
    · cases rangeI (t.headD []) 0 32 <;> simp [extraI]
    · simp
  · split
    · simp only; omega
    · split
      · simp only; omega
      · split
        · split
          · rename_i h1
            cases t with
            | nil => simp at h1
            | cons a r => have := hh a List.mem_cons_self; simp only [List.headD_cons]; omega
          · simp
        · split <;> simp
theorem mapRun {P : Program} {s : Sem Unit} {w w' : World} (h : s.run P w = .ok () w') : (do s; pure Next.skip : Sem Next).run P w = .ok .skip w' := by
  rw [Sem.run_bind, h]; rfl
set_option maxHeartbeats 4000000 in
theorem read_any (s : ByteArray) (hs : s.size ≤ 65536) (hascii : ∀ p ∈ pieces s, ∀ b ∈ p.data.toList, b.toNat < 128) (hps : ∀ p ∈ pieces s, p.size ≤ 65536 ∧ (lineWords p.data.toList).length ≤ 65536 ∧ ∀ y ∈ lineWords p.data.toList, y.length ≤ 65536) (hpl : (pieces s).length ≤ 65537) (hcnt : Lib.countB s ⟨#[10]⟩ + 1 = (pieces s).length) (w : World) (hlib : LibAt w) :
    Calls Tryd.prog 21 #[.string s] w (ReadEnd (readGo 0 ⟨[], [], 0, 0⟩ ((pieces s).map (·.data.toList))) w) := by
  obtain ⟨RES, hR⟩ : ∃ R, R = readGo 0 ⟨[], [], 0, 0⟩ ((pieces s).map (·.data.toList)) := ⟨_, rfl⟩
  rw [← hR]
  have HR := Lib.hid hR
  clear hR
  have HL := Lib.hid hlib
  have HA := Lib.hid hascii
  have HP := Lib.hid hps
  obtain ⟨P, hP⟩ : ∃ P, P = pieces s := ⟨_, rfl⟩
  obtain ⟨n, hn⟩ : ∃ n, n = P.length := ⟨_, rfl⟩
  have hsplit : ∀ w', Below w.heap.size w w' → Calls Tryd.prog 46 #[.string s, .string ⟨#[10]⟩] w' fun e w'' => e = .returned (.slice (some ⟨w'.heap.size, 0, none⟩) n n) ∧ w'' = w'.alloc (.cells (P.map Value.string).toArray 9) := by
    intro w' hb
    obtain ⟨⟨ml, hml⟩, _⟩ := lib_below hlib (hb)
    have := Tryd.strings_Split s ⟨#[10]⟩ ml w' (by omega) hml (by decide)
    rw [hn, hP, ← hcnt]; exact this
  have HS := Lib.hid hsplit
  rw [← hP] at HR HA HP hpl
  rw [← hn] at hpl
  have HN := Lib.hid hn
  clear hsplit hP hn hascii hps hcnt hlib
  have hmm := @run_makeMap Tryd.prog
  go_enter Tryd.func21, Tryd.ntmps21
  go_wp2_with (go_at_call 46; refine (HS.out _ (below_two _ _ _)).mono ?_; rintro e w' ⟨rfl, rfl⟩)
  go_loopw [20] (fun i wr => ∃ (k : Nat) (st : PS) (lv : Value) (vs : List Value), k ≤ n ∧ i = .int .i64 k ∧ Hid (SrcAt wr (w.heap.size + 2) (w.heap.size + 1) w.heap.size lv vs st) ∧ Hid (Below w.heap.size w wr) ∧ Hid (wr.heap[w.heap.size + 2]? = some (.cells (P.map Value.string).toArray 9)) ∧ Hid (RES = readGo k st ((P.drop k).map (·.data.toList))) ∧ Hid (Good st k)) (fun i _ => n - (intOf i).toNat)
  case atStart =>
    have e0 : ∀ (w : World) (a b : Obj), ((w.alloc a).alloc b).heap[w.heap.size + 1]? = some b := fun w a b => heap_alloc2_new w a b
    have hX : (((w.alloc (.map #[] 0)).alloc (.cells #[.slice none 0 0, .map (some w.heap.size), .int .u8 0, .int .i64 0] 59)).alloc (.cells (P.map Value.string).toArray 9)).heap[w.heap.size + 1]? = some (.cells #[.slice none 0 0, .map (some w.heap.size), .int .u8 0, .int .i64 0] 59) := by
      rw [heap_alloc_old _ _ (by simp)]; exact heap_alloc2_new _ _ _
    have hM : (((w.alloc (.map #[] 0)).alloc (.cells #[.slice none 0 0, .map (some w.heap.size), .int .u8 0, .int .i64 0] 59)).alloc (.cells (P.map Value.string).toArray 9)).heap[w.heap.size]? = some (.map #[] 0) := by
      rw [heap_alloc_old _ _ (by simp; omega)]; exact heap_alloc2_old _ _ _
    refine ⟨0, ⟨[], [], 0, 0⟩, .slice none 0 0, [], Nat.zero_le _, rfl, Lib.hid ⟨by simp, hX, ⟨_, _, hM, rfl⟩, rfl, World.ownsRow_nil _ _ _ _, fun j hj => by simp at hj⟩, Lib.hid ((below_two _ _ _).alloc (by simp; omega) _), Lib.hid ?_, Lib.hid HR.out, Lib.hid ⟨by simp, by simp, by simp⟩⟩
    have := heap_alloc_new ((w.alloc (.map #[] 0)).alloc (.cells #[.slice none 0 0, .map (some w.heap.size), .int .u8 0, .int .i64 0] 59)) (.cells (P.map Value.string).toArray 9)
    simpa using this
  case round =>
    rename World => wo
    obtain ⟨k, st, lv, vs, hk, rfl, hsrc, hbel, hpcs, hres, hgood⟩ := hrel
    by_cases hlt : k < n
    · have hkP : k < P.length := by rw [← HN.out]; exact hlt
      obtain ⟨p, hp⟩ : ∃ p, p = P[k] := ⟨_, rfl⟩
      have hcell : wo.cell? ⟨w.heap.size + 2, k, none⟩ = some (.string p) := by
        rw [cell_of_row _ _ _ _ _ _ hpcs.out, hp]; simp [hkP]
      have hdrop : P.drop k = p :: P.drop (k + 1) := by rw [List.drop_eq_getElem_cons hkP, hp]
      have hres' := hres.out
      rw [hdrop, List.map_cons] at hres'
      have HRES := Lib.hid hres'
      have hpA := HA.out p (by rw [hp]; exact List.getElem_mem hkP)
      have hpQ := HP.out p (by rw [hp]; exact List.getElem_mem hkP)
      have hpS := hpQ.1
      obtain ⟨q, hq⟩ : ∃ q : ByteArray, q = ⟨(Lib.cut p.data.toList [35]).1.toArray⟩ := ⟨_, rfl⟩
      have hcut : ∃ (r : ByteArray) (f : Bool), ∀ w', Below w.heap.size w w' → Calls Tryd.prog 47 #[.string p, .string ⟨#[35]⟩] w' fun e w'' => e = .returned (.tuple #[.string q, .string r, .bool f]) ∧ ∃ n, w'' = w'.drewN n := by
        refine ⟨⟨(Lib.cut p.data.toList [35]).2.1.toArray⟩, (Lib.cut p.data.toList [35]).2.2, fun w' hb => ?_⟩
        obtain ⟨⟨ml, hml⟩, _⟩ := lib_below HL.out hb
        rw [hq]
        exact Tryd.strings_Cut p ⟨#[35]⟩ ml w' (by omega) hml
      obtain ⟨r, f, hcut⟩ := hcut
      have HC := Lib.hid hcut
      obtain ⟨W, hW⟩ : ∃ W, W = lineWords p.data.toList := ⟨_, rfl⟩
      obtain ⟨m, hm⟩ : ∃ m, m = W.length := ⟨_, rfl⟩
      have hfld : ∀ w', Below w.heap.size w w' → Calls Tryd.prog 48 #[.string q] w' fun e w'' => e = .returned (.slice (some ⟨w'.heap.size, 0, none⟩) m m) ∧ w'' = w'.alloc (.cells (W.map bsV).toArray 9) := by
        intro w' hb
        obtain ⟨_, ht⟩ := lib_below HL.out hb
        have hsub : ∀ x ∈ q.data.toList, x ∈ p.data.toList := by
          intro x hx
          rw [hq] at hx
          simp only [Lib.cut] at hx
          split at hx
          · exact List.mem_of_mem_take hx
          · exact hx
        have hlen : q.data.toList.length ≤ p.data.toList.length := by
          rw [hq]; simp only [Lib.cut]; split
          · simp only [List.size_toArray, List.length_take]; exact Nat.min_le_right _ _
          · exact Nat.le_refl _
        have hq2 : q.size ≤ 65536 := by rw [← length_data]; rw [← length_data] at hpS; omega
        have := Tryd.strings_Fields_laid q w' (by first | omega | (rw [length_data]; omega)) (fun j x hx => hpA x (hsub x (List.mem_of_getElem? hx))) ht
        rw [show Lib.fields q.data.toList = W from by rw [hW, hq]; rfl, ← hm] at this
        exact this
      have HF := Lib.hid hfld
      have HWL : Hid (W.length ≤ 65536 ∧ ∀ y ∈ W, y.length ≤ 65536) := by show _ ∧ _; rw [hW]; exact hpQ.2
      have HM := Lib.hid hm
      rw [readGo, ← hW] at hres'
      have HRES := Lib.hid hres'
      clear hcut hfld hm hW hres' hdrop hpA hpS hpQ hq hp
      have hbel2 : ∀ nn, Below w.heap.size w (wo.drewN nn) := fun nn => hbel.out.trans ⟨rfl, rfl, rfl, Nat.le_refl _, fun _ _ => rfl⟩
      go_wp2_with (first | (go_at_call 47; refine (HC.out _ hbel.out).mono ?_; rintro e w' ⟨rfl, nn, rfl⟩) | (go_at_call 48; refine (HF.out _ (hbel2 _)).mono ?_; rintro e w' ⟨rfl, rfl⟩))
      go_hide hQ
      go_loopw [8] (fun i wq => ∃ (j o' n' : Nat) (pl : Places), i = .slice (some ⟨wo.heap.size, o', none⟩) n' n' ∧ Hid (SrcAt wq (w.heap.size + 2) (w.heap.size + 1) w.heap.size lv vs { st with pl := pl }) ∧ Hid (Below w.heap.size w wq) ∧ Hid (wq.heap[w.heap.size + 2]? = some (.cells (P.map Value.string).toArray 9)) ∧ Hid (wq.heap[wo.heap.size]? = some (.cells (W.map bsV).toArray 9) ∧ n' = (W.drop j).length ∧ (n' = 0 ∨ o' = j)) ∧ Hid (labelsGo st.size st.pl W = labelsGo st.size pl (W.drop j)) ∧ Hid (∀ p ∈ pl, 0 ≤ p.2 ∧ p.2 ≤ 2048)) (fun i _ => lenV i)
      case atStart =>
        have hwo : w.heap.size + 2 ≤ wo.heap.size := hsrc.out.hXm.2.2.2
        have hda : Below wo.heap.size wo ((wo.drewN nn).alloc (.cells (W.map bsV).toArray 9)) := (show Below wo.heap.size wo (wo.drewN nn) from ⟨rfl, rfl, rfl, Nat.le_refl _, fun _ _ => rfl⟩).alloc (Nat.le_refl _) _
        refine ⟨0, 0, m, st.pl, rfl, Lib.hid (hsrc.out.below hda), Lib.hid (hbel.out.trans (hda.mono (by omega))), Lib.hid ((hda.block _ ?_).trans hpcs.out), Lib.hid ⟨heap_alloc_new (wo.drewN nn) _, HM.out, .inr rfl⟩, Lib.hid rfl, Lib.hid hgood.pl⟩
        exact (Array.getElem?_eq_some_iff.1 hpcs.out).1
      case round =>
        obtain ⟨j, o', n', pl, rfl, isrc, ibel, ipcs, ires, ilab, ipl⟩ := hrel
        by_cases hn' : 0 < n'
        · obtain rfl : o' = j := by have := ires.out.2.2; omega
          obtain ⟨y, ws, hy⟩ : ∃ y ws, W.drop o' = y :: ws := by
            cases hd : W.drop o' with
            | nil => have := ires.out.2.1; rw [hd] at this; simp at this; omega
            | cons y ws => exact ⟨y, ws, rfl⟩
          have hcy : wr.cell? ⟨wo.heap.size, o', none⟩ = some (bsV y) := by
            rw [cell_of_row _ _ _ _ _ _ ires.out.1]
            have : W[o']? = some y := by
              have := congrArg (·[0]?) hy
              simpa using this
            simp [this]
          have hyl : y.length ≤ 65536 := HWL.out.2 y (by
            have : y ∈ W.drop o' := by rw [hy]; exact List.mem_cons_self
            exact List.mem_of_mem_drop this)
          obtain ⟨z, hz⟩ : ∃ z, z = Lib.trimSuffix y [58] := ⟨_, rfl⟩
          have HSF : ∀ bb, Lib.hasSuffix y [58] = bb → Hid (∀ w', Calls Tryd.prog 49 #[bsV y, .string ⟨#[58]⟩] w' fun e w'' => e = .returned (.bool bb) ∧ w' = w'') := by
            intro bb hbb w'; have := Tryd.strings_HasSuffix ⟨y.toArray⟩ ⟨#[58]⟩ w' (by show y.toArray.size ≤ _; simp; omega); rw [← hbb]; exact this.mono fun _ _ h => ⟨h.1, h.2.symm⟩
          have HTS : Hid (∀ w', Calls Tryd.prog 50 #[bsV y, .string ⟨#[58]⟩] w' fun e w'' => e = .returned (bsV z) ∧ w' = w'') := by
            intro w'; have := Tryd.strings_TrimSuffix ⟨y.toArray⟩ ⟨#[58]⟩ w' (by show y.toArray.size ≤ _; simp; omega); rw [hz]; exact this.mono fun _ _ h => ⟨h.1, h.2.symm⟩
          have HWD : ∀ bb, wordI z = bb → Hid (∀ w', Calls Tryd.prog 51 #[bsV z] w' fun e w'' => e = .returned (.bool bb) ∧ w' = w'') := by
            intro bb hbb w'; have := word_any ⟨z.toArray⟩ w'; rw [← hbb]; exact this
          obtain ⟨ii, hi, hzi⟩ := info3
          have hl := run_lookup_str (P := Tryd.prog) (T := 57) Tryd.underlying57 Tryd.underlying9 hi hzi isrc.out.hm ⟨z.toArray⟩
          have hlab : labelsGo st.size st.pl W = (if Lib.hasSuffix y [58] = true then
              (if wordI z = false then (30, pl, y :: ws) else if (lookupP z pl).isSome = true then (29, pl, y :: ws)
                else labelsGo st.size (pl ++ [(z, st.size)]) ws) else (0, pl, y :: ws)) := by
            rw [ilab.out, hy, labelsGo, ← hz]
          have HY := Lib.hid hy
          obtain ⟨hx0, hx1, hx2, hx3, hxf⟩ := isrc.out.cell
          clear hy hz hi hzi
          by_cases c1 : Lib.hasSuffix y [58] = true
          · replace HSF := HSF true c1
            rw [if_pos c1] at hlab
            clear c1
            by_cases c2 : wordI z = false
            · replace HWD := HWD false c2
              rw [if_pos c2] at hlab
              have HE : Hid (RES = (30, (k : Int) + 1, st)) := by show _ = _; rw [HRES.out, hlab]; rfl
              clear c2 hlab hl
              go_wp2_with (first | (go_at_call 49; refine (HSF.out _).mono ?_; rintro e w' ⟨rfl, rfl⟩) | (go_at_call 50; refine (HTS.out _).mono ?_; rintro e w' ⟨rfl, rfl⟩) | (go_at_call 51; refine (HWD.out _).mono ?_; rintro e w' ⟨rfl, rfl⟩))
              subst hQ
              go_wp2
              all_goals (go_ret3; exact ⟨ibel.out, by rw [HE.out]; exact fun h => by simp at h, fun _ => by rw [HE.out]; rfl⟩)
            · have c2 : wordI z = true := by simpa using c2
              replace HWD := HWD true c2
              rw [if_neg (by simp [c2])] at hlab
              clear c2
              cases c3 : lookupP z pl with
              | some v =>
                rw [c3] at hlab hl
                have HE : Hid (RES = (29, (k : Int) + 1, st)) := by show _ = _; rw [HRES.out, hlab]; rfl
                simp only [Option.getD_some, Option.isSome_some] at hl
                clear c3 hlab
                go_wp2_with (first | (go_at_call 49; refine (HSF.out _).mono ?_; rintro e w' ⟨rfl, rfl⟩) | (go_at_call 50; refine (HTS.out _).mono ?_; rintro e w' ⟨rfl, rfl⟩) | (go_at_call 51; refine (HWD.out _).mono ?_; rintro e w' ⟨rfl, rfl⟩))
                subst hQ
                go_wp2
                all_goals (go_ret3; exact ⟨ibel.out, by rw [HE.out]; exact fun h => by simp at h, fun _ => by rw [HE.out]; rfl⟩)
              | none =>
                rw [c3] at hlab hl
                have HL2 := Lib.hid hlab
                have HC3 := Lib.hid c3
                simp only [Option.getD_none, Option.isSome_none] at hl
                clear c3 hlab
                go_wp2_with (first | (go_at_call 49; refine (HSF.out _).mono ?_; rintro e w' ⟨rfl, rfl⟩) | (go_at_call 50; refine (HTS.out _).mono ?_; rintro e w' ⟨rfl, rfl⟩) | (go_at_call 51; refine (HWD.out _).mono ?_; rintro e w' ⟨rfl, rfl⟩))
                go_still_tail 9, (by kernel_rfl)
                have hdr : Below wr.heap.size wr wr.drew := ⟨rfl, rfl, rfl, Nat.le_refl _, fun _ _ => rfl⟩
                have isrc2 := isrc.out.below hdr
                obtain ⟨o, ho, hm2⟩ := run_mapUpdate_str (P := Tryd.prog) (w := wr.drew) (T := 57) Tryd.underlying57 Tryd.underlying9 isrc2.hm ⟨z.toArray⟩ st.size (by exact HC3.out)
                have hs3 := isrc2.map o _ hm2
                refine wpList_run0 rfl _ (by unfold execOp; exact mapRun ho) ?_
                obtain ⟨wz, hwz⟩ : ∃ wz : World, wz = { wr.drew with heap := wr.drew.heap.setIfInBounds w.heap.size o } := ⟨_, rfl⟩
                rw [← hwz] at hs3
                have HWZ := Lib.hid hwz
                rw [← hwz]
                clear hwz
                go_wp2
                have hwo : w.heap.size + 2 ≤ wo.heap.size := hsrc.out.hXm.2.2.2
                have hwb : ∀ kk, kk ≠ w.heap.size → wz.heap[kk]? = wr.heap[kk]? := fun kk hkk => by
                  rw [HWZ.out]; show (wr.heap.setIfInBounds _ _)[kk]? = _; simp [Array.getElem?_setIfInBounds, Ne.symm hkk]
                have hws : wz.heap.size = wr.heap.size := by rw [HWZ.out]; show (wr.heap.setIfInBounds _ _).size = _; simp
                have hdrop2 : W.drop (o' + 1) = ws := by
                  have := congrArg List.tail HY.out
                  simpa using this
                refine ⟨⟨o' + 1, if n' = 1 then o' else o' + 1, n' - 1, pl ++ [(z, st.size)], by split <;> rfl, Lib.hid hs3, Lib.hid ?_, Lib.hid ?_, Lib.hid ⟨?_, ?_, ?_⟩, Lib.hid ?_, Lib.hid ?_⟩, ?_⟩
                · refine ⟨?_, ?_, ?_, by rw [hws]; exact ibel.out.size, fun kk hkk => (hwb kk (by omega)).trans (ibel.out.block kk hkk)⟩
                  · rw [HWZ.out]; exact ibel.out.os
                  · rw [HWZ.out]; exact ibel.out.tape
                  · rw [HWZ.out]; exact ibel.out.output
                · exact (hwb _ (by omega)).trans ipcs.out
                · exact (hwb _ (by omega)).trans ires.out.1
                · have := ires.out.2.1; rw [HY.out] at this; rw [hdrop2]; simp at this; omega
                · by_cases h1 : n' = 1
                  · left; omega
                  · right; rw [if_neg h1]
                · rw [hdrop2, HL2.out]; rfl
                · intro pp hpp
                  rcases List.mem_append.1 hpp with h | h
                  · exact ipl.out pp h
                  · rw [List.mem_singleton.1 h]; exact hgood.size
                · show n' - 1 < n'; omega
          · have c1 : Lib.hasSuffix y [58] = false := by simpa using c1
            replace HSF := HSF false c1
            rw [if_neg (by simp [c1])] at hlab
            obtain ⟨R3, hR3⟩ : ∃ R3, R3 = sizeI y ws := ⟨_, rfl⟩
            obtain ⟨sz, er, x⟩ := R3
            have hbody : bodyGo k st pl (y :: ws) = if er = 0 then (if 2048 < st.size + sz then (11, st) else (0, ⟨pl, st.lines ++ [((k : Int) + 1, y :: ws)], x.getD st.extra, st.size + sz⟩)) else (er, st) := by
              rw [bodyGo, ← hR3]
            have hRb := HRES.out
            rw [hlab] at hRb
            simp only [if_true, ↓reduceIte] at hRb
            rw [hbody] at hRb
            have hwn : n' = ws.length + 1 := by have := ires.out.2.1; rw [HY.out] at this; exact this
            have hdrw : W.drop (o' + 1) = ws := by
              have := congrArg List.tail HY.out
              simpa using this
            have hwl : ws.length ≤ 65536 := by have := HWL.out.1; rw [← hdrw, List.length_drop]; omega
            have hWA : WordsAt wr (.slice (some ⟨wo.heap.size, o', none⟩) n' n') (y :: ws) := by
              refine ⟨wo.heap.size, o', n', by rw [hwn]; rfl, by rw [hwn]; exact Nat.le_refl _, fun jj hjj => ?_⟩
              have h1 : (W.drop o')[jj]? = (y :: ws)[jj]? := by rw [HY.out]
              rw [List.getElem?_drop] at h1
              rw [cell_of_row _ _ _ _ _ _ ires.out.1]
              simp [h1, List.getD, List.getElem?_eq_getElem hjj]
            have hmeas := measure_any (w.heap.size + 1) y ws (.slice (some ⟨wo.heap.size, o', none⟩) n' n') wr hWA (by omega) _ hx2 (hxf 2)
            rw [← hR3] at hmeas
            have hin : ∀ w1, Below wr.heap.size (markX (w.heap.size + 1) x wr) w1 → Hid (SrcAt w1 (w.heap.size + 2) (w.heap.size + 1) w.heap.size lv vs { st with pl := pl, extra := x.getD st.extra }) ∧ w1.cell? ⟨w.heap.size + 1, 0, none⟩ = some lv ∧ w1.cell? ⟨w.heap.size + 1, 3, none⟩ = some (.int .i64 st.size) ∧ (∀ i, w1.frozen? ⟨w.heap.size + 1, i, none⟩ = false) ∧ Hid (Below w.heap.size w w1) ∧ Hid ((∀ kk, kk < wr.heap.size → kk ≠ w.heap.size + 1 → w1.heap[kk]? = wr.heap[kk]?) ∧ wr.heap.size ≤ w1.heap.size) := by
              intro w1 hb1
              have h1 := (isrc.out.mark x).below (w' := w1) (by cases x with | none => exact hb1 | some v => simpa [markX] using hb1)
              exact ⟨Lib.hid h1, h1.cell.1, h1.cell.2.2.2.1, h1.cell.2.2.2.2, Lib.hid ((below_mark ibel.out (by omega)).trans (hb1.mono ibel.out.size)), Lib.hid ⟨fun kk hk1 hk2 => (hb1.block kk hk1).trans (markX_other hk2), markX_size ▸ hb1.size⟩⟩
            have HIN := Lib.hid hin
            have HME := Lib.hid hmeas
            have hszb : 0 ≤ sz ∧ sz ≤ 300000 := by
              have h2 : ∀ a, a ∈ ws → a.length ≤ 65536 := fun a ha => HWL.out.2 a (by
                have : a ∈ W.drop (o' + 1) := by rw [hdrw]; exact ha
                exact List.mem_of_mem_drop this)
              have h3 := size_bd y ws hwl h2
              rw [← hR3] at h3; exact h3
            obtain ⟨hsz0, hsz1⟩ := hszb
            have hss := hgood.size
            have hgoodH := Lib.hid hgood
            obtain ⟨hss0, hss1⟩ := hss
            clear hlab hl hin hmeas hwn hdrw hwl hWA hbody hR3 hgood c1 HWD HTS
            by_cases d1 : er = 0
            · subst d1
              by_cases d2 : 2048 < st.size + sz
              · have HE : Hid (RES = (11, (k : Int) + 1, st)) := by show _ = _; rw [hRb]; simp [d2]
                clear hRb
                go_wp2_with (first | (go_at_call 49; refine (HSF.out _).mono ?_; rintro e w' ⟨rfl, rfl⟩))
                subst hQ
                go_wp2_with (go_at_call 52; refine HME.out.mono ?_; rintro e w1 ⟨rfl, hb1⟩; obtain ⟨g1, g2, g3, g4, g5, g6⟩ := HIN.out _ hb1; clear hb1)
                all_goals (go_ret3; exact ⟨g5.out.setCell (by simp) _, by rw [HE.out]; exact fun h => by simp at h, fun _ => by rw [HE.out]; rfl⟩)
              · obtain ⟨i0, hi, hz0, hz1, hz2⟩ := info_parts infoLine
                have HGL : Hid (st.lines.length ≤ k ∧ k ≤ 65537) := by have := hgoodH.out.lines; show _ ∧ _; omega
                have HE : Hid (RES = readGo (k + 1) ⟨pl, st.lines ++ [((k : Int) + 1, y :: ws)], x.getD st.extra, st.size + sz⟩ ((P.drop (k + 1)).map (·.data.toList))) := by show _ = _; rw [hRb]; simp [d2]
                clear hRb
                go_wp2_with (first | (go_at_call 49; refine (HSF.out _).mono ?_; rintro e w' ⟨rfl, rfl⟩))
                subst hQ
                go_wp2_with (first | (go_at_call 52; refine HME.out.mono ?_; rintro e w1 ⟨rfl, hb1⟩; obtain ⟨g1, g2, g3, g4, g5, g6⟩ := HIN.out _ hb1; clear hb1) | (at_builtin; refine wpList_append_own _ rfl _ _ 56 rfl (w.heap.size + 2) 61 i0 (.agg #[.int .i64 0, .slice none 0 0]) 2 32 Tryd.underlying56 hi hz0 hz1 hz2 rfl (by decide) _ _ _ rfl (((g1.out.size (st.size + sz)).own).alloc _) ⟨w1.heap.size, 0, none⟩ 1 1 [.int .i64 ((k : Int) + 1), .slice (some ⟨wo.heap.size, o', none⟩) n' n'] rfl rfl ?c1 ?c2 ?c3 ?c4 ?c5 ?_))
                case c1 => exact cell_top _ _ _ _ _ _
                case c2 => intro u hu; simp at hu; rcases hu with rfl | rfl <;> rfl
                case c3 => have := HGL.out; unfold maxLen; omega
                case c4 => have := HGL.out; omega
                case c5 => have := g6.out.2; have := ibel.out.size; have := isrc.out.hXm; simp; omega
                intro v' w2 hown2 hgrow _
                obtain ⟨w1a, hw1a⟩ : ∃ w1a : World, w1a = (w1.setCell ⟨w.heap.size + 1, 3, none⟩ (.int .i64 (st.size + sz))).alloc (.cells #[.int .i64 ((k : Int) + 1), .slice (some ⟨wo.heap.size, o', none⟩) n' n'] 61) := ⟨_, rfl⟩
                have hA : SrcAt w1a (w.heap.size + 2) (w.heap.size + 1) w.heap.size lv vs { ({ st with pl := pl, extra := x.getD st.extra } : PS) with size := st.size + sz } := by
                  rw [hw1a]; exact (g1.out.size (st.size + sz)).below ((Below.refl _ _).alloc (Nat.le_refl _) _)
                rw [← hw1a] at hgrow
                have hXm := hA.hXm
                have hwor := hsrc.out.hXm.2.2.2
                have hwrr : wo.heap.size < wr.heap.size := (Array.getElem?_eq_some_iff.1 ires.out.1).1
                have hBr : w.heap.size + 2 < wr.heap.size := (Array.getElem?_eq_some_iff.1 ipcs.out).1
                have hw1s : w1.heap.size < w1a.heap.size := by rw [hw1a]; simp
                have hkeep : ∀ kk, kk < wr.heap.size → kk ≠ w.heap.size + 1 → w1a.heap[kk]? = wr.heap[kk]? := by
                  intro kk h1 h2
                  have h3 := g6.out
                  rw [hw1a, heap_alloc_old _ _ (by simp; omega), heap_setCell_other _ _ _ _ (by simpa using h2)]
                  exact h3.1 kk h1 h2
                have hWB : WordsB w1a (w.heap.size + 2) (.slice (some ⟨wo.heap.size, o', none⟩) n' n') (y :: ws) := by
                  refine ⟨wo.heap.size, o', n', W, hwor, (hkeep _ hwrr (by omega)).trans ires.out.1, ?_, ?_, ?_, ?_⟩
                  · have := ires.out.2.1; rw [HY.out] at this; rw [this]
                  · have := ires.out.2.1; rw [HY.out] at this; rw [this]; exact Nat.le_refl _
                  · have := ires.out.2.1; rw [List.length_drop] at this; omega
                  · intro jj hjj
                    have : (W.drop o')[jj]? = (y :: ws)[jj]? := by rw [HY.out]
                    rw [List.getElem?_drop] at this
                    rw [this, List.getD, List.getElem?_eq_getElem hjj]; rfl
                have hline := hA.line hgrow hown2 hWB
                obtain ⟨sp, sn, sc, rfl⟩ : ∃ sp sn sc, v' = .slice sp sn sc := by
                  obtain ⟨_, ⟨rfl, _⟩ | ⟨g', cap, cur, rfl, _⟩⟩ := hown2
                  · exact ⟨_, _, _, rfl⟩
                  · exact ⟨_, _, _, rfl⟩
                have hpcs2 : w2.heap[w.heap.size + 2]? = some (.cells (P.map Value.string).toArray 9) := by
                  have h1 := (hkeep _ hBr (by omega)).trans ipcs.out
                  rw [hgrow.block _ (Array.getElem?_eq_some_iff.1 h1).1 (hA.other h1)]; exact h1
                have hbelA : Below w.heap.size w w2 := by
                  refine Below.grown (w := w1a) ?_ hgrow (by omega) (fun g hg => ?_)
                  · rw [hw1a]; exact (g5.out.setCell (by simp) _).alloc (by have := g5.out.size; simpa using this) _
                  · rcases Nat.lt_or_ge g w.heap.size with h | h
                    · exact absurd hg.symm (hA.low (k := g) (by omega))
                    · exact h
                have hc2 : ∀ i, w2.cell? ⟨w.heap.size + 1, i, none⟩ = w1a.cell? ⟨w.heap.size + 1, i, none⟩ := fun i => World.cell?_of_block (hgrow.block _ (by show w.heap.size + 1 < _; omega) (hA.low (by show w.heap.size + 1 < _; omega)))
                have hf2 : ∀ i, w2.frozen? ⟨w.heap.size + 1, i, none⟩ = false := fun i => (World.frozen?_of_block (hgrow.block _ (by show w.heap.size + 1 < _; omega) (hA.low (by show w.heap.size + 1 < _; omega)))).trans (hA.cell.2.2.2.2 i)
                have hX2 : w2.cell? ⟨w.heap.size + 1, 0, none⟩ = some lv := (hc2 0).trans hA.cell.1
                have HLN := Lib.hid hline
                have HP2 := Lib.hid hpcs2
                have HB2 := Lib.hid hbelA
                clear hline hpcs2 hbelA hWB hkeep hgrow hown2 hA hXm hwor hwrr hBr hw1s hw1a hc2 hi hz0 hz1 hz2 g1 g2 g3 g4
                go_wp2
                refine ⟨⟨k + 1, _, _, _, hlt, rfl, Lib.hid HLN.out, Lib.hid (HB2.out.setCell (by simp) _), Lib.hid ?_, Lib.hid HE.out, Lib.hid ⟨ipl.out, ⟨by show 0 ≤ st.size + sz; omega, by show st.size + sz ≤ 2048; omega⟩, by simp; exact HGL.out.1⟩⟩, ?_⟩
                · rw [heap_setCell_other _ _ _ _ (by simp)]; exact HP2.out
                · simp only [intOf]; omega
            · have HE : Hid (RES = (er, (k : Int) + 1, st)) := by show _ = _; rw [hRb]; simp [d1]
              clear hRb
              have HD1 := Lib.hid d1
              go_wp2_with (first | (go_at_call 49; refine (HSF.out _).mono ?_; rintro e w' ⟨rfl, rfl⟩))
              subst hQ
              go_wp2_with (go_at_call 52; refine HME.out.mono ?_; rintro e w1 ⟨rfl, hb1⟩; obtain ⟨g1, g2, g3, g4, g5, g6⟩ := HIN.out _ hb1; clear hb1)
              all_goals (go_ret3; exact ⟨g5.out, by rw [HE.out]; exact fun h => absurd h HD1.out, fun _ => by rw [HE.out]; rfl⟩)
        · have hl0 : W.drop j = [] := by
            have := ires.out.2.1
            exact List.eq_nil_of_length_eq_zero (by omega)
          have hRb := HRES.out
          rw [ilab.out, hl0, labelsGo] at hRb
          simp only [↓reduceIte, bodyGo] at hRb
          have HE := Lib.hid hRb
          clear hl0 hRb
          go_wp2
          subst hQ
          go_wp2
          refine ⟨⟨k + 1, _, _, _, hlt, rfl, isrc, ibel, ipcs, HE, Lib.hid ⟨ipl.out, hgood.out.size, Nat.le_succ_of_le hgood.out.lines⟩⟩, ?_⟩
          simp only [intOf]; omega
    · have hkn : k = n := by omega
      have hres' := hres.out
      rw [List.drop_eq_nil_of_le (by rw [← HN.out]; omega)] at hres'
      have HE : Hid (RES = (0, 0, st)) := hres'
      clear hres'
      go_wp2
      all_goals (go_ret3; exact ⟨hbel.out, fun _ => ⟨_, _, _, _, _, rfl, by rw [HE.out]; exact hsrc.out, Nat.le_succ _⟩, by rw [HE.out]; exact fun h => by simp at h⟩)
end Go.Proofs.YtlaohefgofmfdaaDoor
