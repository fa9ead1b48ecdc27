/- The walks of package asm's source: a line's size, a value. -/
import Derived.Test.YtlaohefgofmfdaaDoorAsm1
import Derived.Test.YtlaohefgofmfdaaDoorMaps
import Derived.Test.YtlaohefgofmfdaaDoorSpec
namespace Go.Proofs.YtlaohefgofmfdaaDoor
open Go Go.RowKit
set_option maxRecDepth 100000
abbrev bsV (l : Bs) : Value := .string ⟨l.toArray⟩
/-- A slice value that reads as these words. -/
def WordsAt (w : World) (v : Value) (ws : List Bs) : Prop :=
  ∃ b o c, v = .slice (some ⟨b, o, none⟩) ws.length c ∧ ws.length ≤ c ∧ ∀ j, j < ws.length → w.cell? ⟨b, o + j, none⟩ = some (bsV (ws.getD j []))
theorem info3 : ∃ i, Tryd.prog.info? 3 = some i ∧ i.zero = some (.int .i64 0) := by
  cases h : Tryd.prog.info? 3 with
  | none => exact absurd h (by have : (Tryd.prog.info? 3).isSome = true := by kernel_rfl
                               intro e; rw [e] at this; cases this)
  | some i =>
    have h1 : (Tryd.prog.info? 3).bind (·.zero) = some (.int .i64 0) := by kernel_rfl
    rw [h] at h1
    exact ⟨i, rfl, h1⟩
theorem beq_no {a b : Bs} (h : ¬ a = b) : (a == b) = false := by simpa using h

set_option maxHeartbeats 1000000 in
theorem value_any (X m : Nat) (pl : Places) (s : ByteArray) (least most : Int) (w : World) (hx : w.cell? ⟨X, 1, none⟩ = some (.map (some m))) (hm : MapIs w m pl) :
    Calls Tryd.prog 53 #[.pointer (some ⟨X, 0, none⟩), .string s, .int .i64 least, .int .i64 most] w fun e w' =>
      e = .returned (.tuple #[.int .i64 (valueI pl s.data.toList least most).1, .int .i64 (valueI pl s.data.toList least most).2]) ∧ w = w' := by
  obtain ⟨i, hi, hz⟩ := info3
  have hl := run_lookup_str (P := Tryd.prog) (T := 57) Tryd.underlying57 Tryd.underlying9 hi hz hm s
  cases hq : lookupP s.data.toList pl with
  | some v =>
    rw [hq] at hl
    simp only [Option.getD_some, Option.isSome_some] at hl
    have HV : Hid (valueI pl s.data.toList least most = if v < least ∨ most < v then (0, 27) else (v, 0)) := by show _ = _; rw [valueI, hq]
    clear hq hm hi hz
    by_cases h1 : v < least
    · have HV : Hid (valueI pl s.data.toList least most = (0, 27)) := by show _ = _; rw [HV.out, if_pos (.inl h1)]
      go_enter Tryd.func53, Tryd.ntmps53
      go_wp2
      all_goals (go_ret2; exact ⟨by rw [HV.out]; rfl, rfl⟩)
    · by_cases h2 : most < v
      · have HV : Hid (valueI pl s.data.toList least most = (0, 27)) := by show _ = _; rw [HV.out, if_pos (.inr h2)]
        go_enter Tryd.func53, Tryd.ntmps53
        go_wp2
        all_goals (go_ret2; exact ⟨by rw [HV.out]; rfl, rfl⟩)
      · have HV : Hid (valueI pl s.data.toList least most = (v, 0)) := by show _ = _; rw [HV.out, if_neg (by omega)]
        go_enter Tryd.func53, Tryd.ntmps53
        go_wp2
        all_goals (go_ret2; exact ⟨by rw [HV.out]; rfl, rfl⟩)
  | none =>
    rw [hq] at hl
    simp only [Option.getD_none, Option.isSome_none] at hl
    have hw := word_any s
    cases hwd : wordI s.data.toList with
    | true =>
      have HV : Hid (valueI pl s.data.toList least most = (0, 3)) := by show _ = _; rw [valueI, hq]; simp [hwd]
      rw [hwd] at hw
      have HW := Lib.hid hw
      clear hw hwd hq hm hi hz
      go_enter Tryd.func53, Tryd.ntmps53
      go_wp2_with (go_at_call 51; refine (HW.out _).mono ?_; rintro e w' ⟨rfl, rfl⟩)
      all_goals (go_ret2; exact ⟨by rw [HV.out]; rfl, rfl⟩)
    | false =>
      rw [hwd] at hw
      have HW := Lib.hid hw
      have hn := number_any s least most
      obtain ⟨n, hn1⟩ : ∃ n, n = (numI s.data.toList).getD 0 := ⟨_, rfl⟩
      obtain ⟨b, hb⟩ : ∃ b, b = inRange (numI s.data.toList) least most := ⟨_, rfl⟩
      have HV : Hid (valueI pl s.data.toList least most = if b = true then (n, 0) else (0, 27)) := by
        show _ = _
        rw [valueI, hq]
        simp only [hwd, Bool.false_eq_true, if_false]
        rw [hb, inRange_eq, ← rangeI, hn1, rangeI]
        cases numI s.data.toList with
        | none => rfl
        | some x => by_cases h : least ≤ x ∧ x ≤ most <;> simp [h]
      rw [← hb, ← hn1] at hn
      have HN := Lib.hid hn
      clear hn hn1 hb hw hwd hq hm hi hz
      cases b
      · have HV : Hid (valueI pl s.data.toList least most = (0, 27)) := by show _ = _; rw [HV.out]; rfl
        go_enter Tryd.func53, Tryd.ntmps53
        go_wp2_with (first | (go_at_call 51; refine (HW.out _).mono ?_; rintro e w' ⟨rfl, rfl⟩) | (go_at_call 72; refine (HN.out _).mono ?_; rintro e w' ⟨rfl, rfl⟩))
        all_goals (go_ret2; exact ⟨by rw [HV.out]; rfl, rfl⟩)
      · have HV : Hid (valueI pl s.data.toList least most = (n, 0)) := by show _ = _; rw [HV.out]; rfl
        go_enter Tryd.func53, Tryd.ntmps53
        go_wp2_with (first | (go_at_call 51; refine (HW.out _).mono ?_; rintro e w' ⟨rfl, rfl⟩) | (go_at_call 72; refine (HN.out _).mono ?_; rintro e w' ⟨rfl, rfl⟩))
        all_goals (go_ret2; exact ⟨by rw [HV.out]; rfl, rfl⟩)
end Go.Proofs.YtlaohefgofmfdaaDoor
namespace Go.Proofs.YtlaohefgofmfdaaDoor
open Go Go.RowKit
set_option maxRecDepth 100000
/-- What 'measure' leaves in the source. -/
def markX (X : Nat) (x : Option Int) (w : World) : World := match x with | none => w | some n => w.setCell ⟨X, 2, none⟩ (.int .u8 n)

set_option maxHeartbeats 2000000 in
theorem measure_any (X : Nat) (h : Bs) (t : List Bs) (v : Value) (w : World) (hv : WordsAt w v (h :: t)) (ht : (t.length : Int) < 1000000000) (x0 : Value) (hx : w.cell? ⟨X, 2, none⟩ = some x0) (hfr : w.frozen? ⟨X, 2, none⟩ = false) :
    Calls Tryd.prog 52 #[.pointer (some ⟨X, 0, none⟩), v] w fun e w' =>
      e = .returned (.tuple #[.int .i64 (sizeI h t).1, .int .i64 (sizeI h t).2.1]) ∧ Below w.heap.size (markX X (sizeI h t).2.2 w) w' := by
  obtain ⟨b, o, c, rfl, hc, hcells⟩ := hv
  have h0 : w.cell? ⟨b, o, none⟩ = some (bsV h) := hcells 0 (by simp)
  obtain ⟨n, hn⟩ : ∃ n, n = t.length := ⟨_, rfl⟩
  have hlen : (h :: t).length = n + 1 := by simp [hn]
  rw [hlen] at hc hcells ⊢
  rw [← hn] at ht
  by_cases e1 : h = sExtra
  · have b1 : (h == [101, 120, 116, 114, 97]) = true := by rw [e1]; rfl
    by_cases e2 : n = 1
    · have h1 : w.cell? ⟨b, o + 1, none⟩ = some (bsV (t.headD [])) := by
        have := hcells 1 (by omega); rw [this]; cases t with | nil => simp at hn; omega | cons a r => rfl
      obtain ⟨y, hy⟩ : ∃ y, y = t.headD [] := ⟨_, rfl⟩
      rw [← hy] at h1
      have hnum : ∀ w, Calls Tryd.prog 72 #[bsV y, .int .i64 0, .int .i64 32] w fun e w' => e = .returned (.tuple #[.int .i64 ((numI y).getD 0), .bool (inRange (numI y) 0 32)]) ∧ w = w' := number_any ⟨y.toArray⟩ 0 32
      have HV : Hid (sizeI h t = extraI (rangeI y 0 32)) := by
        show _ = _; rw [sizeI, if_pos e1, if_pos (by omega), hy]
      clear hy hcells e1
      subst e2
      have HN := Lib.hid hnum
      clear hnum hn hlen
      cases hq : numI y with
      | none =>
        have HV : Hid (sizeI h t = (0, 27, none)) := by show _ = _; rw [HV.out, rangeI, hq]; rfl
        have HN : Hid (∀ w, Calls Tryd.prog 72 #[bsV y, .int .i64 0, .int .i64 32] w fun e w' => e = .returned (.tuple #[.int .i64 0, .bool false]) ∧ w = w') := by
          show ∀ _, _; have := HN.out; simp only [hq, inRange, Option.getD_none] at this; exact this
        clear hq
        go_enter Tryd.func52, Tryd.ntmps52
        go_wp2_with (go_at_call 72; refine (HN.out _).mono ?_; rintro e w' ⟨rfl, rfl⟩)
        all_goals (go_ret2; exact ⟨by rw [HV.out]; rfl, by rw [HV.out]; exact Below.refl _ _⟩)
      | some z =>
        by_cases hz : 0 ≤ z ∧ z ≤ 32
        · have HV : Hid (sizeI h t = (0, 0, some z)) := by show _ = _; rw [HV.out, rangeI, hq]; simp [hz, extraI]
          have HN : Hid (∀ w, Calls Tryd.prog 72 #[bsV y, .int .i64 0, .int .i64 32] w fun e w' => e = .returned (.tuple #[.int .i64 z, .bool true]) ∧ w = w') := by
            show ∀ _, _; have := HN.out; simp only [hq, inRange, Option.getD_some, hz, decide_true, Bool.and_self] at this; exact this
          clear hq
          obtain ⟨hz0, hz1⟩ := hz
          go_enter Tryd.func52, Tryd.ntmps52
          go_wp2_with (go_at_call 72; refine (HN.out _).mono ?_; rintro e w' ⟨rfl, rfl⟩)
          all_goals (go_ret2; exact ⟨by rw [HV.out]; rfl, by rw [HV.out]; exact Below.refl _ _⟩)
        · have HV : Hid (sizeI h t = (0, 27, none)) := by show _ = _; rw [HV.out, rangeI, hq]; simp only [Option.bind_some, if_neg hz]; rfl
          have HN : Hid (∀ w, Calls Tryd.prog 72 #[bsV y, .int .i64 0, .int .i64 32] w fun e w' => e = .returned (.tuple #[.int .i64 z, .bool false]) ∧ w = w') := by
            show ∀ _, _; have := HN.out
            have e3 : (decide (0 ≤ z) && decide (z ≤ 32)) = false := by simp only [Bool.and_eq_false_iff, decide_eq_false_iff_not]; omega
            simp only [hq, inRange, Option.getD_some, e3] at this; exact this
          clear hq hz
          go_enter Tryd.func52, Tryd.ntmps52
          go_wp2_with (go_at_call 72; refine (HN.out _).mono ?_; rintro e w' ⟨rfl, rfl⟩)
          all_goals (go_ret2; exact ⟨by rw [HV.out]; rfl, by rw [HV.out]; exact Below.refl _ _⟩)
    · have HV : Hid (sizeI h t = (0, 28, none)) := by show _ = _; rw [sizeI, if_pos e1, if_neg (by omega)]
      have e3 : ((n : Int) + 1 != 2) = true := by rw [bne_iff_ne]; omega
      clear hn e1 hlen
      go_enter Tryd.func52, Tryd.ntmps52
      go_wp2
      all_goals (go_ret2; exact ⟨by rw [HV.out]; rfl, by rw [HV.out]; exact Below.refl _ _⟩)
  have b1 : (h == [101, 120, 116, 114, 97]) = false := beq_no e1
  by_cases e2 : h = sByte
  · have b2 : (h == [98, 121, 116, 101]) = true := by rw [e2]; rfl
    have HV : Hid (sizeI h t = ((n : Int), 0, none)) := by show _ = _; rw [sizeI, if_neg e1, if_pos e2, hn]
    clear hn e1 e2 hlen
    go_enter Tryd.func52, Tryd.ntmps52
    go_wp2
    all_goals (go_ret2; exact ⟨by rw [HV.out]; rfl, by rw [HV.out]; exact Below.refl _ _⟩)
  have b2 : (h == [98, 121, 116, 101]) = false := beq_no e2
  by_cases e3 : h = sWord
  · have b3 : (h == [119, 111, 114, 100]) = true := by rw [e3]; rfl
    have HV : Hid (sizeI h t = (4 * (n : Int), 0, none)) := by show _ = _; rw [sizeI, if_neg e1, if_neg e2, if_pos e3, hn]
    clear hn e1 e2 e3 hlen
    go_enter Tryd.func52, Tryd.ntmps52
    go_wp2
    all_goals (go_ret2; exact ⟨by rw [HV.out]; rfl, by rw [HV.out]; exact Below.refl _ _⟩)
  have b3 : (h == [119, 111, 114, 100]) = false := beq_no e3
  by_cases e4 : h = sText
  · have b4 : (h == [116, 101, 120, 116]) = true := by rw [e4]; rfl
    by_cases e5 : n = 1
    · have h1 : w.cell? ⟨b, o + 1, none⟩ = some (bsV (t.headD [])) := by
        have := hcells 1 (by omega); rw [this]; cases t with | nil => simp at hn; omega | cons a r => rfl
      obtain ⟨y, hy⟩ : ∃ y, y = t.headD [] := ⟨_, rfl⟩
      rw [← hy] at h1
      have HV : Hid (sizeI h t = ((y.length : Int), 0, none)) := by show _ = _; rw [sizeI, if_neg e1, if_neg e2, if_neg e3, if_pos e4, if_pos (by omega), hy]
      clear hy hcells
      subst e5
      clear hn e1 e2 e3 e4 hlen
      go_enter Tryd.func52, Tryd.ntmps52
      go_wp2
      all_goals (go_ret2; exact ⟨by rw [HV.out]; rfl, by rw [HV.out]; exact Below.refl _ _⟩)
    · have HV : Hid (sizeI h t = (0, 28, none)) := by show _ = _; rw [sizeI, if_neg e1, if_neg e2, if_neg e3, if_pos e4, if_neg (by omega)]
      have e6 : ((n : Int) + 1 != 2) = true := by rw [bne_iff_ne]; omega
      clear hn e1 e2 e3 e4 hlen
      go_enter Tryd.func52, Tryd.ntmps52
      go_wp2
      all_goals (go_ret2; exact ⟨by rw [HV.out]; rfl, by rw [HV.out]; exact Below.refl _ _⟩)
  have b4 : (h == [116, 101, 120, 116]) = false := beq_no e4
  have hnm := named_any ⟨h.toArray⟩
  obtain ⟨k, hk⟩ : ∃ k, k = namedI h := ⟨_, rfl⟩
  rw [← hk] at hnm
  have HV : Hid (sizeI h t = if k = 0 then (0, 32, none) else (4, 0, none)) := by show _ = _; rw [sizeI, if_neg e1, if_neg e2, if_neg e3, if_neg e4, hk]
  clear hk e1 e2 e3 e4 hn hlen
  by_cases hk0 : k = 0
  · have HV : Hid (sizeI h t = (0, 32, none)) := by show _ = _; rw [HV.out, if_pos hk0]
    rw [show decide (k ≠ 0) = false by simpa using hk0] at hnm
    have HN := Lib.hid hnm
    clear hnm hk0
    go_enter Tryd.func52, Tryd.ntmps52
    go_wp2_with (go_at_call 55; refine (HN.out _).mono ?_; rintro e w' ⟨rfl, hb⟩)
    all_goals (go_ret2; exact ⟨by rw [HV.out]; rfl, by rw [HV.out]; exact hb⟩)
  · have HV : Hid (sizeI h t = (4, 0, none)) := by show _ = _; rw [HV.out, if_neg hk0]
    rw [show decide (k ≠ 0) = true by simpa using hk0] at hnm
    have HN := Lib.hid hnm
    clear hnm hk0
    go_enter Tryd.func52, Tryd.ntmps52
    go_wp2_with (go_at_call 55; refine (HN.out _).mono ?_; rintro e w' ⟨rfl, hb⟩)
    all_goals (go_ret2; exact ⟨by rw [HV.out]; rfl, by rw [HV.out]; exact hb⟩)
end Go.Proofs.YtlaohefgofmfdaaDoor
namespace Go.Proofs.YtlaohefgofmfdaaDoor
open Go Go.RowKit
set_option maxRecDepth 100000
theorem infoByte : (Tryd.prog.info? 5).map (fun i => (i.zero, i.size, i.bytes)) = some (some (.int .u8 0), 1, 1) := by kernel_rfl
theorem u32_of (n : Int) (h : -999999 ≤ n ∧ n ≤ 999999) : IntKind.u32.wrap (wrap32 n) = n % 4294967296 := by
  simp only [IntKind.wrap, IntKind.bits, IntKind.signed, wrap32]; simp
def u8s (l : List Int) : List Value := l.map (Value.int .u8)
theorem value_bd (pl : Places) (hpl : ∀ p ∈ pl, 0 ≤ p.2 ∧ p.2 ≤ 2048) (s : Bs) (least most : Int) (h : -999999 ≤ least ∧ most ≤ 999999 ∧ least ≤ 0 ∧ 0 ≤ most) : -999999 ≤ (valueI pl s least most).1 ∧ (valueI pl s least most).1 ≤ 999999 := by
  unfold valueI
  split
  · split <;> simp only [] <;> omega
  · split
    · simp only []; omega
    · rw [rangeI]
      cases numI s with
      | none => simp only [Option.bind_none]; omega
      | some n =>
        by_cases hb : least ≤ n ∧ n ≤ most
        · simp only [Option.bind_some, if_pos hb]; omega
        · simp only [Option.bind_some, if_neg hb]; omega

set_option maxHeartbeats 2000000 in
theorem data_f (X m : Nat) (pl : Places) (ws : List Bs) (v : Value) (k : Nat) (hk : k = 1 ∨ k = 4) (least most : Int) (hb4 : (k = 4 ∧ least = -999999 ∧ most = 999999) ∨ (k = 1 ∧ least = -128 ∧ most = 255)) (w : World)
    (hx : w.cell? ⟨X, 1, none⟩ = some (.map (some m))) (hm : MapIs w m pl) (hpl : ∀ p ∈ pl, 0 ≤ p.2 ∧ p.2 ≤ 2048) (hv : WordsAt w v ws) (hlen : (ws.length : Int) < 1000000000) :
    Calls Tryd.prog 22 #[.pointer (some ⟨X, 0, none⟩), v, .int .i64 k] w fun e w' => ∃ v', e = .returned (.tuple #[v', .int .i64 (dataGo pl k least most [] ws).2]) ∧
      ((dataGo pl k least most [] ws).2 = 0 → w'.ownsRow w.heap.size 5 1 v' (dataGo pl k least most [] ws).1.length (u8s (dataGo pl k least most [] ws).1)) ∧ Below w.heap.size w w' := by
  obtain ⟨R, hR⟩ : ∃ R, R = dataGo pl k least most [] ws := ⟨_, rfl⟩
  rw [← hR]
  have HR := Lib.hid hR
  clear hR
  obtain ⟨i0, hi, hz0, hz1, hz2⟩ := info_parts infoByte
  obtain ⟨b, o, c, rfl, hc, hcells⟩ := hv
  have hXlt := block_lt_of_cell hx
  have hMlt : m < w.heap.size := by obtain ⟨es, cl, h, _⟩ := hm; exact (Array.getElem?_eq_some_iff.1 h).1
  have hbd := value_bd pl hpl
  clear hpl
  obtain ⟨n, hn⟩ : ∃ n, n = ws.length := ⟨_, rfl⟩
  rw [← hn] at hcells hc hlen ⊢
  have HNL := Lib.hid hn
  clear hn hk
  rcases hb4 with ⟨rfl, rfl, rfl⟩ | ⟨rfl, rfl, rfl⟩
  · go_enter Tryd.func22, Tryd.ntmps22
    go_wp2
    go_loopw [8, 20] (fun out i wr => ∃ (j : Nat) (acc : List Int), j ≤ n ∧ i = .int .i64 j ∧ Hid (acc.length ≤ 4 * j) ∧ Hid (wr.ownsRow w.heap.size 5 1 out acc.length (u8s acc)) ∧ Below w.heap.size w wr ∧ Hid (R = dataGo pl 4 (-999999) 999999 acc (ws.drop j))) (fun _ i _ => n - (intOf i).toNat)
    case atStart => exact ⟨0, [], Nat.zero_le _, rfl, Lib.hid (by simp), Lib.hid (World.ownsRow_nil _ _ _ _), Below.refl _ _, HR⟩
    case round =>
      obtain ⟨j, acc, hj, rfl, hal, hown, hbel, hr⟩ := hrel
      by_cases hlt : j < n
      · have hcell : wr.cell? ⟨b, o + j, none⟩ = some (bsV (ws.getD j [])) := (hbel.cell (p := ⟨b, o + j, none⟩) (block_lt_of_cell (hcells j hlt))).trans (hcells j hlt)
        have hxr : wr.cell? ⟨X, 1, none⟩ = some (.map (some m)) := (hbel.cell (p := ⟨X, 1, none⟩) hXlt).trans hx
        have hmr : MapIs wr m pl := by
          obtain ⟨es, cl, h1, h2⟩ := hm
          exact ⟨es, cl, (hbel.block m hMlt).trans h1, h2⟩
        have hdrop : ws.drop j = ws.getD j [] :: ws.drop (j + 1) := by
          rw [List.drop_eq_getElem_cons (by have := HNL.out; omega), List.getD, List.getElem?_eq_getElem (by have := HNL.out; omega)]; rfl
        have hr' := hr.out
        rw [hdrop] at hr'
        obtain ⟨s, hs⟩ : ∃ s, s = ws.getD j [] := ⟨_, rfl⟩
        rw [← hs] at hcell hr'
        have hcall := value_any X m pl ⟨s.toArray⟩ (-999999) 999999 wr hxr hmr
        have hbdz := hbd s (-999999) 999999 (by omega)
        obtain ⟨z, hz⟩ : ∃ z, z = (valueI pl s (-999999) 999999).1 := ⟨_, rfl⟩
        obtain ⟨er, her⟩ : ∃ er, er = (valueI pl s (-999999) 999999).2 := ⟨_, rfl⟩
        change Calls Tryd.prog 53 #[.pointer (some ⟨X, 0, none⟩), bsV s, .int .i64 (-999999), .int .i64 999999] wr fun e w' => e = .returned (.tuple #[.int .i64 (valueI pl s (-999999) 999999).1, .int .i64 (valueI pl s (-999999) 999999).2]) ∧ wr = w' at hcall
        rw [← hz, ← her] at hcall
        have hstep : Hid (R = if er = 0 then dataGo pl 4 (-999999) 999999 (acc ++ bytesI z 4) (ws.drop (j + 1)) else ([], er)) := by show _ = _; rw [hr', dataGo, ← hz, ← her]
        have HC := Lib.hid hcall
        rw [← hz] at hbdz
        have hu := u32_of z hbdz
        have HW := Lib.hid hu
        clear hr hr' hdrop hs hcall hz her hu hbd hmr
        by_cases he : er = 0
        · have HS : Hid (R = dataGo pl 4 (-999999) 999999 (acc ++ bytesI z 4) (ws.drop (j + 1))) := by show _ = _; rw [hstep.out, if_pos he]
          subst he
          have HO := hown
          clear hcells hxr hx hstep hm
          have hz2' : 0 ≤ z % 4294967296 ∧ z % 4294967296 ≤ 4294967295 := by omega
          go_wp2_with (first | (go_at_call 53; refine HC.out.mono ?_; rintro e w' ⟨rfl, rfl⟩) | (go_at_call 54; refine (bytes_any _ (by omega) (by omega) _).mono ?_; rintro e w1 ⟨rfl, hb1⟩) | (at_builtin; refine wpList_append_own _ rfl _ _ 22 rfl w.heap.size 5 i0 (.int .u8 0) 1 1 Tryd.underlying22 hi hz0 hz1 hz2 rfl (by decide) _ _ _ rfl ((ownsRow_below hown.out hb1).alloc _) ⟨w1.heap.size, 0, none⟩ 4 4 [.int .u8 (z % 256), .int .u8 (z % 4294967296 / 256 % 256), .int .u8 (z % 4294967296 / 65536 % 256), .int .u8 (z % 4294967296 / 16777216)] rfl rfl ?c1 ?c2 ?c3 ?c4 ?c5 ?_))
          case c1 =>
            intro j' u hj'
            match j', hj' with
            | 0, hj' => simp at hj'; subst hj'; simp [Addr.add]
            | 1, hj' => simp at hj'; subst hj'; simp [Addr.add]
            | 2, hj' => simp at hj'; subst hj'; simp [Addr.add]
            | 3, hj' => simp at hj'; subst hj'; simp [Addr.add]
          case c2 => intro u hu; simp at hu; first | (rcases hu with rfl | rfl | rfl | rfl <;> rfl) | (subst hu; rfl)
          case c3 => have := hal.out; unfold maxLen; omega
          case c4 => have := hal.out; omega
          case c5 => have := hbel.size; have := hb1.size; simp; omega
          intro v' w2 hown2 hgrow _
          have hbel2 : Below w.heap.size w w2 := (hbel.trans ((hb1.mono hbel.size).alloc (Nat.le_trans hbel.size hb1.size) _)).grown hgrow (by have := hbel.size; have := hb1.size; simp; omega) (fun g hg => (hown.out.lt g hg).1)
          clear hgrow
          have HO2 := Lib.hid hown2
          clear hown2 hi hz0 hz1 hz2
          go_wp2
          go_roundw
          case rel => exact ⟨j + 1, acc ++ bytesI z 4, by omega, by go_num, Lib.hid (by have := hal.out; simp [bytesI]; omega), Lib.hid (by have := HO2.out; simpa [u8s, bytesI] using this), hbel2, HS⟩
          case measure => simp [intOf]; omega
        · have HS : Hid (R = ([], er)) := by show _ = _; rw [hstep.out, if_neg he]
          have he' : (er != 0) = true := by rw [bne_iff_ne]; exact he
          have H1 := Lib.hid he
          clear he hcells hxr hx hstep hown hm
          go_wp2_with (go_at_call 53; refine HC.out.mono ?_; rintro e w' ⟨rfl, rfl⟩)
          all_goals (go_ret2; exact ⟨_, by rw [HS.out]; rfl, fun h => absurd (by rw [HS.out] at h; exact h) H1.out, hbel⟩)
      · have hje : j = n := by omega
        have HE : Hid (R = (acc, 0)) := by show _ = _; rw [hr.out, hje, HNL.out, List.drop_length]; rfl
        clear hje hr hcells hi hz0 hz1 hz2 hbd
        go_wp2
        go_ret2
        exact ⟨_, by rw [HE.out]; rfl, fun _ => by rw [HE.out]; exact hown.out, hbel⟩
  · go_enter Tryd.func22, Tryd.ntmps22
    go_wp2
    go_loopw [8, 20] (fun out i wr => ∃ (j : Nat) (acc : List Int), j ≤ n ∧ i = .int .i64 j ∧ Hid (acc.length ≤ 4 * j) ∧ Hid (wr.ownsRow w.heap.size 5 1 out acc.length (u8s acc)) ∧ Below w.heap.size w wr ∧ Hid (R = dataGo pl 1 (-128) 255 acc (ws.drop j))) (fun _ i _ => n - (intOf i).toNat)
    case atStart => exact ⟨0, [], Nat.zero_le _, rfl, Lib.hid (by simp), Lib.hid (World.ownsRow_nil _ _ _ _), Below.refl _ _, HR⟩
    case round =>
      obtain ⟨j, acc, hj, rfl, hal, hown, hbel, hr⟩ := hrel
      by_cases hlt : j < n
      · have hcell : wr.cell? ⟨b, o + j, none⟩ = some (bsV (ws.getD j [])) := (hbel.cell (p := ⟨b, o + j, none⟩) (block_lt_of_cell (hcells j hlt))).trans (hcells j hlt)
        have hxr : wr.cell? ⟨X, 1, none⟩ = some (.map (some m)) := (hbel.cell (p := ⟨X, 1, none⟩) hXlt).trans hx
        have hmr : MapIs wr m pl := by
          obtain ⟨es, cl, h1, h2⟩ := hm
          exact ⟨es, cl, (hbel.block m hMlt).trans h1, h2⟩
        have hdrop : ws.drop j = ws.getD j [] :: ws.drop (j + 1) := by
          rw [List.drop_eq_getElem_cons (by have := HNL.out; omega), List.getD, List.getElem?_eq_getElem (by have := HNL.out; omega)]; rfl
        have hr' := hr.out
        rw [hdrop] at hr'
        obtain ⟨s, hs⟩ : ∃ s, s = ws.getD j [] := ⟨_, rfl⟩
        rw [← hs] at hcell hr'
        have hcall := value_any X m pl ⟨s.toArray⟩ (-128) 255 wr hxr hmr
        have hbdz := hbd s (-128) 255 (by omega)
        obtain ⟨z, hz⟩ : ∃ z, z = (valueI pl s (-128) 255).1 := ⟨_, rfl⟩
        obtain ⟨er, her⟩ : ∃ er, er = (valueI pl s (-128) 255).2 := ⟨_, rfl⟩
        change Calls Tryd.prog 53 #[.pointer (some ⟨X, 0, none⟩), bsV s, .int .i64 (-128), .int .i64 255] wr fun e w' => e = .returned (.tuple #[.int .i64 (valueI pl s (-128) 255).1, .int .i64 (valueI pl s (-128) 255).2]) ∧ wr = w' at hcall
        rw [← hz, ← her] at hcall
        have hstep : Hid (R = if er = 0 then dataGo pl 1 (-128) 255 (acc ++ bytesI z 1) (ws.drop (j + 1)) else ([], er)) := by show _ = _; rw [hr', dataGo, ← hz, ← her]
        have HC := Lib.hid hcall
        rw [← hz] at hbdz
        have hu := u32_of z hbdz
        have HW := Lib.hid hu
        clear hr hr' hdrop hs hcall hz her hu hbd hmr
        by_cases he : er = 0
        · have HS : Hid (R = dataGo pl 1 (-128) 255 (acc ++ bytesI z 1) (ws.drop (j + 1))) := by show _ = _; rw [hstep.out, if_pos he]
          subst he
          have HO := hown
          clear hcells hxr hx hstep hm
          have hz2' : 0 ≤ z % 4294967296 ∧ z % 4294967296 ≤ 4294967295 := by omega
          go_wp2_with (first | (go_at_call 53; refine HC.out.mono ?_; rintro e w' ⟨rfl, rfl⟩) | (go_at_call 54; refine (bytes_any _ (by omega) (by omega) _).mono ?_; rintro e w1 ⟨rfl, hb1⟩) | (at_builtin; refine wpList_append_own _ rfl _ _ 22 rfl w.heap.size 5 i0 (.int .u8 0) 1 1 Tryd.underlying22 hi hz0 hz1 hz2 rfl (by decide) _ _ _ rfl ((ownsRow_below hown.out hb1).alloc _) ⟨w1.heap.size, 0, none⟩ 1 4 [.int .u8 (z % 256)] rfl rfl ?c1 ?c2 ?c3 ?c4 ?c5 ?_))
          case c1 =>
            intro j' u hj'
            match j', hj' with
            | 0, hj' => simp at hj'; subst hj'; simp [Addr.add]
          case c2 => intro u hu; simp at hu; first | (rcases hu with rfl | rfl | rfl | rfl <;> rfl) | (subst hu; rfl)
          case c3 => have := hal.out; unfold maxLen; omega
          case c4 => have := hal.out; omega
          case c5 => have := hbel.size; have := hb1.size; simp; omega
          intro v' w2 hown2 hgrow _
          have hbel2 : Below w.heap.size w w2 := (hbel.trans ((hb1.mono hbel.size).alloc (Nat.le_trans hbel.size hb1.size) _)).grown hgrow (by have := hbel.size; have := hb1.size; simp; omega) (fun g hg => (hown.out.lt g hg).1)
          clear hgrow
          have HO2 := Lib.hid hown2
          clear hown2 hi hz0 hz1 hz2
          go_wp2
          go_roundw
          case rel => exact ⟨j + 1, acc ++ bytesI z 1, by omega, by go_num, Lib.hid (by have := hal.out; simp [bytesI]; omega), Lib.hid (by have := HO2.out; simpa [u8s, bytesI] using this), hbel2, HS⟩
          case measure => simp [intOf]; omega
        · have HS : Hid (R = ([], er)) := by show _ = _; rw [hstep.out, if_neg he]
          have he' : (er != 0) = true := by rw [bne_iff_ne]; exact he
          have H1 := Lib.hid he
          clear he hcells hxr hx hstep hown hm
          go_wp2_with (go_at_call 53; refine HC.out.mono ?_; rintro e w' ⟨rfl, rfl⟩)
          all_goals (go_ret2; exact ⟨_, by rw [HS.out]; rfl, fun h => absurd (by rw [HS.out] at h; exact h) H1.out, hbel⟩)
      · have hje : j = n := by omega
        have HE : Hid (R = (acc, 0)) := by show _ = _; rw [hr.out, hje, HNL.out, List.drop_length]; rfl
        clear hje hr hcells hi hz0 hz1 hz2 hbd
        go_wp2
        go_ret2
        exact ⟨_, by rw [HE.out]; rfl, fun _ => by rw [HE.out]; exact hown.out, hbel⟩
end Go.Proofs.YtlaohefgofmfdaaDoor
namespace Go.Proofs.YtlaohefgofmfdaaDoor
open Go Go.RowKit
set_option maxRecDepth 100000
theorem value_bd' (pl : Places) (hpl : ∀ p ∈ pl, 0 ≤ p.2 ∧ p.2 ≤ 2048) (s : Bs) : -999999 ≤ (valueI pl s (-32768) 65535).1 ∧ (valueI pl s (-32768) 65535).1 ≤ 999999 :=
  value_bd pl hpl s (-32768) 65535 (by omega)
/-- What 'wide' and its kin hand back: an instruction, an error's number. -/
def WideEnd (o x n er : Int) (w : World) (e : Ending) (w' : World) : Prop := ∃ y z, e = .returned (.tuple #[instrV o x y z, .int .i64 er]) ∧ (er = 0 → y = n % 256 ∧ z = n / 256) ∧ Below w.heap.size w w'
theorem lookup_bd (pl : Places) (hpl : ∀ p ∈ pl, 0 ≤ p.2 ∧ p.2 ≤ 2048) (s : Bs) (t : Int) (h : lookupP s pl = some t) : 0 ≤ t ∧ t ≤ 2048 := by
  induction pl with
  | nil => cases h
  | cons p r ih =>
    rw [lookupP] at h
    split at h
    · cases h; exact hpl p (by simp)
    · exact ih (fun q hq => hpl q (by simp [hq])) h

set_option maxHeartbeats 2000000 in
theorem wide_value (X m : Nat) (pl : Places) (s : Bs) (o x y z at_ : Int) (ho : 0 ≤ o ∧ o < 40) (lv : Int) (lb : Bool) (w : World) (hx : w.cell? ⟨X, 1, none⟩ = some (.map (some m))) (hm : MapIs w m pl)
    (hl : (Instr.lookup 57 (.map (some m)) (bsV s) true).run Tryd.prog (((w.alloc (.cells #[.int .u8 o, .int .u8 x, .int .u8 y, .int .u8 z] 38)).alloc (.cells #[.int .u8 0, .int .u8 0, .int .u8 0, .int .u8 0] 38))) = .ok (.tuple #[.int .i64 lv, .bool lb]) (((w.alloc (.cells #[.int .u8 o, .int .u8 x, .int .u8 y, .int .u8 z] 38)).alloc (.cells #[.int .u8 0, .int .u8 0, .int .u8 0, .int .u8 0] 38))))
    (hgo : lb = false ∨ o = 2 ∨ o = 3 ∨ o = 4) (hbd : -999999 ≤ (valueI pl s (-32768) 65535).1 ∧ (valueI pl s (-32768) 65535).1 ≤ 999999) :
    Calls Tryd.prog 58 #[.pointer (some ⟨X, 0, none⟩), instrV o x y z, bsV s, .int .i64 at_] w (WideEnd o x (wideV pl s).1 (wideV pl s).2 w) := by
  obtain ⟨n, hn⟩ : ∃ n, n = (valueI pl s (-32768) 65535).1 := ⟨_, rfl⟩
  obtain ⟨er, her⟩ : ∃ er, er = (valueI pl s (-32768) 65535).2 := ⟨_, rfl⟩
  have hXlt : X < w.heap.size := block_lt_of_cell hx
  have hMlt : m < w.heap.size := by obtain ⟨es, cl, h, _⟩ := hm; exact (Array.getElem?_eq_some_iff.1 h).1
  have hcall : ∀ w', Below w.heap.size w w' → Calls Tryd.prog 53 #[.pointer (some ⟨X, 0, none⟩), bsV s, .int .i64 (-32768), .int .i64 65535] w' fun e w'' => e = .returned (.tuple #[.int .i64 n, .int .i64 er]) ∧ w' = w'' := by
    intro w' hb
    have := value_any X m pl ⟨s.toArray⟩ (-32768) 65535 w' ((hb.cell (p := ⟨X, 1, none⟩) hXlt).trans hx) (by
      obtain ⟨es, cl, h1, h2⟩ := hm
      exact ⟨es, cl, (hb.block m hMlt).trans h1, h2⟩)
    rw [hn, her]; exact this
  have HC := Lib.hid hcall
  have HV : Hid (wideV pl s = (n % 65536, er)) := by show _ = _; rw [wideV, hn, her]
  rw [← hn] at hbd
  have hcx : ∀ o1 o2 : Obj, ((w.alloc o1).alloc o2).cell? ⟨X, 1, none⟩ = some (.map (some m)) := fun o1 o2 => by
    rw [World.cell?_alloc_lt _ _ _ (by simp; omega), World.cell?_alloc_lt _ _ _ hXlt]; exact hx
  clear hcall hn her hm hMlt
  have hob : (lb = false) ∨ (lb = true ∧ o = 2) ∨ (lb = true ∧ o = 3) ∨ (lb = true ∧ o = 4) := by
    cases lb <;> simp_all
  clear hgo
  have hw : IntKind.u16.wrap n = n % 65536 := by simp [IntKind.wrap, IntKind.bits, IntKind.signed]
  rcases hob with rfl | ⟨rfl, rfl⟩ | ⟨rfl, rfl⟩ | ⟨rfl, rfl⟩
  · go_enter Tryd.func58, Tryd.ntmps58
    go_wp2_with (first | (go_at_call 53; refine (HC.out _ (below_two _ _ _)).mono ?_; rintro e w' ⟨rfl, rfl⟩) | (go_at_call 74; refine (setWide_any _ _ _ _ _ _ (by omega)).mono ?_; rintro e w' ⟨rfl, hb⟩; obtain ⟨hc, hf⟩ := bcell hb; have hsz := hb.size; simp only [World.size_alloc] at hsz))
    have hbel : Below w.heap.size w w' := (below_two _ _ _).trans (hb.mono (by simp; omega))
    have hb4 : ∀ u0 u1 u2 u3 : Value, Below w.heap.size w ((((w'.setCell ⟨w.heap.size + 1, 0, none⟩ u0).setCell ⟨w.heap.size + 1, 1, none⟩ u1).setCell ⟨w.heap.size + 1, 2, none⟩ u2).setCell ⟨w.heap.size + 1, 3, none⟩ u3) :=
      fun _ _ _ _ => (((hbel.setCell (by simp) _).setCell (by simp) _).setCell (by simp) _).setCell (by simp) _
    exact bodyPost_ret (v := .tuple #[instrV o x (n % 65536 % 256) (n % 65536 / 256), .int .i64 er]) (by simp [results, Tryd.results58, go_sem, *]) rfl ⟨_, _, by rw [HV.out], fun _ => by rw [HV.out]; exact ⟨rfl, rfl⟩, hb4 _ _ _ _⟩
  · go_enter Tryd.func58, Tryd.ntmps58
    go_wp2_with (first | (go_at_call 53; refine (HC.out _ (below_two _ _ _)).mono ?_; rintro e w' ⟨rfl, rfl⟩) | (go_at_call 74; refine (setWide_any _ _ _ _ _ _ (by omega)).mono ?_; rintro e w' ⟨rfl, hb⟩; obtain ⟨hc, hf⟩ := bcell hb; have hsz := hb.size; simp only [World.size_alloc] at hsz))
    have hbel : Below w.heap.size w w' := (below_two _ _ _).trans (hb.mono (by simp; omega))
    have hb4 : ∀ u0 u1 u2 u3 : Value, Below w.heap.size w ((((w'.setCell ⟨w.heap.size + 1, 0, none⟩ u0).setCell ⟨w.heap.size + 1, 1, none⟩ u1).setCell ⟨w.heap.size + 1, 2, none⟩ u2).setCell ⟨w.heap.size + 1, 3, none⟩ u3) :=
      fun _ _ _ _ => (((hbel.setCell (by simp) _).setCell (by simp) _).setCell (by simp) _).setCell (by simp) _
    exact bodyPost_ret (v := .tuple #[instrV 2 x (n % 65536 % 256) (n % 65536 / 256), .int .i64 er]) (by simp [results, Tryd.results58, go_sem, *]) rfl ⟨_, _, by rw [HV.out], fun _ => by rw [HV.out]; exact ⟨rfl, rfl⟩, hb4 _ _ _ _⟩
  · go_enter Tryd.func58, Tryd.ntmps58
    go_wp2_with (first | (go_at_call 53; refine (HC.out _ (below_two _ _ _)).mono ?_; rintro e w' ⟨rfl, rfl⟩) | (go_at_call 74; refine (setWide_any _ _ _ _ _ _ (by omega)).mono ?_; rintro e w' ⟨rfl, hb⟩; obtain ⟨hc, hf⟩ := bcell hb; have hsz := hb.size; simp only [World.size_alloc] at hsz))
    have hbel : Below w.heap.size w w' := (below_two _ _ _).trans (hb.mono (by simp; omega))
    have hb4 : ∀ u0 u1 u2 u3 : Value, Below w.heap.size w ((((w'.setCell ⟨w.heap.size + 1, 0, none⟩ u0).setCell ⟨w.heap.size + 1, 1, none⟩ u1).setCell ⟨w.heap.size + 1, 2, none⟩ u2).setCell ⟨w.heap.size + 1, 3, none⟩ u3) :=
      fun _ _ _ _ => (((hbel.setCell (by simp) _).setCell (by simp) _).setCell (by simp) _).setCell (by simp) _
    exact bodyPost_ret (v := .tuple #[instrV 3 x (n % 65536 % 256) (n % 65536 / 256), .int .i64 er]) (by simp [results, Tryd.results58, go_sem, *]) rfl ⟨_, _, by rw [HV.out], fun _ => by rw [HV.out]; exact ⟨rfl, rfl⟩, hb4 _ _ _ _⟩
  · go_enter Tryd.func58, Tryd.ntmps58
    go_wp2_with (first | (go_at_call 53; refine (HC.out _ (below_two _ _ _)).mono ?_; rintro e w' ⟨rfl, rfl⟩) | (go_at_call 74; refine (setWide_any _ _ _ _ _ _ (by omega)).mono ?_; rintro e w' ⟨rfl, hb⟩; obtain ⟨hc, hf⟩ := bcell hb; have hsz := hb.size; simp only [World.size_alloc] at hsz))
    have hbel : Below w.heap.size w w' := (below_two _ _ _).trans (hb.mono (by simp; omega))
    have hb4 : ∀ u0 u1 u2 u3 : Value, Below w.heap.size w ((((w'.setCell ⟨w.heap.size + 1, 0, none⟩ u0).setCell ⟨w.heap.size + 1, 1, none⟩ u1).setCell ⟨w.heap.size + 1, 2, none⟩ u2).setCell ⟨w.heap.size + 1, 3, none⟩ u3) :=
      fun _ _ _ _ => (((hbel.setCell (by simp) _).setCell (by simp) _).setCell (by simp) _).setCell (by simp) _
    exact bodyPost_ret (v := .tuple #[instrV 4 x (n % 65536 % 256) (n % 65536 / 256), .int .i64 er]) (by simp [results, Tryd.results58, go_sem, *]) rfl ⟨_, _, by rw [HV.out], fun _ => by rw [HV.out]; exact ⟨rfl, rfl⟩, hb4 _ _ _ _⟩

set_option maxHeartbeats 2000000 in
theorem wide_place (X m : Nat) (s : Bs) (o x y z at_ : Int) (hat : 0 ≤ at_ ∧ at_ ≤ 1000000) (ho : (o != 2) = true) (ho3 : (o != 3) = true) (ho4 : (o != 4) = true) (pt : Int) (hto : 0 ≤ pt ∧ pt ≤ 2048) (w : World) (hx : w.cell? ⟨X, 1, none⟩ = some (.map (some m)))
    (hl : (Instr.lookup 57 (.map (some m)) (bsV s) true).run Tryd.prog (((w.alloc (.cells #[.int .u8 o, .int .u8 x, .int .u8 y, .int .u8 z] 38)).alloc (.cells #[.int .u8 0, .int .u8 0, .int .u8 0, .int .u8 0] 38))) = .ok (.tuple #[.int .i64 pt, .bool true]) (((w.alloc (.cells #[.int .u8 o, .int .u8 x, .int .u8 y, .int .u8 z] 38)).alloc (.cells #[.int .u8 0, .int .u8 0, .int .u8 0, .int .u8 0] 38)))) :
    Calls Tryd.prog 58 #[.pointer (some ⟨X, 0, none⟩), instrV o x y z, bsV s, .int .i64 at_] w
      (WideEnd o x ((pt - at_ - 4) / 4 % 65536) (if (pt - at_) % 4 = 0 then 0 else 28) w) := by
  have hXlt : X < w.heap.size := block_lt_of_cell hx
  have hcx : ∀ o1 o2 : Obj, ((w.alloc o1).alloc o2).cell? ⟨X, 1, none⟩ = some (.map (some m)) := fun o1 o2 => by
    rw [World.cell?_alloc_lt _ _ _ (by simp; omega), World.cell?_alloc_lt _ _ _ hXlt]; exact hx
  by_cases h4 : (pt - at_) % 4 = 0
  · rw [if_pos h4]
    have ht : ((pt - at_).tmod 4 != 0) = false := by
      have := Int.tmod_eq_zero_of_dvd (Int.dvd_of_emod_eq_zero h4)
      simp [this]
    obtain ⟨q, hq⟩ : ∃ q, pt - at_ - 4 = 4 * q := ⟨(pt - at_ - 4) / 4, by omega⟩
    have hd : (pt - at_ - 4).tdiv 4 = q := by rw [hq]; exact Int.mul_tdiv_cancel_left q (by decide)
    have hq2 : (pt - at_ - 4) / 4 = q := by omega
    rw [hq2]
    have hqb : -300000 ≤ q ∧ q ≤ 600 := by omega
    have HQ := Lib.hid hq2
    clear hq hq2 h4
    have hw : IntKind.u16.wrap (IntKind.i16.wrap q) = q % 65536 := by simp [IntKind.wrap, IntKind.bits, IntKind.signed]; omega
    go_enter Tryd.func58, Tryd.ntmps58
    go_wp2_with (go_at_call 74; refine (setWide_any _ _ _ _ _ _ (by omega)).mono ?_; rintro e w' ⟨rfl, hb⟩; obtain ⟨hc, hf⟩ := bcell hb; have hsz := hb.size; simp only [World.size_alloc] at hsz)
    have hbel : Below w.heap.size w w' := (below_two _ _ _).trans (hb.mono (by simp; omega))
    have hb4 : ∀ u0 u1 u2 u3 : Value, Below w.heap.size w ((((w'.setCell ⟨w.heap.size + 1, 0, none⟩ u0).setCell ⟨w.heap.size + 1, 1, none⟩ u1).setCell ⟨w.heap.size + 1, 2, none⟩ u2).setCell ⟨w.heap.size + 1, 3, none⟩ u3) :=
      fun _ _ _ _ => (((hbel.setCell (by simp) _).setCell (by simp) _).setCell (by simp) _).setCell (by simp) _
    exact bodyPost_ret (v := .tuple #[instrV o x (q % 65536 % 256) (q % 65536 / 256), .int .i64 0]) (by simp [results, Tryd.results58, go_sem, *]) rfl ⟨_, _, rfl, fun _ => ⟨rfl, rfl⟩, hb4 _ _ _ _⟩
  · rw [if_neg h4]
    have ht : ((pt - at_).tmod 4 != 0) = true := by
      rw [bne_iff_ne]
      intro h
      exact h4 (Int.emod_eq_zero_of_dvd (Int.dvd_of_tmod_eq_zero h))
    have H4 := Lib.hid h4
    clear h4
    go_enter Tryd.func58, Tryd.ntmps58
    go_wp2_with fail
    exact bodyPost_ret (v := .tuple #[instrV o x y z, .int .i64 28]) (by simp [results, Tryd.results58, go_sem, *]) rfl ⟨_, _, rfl, fun h => (by cases h), below_two _ _ _⟩

/-- What 'wide' comes to, whatever its word is. -/
theorem wide_any' (X m : Nat) (pl : Places) (hpl : ∀ p ∈ pl, 0 ≤ p.2 ∧ p.2 ≤ 2048) (s : Bs) (o x y z at_ : Int) (ho : 0 ≤ o ∧ o < 40) (hat : 0 ≤ at_ ∧ at_ ≤ 1000000) (w : World) (hx : w.cell? ⟨X, 1, none⟩ = some (.map (some m))) (hm : MapIs w m pl) :
    Calls Tryd.prog 58 #[.pointer (some ⟨X, 0, none⟩), instrV o x y z, bsV s, .int .i64 at_] w (WideEnd o x (wideI pl o s at_).1 (wideI pl o s at_).2 w) := by
  obtain ⟨i, hi, hz⟩ := info3
  have hMlt : m < w.heap.size := by obtain ⟨es, cl, h, _⟩ := hm; exact (Array.getElem?_eq_some_iff.1 h).1
  have hm2 : MapIs ((w.alloc (.cells #[.int .u8 o, .int .u8 x, .int .u8 y, .int .u8 z] 38)).alloc (.cells #[.int .u8 0, .int .u8 0, .int .u8 0, .int .u8 0] 38)) m pl := by
    obtain ⟨es, cl, h1, h2⟩ := hm
    exact ⟨es, cl, ((below_two _ _ _).block m hMlt).trans h1, h2⟩
  have hl := run_lookup_str (P := Tryd.prog) (T := 57) Tryd.underlying57 Tryd.underlying9 hi hz hm2 ⟨s.toArray⟩
  have hbd := value_bd' pl hpl s
  rw [wideI]
  cases hq : lookupP s pl with
  | none =>
    rw [show (⟨s.toArray⟩ : ByteArray).data.toList = s from rfl, hq] at hl
    exact wide_value X m pl s o x y z at_ ho 0 false w hx hm hl (.inl rfl) hbd
  | some pt =>
    rw [show (⟨s.toArray⟩ : ByteArray).data.toList = s from rfl, hq] at hl
    by_cases ho3 : o = 2 ∨ o = 3 ∨ o = 4
    · simp only [if_pos ho3]
      exact wide_value X m pl s o x y z at_ ho pt true w hx hm hl (.inr ho3) hbd
    · simp only [if_neg ho3]
      have h := wide_place X m s o x y z at_ hat (by rw [bne_iff_ne]; omega) (by rw [bne_iff_ne]; omega) (by rw [bne_iff_ne]; omega) pt (lookup_bd pl hpl s pt hq) w hx hl
      by_cases h4 : (pt - at_) % 4 = 0
      · rw [if_pos h4] at h ⊢; exact h
      · rw [if_neg h4] at h ⊢
        refine h.mono ?_
        rintro e w' ⟨y', z', h1, _, h3⟩
        exact ⟨y', z', h1, fun h => (by cases h), h3⟩
end Go.Proofs.YtlaohefgofmfdaaDoor
