/- What an instruction comes to, whatever its words are. Written by gen_asm8.py. -/
import Derived.Test.YtlaohefgofmfdaaDoorAsm7
import Derived.Test.YtlaohefgofmfdaaDoorSpec
namespace Go.Proofs.YtlaohefgofmfdaaDoor
open Go Go.RowKit
set_option maxRecDepth 100000
theorem reg_yes {s : Bs} {n : Int} (h : regI s = some n) : Hid (∀ w, Calls Tryd.prog 57 #[bsV s] w fun e w' => e = .returned (.tuple #[.int .u8 n, .bool true]) ∧ w = w') := by
  obtain ⟨v, h1, h2⟩ := register_any ⟨s.toArray⟩
  change (∀ n, regI s = some n → _) at h1
  change ∀ w, Calls Tryd.prog 57 #[bsV s] w fun e w' => e = .returned (.tuple #[.int .u8 v, .bool (regI s).isSome]) ∧ w = w' at h2
  rw [h] at h2
  rw [(h1 n h).1] at h2
  exact Lib.hid h2
theorem reg_no {s : Bs} (h : regI s = none) : ∃ r, Hid (∀ w, Calls Tryd.prog 57 #[bsV s] w fun e w' => e = .returned (.tuple #[.int .u8 r, .bool false]) ∧ w = w') := by
  obtain ⟨v, _, h2⟩ := register_any ⟨s.toArray⟩
  change ∀ w, Calls Tryd.prog 57 #[bsV s] w fun e w' => e = .returned (.tuple #[.int .u8 v, .bool (regI s).isSome]) ∧ w = w' at h2
  rw [h] at h2
  exact ⟨v, Lib.hid h2⟩
theorem mapIs_below {w w' : World} {m : Nat} {pl : Places} (hm : MapIs w m pl) (hb : Below w.heap.size w w') : MapIs w' m pl := by
  obtain ⟨es, cl, h1, h2⟩ := hm
  exact ⟨es, cl, (hb.block m (Array.getElem?_eq_some_iff.1 h1).1).trans h1, h2⟩
theorem val_at {X m : Nat} {pl : Places} {w : World} (hx : w.cell? ⟨X, 1, none⟩ = some (.map (some m))) (hm : MapIs w m pl) (s : Bs) (lo hi : Int) :
    Hid (∀ w', Below w.heap.size w w' → Calls Tryd.prog 53 #[.pointer (some ⟨X, 0, none⟩), bsV s, .int .i64 lo, .int .i64 hi] w' fun e w'' => e = .returned (.tuple #[.int .i64 (valueI pl s lo hi).1, .int .i64 (valueI pl s lo hi).2]) ∧ w' = w'') :=
  Lib.hid fun w' hb => value_any X m pl ⟨s.toArray⟩ lo hi w' ((hb.cell (p := ⟨X, 1, none⟩) (block_lt_of_cell hx)).trans hx) (mapIs_below hm hb)
theorem wide_at {X m : Nat} {pl : Places} (hpl : ∀ p ∈ pl, 0 ≤ p.2 ∧ p.2 ≤ 2048) {w : World} (hx : w.cell? ⟨X, 1, none⟩ = some (.map (some m))) (hm : MapIs w m pl) (s : Bs) (k x at_ : Int) (hk : 0 ≤ k ∧ k < 40) (hat : 0 ≤ at_ ∧ at_ ≤ 1000000) :
    Hid (∀ w', Below w.heap.size w w' → Calls Tryd.prog 58 #[.pointer (some ⟨X, 0, none⟩), instrV k x 0 0, bsV s, .int .i64 at_] w' (WideEnd k x (wideI pl k s at_).1 (wideI pl k s at_).2 w')) :=
  Lib.hid fun w' hb => wide_any' X m pl hpl s k x 0 0 at_ hk hat w' ((hb.cell (p := ⟨X, 1, none⟩) (block_lt_of_cell hx)).trans hx) (mapIs_below hm hb)
theorem form_bd (k : Int) (h : 1 ≤ k ∧ k < 40) : formI k = 0 ∨ formI k = 1 ∨ formI k = 2 ∨ formI k = 3 ∨ formI k = 4 ∨ formI k = 5 ∨ formI k = 6 ∨ formI k = 7 ∨ formI k = 8 := by
  unfold formI
  repeat' split
  all_goals omega
theorem of_at {k f : Int} (h : formI k = f) (h0 : 0 ≤ f) : Hid (∀ w, Calls Tryd.prog 35 #[.int .u8 k] w fun e w' => e = .returned (.tuple #[.int .u8 f, .bool true]) ∧ w = w') := by
  refine Lib.hid fun w => ?_
  have := of_any k w
  rw [h, if_neg (by omega), show decide (0 ≤ f) = true by simpa using h0] at this
  exact this
theorem value_bd2 (pl : Places) (hpl : ∀ p ∈ pl, 0 ≤ p.2 ∧ p.2 ≤ 2048) (s : Bs) : -999999 ≤ (valueI pl s 8 16).1 ∧ (valueI pl s 8 16).1 ≤ 999999 := by
  unfold valueI
  split
  · split <;> simp only [] <;> omega
  · split
    · simp only []; omega
    · rw [rangeI]
      cases numI s with
      | none => simp only [Option.bind_none]; omega
      | some n =>
        by_cases hb : 8 ≤ n ∧ n ≤ 16
        · simp only [Option.bind_some, if_pos hb]; omega
        · simp only [Option.bind_some, if_neg hb]; omega
theorem namedGo_bd (s : Bs) : ∀ k o, namedGo s k o = 0 ∨ (o ≤ namedGo s k o ∧ namedGo s k o < o + k)
  | 0, o => .inl rfl
  | k + 1, o => by
    rw [namedGo]
    split
    · exact .inr ⟨Nat.le_refl _, by omega⟩
    · rcases namedGo_bd s k (o + 1) with h | h
      · exact .inl h
      · exact .inr ⟨by omega, by omega⟩

set_option maxHeartbeats 4000000 in
theorem instr_any (X m : Nat) (pl : Places) (hpl : ∀ p ∈ pl, 0 ≤ p.2 ∧ p.2 ≤ 2048) (h : Bs) (t : List Bs) (v : Value) (w : World) (at_ : Int) (hat : 0 ≤ at_ ∧ at_ ≤ 1000000)
    (hx : w.cell? ⟨X, 1, none⟩ = some (.map (some m))) (hm : MapIs w m pl) (hv : WordsAt w v (h :: t)) (hlen : t.length < 1000000000) (hk : namedI h ≠ 0) :
    Calls Tryd.prog 23 #[.pointer (some ⟨X, 0, none⟩), v, .int .i64 at_] w (FE (namedI h) (instrI pl (namedI h) t at_).1 (instrI pl (namedI h) t at_).2 w) := by
  obtain ⟨b, o, c, rfl, hc, hcells⟩ := hv
  have hnm := named_any ⟨h.toArray⟩
  change ∀ w, Calls Tryd.prog 55 #[bsV h] w fun e w' => e = .returned (.tuple #[.int .u8 (namedI h), .bool (decide (namedI h ≠ 0))]) ∧ Below w.heap.size w w' at hnm
  have hkb := namedGo_bd h 39 1
  change namedI h = 0 ∨ (1 ≤ namedI h ∧ namedI h < 40) at hkb
  obtain ⟨kn, hkn⟩ : ∃ kn, kn = namedI h := ⟨_, rfl⟩
  rw [← hkn] at hnm hk hkb ⊢
  rw [show decide (kn ≠ 0) = true by simpa using hk] at hnm
  have HN := Lib.hid hnm
  have hk1 : 1 ≤ (kn : Int) ∧ (kn : Int) < 40 := by omega
  have h0 : w.cell? ⟨b, o, none⟩ = some (bsV h) := hcells 0 (by simp)
  have hfb := form_bd kn hk1
  clear hnm hkn hkb
  simp only [List.length_cons] at hc hcells ⊢
  rcases hfb with hf | hf | hf | hf | hf | hf | hf | hf | hf
  · have HO := of_at hf (by decide)
    rw [instrI, hf, show argsI 0 = 0 from rfl]
    by_cases hl : (t.length : Int) = 0
    case neg =>
      rw [if_pos hl]
      exact instr_0_args t.length X m pl kn h b o c w at_ HN HO h0 hc (by rw [bne_iff_ne]; exact hl) hlen
    rw [if_neg (by omega)]
    obtain rfl : t = [] := List.length_eq_zero_iff.1 (by omega)
    rw [show regN 0 = 0 from rfl]
    have hR : regsGo 0 [] = some [] := by simp [regsGo]
    rw [hR]
    exact instr_0_ok X m pl kn h b o c w at_ HN HO h0 hc
  · have HO := of_at hf (by decide)
    rw [instrI, hf, show argsI 1 = 1 from rfl]
    by_cases hl : (t.length : Int) = 1
    case neg =>
      rw [if_pos hl]
      exact instr_1_args t.length X m pl kn h b o c w at_ HN HO h0 hc (by rw [bne_iff_ne]; exact hl) hlen
    rw [if_neg (by omega)]
    match t, hl with
    | [s0], _ =>
      have c0 : w.cell? ⟨b, o + 1, none⟩ = some (bsV s0) := hcells 1 (by simp)
      rw [show regN 1 = 1 from rfl]
      cases e0 : regI s0 with
      | none =>
        have hR : regsGo 1 [s0] = none := by simp [regsGo, e0]
        obtain ⟨r, hr⟩ := reg_no e0
        rw [hR]
        exact instr_1_regs0 X m pl kn h b o c w at_ HN HO h0 hc s0 c0 r hr
      | some n0 =>
        have hR : regsGo 1 [s0] = some [n0] := by simp [regsGo, e0]
        rw [hR]
        exact instr_1_ok X m pl kn h b o c w at_ HN HO h0 hc s0 c0 n0 (reg_yes e0)
  · have HO := of_at hf (by decide)
    rw [instrI, hf, show argsI 2 = 2 from rfl]
    by_cases hl : (t.length : Int) = 2
    case neg =>
      rw [if_pos hl]
      exact instr_2_args t.length X m pl kn h b o c w at_ HN HO h0 hc (by rw [bne_iff_ne]; exact hl) hlen
    rw [if_neg (by omega)]
    match t, hl with
    | [s0, s1], _ =>
      have c0 : w.cell? ⟨b, o + 1, none⟩ = some (bsV s0) := hcells 1 (by simp)
      have c1 : w.cell? ⟨b, o + 1 + 1, none⟩ = some (bsV s1) := hcells 2 (by simp)
      rw [show regN 2 = 2 from rfl]
      cases e0 : regI s0 with
      | none =>
        have hR : regsGo 2 [s0, s1] = none := by simp [regsGo, e0]
        obtain ⟨r, hr⟩ := reg_no e0
        rw [hR]
        exact instr_2_regs0 X m pl kn h b o c w at_ HN HO h0 hc s0 c0 r hr
      | some n0 =>
        cases e1 : regI s1 with
        | none =>
          have hR : regsGo 2 [s0, s1] = none := by simp [regsGo, e0, e1]
          obtain ⟨r, hr⟩ := reg_no e1
          rw [hR]
          exact instr_2_regs1 X m pl kn h b o c w at_ HN HO h0 hc s0 c0 n0 (reg_yes e0) s1 c1 r hr
        | some n1 =>
          have hR : regsGo 2 [s0, s1] = some [n0, n1] := by simp [regsGo, e0, e1]
          rw [hR]
          exact instr_2_ok X m pl kn h b o c w at_ HN HO h0 hc s0 c0 n0 (reg_yes e0) s1 c1 n1 (reg_yes e1)
  · have HO := of_at hf (by decide)
    rw [instrI, hf, show argsI 3 = 3 from rfl]
    by_cases hl : (t.length : Int) = 3
    case neg =>
      rw [if_pos hl]
      exact instr_3_args t.length X m pl kn h b o c w at_ HN HO h0 hc (by rw [bne_iff_ne]; exact hl) hlen
    rw [if_neg (by omega)]
    match t, hl with
    | [s0, s1, s2], _ =>
      have c0 : w.cell? ⟨b, o + 1, none⟩ = some (bsV s0) := hcells 1 (by simp)
      have c1 : w.cell? ⟨b, o + 1 + 1, none⟩ = some (bsV s1) := hcells 2 (by simp)
      have c2 : w.cell? ⟨b, o + 1 + 2, none⟩ = some (bsV s2) := hcells 3 (by simp)
      rw [show regN 3 = 3 from rfl]
      cases e0 : regI s0 with
      | none =>
        have hR : regsGo 3 [s0, s1, s2] = none := by simp [regsGo, e0]
        obtain ⟨r, hr⟩ := reg_no e0
        rw [hR]
        exact instr_3_regs0 X m pl kn h b o c w at_ HN HO h0 hc s0 c0 r hr
      | some n0 =>
        cases e1 : regI s1 with
        | none =>
          have hR : regsGo 3 [s0, s1, s2] = none := by simp [regsGo, e0, e1]
          obtain ⟨r, hr⟩ := reg_no e1
          rw [hR]
          exact instr_3_regs1 X m pl kn h b o c w at_ HN HO h0 hc s0 c0 n0 (reg_yes e0) s1 c1 r hr
        | some n1 =>
          cases e2 : regI s2 with
          | none =>
            have hR : regsGo 3 [s0, s1, s2] = none := by simp [regsGo, e0, e1, e2]
            obtain ⟨r, hr⟩ := reg_no e2
            rw [hR]
            exact instr_3_regs2 X m pl kn h b o c w at_ HN HO h0 hc s0 c0 n0 (reg_yes e0) s1 c1 n1 (reg_yes e1) s2 c2 r hr
          | some n2 =>
            have hR : regsGo 3 [s0, s1, s2] = some [n0, n1, n2] := by simp [regsGo, e0, e1, e2]
            rw [hR]
            exact instr_3_ok X m pl kn h b o c w at_ HN HO h0 hc s0 c0 n0 (reg_yes e0) s1 c1 n1 (reg_yes e1) s2 c2 n2 (reg_yes e2)
  · have HO := of_at hf (by decide)
    rw [instrI, hf, show argsI 4 = 3 from rfl]
    by_cases hl : (t.length : Int) = 3
    case neg =>
      rw [if_pos hl]
      exact instr_4_args t.length X m pl kn h b o c w at_ HN HO h0 hc (by rw [bne_iff_ne]; exact hl) hlen
    rw [if_neg (by omega)]
    match t, hl with
    | [s0, s1, s2], _ =>
      have c0 : w.cell? ⟨b, o + 1, none⟩ = some (bsV s0) := hcells 1 (by simp)
      have c1 : w.cell? ⟨b, o + 1 + 1, none⟩ = some (bsV s1) := hcells 2 (by simp)
      have c2 : w.cell? ⟨b, o + 1 + 2, none⟩ = some (bsV s2) := hcells 3 (by simp)
      rw [show regN 4 = 2 from rfl]
      cases e0 : regI s0 with
      | none =>
        have hR : regsGo 2 [s0, s1, s2] = none := by simp [regsGo, e0]
        obtain ⟨r, hr⟩ := reg_no e0
        rw [hR]
        exact instr_4_regs0 X m pl kn h b o c w at_ HN HO h0 hc s0 c0 r hr
      | some n0 =>
        cases e1 : regI s1 with
        | none =>
          have hR : regsGo 2 [s0, s1, s2] = none := by simp [regsGo, e0, e1]
          obtain ⟨r, hr⟩ := reg_no e1
          rw [hR]
          exact instr_4_regs1 X m pl kn h b o c w at_ HN HO h0 hc s0 c0 n0 (reg_yes e0) s1 c1 r hr
        | some n1 =>
          have hR : regsGo 2 [s0, s1, s2] = some [n0, n1] := by simp [regsGo, e0, e1]
          rw [hR]
          exact instr_4_val X m pl kn h b o c w at_ HN HO h0 hc s0 c0 n0 (reg_yes e0) s1 c1 n1 (reg_yes e1) s2 c2 (valueI pl s2 (-128) 127).1 (valueI pl s2 (-128) 127).2 (value_bd pl hpl s2 (-128) 127 (by omega)) (val_at hx hm s2 (-128) 127)
  · have HO := of_at hf (by decide)
    rw [instrI, hf, show argsI 5 = 2 from rfl]
    by_cases hl : (t.length : Int) = 2
    case neg =>
      rw [if_pos hl]
      exact instr_5_args t.length X m pl kn h b o c w at_ HN HO h0 hc (by rw [bne_iff_ne]; exact hl) hlen
    rw [if_neg (by omega)]
    match t, hl with
    | [s0, s1], _ =>
      have c0 : w.cell? ⟨b, o + 1, none⟩ = some (bsV s0) := hcells 1 (by simp)
      have c1 : w.cell? ⟨b, o + 1 + 1, none⟩ = some (bsV s1) := hcells 2 (by simp)
      rw [show regN 5 = 1 from rfl]
      cases e0 : regI s0 with
      | none =>
        have hR : regsGo 1 [s0, s1] = none := by simp [regsGo, e0]
        obtain ⟨r, hr⟩ := reg_no e0
        rw [hR]
        exact instr_5_regs0 X m pl kn h b o c w at_ HN HO h0 hc s0 c0 r hr
      | some n0 =>
        have hR : regsGo 1 [s0, s1] = some [n0] := by simp [regsGo, e0]
        rw [hR]
        exact instr_5_wide X m pl kn h b o c w at_ HN HO h0 hc s0 c0 n0 (reg_yes e0) s1 c1 _ _ (wide_at hpl hx hm s1 kn n0 at_ (by omega) hat)
  · have HO := of_at hf (by decide)
    rw [instrI, hf, show argsI 6 = 1 from rfl]
    by_cases hl : (t.length : Int) = 1
    case neg =>
      rw [if_pos hl]
      exact instr_6_args t.length X m pl kn h b o c w at_ HN HO h0 hc (by rw [bne_iff_ne]; exact hl) hlen
    rw [if_neg (by omega)]
    match t, hl with
    | [s0], _ =>
      have c0 : w.cell? ⟨b, o + 1, none⟩ = some (bsV s0) := hcells 1 (by simp)
      rw [show regN 6 = 0 from rfl]
      have hR : regsGo 0 [s0] = some [] := by simp [regsGo]
      rw [hR]
      exact instr_6_wide X m pl kn h b o c w at_ HN HO h0 hc s0 c0 _ _ (wide_at hpl hx hm s0 kn 0 at_ (by omega) hat)
  · have HO := of_at hf (by decide)
    rw [instrI, hf, show argsI 7 = 3 from rfl]
    by_cases hl : (t.length : Int) = 3
    case neg =>
      rw [if_pos hl]
      exact instr_7_args t.length X m pl kn h b o c w at_ HN HO h0 hc (by rw [bne_iff_ne]; exact hl) hlen
    rw [if_neg (by omega)]
    match t, hl with
    | [s0, s1, s2], _ =>
      have c0 : w.cell? ⟨b, o + 1, none⟩ = some (bsV s0) := hcells 1 (by simp)
      have c1 : w.cell? ⟨b, o + 1 + 1, none⟩ = some (bsV s1) := hcells 2 (by simp)
      have c2 : w.cell? ⟨b, o + 1 + 2, none⟩ = some (bsV s2) := hcells 3 (by simp)
      rw [show regN 7 = 2 from rfl]
      cases e0 : regI s0 with
      | none =>
        have hR : regsGo 2 [s0, s1, s2] = none := by simp [regsGo, e0]
        obtain ⟨r, hr⟩ := reg_no e0
        rw [hR]
        exact instr_7_regs0 X m pl kn h b o c w at_ HN HO h0 hc s0 c0 r hr
      | some n0 =>
        cases e1 : regI s1 with
        | none =>
          have hR : regsGo 2 [s0, s1, s2] = none := by simp [regsGo, e0, e1]
          obtain ⟨r, hr⟩ := reg_no e1
          rw [hR]
          exact instr_7_regs1 X m pl kn h b o c w at_ HN HO h0 hc s0 c0 n0 (reg_yes e0) s1 c1 r hr
        | some n1 =>
          have hR : regsGo 2 [s0, s1, s2] = some [n0, n1] := by simp [regsGo, e0, e1]
          rw [hR]
          have hb := value_bd2 pl hpl s2
          show Calls _ _ _ _ (FE kn (tailI pl kn 7 n0 n1 0 s2 at_).1 (tailI pl kn 7 n0 n1 0 s2 at_).2 w)
          by_cases he : (valueI pl s2 8 16).2 = 0
          · rw [show tailI pl kn 7 n0 n1 0 s2 at_ = ([(kn : Int), n0, n1, (valueI pl s2 8 16).1 % 256], checkI kn n0 n1 ((valueI pl s2 8 16).1 % 256)) from by simp [tailI, he]]
            exact instr_7_valok X m pl kn h b o c w at_ HN HO h0 hc s0 c0 n0 (reg_yes e0) s1 c1 n1 (reg_yes e1) s2 c2 _ _ hb (val_at hx hm s2 8 16) (by simpa using he)
          · rw [show tailI pl kn 7 n0 n1 0 s2 at_ = ([], (valueI pl s2 8 16).2) from by simp [tailI, he]]
            exact instr_7_valno X m pl kn h b o c w at_ HN HO h0 hc s0 c0 n0 (reg_yes e0) s1 c1 n1 (reg_yes e1) s2 c2 _ _ hb (val_at hx hm s2 8 16) (by simpa using he)
  · have HO := of_at hf (by decide)
    rw [instrI, hf, show argsI 8 = 1 from rfl]
    by_cases hl : (t.length : Int) = 1
    case neg =>
      rw [if_pos hl]
      exact instr_8_args t.length X m pl kn h b o c w at_ HN HO h0 hc (by rw [bne_iff_ne]; exact hl) hlen
    rw [if_neg (by omega)]
    match t, hl with
    | [s0], _ =>
      have c0 : w.cell? ⟨b, o + 1, none⟩ = some (bsV s0) := hcells 1 (by simp)
      rw [show regN 8 = 0 from rfl]
      have hR : regsGo 0 [s0] = some [] := by simp [regsGo]
      rw [hR]
      exact instr_8_val X m pl kn h b o c w at_ HN HO h0 hc s0 c0 (valueI pl s0 0 255).1 (valueI pl s0 0 255).2 (value_bd pl hpl s0 0 255 (by omega)) (val_at hx hm s0 0 255)
end Go.Proofs.YtlaohefgofmfdaaDoor
