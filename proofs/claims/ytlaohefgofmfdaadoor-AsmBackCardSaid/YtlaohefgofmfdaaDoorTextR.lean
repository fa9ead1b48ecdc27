/- The walk of the reference's Text. -/
import Derived.Test.YtlaohefgofmfdaaDoorText
import Derived.BigRegion
namespace Go.Proofs.YtlaohefgofmfdaaDoor
open Go Go.RowKit Go.Proofs.YtlaohefgofmfdaaDoorW.PrintWords
set_option maxRecDepth 100000
theorem lb_drew {w a : World} (h : LBel w a) (n : Nat) : LBel w (a.drewN n) := have h' : Below w.heap.size w a := h; ⟨h'.os, h'.tape, h'.output, h'.size, h'.block⟩
theorem bs_app2 (a b c : Bs) : (⟨a.toArray⟩ : ByteArray) ++ ⟨b.toArray⟩ ++ ⟨c.toArray⟩ = ⟨(a ++ b ++ c).toArray⟩ := by
  apply ByteArray.ext
  simp
theorem bs_app1 (a b : Bs) : (⟨a.toArray⟩ : ByteArray) ++ ⟨b.toArray⟩ = ⟨(a ++ b).toArray⟩ := by
  apply ByteArray.ext
  simp
set_option maxHeartbeats 4000000 in
theorem rtext_any (x : Int) (code : List Int) (v : Value) (hx : Byt x) (hcode : ∀ b ∈ code, Byt b) (hn : code.length ≤ 2048) (w : World) (base : Nat) (hown : w.ownsRow base 5 1 v code.length (u8s code)) :
    Calls Tryd.prog 20 #[.int .i64 x, v] w fun e w' => e = .returned (.string ⟨(textP x code).toArray⟩) ∧ LBel w w' := by
  unfold Byt at hx
  obtain ⟨p, c, rfl, hc, hcm, hrd⟩ := text_reads hown
  have HRD := Lib.hid hrd
  have HCODE := Lib.hid hcode
  have HD : Hid (∀ n W, Byt n → Calls Tryd.prog 42 #[.int .i64 n] W fun e w' => e = .returned (.string ⟨(decI n).toArray⟩) ∧ Below W.heap.size W w') := Lib.hid fun n W h => by unfold Byt at h; exact itoa_any n (by omega) (by omega) W
  have HDL : Hid (∀ n, Byt n → (decI n).length ≤ 7) := Lib.hid fun n h => by unfold Byt at h; exact decI_len n (by omega) (by omega)
  clear hrd hown hcode
  obtain ⟨n, hnn⟩ : ∃ n, n = code.length := ⟨_, rfl⟩
  have HN := Lib.hid hnn
  rw [← hnn] at hc hn ⊢
  clear hnn
  obtain ⟨hx0, hx1⟩ := hx
  obtain ⟨D, hD⟩ : ∃ D, D = decI x := ⟨_, rfl⟩
  have hDl : D.length ≤ 7 := by rw [hD]; exact HDL.out x ⟨hx0, hx1⟩
  have HX : Hid (∀ W, Calls Tryd.prog 42 #[.int .i64 x] W fun e w' => e = .returned (.string ⟨D.toArray⟩) ∧ Below W.heap.size W w') := Lib.hid fun W => by rw [hD]; exact HD.out x W ⟨hx0, hx1⟩
  have HDX := Lib.hid hD
  clear hD
  have hq1 : ¬ (9223372036854775807 < 6 + List.length D) := by omega
  have hq2 : ¬ (9223372036854775807 < 6 + List.length D + 1) := by omega
  go_enter Tryd.func20, Tryd.ntmps20
  by_cases hx0' : 0 < x
  · go_upto_region 4 with (go_at_call 42; (with_reducible refine (HX.out _).mono ?_); rintro e w1 ⟨rfl, hb1⟩)
    obtain ⟨T0, hT0e⟩ : ∃ T0, T0 = extraRow x ++ [10] := ⟨_, rfl⟩
    have hT0 : T0.length ≤ 1000 := by rw [hT0e, extraRow, ← HDX.out]; simp [joinW, sExtra]; omega
    have HL0 : Hid (LBel w w1) := Lib.hid hb1
    have HTX0 : Hid (textP x code = T0 ++ linesT (rowsT code)) := by show _ = _; rw [textP_eq, if_pos hx0', hT0e]
    have HT0 : Hid ((⟨#[101, 120, 116, 114, 97, 32]⟩ : ByteArray) ++ ⟨D.toArray⟩ ++ ⟨#[10]⟩ = ⟨T0.toArray⟩) := by
      show _ = _
      rw [hT0e, extraRow, ← HDX.out]
      apply ByteArray.ext
      simp [joinW, sExtra]
    clear hb1 hT0e
    go_wp2
    go_loopw [5, 6] (fun s i wr => ∃ (m : Nat) (T : Bs), s = .string ⟨T.toArray⟩ ∧ i = .int .i64 m ∧ m ≤ n + 3 ∧ T.length ≤ 1000 + 1000 * m ∧ Hid (LBel w wr) ∧ Hid (textP x code = T ++ linesT (rowsT (code.drop m)))) (fun _ i _ => n + 3 - (intOf i).toNat)
    case atStart => exact ⟨0, T0, by rw [← HT0.out], rfl, by omega, by omega, HL0, by simpa using HTX0⟩
    case round =>
      clear HL0 HTX0 hT0
      obtain ⟨m, T, rfl, rfl, hm, hTl, HL, HTX⟩ := hrel
      by_cases hlt : m < n
      · obtain ⟨g, rfl, hg, hrd⟩ := HRD.out m (by rw [← HN.out]; exact hlt)
        obtain ⟨bs, hbs⟩ : ∃ bs, bs = (code.drop m).take 4 := ⟨_, rfl⟩
        obtain ⟨q, hq⟩ : ∃ q, q = bs.length := ⟨_, rfl⟩
        have hqv : q = min 4 (n - m) := by rw [hq, hbs, HN.out]; simp
        have hq0 : 0 < q := by omega
        have hq4 : q ≤ 4 := by omega
        have hmq : m + q ≤ n := by omega
        have hne : ¬ c = m := by omega
        have hnm : m ≤ n := by omega
        have hgr : g < wr.heap.size := Nat.lt_of_lt_of_le hg HL.out.size
        have rd : ∀ i, i < q → wr.cell? ⟨g, m + i, none⟩ = some (.int .u8 (bs.getD i 0)) := fun i hi => (HL.out.cell (p := ⟨g, m + i, none⟩) hg).trans (by rw [hrd (m + i) (by rw [← HN.out]; omega), hbs, getD_take4 code m i (by omega)])
        go_upto_region 8 with fail
        generalize hr : n - m = r at *
        by_cases h5 : 4 < r
        · have h5i : (4 : Int) < (r : Int) := by omega
          obtain ⟨a, b, d, e', hbe⟩ : ∃ a b d e', bs = [a, b, d, e'] := four_of bs (by omega)
          have HQ : Hid (4 = bs.length) := Lib.hid (by omega)
          have HBSE := Lib.hid hbs
          have HRDM : Hid (∀ i, i < 4 → w.cell? ⟨g, m + i, none⟩ = some (.int .u8 (bs.getD i 0))) := Lib.hid fun i hi => by rw [hrd (m + i) (by rw [← HN.out]; omega), hbs, getD_take4 code m i hi]
          have r0 : wr.cell? ⟨g, m, none⟩ = some (.int .u8 a) := by have := rd 0 (by omega); rw [hbe] at this; exact this
          have r1 : wr.cell? ⟨g, m + 1, none⟩ = some (.int .u8 b) := by have := rd 1 (by omega); rw [hbe] at this; exact this
          have r2 : wr.cell? ⟨g, m + 2, none⟩ = some (.int .u8 d) := by have := rd 2 (by omega); rw [hbe] at this; exact this
          have r3 : wr.cell? ⟨g, m + 3, none⟩ = some (.int .u8 e') := by have := rd 3 (by omega); rw [hbe] at this; exact this
          have ha : Byt a := HCODE.out _ (mem_take4 hbs _ (by rw [hbe]; simp))
          have hb : Byt b := HCODE.out _ (mem_take4 hbs _ (by rw [hbe]; simp))
          have hd : Byt d := HCODE.out _ (mem_take4 hbs _ (by rw [hbe]; simp))
          have he : Byt e' := HCODE.out _ (mem_take4 hbs _ (by rw [hbe]; simp))
          have hq4 : 4 ≤ 4 := Nat.le_refl 4
          by_cases hk4 : checkI a b d e' = 0
          · have HTT : Hid (textP x code = (T ++ textI a b d e' ++ [10]) ++ linesT (rowsT (code.drop (m + 4)))) := by
              show _ = _
              rw [HTX.out, drop4 code m a b d e' (by rw [← hbe, hbs]), rows_right a b d e' _ hk4]; simp
            have HRC : Hid (∀ W, Calls Tryd.prog 15 #[instrV a b d e'] W fun e w' => e = .returned (.int .i64 0) ∧ Below W.heap.size W w') := Lib.hid fun W => by
              have := rcheck_any a b d e' ha W
              rw [hk4] at this
              exact this
            have HRP : Hid (∀ W, Calls Tryd.prog 16 #[instrV a b d e'] W fun e w' => e = .returned (.string ⟨(textI a b d e').toArray⟩) ∧ LBel W w') := Lib.hid fun W => rprint_any a b d e' hb hd he hk4 W
            have hTI := text_lenT a b d e' hb hd he hk4
            generalize textI a b d e' = S at *
            have hs1 : ¬ (9223372036854775807 < List.length T + List.length S) := by omega
            have hs2 : ¬ (9223372036854775807 < List.length T + List.length S + 1) := by omega
            have hTS : (T ++ S ++ [10]).length ≤ 1000 + 1000 * (m + 4) := by simp; omega
            clear hq hqv hbs hbe hrd hk4 HTX rd
            go_upto_region 11 with fail
            go_region
            go_wp2_with (first | (go_at_call 15; refine (HRC.out _).mono ?_; rintro e w3 ⟨rfl, hb3⟩; obtain ⟨hc3, hf3⟩ := bcell hb3) | (go_at_call 16; refine (HRP.out _).mono ?_; rintro e w4 ⟨rfl, hb4⟩))
            go_roundw
            case rel => exact ⟨m + 4, T ++ S ++ [10], congrArg Value.string (bs_app2 T S [10]), by go_num, by omega, hTS, Lib.hid (lb_step (lb_step (lb_drew (lb_alloc HL.out _) _) hb3) hb4), HTT⟩
            case measure => simp [intOf]; omega
          · have HNR : Hid (∀ a b c d, bs = [a, b, c, d] → checkI a b c d ≠ 0) := Lib.hid fun a1 b1 c1 d1 h => by
              rw [hbe] at h
              injection h with h1 h2; injection h2 with h2 h3; injection h3 with h3 h4; injection h4 with h4 _
              subst h1 h2 h3 h4; exact hk4
            obtain ⟨ck, hck⟩ : ∃ ck, ck = checkI a b d e' := ⟨_, rfl⟩
            have HRC : Hid (∀ W, Calls Tryd.prog 15 #[instrV a b d e'] W fun e w' => e = .returned (.int .i64 ck) ∧ Below W.heap.size W w') := Lib.hid fun W => by
              rw [hck]; exact rcheck_any a b d e' ha W
            have hck1 : (ck == 0) = false := by rw [beq_eq_false_iff_ne, hck]; exact hk4
            have hck2 : ¬ ck = 0 := by rw [hck]; exact hk4
            clear hq hqv hbs hbe hk4 rd hck hrd
            go_upto_region 11 with fail
            go_region
            go_upto_region 14 with (first | (go_at_call 15; refine (HRC.out _).mono ?_; rintro e w3 ⟨rfl, hb3⟩; obtain ⟨hc3, hf3⟩ := bcell hb3))
            have HLN : Hid (LBel w w3) := Lib.hid (lb_step (lb_drew (lb_alloc HL.out _) _) hb3)
            clear HL hb3 hc3 hf3 r0 r1 r2 r3
            have hTb : ¬ (9223372036854775807 < List.length T + 4) := by omega
            go_wp2_with (fail)
            go_loopw [5, 9] (fun s i wr => ∃ k : Nat, s = .string ⟨(T ++ sByte ++ wordsB (bs.take k)).toArray⟩ ∧ k ≤ 4 ∧ i = .int .i64 k ∧ Hid (LBel w wr)) (fun _ i _ => 4 - (intOf i).toNat)
            case atStart => exact ⟨0, by rw [List.take_zero]; exact congrArg Value.string (by apply ByteArray.ext; simp [wordsB, sByte]), Nat.zero_le _, rfl, HLN⟩
            case round =>
              clear HLN
              obtain ⟨k, rfl, hk, rfl, HL⟩ := hrel
              have hTk : (wordsB (bs.take k)).length ≤ 32 := wordsB_take bs k (fun y hy => HCODE.out y (mem_take4 HBSE.out y hy)) (by rw [← HQ.out]; exact hq4)
              obtain ⟨U, hU⟩ : ∃ U, U = T ++ sByte ++ wordsB (bs.take k) := ⟨_, rfl⟩
              have hUl : U.length ≤ 4000000 := by rw [hU]; simp [sByte]; omega
              have HU := Lib.hid hU
              rw [← hU]
              clear hU
              by_cases hlk : k < 4
              · obtain ⟨y, hy⟩ : ∃ y, y = bs.getD k 0 := ⟨_, rfl⟩
                have hyB : Byt y := by rw [hy]; exact HCODE.out _ (mem_take4 HBSE.out _ (getD_mem bs k (by rw [← HQ.out]; exact hlk)))
                have hcy : wr.cell? ⟨g, m + k, none⟩ = some (.int .u8 y) := (HL.out.cell (p := ⟨g, m + k, none⟩) hg).trans (by rw [HRDM.out k hlk, hy])
                have HDY : Hid (∀ W, Calls Tryd.prog 42 #[.int .i64 y] W fun e w' => e = .returned (.string ⟨(decI y).toArray⟩) ∧ Below W.heap.size W w') := Lib.hid fun W => HD.out y W hyB
                have hyl := HDL.out y hyB
                have HTK : Hid (wordsB (bs.take (k + 1)) = wordsB (bs.take k) ++ 32 :: decI y) := by show _ = _; rw [hy]; exact wordsB_snoc bs k (by rw [← HQ.out]; exact hlk)
                have wy : IntKind.i64.wrap y = y := by rw [IntKind.wrap_i64]; unfold Byt at hyB; omega
                generalize decI y = Y at *
                have hu1 : ¬ (9223372036854775807 < List.length U + 1) := by omega
                have hu2 : ¬ (9223372036854775807 < List.length U + 1 + List.length Y) := by omega
                unfold Byt at hyB
                obtain ⟨hy0, hy1⟩ := hyB
                clear hy hTk
                go_wp2_with (go_at_call 42; (with_reducible refine (HDY.out _).mono ?_); rintro e w6 ⟨rfl, hb6⟩)
                go_roundw
                case rel => exact ⟨k + 1, by rw [HTK.out, HU.out]; exact congrArg Value.string (by apply ByteArray.ext; simp), by omega, by go_num, Lib.hid (lb_step HL.out hb6)⟩
                case measure => simp [intOf]; omega
              · obtain rfl : k = 4 := by omega
                have hbt : bs.take 4 = bs := by rw [HQ.out, List.take_length]
                have HTT : Hid (textP x code = (U ++ [10]) ++ linesT (rowsT (code.drop (m + 4)))) := by
                  show _ = _
                  rw [HTX.out, rows_bytes code m bs HBSE.out (by rw [← HN.out]; exact hlt) HNR.out, HU.out, hbt]; simp
                have hTW : (U ++ [10]).length ≤ 1000 + 1000 * (m + 4) := by
                  rw [HU.out]; simp [sByte]; omega
                have hu1 : ¬ (9223372036854775807 < List.length U + 1) := by omega
                clear HTX hTk
                go_wp2
                go_roundw
                case rel => exact ⟨m + 4, U ++ [10], congrArg Value.string (by apply ByteArray.ext; simp), by go_num, by omega, hTW, HL, HTT⟩
                case measure => simp [intOf]; omega
        · by_cases h4 : r = 4
          · subst h4
            obtain ⟨a, b, d, e', hbe⟩ : ∃ a b d e', bs = [a, b, d, e'] := four_of bs (by omega)
            have HQ : Hid (4 = bs.length) := Lib.hid (by omega)
            have HBSE := Lib.hid hbs
            have HRDM : Hid (∀ i, i < 4 → w.cell? ⟨g, m + i, none⟩ = some (.int .u8 (bs.getD i 0))) := Lib.hid fun i hi => by rw [hrd (m + i) (by rw [← HN.out]; omega), hbs, getD_take4 code m i hi]
            have r0 : wr.cell? ⟨g, m, none⟩ = some (.int .u8 a) := by have := rd 0 (by omega); rw [hbe] at this; exact this
            have r1 : wr.cell? ⟨g, m + 1, none⟩ = some (.int .u8 b) := by have := rd 1 (by omega); rw [hbe] at this; exact this
            have r2 : wr.cell? ⟨g, m + 2, none⟩ = some (.int .u8 d) := by have := rd 2 (by omega); rw [hbe] at this; exact this
            have r3 : wr.cell? ⟨g, m + 3, none⟩ = some (.int .u8 e') := by have := rd 3 (by omega); rw [hbe] at this; exact this
            have ha : Byt a := HCODE.out _ (mem_take4 hbs _ (by rw [hbe]; simp))
            have hb : Byt b := HCODE.out _ (mem_take4 hbs _ (by rw [hbe]; simp))
            have hd : Byt d := HCODE.out _ (mem_take4 hbs _ (by rw [hbe]; simp))
            have he : Byt e' := HCODE.out _ (mem_take4 hbs _ (by rw [hbe]; simp))
            have hq4 : 4 ≤ 4 := Nat.le_refl 4
            by_cases hk4 : checkI a b d e' = 0
            · have HTT : Hid (textP x code = (T ++ textI a b d e' ++ [10]) ++ linesT (rowsT (code.drop (m + 4)))) := by
                show _ = _
                rw [HTX.out, drop4 code m a b d e' (by rw [← hbe, hbs]), rows_right a b d e' _ hk4]; simp
              have HRC : Hid (∀ W, Calls Tryd.prog 15 #[instrV a b d e'] W fun e w' => e = .returned (.int .i64 0) ∧ Below W.heap.size W w') := Lib.hid fun W => by
                have := rcheck_any a b d e' ha W
                rw [hk4] at this
                exact this
              have HRP : Hid (∀ W, Calls Tryd.prog 16 #[instrV a b d e'] W fun e w' => e = .returned (.string ⟨(textI a b d e').toArray⟩) ∧ LBel W w') := Lib.hid fun W => rprint_any a b d e' hb hd he hk4 W
              have hTI := text_lenT a b d e' hb hd he hk4
              generalize textI a b d e' = S at *
              have hs1 : ¬ (9223372036854775807 < List.length T + List.length S) := by omega
              have hs2 : ¬ (9223372036854775807 < List.length T + List.length S + 1) := by omega
              have hTS : (T ++ S ++ [10]).length ≤ 1000 + 1000 * (m + 4) := by simp; omega
              clear hq hqv hbs hbe hrd hk4 HTX rd
              go_upto_region 11 with fail
              go_region
              go_wp2_with (first | (go_at_call 15; refine (HRC.out _).mono ?_; rintro e w3 ⟨rfl, hb3⟩; obtain ⟨hc3, hf3⟩ := bcell hb3) | (go_at_call 16; refine (HRP.out _).mono ?_; rintro e w4 ⟨rfl, hb4⟩))
              go_roundw
              case rel => exact ⟨m + 4, T ++ S ++ [10], congrArg Value.string (bs_app2 T S [10]), by go_num, by omega, hTS, Lib.hid (lb_step (lb_step (lb_drew (lb_alloc HL.out _) _) hb3) hb4), HTT⟩
              case measure => simp [intOf]; omega
            · have HNR : Hid (∀ a b c d, bs = [a, b, c, d] → checkI a b c d ≠ 0) := Lib.hid fun a1 b1 c1 d1 h => by
                rw [hbe] at h
                injection h with h1 h2; injection h2 with h2 h3; injection h3 with h3 h4; injection h4 with h4 _
                subst h1 h2 h3 h4; exact hk4
              obtain ⟨ck, hck⟩ : ∃ ck, ck = checkI a b d e' := ⟨_, rfl⟩
              have HRC : Hid (∀ W, Calls Tryd.prog 15 #[instrV a b d e'] W fun e w' => e = .returned (.int .i64 ck) ∧ Below W.heap.size W w') := Lib.hid fun W => by
                rw [hck]; exact rcheck_any a b d e' ha W
              have hck1 : (ck == 0) = false := by rw [beq_eq_false_iff_ne, hck]; exact hk4
              have hck2 : ¬ ck = 0 := by rw [hck]; exact hk4
              clear hq hqv hbs hbe hk4 rd hck hrd
              go_upto_region 11 with fail
              go_region
              go_upto_region 14 with (first | (go_at_call 15; refine (HRC.out _).mono ?_; rintro e w3 ⟨rfl, hb3⟩; obtain ⟨hc3, hf3⟩ := bcell hb3))
              have HLN : Hid (LBel w w3) := Lib.hid (lb_step (lb_drew (lb_alloc HL.out _) _) hb3)
              clear HL hb3 hc3 hf3 r0 r1 r2 r3
              have hTb : ¬ (9223372036854775807 < List.length T + 4) := by omega
              go_wp2_with (fail)
              go_loopw [5, 9] (fun s i wr => ∃ k : Nat, s = .string ⟨(T ++ sByte ++ wordsB (bs.take k)).toArray⟩ ∧ k ≤ 4 ∧ i = .int .i64 k ∧ Hid (LBel w wr)) (fun _ i _ => 4 - (intOf i).toNat)
              case atStart => exact ⟨0, by rw [List.take_zero]; exact congrArg Value.string (by apply ByteArray.ext; simp [wordsB, sByte]), Nat.zero_le _, rfl, HLN⟩
              case round =>
                clear HLN
                obtain ⟨k, rfl, hk, rfl, HL⟩ := hrel
                have hTk : (wordsB (bs.take k)).length ≤ 32 := wordsB_take bs k (fun y hy => HCODE.out y (mem_take4 HBSE.out y hy)) (by rw [← HQ.out]; exact hq4)
                obtain ⟨U, hU⟩ : ∃ U, U = T ++ sByte ++ wordsB (bs.take k) := ⟨_, rfl⟩
                have hUl : U.length ≤ 4000000 := by rw [hU]; simp [sByte]; omega
                have HU := Lib.hid hU
                rw [← hU]
                clear hU
                by_cases hlk : k < 4
                · obtain ⟨y, hy⟩ : ∃ y, y = bs.getD k 0 := ⟨_, rfl⟩
                  have hyB : Byt y := by rw [hy]; exact HCODE.out _ (mem_take4 HBSE.out _ (getD_mem bs k (by rw [← HQ.out]; exact hlk)))
                  have hcy : wr.cell? ⟨g, m + k, none⟩ = some (.int .u8 y) := (HL.out.cell (p := ⟨g, m + k, none⟩) hg).trans (by rw [HRDM.out k hlk, hy])
                  have HDY : Hid (∀ W, Calls Tryd.prog 42 #[.int .i64 y] W fun e w' => e = .returned (.string ⟨(decI y).toArray⟩) ∧ Below W.heap.size W w') := Lib.hid fun W => HD.out y W hyB
                  have hyl := HDL.out y hyB
                  have HTK : Hid (wordsB (bs.take (k + 1)) = wordsB (bs.take k) ++ 32 :: decI y) := by show _ = _; rw [hy]; exact wordsB_snoc bs k (by rw [← HQ.out]; exact hlk)
                  have wy : IntKind.i64.wrap y = y := by rw [IntKind.wrap_i64]; unfold Byt at hyB; omega
                  generalize decI y = Y at *
                  have hu1 : ¬ (9223372036854775807 < List.length U + 1) := by omega
                  have hu2 : ¬ (9223372036854775807 < List.length U + 1 + List.length Y) := by omega
                  unfold Byt at hyB
                  obtain ⟨hy0, hy1⟩ := hyB
                  clear hy hTk
                  go_wp2_with (go_at_call 42; (with_reducible refine (HDY.out _).mono ?_); rintro e w6 ⟨rfl, hb6⟩)
                  go_roundw
                  case rel => exact ⟨k + 1, by rw [HTK.out, HU.out]; exact congrArg Value.string (by apply ByteArray.ext; simp), by omega, by go_num, Lib.hid (lb_step HL.out hb6)⟩
                  case measure => simp [intOf]; omega
                · obtain rfl : k = 4 := by omega
                  have hbt : bs.take 4 = bs := by rw [HQ.out, List.take_length]
                  have HTT : Hid (textP x code = (U ++ [10]) ++ linesT (rowsT (code.drop (m + 4)))) := by
                    show _ = _
                    rw [HTX.out, rows_bytes code m bs HBSE.out (by rw [← HN.out]; exact hlt) HNR.out, HU.out, hbt]; simp
                  have hTW : (U ++ [10]).length ≤ 1000 + 1000 * (m + 4) := by
                    rw [HU.out]; simp [sByte]; omega
                  have hu1 : ¬ (9223372036854775807 < List.length U + 1) := by omega
                  clear HTX hTk
                  go_wp2
                  go_roundw
                  case rel => exact ⟨m + 4, U ++ [10], congrArg Value.string (by apply ByteArray.ext; simp), by go_num, by omega, hTW, HL, HTT⟩
                  case measure => simp [intOf]; omega
          · have h5i : ¬ (4 : Int) < (r : Int) := by omega
            have HNR : Hid (∀ a b c d, bs = [a, b, c, d] → checkI a b c d ≠ 0) := Lib.hid fun a1 b1 c1 d1 h => by
              rw [h] at hq
              simp at hq
              omega
            have HQ := Lib.hid hq
            have HBSE := Lib.hid hbs
            have HRDM : Hid (∀ i, i < r → w.cell? ⟨g, m + i, none⟩ = some (.int .u8 (bs.getD i 0))) := Lib.hid fun i hi => by rw [hrd (m + i) (by rw [← HN.out]; omega), hbs, getD_take4 code m i (by omega)]
            obtain rfl : r = q := by omega
            have hri : ((r : Int) == 4) = false := by rw [beq_eq_false_iff_ne]; omega
            have HLN := HL
            clear hq hqv hbs rd hrd
            clear HL
            have hTb : ¬ (9223372036854775807 < List.length T + 4) := by omega
            go_wp2_with (fail)
            go_loopw [5, 9] (fun s i wr => ∃ k : Nat, s = .string ⟨(T ++ sByte ++ wordsB (bs.take k)).toArray⟩ ∧ k ≤ r ∧ i = .int .i64 k ∧ Hid (LBel w wr)) (fun _ i _ => r - (intOf i).toNat)
            case atStart => exact ⟨0, by rw [List.take_zero]; exact congrArg Value.string (by apply ByteArray.ext; simp [wordsB, sByte]), Nat.zero_le _, rfl, HLN⟩
            case round =>
              clear HLN
              obtain ⟨k, rfl, hk, rfl, HL⟩ := hrel
              have hTk : (wordsB (bs.take k)).length ≤ 32 := wordsB_take bs k (fun y hy => HCODE.out y (mem_take4 HBSE.out y hy)) (by rw [← HQ.out]; exact hq4)
              obtain ⟨U, hU⟩ : ∃ U, U = T ++ sByte ++ wordsB (bs.take k) := ⟨_, rfl⟩
              have hUl : U.length ≤ 4000000 := by rw [hU]; simp [sByte]; omega
              have HU := Lib.hid hU
              rw [← hU]
              clear hU
              by_cases hlk : k < r
              · obtain ⟨y, hy⟩ : ∃ y, y = bs.getD k 0 := ⟨_, rfl⟩
                have hyB : Byt y := by rw [hy]; exact HCODE.out _ (mem_take4 HBSE.out _ (getD_mem bs k (by rw [← HQ.out]; exact hlk)))
                have hcy : wr.cell? ⟨g, m + k, none⟩ = some (.int .u8 y) := (HL.out.cell (p := ⟨g, m + k, none⟩) hg).trans (by rw [HRDM.out k hlk, hy])
                have HDY : Hid (∀ W, Calls Tryd.prog 42 #[.int .i64 y] W fun e w' => e = .returned (.string ⟨(decI y).toArray⟩) ∧ Below W.heap.size W w') := Lib.hid fun W => HD.out y W hyB
                have hyl := HDL.out y hyB
                have HTK : Hid (wordsB (bs.take (k + 1)) = wordsB (bs.take k) ++ 32 :: decI y) := by show _ = _; rw [hy]; exact wordsB_snoc bs k (by rw [← HQ.out]; exact hlk)
                have wy : IntKind.i64.wrap y = y := by rw [IntKind.wrap_i64]; unfold Byt at hyB; omega
                generalize decI y = Y at *
                have hu1 : ¬ (9223372036854775807 < List.length U + 1) := by omega
                have hu2 : ¬ (9223372036854775807 < List.length U + 1 + List.length Y) := by omega
                unfold Byt at hyB
                obtain ⟨hy0, hy1⟩ := hyB
                clear hy hTk
                go_wp2_with (go_at_call 42; (with_reducible refine (HDY.out _).mono ?_); rintro e w6 ⟨rfl, hb6⟩)
                go_roundw
                case rel => exact ⟨k + 1, by rw [HTK.out, HU.out]; exact congrArg Value.string (by apply ByteArray.ext; simp), by omega, by go_num, Lib.hid (lb_step HL.out hb6)⟩
                case measure => simp [intOf]; omega
              · obtain rfl : k = r := by omega
                have hbt : bs.take k = bs := by rw [HQ.out, List.take_length]
                have HTT : Hid (textP x code = (U ++ [10]) ++ linesT (rowsT (code.drop (m + 4)))) := by
                  show _ = _
                  rw [HTX.out, rows_bytes code m bs HBSE.out (by rw [← HN.out]; exact hlt) HNR.out, HU.out, hbt]; simp
                have hTW : (U ++ [10]).length ≤ 1000 + 1000 * (m + 4) := by
                  rw [HU.out]; simp [sByte]; omega
                have hu1 : ¬ (9223372036854775807 < List.length U + 1) := by omega
                clear HTX hTk
                go_wp2
                go_roundw
                case rel => exact ⟨m + 4, U ++ [10], congrArg Value.string (by apply ByteArray.ext; simp), by go_num, by omega, hTW, HL, HTT⟩
                case measure => simp [intOf]; omega
      · have HTE : Hid (textP x code = T) := by
          show _ = _
          rw [HTX.out, List.drop_eq_nil_of_le (by rw [← HN.out]; omega)]; simp [rowsT, linesT]
        go_wp2
        go_ret
        exact ⟨congrArg (fun l : Bs => Ending.returned (Value.string ⟨l.toArray⟩)) HTE.out.symm, HL.out⟩
  · go_upto_region 4 with fail
    obtain ⟨T0, hT0e⟩ : ∃ T0 : Bs, T0 = [] := ⟨_, rfl⟩
    have hT0 : T0.length ≤ 1000 := by rw [hT0e]; simp
    have HL0 : Hid (LBel w w) := Lib.hid (Below.refl _ _)
    have HTX0 : Hid (textP x code = T0 ++ linesT (rowsT code)) := by show _ = _; rw [textP_eq, if_neg hx0', hT0e]
    have HT0 : Hid (T0 = []) := hT0e
    clear hT0e
    go_wp2
    go_loopw [5, 6] (fun s i wr => ∃ (m : Nat) (T : Bs), s = .string ⟨T.toArray⟩ ∧ i = .int .i64 m ∧ m ≤ n + 3 ∧ T.length ≤ 1000 + 1000 * m ∧ Hid (LBel w wr) ∧ Hid (textP x code = T ++ linesT (rowsT (code.drop m)))) (fun _ i _ => n + 3 - (intOf i).toNat)
    case atStart => exact ⟨0, T0, by rw [HT0.out], rfl, by omega, by omega, HL0, by simpa using HTX0⟩
    case round =>
      clear HL0 HTX0 hT0
      obtain ⟨m, T, rfl, rfl, hm, hTl, HL, HTX⟩ := hrel
      by_cases hlt : m < n
      · obtain ⟨g, rfl, hg, hrd⟩ := HRD.out m (by rw [← HN.out]; exact hlt)
        obtain ⟨bs, hbs⟩ : ∃ bs, bs = (code.drop m).take 4 := ⟨_, rfl⟩
        obtain ⟨q, hq⟩ : ∃ q, q = bs.length := ⟨_, rfl⟩
        have hqv : q = min 4 (n - m) := by rw [hq, hbs, HN.out]; simp
        have hq0 : 0 < q := by omega
        have hq4 : q ≤ 4 := by omega
        have hmq : m + q ≤ n := by omega
        have hne : ¬ c = m := by omega
        have hnm : m ≤ n := by omega
        have hgr : g < wr.heap.size := Nat.lt_of_lt_of_le hg HL.out.size
        have rd : ∀ i, i < q → wr.cell? ⟨g, m + i, none⟩ = some (.int .u8 (bs.getD i 0)) := fun i hi => (HL.out.cell (p := ⟨g, m + i, none⟩) hg).trans (by rw [hrd (m + i) (by rw [← HN.out]; omega), hbs, getD_take4 code m i (by omega)])
        go_upto_region 8 with fail
        generalize hr : n - m = r at *
        by_cases h5 : 4 < r
        · have h5i : (4 : Int) < (r : Int) := by omega
          obtain ⟨a, b, d, e', hbe⟩ : ∃ a b d e', bs = [a, b, d, e'] := four_of bs (by omega)
          have HQ : Hid (4 = bs.length) := Lib.hid (by omega)
          have HBSE := Lib.hid hbs
          have HRDM : Hid (∀ i, i < 4 → w.cell? ⟨g, m + i, none⟩ = some (.int .u8 (bs.getD i 0))) := Lib.hid fun i hi => by rw [hrd (m + i) (by rw [← HN.out]; omega), hbs, getD_take4 code m i hi]
          have r0 : wr.cell? ⟨g, m, none⟩ = some (.int .u8 a) := by have := rd 0 (by omega); rw [hbe] at this; exact this
          have r1 : wr.cell? ⟨g, m + 1, none⟩ = some (.int .u8 b) := by have := rd 1 (by omega); rw [hbe] at this; exact this
          have r2 : wr.cell? ⟨g, m + 2, none⟩ = some (.int .u8 d) := by have := rd 2 (by omega); rw [hbe] at this; exact this
          have r3 : wr.cell? ⟨g, m + 3, none⟩ = some (.int .u8 e') := by have := rd 3 (by omega); rw [hbe] at this; exact this
          have ha : Byt a := HCODE.out _ (mem_take4 hbs _ (by rw [hbe]; simp))
          have hb : Byt b := HCODE.out _ (mem_take4 hbs _ (by rw [hbe]; simp))
          have hd : Byt d := HCODE.out _ (mem_take4 hbs _ (by rw [hbe]; simp))
          have he : Byt e' := HCODE.out _ (mem_take4 hbs _ (by rw [hbe]; simp))
          have hq4 : 4 ≤ 4 := Nat.le_refl 4
          by_cases hk4 : checkI a b d e' = 0
          · have HTT : Hid (textP x code = (T ++ textI a b d e' ++ [10]) ++ linesT (rowsT (code.drop (m + 4)))) := by
              show _ = _
              rw [HTX.out, drop4 code m a b d e' (by rw [← hbe, hbs]), rows_right a b d e' _ hk4]; simp
            have HRC : Hid (∀ W, Calls Tryd.prog 15 #[instrV a b d e'] W fun e w' => e = .returned (.int .i64 0) ∧ Below W.heap.size W w') := Lib.hid fun W => by
              have := rcheck_any a b d e' ha W
              rw [hk4] at this
              exact this
            have HRP : Hid (∀ W, Calls Tryd.prog 16 #[instrV a b d e'] W fun e w' => e = .returned (.string ⟨(textI a b d e').toArray⟩) ∧ LBel W w') := Lib.hid fun W => rprint_any a b d e' hb hd he hk4 W
            have hTI := text_lenT a b d e' hb hd he hk4
            generalize textI a b d e' = S at *
            have hs1 : ¬ (9223372036854775807 < List.length T + List.length S) := by omega
            have hs2 : ¬ (9223372036854775807 < List.length T + List.length S + 1) := by omega
            have hTS : (T ++ S ++ [10]).length ≤ 1000 + 1000 * (m + 4) := by simp; omega
            clear hq hqv hbs hbe hrd hk4 HTX rd
            go_upto_region 11 with fail
            go_region
            go_wp2_with (first | (go_at_call 15; refine (HRC.out _).mono ?_; rintro e w3 ⟨rfl, hb3⟩; obtain ⟨hc3, hf3⟩ := bcell hb3) | (go_at_call 16; refine (HRP.out _).mono ?_; rintro e w4 ⟨rfl, hb4⟩))
            go_roundw
            case rel => exact ⟨m + 4, T ++ S ++ [10], congrArg Value.string (bs_app2 T S [10]), by go_num, by omega, hTS, Lib.hid (lb_step (lb_step (lb_drew (lb_alloc HL.out _) _) hb3) hb4), HTT⟩
            case measure => simp [intOf]; omega
          · have HNR : Hid (∀ a b c d, bs = [a, b, c, d] → checkI a b c d ≠ 0) := Lib.hid fun a1 b1 c1 d1 h => by
              rw [hbe] at h
              injection h with h1 h2; injection h2 with h2 h3; injection h3 with h3 h4; injection h4 with h4 _
              subst h1 h2 h3 h4; exact hk4
            obtain ⟨ck, hck⟩ : ∃ ck, ck = checkI a b d e' := ⟨_, rfl⟩
            have HRC : Hid (∀ W, Calls Tryd.prog 15 #[instrV a b d e'] W fun e w' => e = .returned (.int .i64 ck) ∧ Below W.heap.size W w') := Lib.hid fun W => by
              rw [hck]; exact rcheck_any a b d e' ha W
            have hck1 : (ck == 0) = false := by rw [beq_eq_false_iff_ne, hck]; exact hk4
            have hck2 : ¬ ck = 0 := by rw [hck]; exact hk4
            clear hq hqv hbs hbe hk4 rd hck hrd
            go_upto_region 11 with fail
            go_region
            go_upto_region 14 with (first | (go_at_call 15; refine (HRC.out _).mono ?_; rintro e w3 ⟨rfl, hb3⟩; obtain ⟨hc3, hf3⟩ := bcell hb3))
            have HLN : Hid (LBel w w3) := Lib.hid (lb_step (lb_drew (lb_alloc HL.out _) _) hb3)
            clear HL hb3 hc3 hf3 r0 r1 r2 r3
            have hTb : ¬ (9223372036854775807 < List.length T + 4) := by omega
            go_wp2_with (fail)
            go_loopw [5, 9] (fun s i wr => ∃ k : Nat, s = .string ⟨(T ++ sByte ++ wordsB (bs.take k)).toArray⟩ ∧ k ≤ 4 ∧ i = .int .i64 k ∧ Hid (LBel w wr)) (fun _ i _ => 4 - (intOf i).toNat)
            case atStart => exact ⟨0, by rw [List.take_zero]; exact congrArg Value.string (by apply ByteArray.ext; simp [wordsB, sByte]), Nat.zero_le _, rfl, HLN⟩
            case round =>
              clear HLN
              obtain ⟨k, rfl, hk, rfl, HL⟩ := hrel
              have hTk : (wordsB (bs.take k)).length ≤ 32 := wordsB_take bs k (fun y hy => HCODE.out y (mem_take4 HBSE.out y hy)) (by rw [← HQ.out]; exact hq4)
              obtain ⟨U, hU⟩ : ∃ U, U = T ++ sByte ++ wordsB (bs.take k) := ⟨_, rfl⟩
              have hUl : U.length ≤ 4000000 := by rw [hU]; simp [sByte]; omega
              have HU := Lib.hid hU
              rw [← hU]
              clear hU
              by_cases hlk : k < 4
              · obtain ⟨y, hy⟩ : ∃ y, y = bs.getD k 0 := ⟨_, rfl⟩
                have hyB : Byt y := by rw [hy]; exact HCODE.out _ (mem_take4 HBSE.out _ (getD_mem bs k (by rw [← HQ.out]; exact hlk)))
                have hcy : wr.cell? ⟨g, m + k, none⟩ = some (.int .u8 y) := (HL.out.cell (p := ⟨g, m + k, none⟩) hg).trans (by rw [HRDM.out k hlk, hy])
                have HDY : Hid (∀ W, Calls Tryd.prog 42 #[.int .i64 y] W fun e w' => e = .returned (.string ⟨(decI y).toArray⟩) ∧ Below W.heap.size W w') := Lib.hid fun W => HD.out y W hyB
                have hyl := HDL.out y hyB
                have HTK : Hid (wordsB (bs.take (k + 1)) = wordsB (bs.take k) ++ 32 :: decI y) := by show _ = _; rw [hy]; exact wordsB_snoc bs k (by rw [← HQ.out]; exact hlk)
                have wy : IntKind.i64.wrap y = y := by rw [IntKind.wrap_i64]; unfold Byt at hyB; omega
                generalize decI y = Y at *
                have hu1 : ¬ (9223372036854775807 < List.length U + 1) := by omega
                have hu2 : ¬ (9223372036854775807 < List.length U + 1 + List.length Y) := by omega
                unfold Byt at hyB
                obtain ⟨hy0, hy1⟩ := hyB
                clear hy hTk
                go_wp2_with (go_at_call 42; (with_reducible refine (HDY.out _).mono ?_); rintro e w6 ⟨rfl, hb6⟩)
                go_roundw
                case rel => exact ⟨k + 1, by rw [HTK.out, HU.out]; exact congrArg Value.string (by apply ByteArray.ext; simp), by omega, by go_num, Lib.hid (lb_step HL.out hb6)⟩
                case measure => simp [intOf]; omega
              · obtain rfl : k = 4 := by omega
                have hbt : bs.take 4 = bs := by rw [HQ.out, List.take_length]
                have HTT : Hid (textP x code = (U ++ [10]) ++ linesT (rowsT (code.drop (m + 4)))) := by
                  show _ = _
                  rw [HTX.out, rows_bytes code m bs HBSE.out (by rw [← HN.out]; exact hlt) HNR.out, HU.out, hbt]; simp
                have hTW : (U ++ [10]).length ≤ 1000 + 1000 * (m + 4) := by
                  rw [HU.out]; simp [sByte]; omega
                have hu1 : ¬ (9223372036854775807 < List.length U + 1) := by omega
                clear HTX hTk
                go_wp2
                go_roundw
                case rel => exact ⟨m + 4, U ++ [10], congrArg Value.string (by apply ByteArray.ext; simp), by go_num, by omega, hTW, HL, HTT⟩
                case measure => simp [intOf]; omega
        · by_cases h4 : r = 4
          · subst h4
            obtain ⟨a, b, d, e', hbe⟩ : ∃ a b d e', bs = [a, b, d, e'] := four_of bs (by omega)
            have HQ : Hid (4 = bs.length) := Lib.hid (by omega)
            have HBSE := Lib.hid hbs
            have HRDM : Hid (∀ i, i < 4 → w.cell? ⟨g, m + i, none⟩ = some (.int .u8 (bs.getD i 0))) := Lib.hid fun i hi => by rw [hrd (m + i) (by rw [← HN.out]; omega), hbs, getD_take4 code m i hi]
            have r0 : wr.cell? ⟨g, m, none⟩ = some (.int .u8 a) := by have := rd 0 (by omega); rw [hbe] at this; exact this
            have r1 : wr.cell? ⟨g, m + 1, none⟩ = some (.int .u8 b) := by have := rd 1 (by omega); rw [hbe] at this; exact this
            have r2 : wr.cell? ⟨g, m + 2, none⟩ = some (.int .u8 d) := by have := rd 2 (by omega); rw [hbe] at this; exact this
            have r3 : wr.cell? ⟨g, m + 3, none⟩ = some (.int .u8 e') := by have := rd 3 (by omega); rw [hbe] at this; exact this
            have ha : Byt a := HCODE.out _ (mem_take4 hbs _ (by rw [hbe]; simp))
            have hb : Byt b := HCODE.out _ (mem_take4 hbs _ (by rw [hbe]; simp))
            have hd : Byt d := HCODE.out _ (mem_take4 hbs _ (by rw [hbe]; simp))
            have he : Byt e' := HCODE.out _ (mem_take4 hbs _ (by rw [hbe]; simp))
            have hq4 : 4 ≤ 4 := Nat.le_refl 4
            by_cases hk4 : checkI a b d e' = 0
            · have HTT : Hid (textP x code = (T ++ textI a b d e' ++ [10]) ++ linesT (rowsT (code.drop (m + 4)))) := by
                show _ = _
                rw [HTX.out, drop4 code m a b d e' (by rw [← hbe, hbs]), rows_right a b d e' _ hk4]; simp
              have HRC : Hid (∀ W, Calls Tryd.prog 15 #[instrV a b d e'] W fun e w' => e = .returned (.int .i64 0) ∧ Below W.heap.size W w') := Lib.hid fun W => by
                have := rcheck_any a b d e' ha W
                rw [hk4] at this
                exact this
              have HRP : Hid (∀ W, Calls Tryd.prog 16 #[instrV a b d e'] W fun e w' => e = .returned (.string ⟨(textI a b d e').toArray⟩) ∧ LBel W w') := Lib.hid fun W => rprint_any a b d e' hb hd he hk4 W
              have hTI := text_lenT a b d e' hb hd he hk4
              generalize textI a b d e' = S at *
              have hs1 : ¬ (9223372036854775807 < List.length T + List.length S) := by omega
              have hs2 : ¬ (9223372036854775807 < List.length T + List.length S + 1) := by omega
              have hTS : (T ++ S ++ [10]).length ≤ 1000 + 1000 * (m + 4) := by simp; omega
              clear hq hqv hbs hbe hrd hk4 HTX rd
              go_upto_region 11 with fail
              go_region
              go_wp2_with (first | (go_at_call 15; refine (HRC.out _).mono ?_; rintro e w3 ⟨rfl, hb3⟩; obtain ⟨hc3, hf3⟩ := bcell hb3) | (go_at_call 16; refine (HRP.out _).mono ?_; rintro e w4 ⟨rfl, hb4⟩))
              go_roundw
              case rel => exact ⟨m + 4, T ++ S ++ [10], congrArg Value.string (bs_app2 T S [10]), by go_num, by omega, hTS, Lib.hid (lb_step (lb_step (lb_drew (lb_alloc HL.out _) _) hb3) hb4), HTT⟩
              case measure => simp [intOf]; omega
            · have HNR : Hid (∀ a b c d, bs = [a, b, c, d] → checkI a b c d ≠ 0) := Lib.hid fun a1 b1 c1 d1 h => by
                rw [hbe] at h
                injection h with h1 h2; injection h2 with h2 h3; injection h3 with h3 h4; injection h4 with h4 _
                subst h1 h2 h3 h4; exact hk4
              obtain ⟨ck, hck⟩ : ∃ ck, ck = checkI a b d e' := ⟨_, rfl⟩
              have HRC : Hid (∀ W, Calls Tryd.prog 15 #[instrV a b d e'] W fun e w' => e = .returned (.int .i64 ck) ∧ Below W.heap.size W w') := Lib.hid fun W => by
                rw [hck]; exact rcheck_any a b d e' ha W
              have hck1 : (ck == 0) = false := by rw [beq_eq_false_iff_ne, hck]; exact hk4
              have hck2 : ¬ ck = 0 := by rw [hck]; exact hk4
              clear hq hqv hbs hbe hk4 rd hck hrd
              go_upto_region 11 with fail
              go_region
              go_upto_region 14 with (first | (go_at_call 15; refine (HRC.out _).mono ?_; rintro e w3 ⟨rfl, hb3⟩; obtain ⟨hc3, hf3⟩ := bcell hb3))
              have HLN : Hid (LBel w w3) := Lib.hid (lb_step (lb_drew (lb_alloc HL.out _) _) hb3)
              clear HL hb3 hc3 hf3 r0 r1 r2 r3
              have hTb : ¬ (9223372036854775807 < List.length T + 4) := by omega
              go_wp2_with (fail)
              go_loopw [5, 9] (fun s i wr => ∃ k : Nat, s = .string ⟨(T ++ sByte ++ wordsB (bs.take k)).toArray⟩ ∧ k ≤ 4 ∧ i = .int .i64 k ∧ Hid (LBel w wr)) (fun _ i _ => 4 - (intOf i).toNat)
              case atStart => exact ⟨0, by rw [List.take_zero]; exact congrArg Value.string (by apply ByteArray.ext; simp [wordsB, sByte]), Nat.zero_le _, rfl, HLN⟩
              case round =>
                clear HLN
                obtain ⟨k, rfl, hk, rfl, HL⟩ := hrel
                have hTk : (wordsB (bs.take k)).length ≤ 32 := wordsB_take bs k (fun y hy => HCODE.out y (mem_take4 HBSE.out y hy)) (by rw [← HQ.out]; exact hq4)
                obtain ⟨U, hU⟩ : ∃ U, U = T ++ sByte ++ wordsB (bs.take k) := ⟨_, rfl⟩
                have hUl : U.length ≤ 4000000 := by rw [hU]; simp [sByte]; omega
                have HU := Lib.hid hU
                rw [← hU]
                clear hU
                by_cases hlk : k < 4
                · obtain ⟨y, hy⟩ : ∃ y, y = bs.getD k 0 := ⟨_, rfl⟩
                  have hyB : Byt y := by rw [hy]; exact HCODE.out _ (mem_take4 HBSE.out _ (getD_mem bs k (by rw [← HQ.out]; exact hlk)))
                  have hcy : wr.cell? ⟨g, m + k, none⟩ = some (.int .u8 y) := (HL.out.cell (p := ⟨g, m + k, none⟩) hg).trans (by rw [HRDM.out k hlk, hy])
                  have HDY : Hid (∀ W, Calls Tryd.prog 42 #[.int .i64 y] W fun e w' => e = .returned (.string ⟨(decI y).toArray⟩) ∧ Below W.heap.size W w') := Lib.hid fun W => HD.out y W hyB
                  have hyl := HDL.out y hyB
                  have HTK : Hid (wordsB (bs.take (k + 1)) = wordsB (bs.take k) ++ 32 :: decI y) := by show _ = _; rw [hy]; exact wordsB_snoc bs k (by rw [← HQ.out]; exact hlk)
                  have wy : IntKind.i64.wrap y = y := by rw [IntKind.wrap_i64]; unfold Byt at hyB; omega
                  generalize decI y = Y at *
                  have hu1 : ¬ (9223372036854775807 < List.length U + 1) := by omega
                  have hu2 : ¬ (9223372036854775807 < List.length U + 1 + List.length Y) := by omega
                  unfold Byt at hyB
                  obtain ⟨hy0, hy1⟩ := hyB
                  clear hy hTk
                  go_wp2_with (go_at_call 42; (with_reducible refine (HDY.out _).mono ?_); rintro e w6 ⟨rfl, hb6⟩)
                  go_roundw
                  case rel => exact ⟨k + 1, by rw [HTK.out, HU.out]; exact congrArg Value.string (by apply ByteArray.ext; simp), by omega, by go_num, Lib.hid (lb_step HL.out hb6)⟩
                  case measure => simp [intOf]; omega
                · obtain rfl : k = 4 := by omega
                  have hbt : bs.take 4 = bs := by rw [HQ.out, List.take_length]
                  have HTT : Hid (textP x code = (U ++ [10]) ++ linesT (rowsT (code.drop (m + 4)))) := by
                    show _ = _
                    rw [HTX.out, rows_bytes code m bs HBSE.out (by rw [← HN.out]; exact hlt) HNR.out, HU.out, hbt]; simp
                  have hTW : (U ++ [10]).length ≤ 1000 + 1000 * (m + 4) := by
                    rw [HU.out]; simp [sByte]; omega
                  have hu1 : ¬ (9223372036854775807 < List.length U + 1) := by omega
                  clear HTX hTk
                  go_wp2
                  go_roundw
                  case rel => exact ⟨m + 4, U ++ [10], congrArg Value.string (by apply ByteArray.ext; simp), by go_num, by omega, hTW, HL, HTT⟩
                  case measure => simp [intOf]; omega
          · have h5i : ¬ (4 : Int) < (r : Int) := by omega
            have HNR : Hid (∀ a b c d, bs = [a, b, c, d] → checkI a b c d ≠ 0) := Lib.hid fun a1 b1 c1 d1 h => by
              rw [h] at hq
              simp at hq
              omega
            have HQ := Lib.hid hq
            have HBSE := Lib.hid hbs
            have HRDM : Hid (∀ i, i < r → w.cell? ⟨g, m + i, none⟩ = some (.int .u8 (bs.getD i 0))) := Lib.hid fun i hi => by rw [hrd (m + i) (by rw [← HN.out]; omega), hbs, getD_take4 code m i (by omega)]
            obtain rfl : r = q := by omega
            have hri : ((r : Int) == 4) = false := by rw [beq_eq_false_iff_ne]; omega
            have HLN := HL
            clear hq hqv hbs rd hrd
            clear HL
            have hTb : ¬ (9223372036854775807 < List.length T + 4) := by omega
            go_wp2_with (fail)
            go_loopw [5, 9] (fun s i wr => ∃ k : Nat, s = .string ⟨(T ++ sByte ++ wordsB (bs.take k)).toArray⟩ ∧ k ≤ r ∧ i = .int .i64 k ∧ Hid (LBel w wr)) (fun _ i _ => r - (intOf i).toNat)
            case atStart => exact ⟨0, by rw [List.take_zero]; exact congrArg Value.string (by apply ByteArray.ext; simp [wordsB, sByte]), Nat.zero_le _, rfl, HLN⟩
            case round =>
              clear HLN
              obtain ⟨k, rfl, hk, rfl, HL⟩ := hrel
              have hTk : (wordsB (bs.take k)).length ≤ 32 := wordsB_take bs k (fun y hy => HCODE.out y (mem_take4 HBSE.out y hy)) (by rw [← HQ.out]; exact hq4)
              obtain ⟨U, hU⟩ : ∃ U, U = T ++ sByte ++ wordsB (bs.take k) := ⟨_, rfl⟩
              have hUl : U.length ≤ 4000000 := by rw [hU]; simp [sByte]; omega
              have HU := Lib.hid hU
              rw [← hU]
              clear hU
              by_cases hlk : k < r
              · obtain ⟨y, hy⟩ : ∃ y, y = bs.getD k 0 := ⟨_, rfl⟩
                have hyB : Byt y := by rw [hy]; exact HCODE.out _ (mem_take4 HBSE.out _ (getD_mem bs k (by rw [← HQ.out]; exact hlk)))
                have hcy : wr.cell? ⟨g, m + k, none⟩ = some (.int .u8 y) := (HL.out.cell (p := ⟨g, m + k, none⟩) hg).trans (by rw [HRDM.out k hlk, hy])
                have HDY : Hid (∀ W, Calls Tryd.prog 42 #[.int .i64 y] W fun e w' => e = .returned (.string ⟨(decI y).toArray⟩) ∧ Below W.heap.size W w') := Lib.hid fun W => HD.out y W hyB
                have hyl := HDL.out y hyB
                have HTK : Hid (wordsB (bs.take (k + 1)) = wordsB (bs.take k) ++ 32 :: decI y) := by show _ = _; rw [hy]; exact wordsB_snoc bs k (by rw [← HQ.out]; exact hlk)
                have wy : IntKind.i64.wrap y = y := by rw [IntKind.wrap_i64]; unfold Byt at hyB; omega
                generalize decI y = Y at *
                have hu1 : ¬ (9223372036854775807 < List.length U + 1) := by omega
                have hu2 : ¬ (9223372036854775807 < List.length U + 1 + List.length Y) := by omega
                unfold Byt at hyB
                obtain ⟨hy0, hy1⟩ := hyB
                clear hy hTk
                go_wp2_with (go_at_call 42; (with_reducible refine (HDY.out _).mono ?_); rintro e w6 ⟨rfl, hb6⟩)
                go_roundw
                case rel => exact ⟨k + 1, by rw [HTK.out, HU.out]; exact congrArg Value.string (by apply ByteArray.ext; simp), by omega, by go_num, Lib.hid (lb_step HL.out hb6)⟩
                case measure => simp [intOf]; omega
              · obtain rfl : k = r := by omega
                have hbt : bs.take k = bs := by rw [HQ.out, List.take_length]
                have HTT : Hid (textP x code = (U ++ [10]) ++ linesT (rowsT (code.drop (m + 4)))) := by
                  show _ = _
                  rw [HTX.out, rows_bytes code m bs HBSE.out (by rw [← HN.out]; exact hlt) HNR.out, HU.out, hbt]; simp
                have hTW : (U ++ [10]).length ≤ 1000 + 1000 * (m + 4) := by
                  rw [HU.out]; simp [sByte]; omega
                have hu1 : ¬ (9223372036854775807 < List.length U + 1) := by omega
                clear HTX hTk
                go_wp2
                go_roundw
                case rel => exact ⟨m + 4, U ++ [10], congrArg Value.string (by apply ByteArray.ext; simp), by go_num, by omega, hTW, HL, HTT⟩
                case measure => simp [intOf]; omega
      · have HTE : Hid (textP x code = T) := by
          show _ = _
          rw [HTX.out, List.drop_eq_nil_of_le (by rw [← HN.out]; omega)]; simp [rowsT, linesT]
        go_wp2
        go_ret
        exact ⟨congrArg (fun l : Bs => Ending.returned (Value.string ⟨l.toArray⟩)) HTE.out.symm, HL.out⟩
end Go.Proofs.YtlaohefgofmfdaaDoor
