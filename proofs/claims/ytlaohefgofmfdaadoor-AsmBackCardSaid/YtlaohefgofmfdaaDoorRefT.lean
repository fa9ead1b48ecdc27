/- The walk of the reference's Print. -/
import Derived.Test.YtlaohefgofmfdaaDoorRefK
namespace Go.Proofs.YtlaohefgofmfdaaDoor
open Go Go.RowKit Go.Proofs.YtlaohefgofmfdaaDoorW.PrintWords
set_option maxRecDepth 100000
theorem boxb {B : Nat} {o x y z : Int} {a b c : World} (h : BoxAt B o x y z a) (hb : Below b.heap.size b c) (e : b.heap = a.heap) : BoxAt B o x y z c := BoxAt.below (show BoxAt B o x y z b by unfold BoxAt; rw [e]; exact h) hb
theorem lbelb {w a b c : World} (h : LBel w a) (hb : Below b.heap.size b c) (e : b.heap = a.heap ∧ b.os = a.os ∧ b.tape = a.tape ∧ b.output = a.output) : LBel w c :=
  Below.trans (Below.trans h ⟨e.2.1, e.2.2.1, e.2.2.2, by rw [e.1]; exact Nat.le_refl _, fun k _ => by rw [e.1]⟩) (hb.mono (by rw [e.1]; exact h.size))
theorem lb_step {w a b : World} (h : LBel w a) (hb : Below a.heap.size a b) : LBel w b := Below.trans h (hb.mono h.size)
theorem lb_alloc {w a : World} (h : LBel w a) (o : Obj) : LBel w (a.alloc o) := Below.trans h ((below_one a o).mono h.size)
theorem zero_of_R {w : World} {base : Nat} {ok : Nat → Prop} {v : Value} {ws : List Bs} (h0 : ws ≠ []) (h : Kd.R Kd.string 9 w base ok v (ws.map ofB)) : ∃ g n c, v = .slice (some ⟨g, 0, none⟩) n c := by
  obtain ⟨_, inner, hown, hrep⟩ := h
  rw [List.length_map] at hown
  have hown : w.ownsRow base 9 1 v ws.length inner := hown
  obtain ⟨_, ⟨rfl, hz⟩ | ⟨g, cap, cur, rfl, r⟩⟩ := hown
  · exact absurd (List.eq_nil_of_length_eq_zero hz) h0
  · exact ⟨g, _, cap, rfl⟩
theorem names_any (w : World) : Calls Tryd.prog 41 #[] w fun e w' => ∃ g c : Nat, e = .returned (.slice (some ⟨g, 0, none⟩) 40 c) ∧ 40 ≤ c ∧ c ≤ 9223372036854775807 ∧ g < w'.heap.size ∧ Hid (∀ j : Nat, j < 40 → w'.cell? ⟨g, j, none⟩ = some (bsV (opNames.getD j []))) ∧ Below w.heap.size w w' := by
  refine (Ref.garrisonref16_Names.calls namesB w names_eq).mono ?_
  rintro e w' ⟨v, rfl, hR, hb⟩
  rcases words_of_R (ws := opNames) hR with ⟨h, _⟩ | ⟨_, h⟩
  · exact absurd h (by decide)
  · obtain ⟨g, n, c', hz⟩ := zero_of_R (ws := opNames) (by decide) hR
    obtain ⟨b, o, c, hv, hc, hm, hs, hw⟩ := h.at
    have hz' := hz
    rw [hv] at hz'
    injection hz' with e1 e2 e3
    injection e1 with e1
    injection e1 with e1 e4
    subst e4
    refine ⟨b, c, by rw [hv]; rfl, hc, hm, hs, Lib.hid fun j hj => ?_, hb⟩
    have := hw j hj
    rwa [Nat.zero_add] at this
set_option maxHeartbeats 2000000 in
theorem rprint_0 (o x y z : Int) (hx : Byt x) (hy : Byt y) (hz : Byt z) (hc : checkI o x y z = 0) (hf : formI o = 0) (w : World) : Calls Tryd.prog 16 #[instrV o x y z] w fun e w' => e = .returned (.string ⟨(textI o x y z).toArray⟩) ∧ LBel w w' := by
  have ho := check_op o x y z hc
  unfold Byt at hx hy hz
  have HOFF : Hid (∀ W, Calls Tryd.prog 40 #[.int .i64 o] W fun e w' => e = .returned (.int .i64 0) ∧ Below W.heap.size W w') := fun W => by rw [← hf]; exact form_any o W
  obtain ⟨N, hN⟩ : ∃ N, N = opName o := ⟨_, rfl⟩
  obtain ⟨on, hon⟩ : ∃ on : Nat, o = on := ⟨o.toNat, by omega⟩
  subst hon
  have hNl : List.length N ≤ 5 := by rw [hN]; exact opName_len on ho
  have HNM : Hid (∀ W, Calls Tryd.prog 41 #[] W fun e w' => ∃ g c : Nat, e = .returned (.slice (some ⟨g, 0, none⟩) 40 c) ∧ 40 ≤ c ∧ g < w'.heap.size ∧ w'.cell? ⟨g, on, none⟩ = some (.string ⟨N.toArray⟩) ∧ Below W.heap.size W w') := fun W => by
    refine (names_any W).mono ?_
    rintro e w' ⟨g, c, rfl, h1, h2, h3, h4, h5⟩
    have := h4.out on (by omega)
    exact ⟨g, c, rfl, h1, h3, by rw [this, hN]; rfl, h5⟩
  have HCAT : Hid ((⟨N.toArray⟩ : ByteArray) = ⟨(textI on x y z).toArray⟩) := by
    show _ = _
    apply ByteArray.ext
    unfold textI argsW
    rw [hf, hN]
    simp [joinW, regW]
  have HNN := Lib.hid hN
  clear hc hf hN 
  obtain ⟨ho0, ho1⟩ := ho
  have wx : IntKind.i64.wrap x = x := by rw [IntKind.wrap_i64]; omega
  have wy : IntKind.i64.wrap y = y := by rw [IntKind.wrap_i64]; omega
  have wz : IntKind.i64.wrap z = z := by rw [IntKind.wrap_i64]; omega
  go_enter Tryd.func16, Tryd.ntmps16
  go_wp2_with fail
  have hbox : BoxAt w.heap.size on x y z (w.alloc (.cells #[.int .u8 on, .int .u8 x, .int .u8 y, .int .u8 z] 38)) := heap_alloc_new _ _
  have HBOX := Lib.hid hbox
  clear hbox
  go_upto_region 1 with fail
  go_cut [3] (fun s3 wc => s3 = .string ⟨N.toArray⟩ ∧ Hid (BoxAt w.heap.size on x y z wc) ∧ Hid (LBel w wc))
  case first =>
    go_region_with (go_at_call 41; (with_reducible refine (HNM.out _).mono ?_); rintro e w4 ⟨g, c, rfl, hc40, hgs, hgc, hb4⟩; obtain ⟨hc4, hf4⟩ := bcell hb4)
    all_goals (go_wp2; go_meet; case rel => exact ⟨rfl, Lib.hid (boxb HBOX.out hb4 rfl), Lib.hid (lbelb (below_one _ _) hb4 ⟨rfl, rfl, rfl, rfl⟩)⟩)
  case rest =>
    obtain ⟨rfl, HBOX, HLB⟩ := hcut
    obtain ⟨hq0, hq1, hq2, hq3⟩ := HBOX.out.cells
    have hszz : w.heap.size < wc.heap.size := (Array.getElem?_eq_some_iff.1 HBOX.out).1
    go_wp2_with (go_at_call 40; (with_reducible refine (HOFF.out _).mono ?_); rintro e w5 ⟨rfl, hb5⟩; obtain ⟨hc5, hf5⟩ := bcell hb5; have hl5 : w.heap.size < w5.heap.size := Nat.lt_of_lt_of_le hszz hb5.size)
    have HL5 := Lib.hid (lb_step HLB.out hb5)
    clear hb5
    have hl5b : w.heap.size < w5.heap.size + 1 + 1 := by omega
    have hl5c : w.heap.size < w5.heap.size + 2 := hl5b
    refine wp_loop_rounds 1 ?_
    rw [rounds_succ]
    go_wp2_with fail
    go_ret
    refine ⟨?_, (lb_alloc (lb_alloc HL5.out _) _)⟩
    rw [← HCAT.out]; rfl
set_option maxHeartbeats 2000000 in
theorem rprint_1 (o x y z : Int) (hx : Byt x) (hy : Byt y) (hz : Byt z) (hc : checkI o x y z = 0) (hf : formI o = 1) (w : World) : Calls Tryd.prog 16 #[instrV o x y z] w fun e w' => e = .returned (.string ⟨(textI o x y z).toArray⟩) ∧ LBel w w' := by
  have ho := check_op o x y z hc
  unfold Byt at hx hy hz
  have HOFF : Hid (∀ W, Calls Tryd.prog 40 #[.int .i64 o] W fun e w' => e = .returned (.int .i64 1) ∧ Below W.heap.size W w') := fun W => by rw [← hf]; exact form_any o W
  obtain ⟨N, hN⟩ : ∃ N, N = opName o := ⟨_, rfl⟩
  obtain ⟨on, hon⟩ : ∃ on : Nat, o = on := ⟨o.toNat, by omega⟩
  subst hon
  have hNl : List.length N ≤ 5 := by rw [hN]; exact opName_len on ho
  have HNM : Hid (∀ W, Calls Tryd.prog 41 #[] W fun e w' => ∃ g c : Nat, e = .returned (.slice (some ⟨g, 0, none⟩) 40 c) ∧ 40 ≤ c ∧ g < w'.heap.size ∧ w'.cell? ⟨g, on, none⟩ = some (.string ⟨N.toArray⟩) ∧ Below W.heap.size W w') := fun W => by
    refine (names_any W).mono ?_
    rintro e w' ⟨g, c, rfl, h1, h2, h3, h4, h5⟩
    have := h4.out on (by omega)
    exact ⟨g, c, rfl, h1, h3, by rw [this, hN]; rfl, h5⟩
  obtain ⟨A, hA⟩ : ∃ A, A = decI x := ⟨_, rfl⟩
  have hAl : List.length A ≤ 7 := by rw [hA]; exact decI_len x (by omega) (by omega)
  have HA : Hid (∀ W, Calls Tryd.prog 42 #[.int .i64 x] W fun e w' => e = .returned (.string ⟨A.toArray⟩) ∧ Below W.heap.size W w') := fun W => by rw [hA]; exact itoa_any x (by omega) (by omega) W
  have HCAT : Hid ((((⟨N.toArray⟩ : ByteArray) ++ (⟨#[32, 114]⟩ : ByteArray)) ++ (⟨A.toArray⟩ : ByteArray)) = ⟨(textI on x y z).toArray⟩) := by
    show _ = _
    apply ByteArray.ext
    unfold textI argsW
    rw [hf, hN, hA]
    simp [joinW, regW]
  have HNN := Lib.hid hN
  clear hc hf hN hA
  have q0 : ¬ (9223372036854775807 < List.length N + 2) := by omega
  have q1 : ¬ (9223372036854775807 < List.length N + 2 + List.length A) := by omega
  obtain ⟨ho0, ho1⟩ := ho
  have wx : IntKind.i64.wrap x = x := by rw [IntKind.wrap_i64]; omega
  have wy : IntKind.i64.wrap y = y := by rw [IntKind.wrap_i64]; omega
  have wz : IntKind.i64.wrap z = z := by rw [IntKind.wrap_i64]; omega
  go_enter Tryd.func16, Tryd.ntmps16
  go_wp2_with fail
  have hbox : BoxAt w.heap.size on x y z (w.alloc (.cells #[.int .u8 on, .int .u8 x, .int .u8 y, .int .u8 z] 38)) := heap_alloc_new _ _
  have HBOX := Lib.hid hbox
  clear hbox
  go_upto_region 1 with fail
  go_cut [3] (fun s3 wc => s3 = .string ⟨N.toArray⟩ ∧ Hid (BoxAt w.heap.size on x y z wc) ∧ Hid (LBel w wc))
  case first =>
    go_region_with (go_at_call 41; (with_reducible refine (HNM.out _).mono ?_); rintro e w4 ⟨g, c, rfl, hc40, hgs, hgc, hb4⟩; obtain ⟨hc4, hf4⟩ := bcell hb4)
    all_goals (go_wp2; go_meet; case rel => exact ⟨rfl, Lib.hid (boxb HBOX.out hb4 rfl), Lib.hid (lbelb (below_one _ _) hb4 ⟨rfl, rfl, rfl, rfl⟩)⟩)
  case rest =>
    obtain ⟨rfl, HBOX, HLB⟩ := hcut
    obtain ⟨hq0, hq1, hq2, hq3⟩ := HBOX.out.cells
    have hszz : w.heap.size < wc.heap.size := (Array.getElem?_eq_some_iff.1 HBOX.out).1
    go_wp2_with (go_at_call 40; (with_reducible refine (HOFF.out _).mono ?_); rintro e w5 ⟨rfl, hb5⟩; obtain ⟨hc5, hf5⟩ := bcell hb5; have hl5 : w.heap.size < w5.heap.size := Nat.lt_of_lt_of_le hszz hb5.size)
    have HL5 := Lib.hid (lb_step HLB.out hb5)
    clear hb5
    have hl5b : w.heap.size < w5.heap.size + 1 + 1 := by omega
    have hl5c : w.heap.size < w5.heap.size + 2 := hl5b
    refine wp_loop_rounds 2 ?_
    rw [rounds_succ]
    go_wp2_with (go_at_call 42; (with_reducible refine (HA.out _).mono ?_); rintro e w6 ⟨rfl, hb6⟩; obtain ⟨hc6, hf6⟩ := bcell hb6; have hl6 : w5.heap.size + 1 < w6.heap.size := (by have := hb6.size; simp only [World.size_alloc] at this; omega); have hm6 : w.heap.size < w6.heap.size := by omega)
    have HL6 := Lib.hid (lb_step (lb_alloc (lb_alloc HL5.out _) _) hb6)
    clear hb6
    rw [rounds_succ]
    go_wp2_with fail
    go_ret
    refine ⟨?_, HL6.out⟩
    rw [← HCAT.out]; rfl
set_option maxHeartbeats 2000000 in
theorem rprint_2 (o x y z : Int) (hx : Byt x) (hy : Byt y) (hz : Byt z) (hc : checkI o x y z = 0) (hf : formI o = 2) (w : World) : Calls Tryd.prog 16 #[instrV o x y z] w fun e w' => e = .returned (.string ⟨(textI o x y z).toArray⟩) ∧ LBel w w' := by
  have ho := check_op o x y z hc
  unfold Byt at hx hy hz
  have HOFF : Hid (∀ W, Calls Tryd.prog 40 #[.int .i64 o] W fun e w' => e = .returned (.int .i64 2) ∧ Below W.heap.size W w') := fun W => by rw [← hf]; exact form_any o W
  obtain ⟨N, hN⟩ : ∃ N, N = opName o := ⟨_, rfl⟩
  obtain ⟨on, hon⟩ : ∃ on : Nat, o = on := ⟨o.toNat, by omega⟩
  subst hon
  have hNl : List.length N ≤ 5 := by rw [hN]; exact opName_len on ho
  have HNM : Hid (∀ W, Calls Tryd.prog 41 #[] W fun e w' => ∃ g c : Nat, e = .returned (.slice (some ⟨g, 0, none⟩) 40 c) ∧ 40 ≤ c ∧ g < w'.heap.size ∧ w'.cell? ⟨g, on, none⟩ = some (.string ⟨N.toArray⟩) ∧ Below W.heap.size W w') := fun W => by
    refine (names_any W).mono ?_
    rintro e w' ⟨g, c, rfl, h1, h2, h3, h4, h5⟩
    have := h4.out on (by omega)
    exact ⟨g, c, rfl, h1, h3, by rw [this, hN]; rfl, h5⟩
  obtain ⟨A, hA⟩ : ∃ A, A = decI x := ⟨_, rfl⟩
  have hAl : List.length A ≤ 7 := by rw [hA]; exact decI_len x (by omega) (by omega)
  have HA : Hid (∀ W, Calls Tryd.prog 42 #[.int .i64 x] W fun e w' => e = .returned (.string ⟨A.toArray⟩) ∧ Below W.heap.size W w') := fun W => by rw [hA]; exact itoa_any x (by omega) (by omega) W
  obtain ⟨B, hB⟩ : ∃ B, B = decI y := ⟨_, rfl⟩
  have hBl : List.length B ≤ 7 := by rw [hB]; exact decI_len y (by omega) (by omega)
  have HB : Hid (∀ W, Calls Tryd.prog 42 #[.int .i64 y] W fun e w' => e = .returned (.string ⟨B.toArray⟩) ∧ Below W.heap.size W w') := fun W => by rw [hB]; exact itoa_any y (by omega) (by omega) W
  have HCAT : Hid ((((((⟨N.toArray⟩ : ByteArray) ++ (⟨#[32, 114]⟩ : ByteArray)) ++ (⟨A.toArray⟩ : ByteArray)) ++ (⟨#[32, 114]⟩ : ByteArray)) ++ (⟨B.toArray⟩ : ByteArray)) = ⟨(textI on x y z).toArray⟩) := by
    show _ = _
    apply ByteArray.ext
    unfold textI argsW
    rw [hf, hN, hA, hB]
    simp [joinW, regW]
  have HNN := Lib.hid hN
  clear hc hf hN hA hB
  have q0 : ¬ (9223372036854775807 < List.length N + 2) := by omega
  have q1 : ¬ (9223372036854775807 < List.length N + 2 + List.length A) := by omega
  have q2 : ¬ (9223372036854775807 < List.length N + 2 + List.length A + 2) := by omega
  have q3 : ¬ (9223372036854775807 < List.length N + 2 + List.length A + 2 + List.length B) := by omega
  obtain ⟨ho0, ho1⟩ := ho
  have wx : IntKind.i64.wrap x = x := by rw [IntKind.wrap_i64]; omega
  have wy : IntKind.i64.wrap y = y := by rw [IntKind.wrap_i64]; omega
  have wz : IntKind.i64.wrap z = z := by rw [IntKind.wrap_i64]; omega
  go_enter Tryd.func16, Tryd.ntmps16
  go_wp2_with fail
  have hbox : BoxAt w.heap.size on x y z (w.alloc (.cells #[.int .u8 on, .int .u8 x, .int .u8 y, .int .u8 z] 38)) := heap_alloc_new _ _
  have HBOX := Lib.hid hbox
  clear hbox
  go_upto_region 1 with fail
  go_cut [3] (fun s3 wc => s3 = .string ⟨N.toArray⟩ ∧ Hid (BoxAt w.heap.size on x y z wc) ∧ Hid (LBel w wc))
  case first =>
    go_region_with (go_at_call 41; (with_reducible refine (HNM.out _).mono ?_); rintro e w4 ⟨g, c, rfl, hc40, hgs, hgc, hb4⟩; obtain ⟨hc4, hf4⟩ := bcell hb4)
    all_goals (go_wp2; go_meet; case rel => exact ⟨rfl, Lib.hid (boxb HBOX.out hb4 rfl), Lib.hid (lbelb (below_one _ _) hb4 ⟨rfl, rfl, rfl, rfl⟩)⟩)
  case rest =>
    obtain ⟨rfl, HBOX, HLB⟩ := hcut
    obtain ⟨hq0, hq1, hq2, hq3⟩ := HBOX.out.cells
    have hszz : w.heap.size < wc.heap.size := (Array.getElem?_eq_some_iff.1 HBOX.out).1
    go_wp2_with (go_at_call 40; (with_reducible refine (HOFF.out _).mono ?_); rintro e w5 ⟨rfl, hb5⟩; obtain ⟨hc5, hf5⟩ := bcell hb5; have hl5 : w.heap.size < w5.heap.size := Nat.lt_of_lt_of_le hszz hb5.size)
    have HL5 := Lib.hid (lb_step HLB.out hb5)
    clear hb5
    have hl5b : w.heap.size < w5.heap.size + 1 + 1 := by omega
    have hl5c : w.heap.size < w5.heap.size + 2 := hl5b
    refine wp_loop_rounds 3 ?_
    rw [rounds_succ]
    go_wp2_with (go_at_call 42; (with_reducible refine (HA.out _).mono ?_); rintro e w6 ⟨rfl, hb6⟩; obtain ⟨hc6, hf6⟩ := bcell hb6; have hl6 : w5.heap.size + 1 < w6.heap.size := (by have := hb6.size; simp only [World.size_alloc] at this; omega); have hm6 : w.heap.size < w6.heap.size := by omega)
    have HL6 := Lib.hid (lb_step (lb_alloc (lb_alloc HL5.out _) _) hb6)
    clear hb6
    rw [rounds_succ]
    go_wp2_with (go_at_call 42; (with_reducible refine (HB.out _).mono ?_); rintro e w7 ⟨rfl, hb7⟩; obtain ⟨hc7, hf7⟩ := bcell hb7; have hl7 : w5.heap.size + 1 < w7.heap.size := Nat.lt_of_lt_of_le hl6 hb7.size; have hm7 : w.heap.size < w7.heap.size := by omega)
    have HL7 := Lib.hid (lb_step HL6.out hb7)
    clear hb7
    rw [rounds_succ]
    go_wp2_with fail
    go_ret
    refine ⟨?_, HL7.out⟩
    rw [← HCAT.out]; rfl
set_option maxHeartbeats 2000000 in
theorem rprint_3 (o x y z : Int) (hx : Byt x) (hy : Byt y) (hz : Byt z) (hc : checkI o x y z = 0) (hf : formI o = 3) (w : World) : Calls Tryd.prog 16 #[instrV o x y z] w fun e w' => e = .returned (.string ⟨(textI o x y z).toArray⟩) ∧ LBel w w' := by
  have ho := check_op o x y z hc
  unfold Byt at hx hy hz
  have HOFF : Hid (∀ W, Calls Tryd.prog 40 #[.int .i64 o] W fun e w' => e = .returned (.int .i64 3) ∧ Below W.heap.size W w') := fun W => by rw [← hf]; exact form_any o W
  obtain ⟨N, hN⟩ : ∃ N, N = opName o := ⟨_, rfl⟩
  obtain ⟨on, hon⟩ : ∃ on : Nat, o = on := ⟨o.toNat, by omega⟩
  subst hon
  have hNl : List.length N ≤ 5 := by rw [hN]; exact opName_len on ho
  have HNM : Hid (∀ W, Calls Tryd.prog 41 #[] W fun e w' => ∃ g c : Nat, e = .returned (.slice (some ⟨g, 0, none⟩) 40 c) ∧ 40 ≤ c ∧ g < w'.heap.size ∧ w'.cell? ⟨g, on, none⟩ = some (.string ⟨N.toArray⟩) ∧ Below W.heap.size W w') := fun W => by
    refine (names_any W).mono ?_
    rintro e w' ⟨g, c, rfl, h1, h2, h3, h4, h5⟩
    have := h4.out on (by omega)
    exact ⟨g, c, rfl, h1, h3, by rw [this, hN]; rfl, h5⟩
  obtain ⟨A, hA⟩ : ∃ A, A = decI x := ⟨_, rfl⟩
  have hAl : List.length A ≤ 7 := by rw [hA]; exact decI_len x (by omega) (by omega)
  have HA : Hid (∀ W, Calls Tryd.prog 42 #[.int .i64 x] W fun e w' => e = .returned (.string ⟨A.toArray⟩) ∧ Below W.heap.size W w') := fun W => by rw [hA]; exact itoa_any x (by omega) (by omega) W
  obtain ⟨B, hB⟩ : ∃ B, B = decI y := ⟨_, rfl⟩
  have hBl : List.length B ≤ 7 := by rw [hB]; exact decI_len y (by omega) (by omega)
  have HB : Hid (∀ W, Calls Tryd.prog 42 #[.int .i64 y] W fun e w' => e = .returned (.string ⟨B.toArray⟩) ∧ Below W.heap.size W w') := fun W => by rw [hB]; exact itoa_any y (by omega) (by omega) W
  obtain ⟨C, hC⟩ : ∃ C, C = decI z := ⟨_, rfl⟩
  have hCl : List.length C ≤ 7 := by rw [hC]; exact decI_len z (by omega) (by omega)
  have HC : Hid (∀ W, Calls Tryd.prog 42 #[.int .i64 z] W fun e w' => e = .returned (.string ⟨C.toArray⟩) ∧ Below W.heap.size W w') := fun W => by rw [hC]; exact itoa_any z (by omega) (by omega) W
  have HCAT : Hid ((((((((⟨N.toArray⟩ : ByteArray) ++ (⟨#[32, 114]⟩ : ByteArray)) ++ (⟨A.toArray⟩ : ByteArray)) ++ (⟨#[32, 114]⟩ : ByteArray)) ++ (⟨B.toArray⟩ : ByteArray)) ++ (⟨#[32, 114]⟩ : ByteArray)) ++ (⟨C.toArray⟩ : ByteArray)) = ⟨(textI on x y z).toArray⟩) := by
    show _ = _
    apply ByteArray.ext
    unfold textI argsW
    rw [hf, hN, hA, hB, hC]
    simp [joinW, regW]
  have HNN := Lib.hid hN
  clear hc hf hN hA hB hC
  have q0 : ¬ (9223372036854775807 < List.length N + 2) := by omega
  have q1 : ¬ (9223372036854775807 < List.length N + 2 + List.length A) := by omega
  have q2 : ¬ (9223372036854775807 < List.length N + 2 + List.length A + 2) := by omega
  have q3 : ¬ (9223372036854775807 < List.length N + 2 + List.length A + 2 + List.length B) := by omega
  have q4 : ¬ (9223372036854775807 < List.length N + 2 + List.length A + 2 + List.length B + 2) := by omega
  have q5 : ¬ (9223372036854775807 < List.length N + 2 + List.length A + 2 + List.length B + 2 + List.length C) := by omega
  obtain ⟨ho0, ho1⟩ := ho
  have wx : IntKind.i64.wrap x = x := by rw [IntKind.wrap_i64]; omega
  have wy : IntKind.i64.wrap y = y := by rw [IntKind.wrap_i64]; omega
  have wz : IntKind.i64.wrap z = z := by rw [IntKind.wrap_i64]; omega
  go_enter Tryd.func16, Tryd.ntmps16
  go_wp2_with fail
  have hbox : BoxAt w.heap.size on x y z (w.alloc (.cells #[.int .u8 on, .int .u8 x, .int .u8 y, .int .u8 z] 38)) := heap_alloc_new _ _
  have HBOX := Lib.hid hbox
  clear hbox
  go_upto_region 1 with fail
  go_cut [3] (fun s3 wc => s3 = .string ⟨N.toArray⟩ ∧ Hid (BoxAt w.heap.size on x y z wc) ∧ Hid (LBel w wc))
  case first =>
    go_region_with (go_at_call 41; (with_reducible refine (HNM.out _).mono ?_); rintro e w4 ⟨g, c, rfl, hc40, hgs, hgc, hb4⟩; obtain ⟨hc4, hf4⟩ := bcell hb4)
    all_goals (go_wp2; go_meet; case rel => exact ⟨rfl, Lib.hid (boxb HBOX.out hb4 rfl), Lib.hid (lbelb (below_one _ _) hb4 ⟨rfl, rfl, rfl, rfl⟩)⟩)
  case rest =>
    obtain ⟨rfl, HBOX, HLB⟩ := hcut
    obtain ⟨hq0, hq1, hq2, hq3⟩ := HBOX.out.cells
    have hszz : w.heap.size < wc.heap.size := (Array.getElem?_eq_some_iff.1 HBOX.out).1
    go_wp2_with (go_at_call 40; (with_reducible refine (HOFF.out _).mono ?_); rintro e w5 ⟨rfl, hb5⟩; obtain ⟨hc5, hf5⟩ := bcell hb5; have hl5 : w.heap.size < w5.heap.size := Nat.lt_of_lt_of_le hszz hb5.size)
    have HL5 := Lib.hid (lb_step HLB.out hb5)
    clear hb5
    have hl5b : w.heap.size < w5.heap.size + 1 + 1 := by omega
    have hl5c : w.heap.size < w5.heap.size + 2 := hl5b
    refine wp_loop_rounds 4 ?_
    rw [rounds_succ]
    go_wp2_with (go_at_call 42; (with_reducible refine (HA.out _).mono ?_); rintro e w6 ⟨rfl, hb6⟩; obtain ⟨hc6, hf6⟩ := bcell hb6; have hl6 : w5.heap.size + 1 < w6.heap.size := (by have := hb6.size; simp only [World.size_alloc] at this; omega); have hm6 : w.heap.size < w6.heap.size := by omega)
    have HL6 := Lib.hid (lb_step (lb_alloc (lb_alloc HL5.out _) _) hb6)
    clear hb6
    rw [rounds_succ]
    go_wp2_with (go_at_call 42; (with_reducible refine (HB.out _).mono ?_); rintro e w7 ⟨rfl, hb7⟩; obtain ⟨hc7, hf7⟩ := bcell hb7; have hl7 : w5.heap.size + 1 < w7.heap.size := Nat.lt_of_lt_of_le hl6 hb7.size; have hm7 : w.heap.size < w7.heap.size := by omega)
    have HL7 := Lib.hid (lb_step HL6.out hb7)
    clear hb7
    rw [rounds_succ]
    go_wp2_with (go_at_call 42; (with_reducible refine (HC.out _).mono ?_); rintro e w8 ⟨rfl, hb8⟩; obtain ⟨hc8, hf8⟩ := bcell hb8; have hl8 : w5.heap.size + 1 < w8.heap.size := Nat.lt_of_lt_of_le hl7 hb8.size; have hm8 : w.heap.size < w8.heap.size := by omega)
    have HL8 := Lib.hid (lb_step HL7.out hb8)
    clear hb8
    rw [rounds_succ]
    go_wp2_with fail
    go_ret
    refine ⟨?_, HL8.out⟩
    rw [← HCAT.out]; rfl
set_option maxHeartbeats 2000000 in
theorem rprint_4 (o x y z : Int) (hx : Byt x) (hy : Byt y) (hz : Byt z) (hc : checkI o x y z = 0) (hf : formI o = 4) (w : World) : Calls Tryd.prog 16 #[instrV o x y z] w fun e w' => e = .returned (.string ⟨(textI o x y z).toArray⟩) ∧ LBel w w' := by
  have ho := check_op o x y z hc
  unfold Byt at hx hy hz
  have HOFF : Hid (∀ W, Calls Tryd.prog 40 #[.int .i64 o] W fun e w' => e = .returned (.int .i64 4) ∧ Below W.heap.size W w') := fun W => by rw [← hf]; exact form_any o W
  obtain ⟨N, hN⟩ : ∃ N, N = opName o := ⟨_, rfl⟩
  obtain ⟨on, hon⟩ : ∃ on : Nat, o = on := ⟨o.toNat, by omega⟩
  subst hon
  have hNl : List.length N ≤ 5 := by rw [hN]; exact opName_len on ho
  have HNM : Hid (∀ W, Calls Tryd.prog 41 #[] W fun e w' => ∃ g c : Nat, e = .returned (.slice (some ⟨g, 0, none⟩) 40 c) ∧ 40 ≤ c ∧ g < w'.heap.size ∧ w'.cell? ⟨g, on, none⟩ = some (.string ⟨N.toArray⟩) ∧ Below W.heap.size W w') := fun W => by
    refine (names_any W).mono ?_
    rintro e w' ⟨g, c, rfl, h1, h2, h3, h4, h5⟩
    have := h4.out on (by omega)
    exact ⟨g, c, rfl, h1, h3, by rw [this, hN]; rfl, h5⟩
  obtain ⟨A, hA⟩ : ∃ A, A = decI x := ⟨_, rfl⟩
  have hAl : List.length A ≤ 7 := by rw [hA]; exact decI_len x (by omega) (by omega)
  have HA : Hid (∀ W, Calls Tryd.prog 42 #[.int .i64 x] W fun e w' => e = .returned (.string ⟨A.toArray⟩) ∧ Below W.heap.size W w') := fun W => by rw [hA]; exact itoa_any x (by omega) (by omega) W
  obtain ⟨B, hB⟩ : ∃ B, B = decI y := ⟨_, rfl⟩
  have hBl : List.length B ≤ 7 := by rw [hB]; exact decI_len y (by omega) (by omega)
  have HB : Hid (∀ W, Calls Tryd.prog 42 #[.int .i64 y] W fun e w' => e = .returned (.string ⟨B.toArray⟩) ∧ Below W.heap.size W w') := fun W => by rw [hB]; exact itoa_any y (by omega) (by omega) W
  have htr : -1000000 < (near8 z) ∧ (near8 z) < 1000000 := (by unfold near8; split <;> omega)
  obtain ⟨D, hD⟩ : ∃ D, D = decI (near8 z) := ⟨_, rfl⟩
  have hDl : List.length D ≤ 7 := by rw [hD]; exact decI_len (near8 z) htr.1 htr.2
  have HD : Hid (∀ W, Calls Tryd.prog 42 #[.int .i64 (near8 z)] W fun e w' => e = .returned (.string ⟨D.toArray⟩) ∧ Below W.heap.size W w') := fun W => by rw [hD]; exact itoa_any (near8 z) htr.1 htr.2 W
  have HCAT : Hid ((((((((⟨N.toArray⟩ : ByteArray) ++ (⟨#[32, 114]⟩ : ByteArray)) ++ (⟨A.toArray⟩ : ByteArray)) ++ (⟨#[32, 114]⟩ : ByteArray)) ++ (⟨B.toArray⟩ : ByteArray)) ++ (⟨#[32]⟩ : ByteArray)) ++ (⟨D.toArray⟩ : ByteArray)) = ⟨(textI on x y z).toArray⟩) := by
    show _ = _
    apply ByteArray.ext
    unfold textI argsW
    rw [hf, hN, hA, hB, hD]
    simp [joinW, regW]
  have HNN := Lib.hid hN
  clear hc hf hN hA hB hD
  have q0 : ¬ (9223372036854775807 < List.length N + 2) := by omega
  have q1 : ¬ (9223372036854775807 < List.length N + 2 + List.length A) := by omega
  have q2 : ¬ (9223372036854775807 < List.length N + 2 + List.length A + 2) := by omega
  have q3 : ¬ (9223372036854775807 < List.length N + 2 + List.length A + 2 + List.length B) := by omega
  have q4 : ¬ (9223372036854775807 < List.length N + 2 + List.length A + 2 + List.length B + 1) := by omega
  have q5 : ¬ (9223372036854775807 < List.length N + 2 + List.length A + 2 + List.length B + 1 + List.length D) := by omega
  obtain ⟨ho0, ho1⟩ := ho
  have wx : IntKind.i64.wrap x = x := by rw [IntKind.wrap_i64]; omega
  have wy : IntKind.i64.wrap y = y := by rw [IntKind.wrap_i64]; omega
  have wz : IntKind.i64.wrap z = z := by rw [IntKind.wrap_i64]; omega
  have HNR : Hid (near8 z = if 127 < z then z - 256 else z) := by show _ = _; unfold near8; split <;> split <;> omega
  have wz4 : IntKind.i64.wrap (z - 256) = z - 256 := by rw [IntKind.wrap_i64]; omega
  go_enter Tryd.func16, Tryd.ntmps16
  go_wp2_with fail
  have hbox : BoxAt w.heap.size on x y z (w.alloc (.cells #[.int .u8 on, .int .u8 x, .int .u8 y, .int .u8 z] 38)) := heap_alloc_new _ _
  have HBOX := Lib.hid hbox
  clear hbox
  go_upto_region 1 with fail
  go_cut [3] (fun s3 wc => s3 = .string ⟨N.toArray⟩ ∧ Hid (BoxAt w.heap.size on x y z wc) ∧ Hid (LBel w wc))
  case first =>
    go_region_with (go_at_call 41; (with_reducible refine (HNM.out _).mono ?_); rintro e w4 ⟨g, c, rfl, hc40, hgs, hgc, hb4⟩; obtain ⟨hc4, hf4⟩ := bcell hb4)
    all_goals (go_wp2; go_meet; case rel => exact ⟨rfl, Lib.hid (boxb HBOX.out hb4 rfl), Lib.hid (lbelb (below_one _ _) hb4 ⟨rfl, rfl, rfl, rfl⟩)⟩)
  case rest =>
    obtain ⟨rfl, HBOX, HLB⟩ := hcut
    obtain ⟨hq0, hq1, hq2, hq3⟩ := HBOX.out.cells
    have hszz : w.heap.size < wc.heap.size := (Array.getElem?_eq_some_iff.1 HBOX.out).1
    go_wp2_with (go_at_call 40; (with_reducible refine (HOFF.out _).mono ?_); rintro e w5 ⟨rfl, hb5⟩; obtain ⟨hc5, hf5⟩ := bcell hb5; have hl5 : w.heap.size < w5.heap.size := Nat.lt_of_lt_of_le hszz hb5.size)
    have HL5 := Lib.hid (lb_step HLB.out hb5)
    clear hb5
    have hl5b : w.heap.size < w5.heap.size + 1 + 1 := by omega
    have hl5c : w.heap.size < w5.heap.size + 2 := hl5b
    refine wp_loop_rounds 3 ?_
    rw [rounds_succ]
    go_wp2_with (go_at_call 42; (with_reducible refine (HA.out _).mono ?_); rintro e w6 ⟨rfl, hb6⟩; obtain ⟨hc6, hf6⟩ := bcell hb6; have hl6 : w5.heap.size + 1 < w6.heap.size := (by have := hb6.size; simp only [World.size_alloc] at this; omega); have hm6 : w.heap.size < w6.heap.size := by omega)
    have HL6 := Lib.hid (lb_step (lb_alloc (lb_alloc HL5.out _) _) hb6)
    clear hb6
    rw [rounds_succ]
    go_wp2_with (go_at_call 42; (with_reducible refine (HB.out _).mono ?_); rintro e w7 ⟨rfl, hb7⟩; obtain ⟨hc7, hf7⟩ := bcell hb7; have hl7 : w5.heap.size + 1 < w7.heap.size := Nat.lt_of_lt_of_le hl6 hb7.size; have hm7 : w.heap.size < w7.heap.size := by omega)
    have HL7 := Lib.hid (lb_step HL6.out hb7)
    clear hb7
    rw [rounds_succ]
    by_cases h7 : 127 < z
    · rw [HNR.out, if_pos h7] at HD
      go_wp2_with (go_at_call 42; (with_reducible refine (HD.out _).mono ?_); rintro e w8 ⟨rfl, hb8⟩)
      go_ret
      refine ⟨?_, (lb_step HL7.out hb8)⟩
      rw [← HCAT.out]; rfl
    · rw [HNR.out, if_neg h7] at HD
      go_wp2_with (go_at_call 42; (with_reducible refine (HD.out _).mono ?_); rintro e w8 ⟨rfl, hb8⟩)
      go_ret
      refine ⟨?_, (lb_step HL7.out hb8)⟩
      rw [← HCAT.out]; rfl
set_option maxHeartbeats 2000000 in
theorem rprint_5 (o x y z : Int) (hx : Byt x) (hy : Byt y) (hz : Byt z) (hc : checkI o x y z = 0) (hf : formI o = 5) (w : World) : Calls Tryd.prog 16 #[instrV o x y z] w fun e w' => e = .returned (.string ⟨(textI o x y z).toArray⟩) ∧ LBel w w' := by
  have ho := check_op o x y z hc
  unfold Byt at hx hy hz
  have HOFF : Hid (∀ W, Calls Tryd.prog 40 #[.int .i64 o] W fun e w' => e = .returned (.int .i64 5) ∧ Below W.heap.size W w') := fun W => by rw [← hf]; exact form_any o W
  obtain ⟨N, hN⟩ : ∃ N, N = opName o := ⟨_, rfl⟩
  obtain ⟨on, hon⟩ : ∃ on : Nat, o = on := ⟨o.toNat, by omega⟩
  subst hon
  have hNl : List.length N ≤ 5 := by rw [hN]; exact opName_len on ho
  have HNM : Hid (∀ W, Calls Tryd.prog 41 #[] W fun e w' => ∃ g c : Nat, e = .returned (.slice (some ⟨g, 0, none⟩) 40 c) ∧ 40 ≤ c ∧ g < w'.heap.size ∧ w'.cell? ⟨g, on, none⟩ = some (.string ⟨N.toArray⟩) ∧ Below W.heap.size W w') := fun W => by
    refine (names_any W).mono ?_
    rintro e w' ⟨g, c, rfl, h1, h2, h3, h4, h5⟩
    have := h4.out on (by omega)
    exact ⟨g, c, rfl, h1, h3, by rw [this, hN]; rfl, h5⟩
  obtain ⟨A, hA⟩ : ∃ A, A = decI x := ⟨_, rfl⟩
  have hAl : List.length A ≤ 7 := by rw [hA]; exact decI_len x (by omega) (by omega)
  have HA : Hid (∀ W, Calls Tryd.prog 42 #[.int .i64 x] W fun e w' => e = .returned (.string ⟨A.toArray⟩) ∧ Below W.heap.size W w') := fun W => by rw [hA]; exact itoa_any x (by omega) (by omega) W
  have htr : -1000000 < (y + 256 * z) ∧ (y + 256 * z) < 1000000 := (by omega)
  obtain ⟨D, hD⟩ : ∃ D, D = decI (y + 256 * z) := ⟨_, rfl⟩
  have hDl : List.length D ≤ 7 := by rw [hD]; exact decI_len (y + 256 * z) htr.1 htr.2
  have HD : Hid (∀ W, Calls Tryd.prog 42 #[.int .i64 (y + 256 * z)] W fun e w' => e = .returned (.string ⟨D.toArray⟩) ∧ Below W.heap.size W w') := fun W => by rw [hD]; exact itoa_any (y + 256 * z) htr.1 htr.2 W
  have HCAT : Hid ((((((⟨N.toArray⟩ : ByteArray) ++ (⟨#[32, 114]⟩ : ByteArray)) ++ (⟨A.toArray⟩ : ByteArray)) ++ (⟨#[32]⟩ : ByteArray)) ++ (⟨D.toArray⟩ : ByteArray)) = ⟨(textI on x y z).toArray⟩) := by
    show _ = _
    apply ByteArray.ext
    unfold textI argsW
    rw [hf, hN, hA, hD]
    simp [joinW, regW]
  have HNN := Lib.hid hN
  clear hc hf hN hA hD
  have q0 : ¬ (9223372036854775807 < List.length N + 2) := by omega
  have q1 : ¬ (9223372036854775807 < List.length N + 2 + List.length A) := by omega
  have q2 : ¬ (9223372036854775807 < List.length N + 2 + List.length A + 1) := by omega
  have q3 : ¬ (9223372036854775807 < List.length N + 2 + List.length A + 1 + List.length D) := by omega
  obtain ⟨ho0, ho1⟩ := ho
  have wx : IntKind.i64.wrap x = x := by rw [IntKind.wrap_i64]; omega
  have wy : IntKind.i64.wrap y = y := by rw [IntKind.wrap_i64]; omega
  have wz : IntKind.i64.wrap z = z := by rw [IntKind.wrap_i64]; omega
  have wz2 : IntKind.i64.wrap (256 * z) = 256 * z := by rw [IntKind.wrap_i64]; omega
  have wz3 : IntKind.i64.wrap (y + 256 * z) = y + 256 * z := by rw [IntKind.wrap_i64]; omega
  go_enter Tryd.func16, Tryd.ntmps16
  go_wp2_with fail
  have hbox : BoxAt w.heap.size on x y z (w.alloc (.cells #[.int .u8 on, .int .u8 x, .int .u8 y, .int .u8 z] 38)) := heap_alloc_new _ _
  have HBOX := Lib.hid hbox
  clear hbox
  go_upto_region 1 with fail
  go_cut [3] (fun s3 wc => s3 = .string ⟨N.toArray⟩ ∧ Hid (BoxAt w.heap.size on x y z wc) ∧ Hid (LBel w wc))
  case first =>
    go_region_with (go_at_call 41; (with_reducible refine (HNM.out _).mono ?_); rintro e w4 ⟨g, c, rfl, hc40, hgs, hgc, hb4⟩; obtain ⟨hc4, hf4⟩ := bcell hb4)
    all_goals (go_wp2; go_meet; case rel => exact ⟨rfl, Lib.hid (boxb HBOX.out hb4 rfl), Lib.hid (lbelb (below_one _ _) hb4 ⟨rfl, rfl, rfl, rfl⟩)⟩)
  case rest =>
    obtain ⟨rfl, HBOX, HLB⟩ := hcut
    obtain ⟨hq0, hq1, hq2, hq3⟩ := HBOX.out.cells
    have hszz : w.heap.size < wc.heap.size := (Array.getElem?_eq_some_iff.1 HBOX.out).1
    go_wp2_with (go_at_call 40; (with_reducible refine (HOFF.out _).mono ?_); rintro e w5 ⟨rfl, hb5⟩; obtain ⟨hc5, hf5⟩ := bcell hb5; have hl5 : w.heap.size < w5.heap.size := Nat.lt_of_lt_of_le hszz hb5.size)
    have HL5 := Lib.hid (lb_step HLB.out hb5)
    clear hb5
    have hl5b : w.heap.size < w5.heap.size + 1 + 1 := by omega
    have hl5c : w.heap.size < w5.heap.size + 2 := hl5b
    refine wp_loop_rounds 2 ?_
    rw [rounds_succ]
    go_wp2_with (go_at_call 42; (with_reducible refine (HA.out _).mono ?_); rintro e w6 ⟨rfl, hb6⟩; obtain ⟨hc6, hf6⟩ := bcell hb6; have hl6 : w5.heap.size + 1 < w6.heap.size := (by have := hb6.size; simp only [World.size_alloc] at this; omega); have hm6 : w.heap.size < w6.heap.size := by omega)
    have HL6 := Lib.hid (lb_step (lb_alloc (lb_alloc HL5.out _) _) hb6)
    clear hb6
    rw [rounds_succ]
    go_wp2_with (go_at_call 42; (with_reducible refine (HD.out _).mono ?_); rintro e w7 ⟨rfl, hb7⟩)
    go_ret
    refine ⟨?_, (lb_step HL6.out hb7)⟩
    rw [← HCAT.out]; rfl
set_option maxHeartbeats 2000000 in
theorem rprint_6 (o x y z : Int) (hx : Byt x) (hy : Byt y) (hz : Byt z) (hc : checkI o x y z = 0) (hf : formI o = 6) (w : World) : Calls Tryd.prog 16 #[instrV o x y z] w fun e w' => e = .returned (.string ⟨(textI o x y z).toArray⟩) ∧ LBel w w' := by
  have ho := check_op o x y z hc
  unfold Byt at hx hy hz
  have HOFF : Hid (∀ W, Calls Tryd.prog 40 #[.int .i64 o] W fun e w' => e = .returned (.int .i64 6) ∧ Below W.heap.size W w') := fun W => by rw [← hf]; exact form_any o W
  obtain ⟨N, hN⟩ : ∃ N, N = opName o := ⟨_, rfl⟩
  obtain ⟨on, hon⟩ : ∃ on : Nat, o = on := ⟨o.toNat, by omega⟩
  subst hon
  have hNl : List.length N ≤ 5 := by rw [hN]; exact opName_len on ho
  have HNM : Hid (∀ W, Calls Tryd.prog 41 #[] W fun e w' => ∃ g c : Nat, e = .returned (.slice (some ⟨g, 0, none⟩) 40 c) ∧ 40 ≤ c ∧ g < w'.heap.size ∧ w'.cell? ⟨g, on, none⟩ = some (.string ⟨N.toArray⟩) ∧ Below W.heap.size W w') := fun W => by
    refine (names_any W).mono ?_
    rintro e w' ⟨g, c, rfl, h1, h2, h3, h4, h5⟩
    have := h4.out on (by omega)
    exact ⟨g, c, rfl, h1, h3, by rw [this, hN]; rfl, h5⟩
  have htr : -1000000 < (y + 256 * z) ∧ (y + 256 * z) < 1000000 := (by omega)
  obtain ⟨D, hD⟩ : ∃ D, D = decI (y + 256 * z) := ⟨_, rfl⟩
  have hDl : List.length D ≤ 7 := by rw [hD]; exact decI_len (y + 256 * z) htr.1 htr.2
  have HD : Hid (∀ W, Calls Tryd.prog 42 #[.int .i64 (y + 256 * z)] W fun e w' => e = .returned (.string ⟨D.toArray⟩) ∧ Below W.heap.size W w') := fun W => by rw [hD]; exact itoa_any (y + 256 * z) htr.1 htr.2 W
  have HCAT : Hid ((((⟨N.toArray⟩ : ByteArray) ++ (⟨#[32]⟩ : ByteArray)) ++ (⟨D.toArray⟩ : ByteArray)) = ⟨(textI on x y z).toArray⟩) := by
    show _ = _
    apply ByteArray.ext
    unfold textI argsW
    rw [hf, hN, hD]
    simp [joinW, regW]
  have HNN := Lib.hid hN
  clear hc hf hN hD
  have q0 : ¬ (9223372036854775807 < List.length N + 1) := by omega
  have q1 : ¬ (9223372036854775807 < List.length N + 1 + List.length D) := by omega
  obtain ⟨ho0, ho1⟩ := ho
  have wx : IntKind.i64.wrap x = x := by rw [IntKind.wrap_i64]; omega
  have wy : IntKind.i64.wrap y = y := by rw [IntKind.wrap_i64]; omega
  have wz : IntKind.i64.wrap z = z := by rw [IntKind.wrap_i64]; omega
  have wz2 : IntKind.i64.wrap (256 * z) = 256 * z := by rw [IntKind.wrap_i64]; omega
  have wz3 : IntKind.i64.wrap (y + 256 * z) = y + 256 * z := by rw [IntKind.wrap_i64]; omega
  go_enter Tryd.func16, Tryd.ntmps16
  go_wp2_with fail
  have hbox : BoxAt w.heap.size on x y z (w.alloc (.cells #[.int .u8 on, .int .u8 x, .int .u8 y, .int .u8 z] 38)) := heap_alloc_new _ _
  have HBOX := Lib.hid hbox
  clear hbox
  go_upto_region 1 with fail
  go_cut [3] (fun s3 wc => s3 = .string ⟨N.toArray⟩ ∧ Hid (BoxAt w.heap.size on x y z wc) ∧ Hid (LBel w wc))
  case first =>
    go_region_with (go_at_call 41; (with_reducible refine (HNM.out _).mono ?_); rintro e w4 ⟨g, c, rfl, hc40, hgs, hgc, hb4⟩; obtain ⟨hc4, hf4⟩ := bcell hb4)
    all_goals (go_wp2; go_meet; case rel => exact ⟨rfl, Lib.hid (boxb HBOX.out hb4 rfl), Lib.hid (lbelb (below_one _ _) hb4 ⟨rfl, rfl, rfl, rfl⟩)⟩)
  case rest =>
    obtain ⟨rfl, HBOX, HLB⟩ := hcut
    obtain ⟨hq0, hq1, hq2, hq3⟩ := HBOX.out.cells
    have hszz : w.heap.size < wc.heap.size := (Array.getElem?_eq_some_iff.1 HBOX.out).1
    go_wp2_with (go_at_call 40; (with_reducible refine (HOFF.out _).mono ?_); rintro e w5 ⟨rfl, hb5⟩; obtain ⟨hc5, hf5⟩ := bcell hb5; have hl5 : w.heap.size < w5.heap.size := Nat.lt_of_lt_of_le hszz hb5.size)
    have HL5 := Lib.hid (lb_step HLB.out hb5)
    clear hb5
    have hl5b : w.heap.size < w5.heap.size + 1 + 1 := by omega
    have hl5c : w.heap.size < w5.heap.size + 2 := hl5b
    refine wp_loop_rounds 1 ?_
    rw [rounds_succ]
    go_wp2_with (go_at_call 42; (with_reducible refine (HD.out _).mono ?_); rintro e w6 ⟨rfl, hb6⟩)
    go_ret
    refine ⟨?_, (lb_step (lb_alloc (lb_alloc HL5.out _) _) hb6)⟩
    rw [← HCAT.out]; rfl
set_option maxHeartbeats 2000000 in
theorem rprint_7 (o x y z : Int) (hx : Byt x) (hy : Byt y) (hz : Byt z) (hc : checkI o x y z = 0) (hf : formI o = 7) (w : World) : Calls Tryd.prog 16 #[instrV o x y z] w fun e w' => e = .returned (.string ⟨(textI o x y z).toArray⟩) ∧ LBel w w' := by
  have ho := check_op o x y z hc
  unfold Byt at hx hy hz
  have HOFF : Hid (∀ W, Calls Tryd.prog 40 #[.int .i64 o] W fun e w' => e = .returned (.int .i64 7) ∧ Below W.heap.size W w') := fun W => by rw [← hf]; exact form_any o W
  obtain ⟨N, hN⟩ : ∃ N, N = opName o := ⟨_, rfl⟩
  obtain ⟨on, hon⟩ : ∃ on : Nat, o = on := ⟨o.toNat, by omega⟩
  subst hon
  have hNl : List.length N ≤ 5 := by rw [hN]; exact opName_len on ho
  have HNM : Hid (∀ W, Calls Tryd.prog 41 #[] W fun e w' => ∃ g c : Nat, e = .returned (.slice (some ⟨g, 0, none⟩) 40 c) ∧ 40 ≤ c ∧ g < w'.heap.size ∧ w'.cell? ⟨g, on, none⟩ = some (.string ⟨N.toArray⟩) ∧ Below W.heap.size W w') := fun W => by
    refine (names_any W).mono ?_
    rintro e w' ⟨g, c, rfl, h1, h2, h3, h4, h5⟩
    have := h4.out on (by omega)
    exact ⟨g, c, rfl, h1, h3, by rw [this, hN]; rfl, h5⟩
  obtain ⟨A, hA⟩ : ∃ A, A = decI x := ⟨_, rfl⟩
  have hAl : List.length A ≤ 7 := by rw [hA]; exact decI_len x (by omega) (by omega)
  have HA : Hid (∀ W, Calls Tryd.prog 42 #[.int .i64 x] W fun e w' => e = .returned (.string ⟨A.toArray⟩) ∧ Below W.heap.size W w') := fun W => by rw [hA]; exact itoa_any x (by omega) (by omega) W
  obtain ⟨B, hB⟩ : ∃ B, B = decI y := ⟨_, rfl⟩
  have hBl : List.length B ≤ 7 := by rw [hB]; exact decI_len y (by omega) (by omega)
  have HB : Hid (∀ W, Calls Tryd.prog 42 #[.int .i64 y] W fun e w' => e = .returned (.string ⟨B.toArray⟩) ∧ Below W.heap.size W w') := fun W => by rw [hB]; exact itoa_any y (by omega) (by omega) W
  have htr : -1000000 < (z) ∧ (z) < 1000000 := (by omega)
  obtain ⟨D, hD⟩ : ∃ D, D = decI (z) := ⟨_, rfl⟩
  have hDl : List.length D ≤ 7 := by rw [hD]; exact decI_len (z) htr.1 htr.2
  have HD : Hid (∀ W, Calls Tryd.prog 42 #[.int .i64 (z)] W fun e w' => e = .returned (.string ⟨D.toArray⟩) ∧ Below W.heap.size W w') := fun W => by rw [hD]; exact itoa_any (z) htr.1 htr.2 W
  have HCAT : Hid ((((((((⟨N.toArray⟩ : ByteArray) ++ (⟨#[32, 114]⟩ : ByteArray)) ++ (⟨A.toArray⟩ : ByteArray)) ++ (⟨#[32, 114]⟩ : ByteArray)) ++ (⟨B.toArray⟩ : ByteArray)) ++ (⟨#[32]⟩ : ByteArray)) ++ (⟨D.toArray⟩ : ByteArray)) = ⟨(textI on x y z).toArray⟩) := by
    show _ = _
    apply ByteArray.ext
    unfold textI argsW
    rw [hf, hN, hA, hB, hD]
    simp [joinW, regW]
  have HNN := Lib.hid hN
  clear hc hf hN hA hB hD
  have q0 : ¬ (9223372036854775807 < List.length N + 2) := by omega
  have q1 : ¬ (9223372036854775807 < List.length N + 2 + List.length A) := by omega
  have q2 : ¬ (9223372036854775807 < List.length N + 2 + List.length A + 2) := by omega
  have q3 : ¬ (9223372036854775807 < List.length N + 2 + List.length A + 2 + List.length B) := by omega
  have q4 : ¬ (9223372036854775807 < List.length N + 2 + List.length A + 2 + List.length B + 1) := by omega
  have q5 : ¬ (9223372036854775807 < List.length N + 2 + List.length A + 2 + List.length B + 1 + List.length D) := by omega
  obtain ⟨ho0, ho1⟩ := ho
  have wx : IntKind.i64.wrap x = x := by rw [IntKind.wrap_i64]; omega
  have wy : IntKind.i64.wrap y = y := by rw [IntKind.wrap_i64]; omega
  have wz : IntKind.i64.wrap z = z := by rw [IntKind.wrap_i64]; omega
  go_enter Tryd.func16, Tryd.ntmps16
  go_wp2_with fail
  have hbox : BoxAt w.heap.size on x y z (w.alloc (.cells #[.int .u8 on, .int .u8 x, .int .u8 y, .int .u8 z] 38)) := heap_alloc_new _ _
  have HBOX := Lib.hid hbox
  clear hbox
  go_upto_region 1 with fail
  go_cut [3] (fun s3 wc => s3 = .string ⟨N.toArray⟩ ∧ Hid (BoxAt w.heap.size on x y z wc) ∧ Hid (LBel w wc))
  case first =>
    go_region_with (go_at_call 41; (with_reducible refine (HNM.out _).mono ?_); rintro e w4 ⟨g, c, rfl, hc40, hgs, hgc, hb4⟩; obtain ⟨hc4, hf4⟩ := bcell hb4)
    all_goals (go_wp2; go_meet; case rel => exact ⟨rfl, Lib.hid (boxb HBOX.out hb4 rfl), Lib.hid (lbelb (below_one _ _) hb4 ⟨rfl, rfl, rfl, rfl⟩)⟩)
  case rest =>
    obtain ⟨rfl, HBOX, HLB⟩ := hcut
    obtain ⟨hq0, hq1, hq2, hq3⟩ := HBOX.out.cells
    have hszz : w.heap.size < wc.heap.size := (Array.getElem?_eq_some_iff.1 HBOX.out).1
    go_wp2_with (go_at_call 40; (with_reducible refine (HOFF.out _).mono ?_); rintro e w5 ⟨rfl, hb5⟩; obtain ⟨hc5, hf5⟩ := bcell hb5; have hl5 : w.heap.size < w5.heap.size := Nat.lt_of_lt_of_le hszz hb5.size)
    have HL5 := Lib.hid (lb_step HLB.out hb5)
    clear hb5
    have hl5b : w.heap.size < w5.heap.size + 1 + 1 := by omega
    have hl5c : w.heap.size < w5.heap.size + 2 := hl5b
    refine wp_loop_rounds 3 ?_
    rw [rounds_succ]
    go_wp2_with (go_at_call 42; (with_reducible refine (HA.out _).mono ?_); rintro e w6 ⟨rfl, hb6⟩; obtain ⟨hc6, hf6⟩ := bcell hb6; have hl6 : w5.heap.size + 1 < w6.heap.size := (by have := hb6.size; simp only [World.size_alloc] at this; omega); have hm6 : w.heap.size < w6.heap.size := by omega)
    have HL6 := Lib.hid (lb_step (lb_alloc (lb_alloc HL5.out _) _) hb6)
    clear hb6
    rw [rounds_succ]
    go_wp2_with (go_at_call 42; (with_reducible refine (HB.out _).mono ?_); rintro e w7 ⟨rfl, hb7⟩; obtain ⟨hc7, hf7⟩ := bcell hb7; have hl7 : w5.heap.size + 1 < w7.heap.size := Nat.lt_of_lt_of_le hl6 hb7.size; have hm7 : w.heap.size < w7.heap.size := by omega)
    have HL7 := Lib.hid (lb_step HL6.out hb7)
    clear hb7
    rw [rounds_succ]
    go_wp2_with (go_at_call 42; (with_reducible refine (HD.out _).mono ?_); rintro e w8 ⟨rfl, hb8⟩)
    go_ret
    refine ⟨?_, (lb_step HL7.out hb8)⟩
    rw [← HCAT.out]; rfl
set_option maxHeartbeats 2000000 in
theorem rprint_8 (o x y z : Int) (hx : Byt x) (hy : Byt y) (hz : Byt z) (hc : checkI o x y z = 0) (hf : formI o = 8) (w : World) : Calls Tryd.prog 16 #[instrV o x y z] w fun e w' => e = .returned (.string ⟨(textI o x y z).toArray⟩) ∧ LBel w w' := by
  have ho := check_op o x y z hc
  unfold Byt at hx hy hz
  have HOFF : Hid (∀ W, Calls Tryd.prog 40 #[.int .i64 o] W fun e w' => e = .returned (.int .i64 8) ∧ Below W.heap.size W w') := fun W => by rw [← hf]; exact form_any o W
  obtain ⟨N, hN⟩ : ∃ N, N = opName o := ⟨_, rfl⟩
  obtain ⟨on, hon⟩ : ∃ on : Nat, o = on := ⟨o.toNat, by omega⟩
  subst hon
  have hNl : List.length N ≤ 5 := by rw [hN]; exact opName_len on ho
  have HNM : Hid (∀ W, Calls Tryd.prog 41 #[] W fun e w' => ∃ g c : Nat, e = .returned (.slice (some ⟨g, 0, none⟩) 40 c) ∧ 40 ≤ c ∧ g < w'.heap.size ∧ w'.cell? ⟨g, on, none⟩ = some (.string ⟨N.toArray⟩) ∧ Below W.heap.size W w') := fun W => by
    refine (names_any W).mono ?_
    rintro e w' ⟨g, c, rfl, h1, h2, h3, h4, h5⟩
    have := h4.out on (by omega)
    exact ⟨g, c, rfl, h1, h3, by rw [this, hN]; rfl, h5⟩
  have htr : -1000000 < (y) ∧ (y) < 1000000 := (by omega)
  obtain ⟨D, hD⟩ : ∃ D, D = decI (y) := ⟨_, rfl⟩
  have hDl : List.length D ≤ 7 := by rw [hD]; exact decI_len (y) htr.1 htr.2
  have HD : Hid (∀ W, Calls Tryd.prog 42 #[.int .i64 (y)] W fun e w' => e = .returned (.string ⟨D.toArray⟩) ∧ Below W.heap.size W w') := fun W => by rw [hD]; exact itoa_any (y) htr.1 htr.2 W
  have HCAT : Hid ((((⟨N.toArray⟩ : ByteArray) ++ (⟨#[32]⟩ : ByteArray)) ++ (⟨D.toArray⟩ : ByteArray)) = ⟨(textI on x y z).toArray⟩) := by
    show _ = _
    apply ByteArray.ext
    unfold textI argsW
    rw [hf, hN, hD]
    simp [joinW, regW]
  have HNN := Lib.hid hN
  clear hc hf hN hD
  have q0 : ¬ (9223372036854775807 < List.length N + 1) := by omega
  have q1 : ¬ (9223372036854775807 < List.length N + 1 + List.length D) := by omega
  obtain ⟨ho0, ho1⟩ := ho
  have wx : IntKind.i64.wrap x = x := by rw [IntKind.wrap_i64]; omega
  have wy : IntKind.i64.wrap y = y := by rw [IntKind.wrap_i64]; omega
  have wz : IntKind.i64.wrap z = z := by rw [IntKind.wrap_i64]; omega
  go_enter Tryd.func16, Tryd.ntmps16
  go_wp2_with fail
  have hbox : BoxAt w.heap.size on x y z (w.alloc (.cells #[.int .u8 on, .int .u8 x, .int .u8 y, .int .u8 z] 38)) := heap_alloc_new _ _
  have HBOX := Lib.hid hbox
  clear hbox
  go_upto_region 1 with fail
  go_cut [3] (fun s3 wc => s3 = .string ⟨N.toArray⟩ ∧ Hid (BoxAt w.heap.size on x y z wc) ∧ Hid (LBel w wc))
  case first =>
    go_region_with (go_at_call 41; (with_reducible refine (HNM.out _).mono ?_); rintro e w4 ⟨g, c, rfl, hc40, hgs, hgc, hb4⟩; obtain ⟨hc4, hf4⟩ := bcell hb4)
    all_goals (go_wp2; go_meet; case rel => exact ⟨rfl, Lib.hid (boxb HBOX.out hb4 rfl), Lib.hid (lbelb (below_one _ _) hb4 ⟨rfl, rfl, rfl, rfl⟩)⟩)
  case rest =>
    obtain ⟨rfl, HBOX, HLB⟩ := hcut
    obtain ⟨hq0, hq1, hq2, hq3⟩ := HBOX.out.cells
    have hszz : w.heap.size < wc.heap.size := (Array.getElem?_eq_some_iff.1 HBOX.out).1
    go_wp2_with (go_at_call 40; (with_reducible refine (HOFF.out _).mono ?_); rintro e w5 ⟨rfl, hb5⟩; obtain ⟨hc5, hf5⟩ := bcell hb5; have hl5 : w.heap.size < w5.heap.size := Nat.lt_of_lt_of_le hszz hb5.size)
    have HL5 := Lib.hid (lb_step HLB.out hb5)
    clear hb5
    have hl5b : w.heap.size < w5.heap.size + 1 + 1 := by omega
    have hl5c : w.heap.size < w5.heap.size + 2 := hl5b
    refine wp_loop_rounds 1 ?_
    rw [rounds_succ]
    go_wp2_with (go_at_call 42; (with_reducible refine (HD.out _).mono ?_); rintro e w6 ⟨rfl, hb6⟩)
    go_ret
    refine ⟨?_, (lb_step (lb_alloc (lb_alloc HL5.out _) _) hb6)⟩
    rw [← HCAT.out]; rfl
/-- The reference's text of a right instruction. -/
theorem rprint_any (o x y z : Int) (hx : Byt x) (hy : Byt y) (hz : Byt z) (hc : checkI o x y z = 0) (w : World) : Calls Tryd.prog 16 #[instrV o x y z] w fun e w' => e = .returned (.string ⟨(textI o x y z).toArray⟩) ∧ LBel w w' := by
  rcases form_range o (check_op o x y z hc) with h | h | h | h | h | h | h | h | h
  · exact rprint_0 o x y z hx hy hz hc h w
  · exact rprint_1 o x y z hx hy hz hc h w
  · exact rprint_2 o x y z hx hy hz hc h w
  · exact rprint_3 o x y z hx hy hz hc h w
  · exact rprint_4 o x y z hx hy hz hc h w
  · exact rprint_5 o x y z hx hy hz hc h w
  · exact rprint_6 o x y z hx hy hz hc h w
  · exact rprint_7 o x y z hx hy hz hc h w
  · exact rprint_8 o x y z hx hy hz hc h w
end Go.Proofs.YtlaohefgofmfdaaDoor
