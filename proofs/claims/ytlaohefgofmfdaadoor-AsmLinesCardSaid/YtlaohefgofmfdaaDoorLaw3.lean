/- The walk of AsmLines. -/
import Derived.Test.YtlaohefgofmfdaaDoorLaw2
import Derived.Test.YtlaohefgofmfdaaDoorRefT
import Derived.BigRegion
import Derived.Deep.QuietTactic
import Derived.BigQuiet
import Derived.Laws.Cover3
namespace Go.Proofs.YtlaohefgofmfdaaDoor
open Go Go.RowKit Go.Proofs.YtlaohefgofmfdaaDoorW.PrintWords
set_option maxRecDepth 100000
/-- The instructions that the law looks at. -/
def lawL (o x y z p u v : Int) : List (Int × Int × Int × Int) := [(o, x, y, z), (p, u, v, z), (p, u, v, 0), (p, u, v, 8), (p, 0, y, z), (p, 0, y, 0), (p, 0, 0, 0)]
def insCells (L : List (Int × Int × Int × Int)) : Array Value := (L.flatMap fun q => [.int .u8 q.1, .int .u8 q.2.1, .int .u8 q.2.2.1, .int .u8 q.2.2.2]).toArray
theorem law_at (o x y z p u v : Int) (ho : Byt o) (hx : Byt x) (hy : Byt y) (hz : Byt z) (hp : Byt p) (hu : Byt u) (hv : Byt v) (j : Nat) (hj : j < 7) : ∃ a b c d, Byt a ∧ Byt b ∧ Byt c ∧ Byt d ∧
    (insCells (lawL o x y z p u v))[j * 4]? = some (.int .u8 a) ∧ (insCells (lawL o x y z p u v))[j * 4 + 1]? = some (.int .u8 b) ∧ (insCells (lawL o x y z p u v))[j * 4 + 2]? = some (.int .u8 c) ∧ (insCells (lawL o x y z p u v))[j * 4 + 3]? = some (.int .u8 d) := by
  have b0 : Byt 0 := ⟨by decide, by decide⟩
  have b8 : Byt 8 := ⟨by decide, by decide⟩
  match j, hj with
  | 0, _ => exact ⟨_, _, _, _, ho, hx, hy, hz, rfl, rfl, rfl, rfl⟩
  | 1, _ => exact ⟨_, _, _, _, hp, hu, hv, hz, rfl, rfl, rfl, rfl⟩
  | 2, _ => exact ⟨_, _, _, _, hp, hu, hv, b0, rfl, rfl, rfl, rfl⟩
  | 3, _ => exact ⟨_, _, _, _, hp, hu, hv, b8, rfl, rfl, rfl, rfl⟩
  | 4, _ => exact ⟨_, _, _, _, hp, b0, hy, hz, rfl, rfl, rfl, rfl⟩
  | 5, _ => exact ⟨_, _, _, _, hp, b0, hy, b0, rfl, rfl, rfl, rfl⟩
  | 6, _ => exact ⟨_, _, _, _, hp, b0, b0, b0, rfl, rfl, rfl, rfl⟩
theorem lb_drw {w a : World} (h : LBel w a) (n : Nat) : LBel w (a.drewN n) := have h' : Below w.heap.size w a := h; ⟨h'.os, h'.tape, h'.output, h'.size, h'.block⟩
theorem heap_keep {a b : World} {G : Nat} {o : Obj} (h : a.heap[G]? = some o) (hb : Below a.heap.size a b) : b.heap[G]? = some o := (hb.block G (Array.getElem?_eq_some_iff.1 h).1).trans h
theorem heap_keep_al {a : World} {G : Nat} {o : Obj} (h : a.heap[G]? = some o) (x : Obj) : (a.alloc x).heap[G]? = some o := heap_keep h (below_one a x)
theorem conv_cells {w : World} {g : Nat} {a b c d : Int} (h0 : w.cell? ⟨g, 0, none⟩ = some (.int .u8 a)) (h1 : w.cell? ⟨g, 1, none⟩ = some (.int .u8 b)) (h2 : w.cell? ⟨g, 2, none⟩ = some (.int .u8 c)) (h3 : w.cell? ⟨g, 3, none⟩ = some (.int .u8 d)) (cap : Nat) :
    (convert 22 9 (.slice (some ⟨g, 0, none⟩) 4 cap)).run Tryd.prog w = .ok (.string (strOfNums [a, b, c, d])) w := by
  refine Kd.C_string (xs := [a, b, c, d]) Tryd.underlying22 Tryd.underlying5 Tryd.underlying9 ⟨rfl, by simp, fun _ => ⟨_, rfl, fun j p hj => ⟨[.int .u8 p], rfl, rfl, fun i u hu => ?_⟩⟩⟩
  have hi : i = 0 := by
    rcases i with _ | i
    · rfl
    · simp at hu
  subst hi
  have hu' : .int .u8 p = u := by simpa using hu
  subst hu'
  show w.cell? (Addr.add ⟨g, 0, none⟩ (j * 1 + 0)) = _
  rw [show Addr.add ⟨g, 0, none⟩ (j * 1 + 0) = ⟨g, j, none⟩ by unfold Addr.add; split <;> simp_all]
  match j, hj with
  | 0, hj => obtain rfl : a = p := by simpa using hj
             exact h0
  | 1, hj => obtain rfl : b = p := by simpa using hj
             exact h1
  | 2, hj => obtain rfl : c = p := by simpa using hj
             exact h2
  | 3, hj => obtain rfl : d = p := by simpa using hj
             exact h3
theorem text_len (a b c d : Int) (hb : Byt b) (hc : Byt c) (hd : Byt d) (hck : checkI a b c d = 0) : (textI a b c d).length ≤ 1000 := by
  have ho := check_op a b c d hck
  have h0 := opName_len a ho
  unfold Byt at hb hc hd
  have h1 := decI_len b (by omega) (by omega)
  have h2 := decI_len c (by omega) (by omega)
  have h3 := decI_len d (by omega) (by omega)
  have h4 := decI_len (c + 256 * d) (by omega) (by omega)
  have h5 := decI_len (near8 d) (by unfold near8; split <;> omega) (by unfold near8; split <;> omega)
  unfold textI argsW
  repeat' split
  all_goals simp [joinW, regW]
  all_goals omega
theorem asm_one (a b c d : Int) (hb : Byt b) (hc : Byt c) (hd : Byt d) (hck : checkI a b c d = 0) (W : World) (hlib : LibAt W) : Calls Tryd.prog 10 #[.string ⟨(textI a b c d).toArray⟩] W fun e w' => ∃ g cap : Nat, e = .returned (.tuple #[.agg #[.int .u8 0, .slice (some ⟨g, 0, none⟩) 4 cap], .int .i64 0, .int .i64 0]) ∧ g < w'.heap.size ∧ LBel W w' ∧ w'.cell? ⟨g, 0, none⟩ = some (.int .u8 a) ∧ w'.cell? ⟨g, 1, none⟩ = some (.int .u8 b) ∧ w'.cell? ⟨g, 2, none⟩ = some (.int .u8 c) ∧ w'.cell? ⟨g, 3, none⟩ = some (.int .u8 d) := by
  have hl := text_len a b c d hb hc hd hck
  have hr := row_instr a b c d hb hc hd hck
  refine (asm_text (textI a b c d) (by omega) (fun x hx => (hr.mem x hx).2) W hlib).mono ?_
  rw [asmI, if_neg (by simp; omega), asm_line a b c d hb hc hd hck]
  rintro e w1 ⟨hk, v, rfl, hown⟩
  obtain ⟨_, ⟨rfl, h0⟩ | ⟨g, cap, cur, rfl, hg, hh, hcap, hmx, _⟩⟩ := id hown
  · exact absurd h0 (by simp)
  · have hc := hown.cells rfl
    have key : ∀ i u, (u8s [a, b, c, d])[i]? = some u → w1.cell? ⟨g, i, none⟩ = some u := by
      intro i u hu
      have h := hc i u hu
      rw [show Addr.add ⟨g, 0, none⟩ i = ⟨g, i, none⟩ by unfold Addr.add; split <;> simp_all] at h
      exact h
    exact ⟨g, cap, rfl, (Array.getElem?_eq_some_iff.1 hh).1, hk, key 0 _ rfl, key 1 _ rfl, key 2 _ rfl, key 3 _ rfl⟩
set_option maxHeartbeats 1000000 in
theorem lines_any (o x y z k : Int) (ho : Byt o) (hx : Byt x) (hy : Byt y) (hz : Byt z) (hk : Byt k) (w : World) (hlib : LibAt w) : Calls Tryd.prog 6 #[instrV o x y z, .int .u8 k] w fun e w' => e = .returned (.bool true) ∧ LBel w w' := by
  unfold Byt at ho hx hy hz hk
  have HL := Lib.hid hlib
  obtain ⟨p, hp⟩ : ∃ p, p = 1 + k % 39 := ⟨_, rfl⟩
  obtain ⟨u, hu⟩ : ∃ u, u = x % 16 := ⟨_, rfl⟩
  obtain ⟨v, hv⟩ : ∃ v, v = y % 16 := ⟨_, rfl⟩
  have e1 : Int.tmod k 39 = k % 39 := Int.tmod_eq_emod_of_nonneg hk.1
  have e2 : Int.tmod x 16 = u := by rw [hu]; exact Int.tmod_eq_emod_of_nonneg hx.1
  have e3 : Int.tmod y 16 = v := by rw [hv]; exact Int.tmod_eq_emod_of_nonneg hy.1
  have e4 : 1 + k % 39 = p := hp.symm
  have hp' : 0 ≤ p ∧ p ≤ 255 := by omega
  have hu' : 0 ≤ u ∧ u ≤ 255 := by omega
  have hv' : 0 ≤ v ∧ v ≤ 255 := by omega
  clear hlib hp hu hv
  go_enter Tryd.func6, Tryd.ntmps6
  go_wp2_with (go_at_call 8; refine (awake_any _ (lib_below HL.out (below_one w _))).mono ?_; rintro e w1 ⟨rfl, hb1⟩; obtain ⟨hc1, hf1⟩ := bcell hb1; have hl1 : w.heap.size < w1.heap.size := (by have := hb1.size; simp only [World.size_alloc] at this; omega))
  go_region
  go_wp2
  go_loopw [63] (fun i wr => ∃ j : Nat, j ≤ 7 ∧ i = .int .i64 j ∧ Hid (LBel w wr) ∧ Hid (wr.heap[w1.heap.size + 1]? = some (.cells (insCells (lawL o x y z p u v)) 38))) (fun i _ => 7 - (intOf i).toNat)
  case atStart =>
    refine ⟨0, Nat.zero_le _, rfl, Lib.hid (Below.drew (lb_alloc (lb_alloc (lb_step (below_one w _) hb1) _) _)), Lib.hid ?_⟩
    have := heap_alloc_new (w1.alloc (.cells #[.int .u8 p, .int .u8 u, .int .u8 v, .int .u8 z] 38)) (.cells (insCells (lawL o x y z p u v)) 38)
    rw [World.size_alloc] at this
    exact this
  case round =>
    obtain ⟨j, hj, rfl, HBL, HG⟩ := hrel
    clear hc1 hf1 hb1 hl1
    generalize w1.heap.size + 1 = G at *
    by_cases hlt : j < 7
    · have hszg : G < wr.heap.size := (Array.getElem?_eq_some_iff.1 HG.out).1
      obtain ⟨a, b, c, d, ha, hb, hc, hd, hq0, hq1, hq2, hq3⟩ := law_at o x y z p u v ho hx hy hz hp' hu' hv' j hlt
      have g0 := (cell_of_row wr _ _ _ _ _ HG.out).trans hq0
      have g1 := (cell_of_row wr _ _ _ _ _ HG.out).trans hq1
      have g2 := (cell_of_row wr _ _ _ _ _ HG.out).trans hq2
      have g3 := (cell_of_row wr _ _ _ _ _ HG.out).trans hq3
      clear hq0 hq1 hq2 hq3 ho hx hy hz hp' hu' hv' hk e1 e2 e3 e4
      generalize insCells (lawL o x y z p u v) = C at *
      go_upto_region 8 with fail
      have HB0 := Lib.hid (lb_alloc HBL.out (.cells #[.int .u8 a, .int .u8 b, .int .u8 c, .int .u8 d] 38))
      have HG0 := Lib.hid (heap_keep_al HG.out (.cells #[.int .u8 a, .int .u8 b, .int .u8 c, .int .u8 d] 38))
      have hz0 : (wr.alloc (.cells #[.int .u8 a, .int .u8 b, .int .u8 c, .int .u8 d] 38)).cell? ⟨wr.heap.size, 0, none⟩ = some (.int .u8 a) ∧ (wr.alloc (.cells #[.int .u8 a, .int .u8 b, .int .u8 c, .int .u8 d] 38)).cell? ⟨wr.heap.size, 1, none⟩ = some (.int .u8 b) ∧ (wr.alloc (.cells #[.int .u8 a, .int .u8 b, .int .u8 c, .int .u8 d] 38)).cell? ⟨wr.heap.size, 2, none⟩ = some (.int .u8 c) ∧ (wr.alloc (.cells #[.int .u8 a, .int .u8 b, .int .u8 c, .int .u8 d] 38)).cell? ⟨wr.heap.size, 3, none⟩ = some (.int .u8 d) := by
        refine ⟨?_, ?_, ?_, ?_⟩
        all_goals rw [cell_of_row _ _ _ _ _ _ (heap_alloc_new _ _)]; rfl
      have hzs : wr.heap.size < (wr.alloc (.cells #[.int .u8 a, .int .u8 b, .int .u8 c, .int .u8 d] 38)).heap.size := by simp
      generalize (wr.alloc (.cells #[.int .u8 a, .int .u8 b, .int .u8 c, .int .u8 d] 38)) = w2 at *
      obtain ⟨hz0, hz1, hz2, hz3⟩ := hz0
      generalize wr.heap.size = b0 at *
      clear HBL HG hszg g0 g1 g2 g3
      by_cases hck : checkI a b c d = 0
      · have HT : Hid (lineT a b c d = textI a b c d) := by show _ = _; unfold lineT; rw [if_pos hck]
        have HLN : Hid (∀ W, Calls Tryd.prog 14 #[instrV a b c d] W fun e w' => e = .returned (.tuple #[.string ⟨(textI a b c d).toArray⟩, .bool true]) ∧ Below W.heap.size W w') := fun W => by
          have := line_any a b c d hb hc hd W
          unfold LineEnd at this
          rw [HT.out, hck] at this
          exact this
        have HRC : Hid (∀ W, Calls Tryd.prog 15 #[instrV a b c d] W fun e w' => e = .returned (.int .i64 0) ∧ Below W.heap.size W w') := fun W => by
          have := rcheck_any a b c d ha W
          rw [hck] at this
          exact this
        have HRP : Hid (∀ W, Calls Tryd.prog 16 #[instrV a b c d] W fun e w' => e = .returned (.string ⟨(textI a b c d).toArray⟩) ∧ LBel W w') := fun W => rprint_any a b c d hb hc hd hck W
        have HAS : Hid (∀ W, LBel w W → Calls Tryd.prog 10 #[.string ⟨(textI a b c d).toArray⟩] W fun e w' => ∃ g cap : Nat, e = .returned (.tuple #[.agg #[.int .u8 0, .slice (some ⟨g, 0, none⟩) 4 cap], .int .i64 0, .int .i64 0]) ∧ g < w'.heap.size ∧ LBel W w' ∧ w'.cell? ⟨g, 0, none⟩ = some (.int .u8 a) ∧ w'.cell? ⟨g, 1, none⟩ = some (.int .u8 b) ∧ w'.cell? ⟨g, 2, none⟩ = some (.int .u8 c) ∧ w'.cell? ⟨g, 3, none⟩ = some (.int .u8 d)) := fun W hW => asm_one a b c d hb hc hd hck W (lib_below HL.out (w' := W) hW)
        have HTN : Hid ((textI a b c d).length ≤ 1000) := text_len a b c d hb hc hd hck
        generalize textI a b c d = T at *
        clear hck HL
        obtain ⟨ha0, ha1⟩ := ha
        obtain ⟨hb0, hb1⟩ := hb
        obtain ⟨hc0, hc1⟩ := hc
        obtain ⟨hd0, hd1⟩ := hd
        go_upto_region 10 with (first | (go_at_call 14; refine (HLN.out _).mono ?_; rintro e w3 ⟨rfl, hk3⟩; obtain ⟨hc3, hf3⟩ := bcell hk3; have hl3 : b0 < w3.heap.size := Nat.lt_of_lt_of_le hzs hk3.size) | (go_at_call 15; refine (HRC.out _).mono ?_; rintro e w4 ⟨rfl, hk4⟩; obtain ⟨hc4, hf4⟩ := bcell hk4; have hl4 : b0 < w4.heap.size := Nat.lt_of_lt_of_le hl3 hk4.size))
        go_upto_region 15 with (first | (go_at_call 16; refine (HRP.out _).mono ?_; rintro e w5 ⟨rfl, hk5'⟩; have hk5 : Below w4.heap.size w4 w5 := hk5'; obtain ⟨hc5, hf5⟩ := bcell hk5; have hl5 : b0 < w5.heap.size := Nat.lt_of_lt_of_le hl4 hk5.size) | (go_at_call 10; refine (HAS.out _ (lb_step (lb_step (lb_step HB0.out hk3) hk4) hk5)).mono ?_; rintro e w6 ⟨g, cap, rfl, hgs, hk6', hv0, hv1, hv2, hv3⟩; have hk6 : Below w5.heap.size w5 w6 := hk6'; obtain ⟨hc6, hf6⟩ := bcell hk6; have hl6 : b0 < w6.heap.size := Nat.lt_of_lt_of_le hl5 hk6.size) | (go_at_call 17; refine (pack_any a b c d _).mono ?_; rintro e w7 ⟨rfl, hk7⟩; obtain ⟨hc7, hf7⟩ := bcell hk7; have hl7 : w6.heap.size + 1 ≤ w7.heap.size := (by have := hk7.size; simp only [World.size_alloc] at this; exact this)))
        obtain ⟨S, hS⟩ : ∃ S, S = strOfNums [a, b, c, d] := ⟨_, rfl⟩
        have HB8 := Lib.hid (lb_alloc (lb_step (lb_alloc (lb_step (lb_step (lb_step (lb_step HB0.out hk3) hk4) hk5) hk6) (.cells #[.int .u8 0, .slice (some ⟨g, 0, none⟩) 4 cap] 27)) hk7) (.cells #[.int .u8 a, .int .u8 b, .int .u8 c, .int .u8 d] 40))
        have HG8 := Lib.hid (heap_keep_al (heap_keep (heap_keep_al (heap_keep (heap_keep (heap_keep (heap_keep HG0.out hk3) hk4) hk5) hk6) (.cells #[.int .u8 0, .slice (some ⟨g, 0, none⟩) 4 cap] 27)) hk7) (.cells #[.int .u8 a, .int .u8 b, .int .u8 c, .int .u8 d] 40))
        have hp8 := cell_of_row _ _ 1 _ _ _ (heap_keep_al (heap_keep (heap_alloc_new w6 (.cells #[.int .u8 0, .slice (some ⟨g, 0, none⟩) 4 cap] 27)) hk7) (.cells #[.int .u8 a, .int .u8 b, .int .u8 c, .int .u8 d] 40))
        have hg7 : g < w7.heap.size := by omega
        have hcv1 : ∀ n, (convert 22 9 (.slice (some ⟨g, 0, none⟩) 4 cap)).run Tryd.prog ((w7.alloc (.cells #[.int .u8 a, .int .u8 b, .int .u8 c, .int .u8 d] 40)).drewN n) = .ok (.string S) ((w7.alloc (.cells #[.int .u8 a, .int .u8 b, .int .u8 c, .int .u8 d] 40)).drewN n) := fun n => by
          rw [hS]
          have hcell : ∀ i, ((w7.alloc (.cells #[.int .u8 a, .int .u8 b, .int .u8 c, .int .u8 d] 40)).drewN n).cell? ⟨g, i, none⟩ = w6.cell? ⟨g, i, none⟩ := fun i => by
            have h1 := (bcell (below_one w7 (.cells #[.int .u8 a, .int .u8 b, .int .u8 c, .int .u8 d] 40))).1 g i hg7
            have h2 := hc7 g i (by simp; omega)
            have h3 := (bcell (below_one w6 (.cells #[.int .u8 0, .slice (some ⟨g, 0, none⟩) 4 cap] 27))).1 g i hgs
            exact (h1.trans h2).trans h3
          exact conv_cells ((hcell 0).trans hv0) ((hcell 1).trans hv1) ((hcell 2).trans hv2) ((hcell 3).trans hv3) cap
        have hcv2 : ∀ n, (convert 22 9 (.slice (some ⟨w7.heap.size, 0, none⟩) 4 4)).run Tryd.prog ((w7.alloc (.cells #[.int .u8 a, .int .u8 b, .int .u8 c, .int .u8 d] 40)).drewN n) = .ok (.string S) ((w7.alloc (.cells #[.int .u8 a, .int .u8 b, .int .u8 c, .int .u8 d] 40)).drewN n) := fun n => by
          rw [hS]
          have hcell : ∀ i, ((w7.alloc (.cells #[.int .u8 a, .int .u8 b, .int .u8 c, .int .u8 d] 40)).drewN n).cell? ⟨w7.heap.size, i, none⟩ = (#[.int .u8 a, .int .u8 b, .int .u8 c, .int .u8 d] : Array Value)[i]? := fun i => cell_of_row (w7.alloc (.cells #[.int .u8 a, .int .u8 b, .int .u8 c, .int .u8 d] 40)) _ _ _ _ _ (heap_alloc_new _ _)
          exact conv_cells (hcell 0) (hcell 1) (hcell 2) (hcell 3) 4
        have hcv1' := hcv1 0
        have hcv2' := hcv2 0
        clear hS hk3 hk4 hk5 hk6 hk7 hc3 hc4 hc5 hc6 hc7 hf3 hf4 hf5 hf6 hf7 hv0 hv1 hv2 hv3 HLN HRC HRP HAS
        generalize w7.alloc (.cells #[.int .u8 a, .int .u8 b, .int .u8 c, .int .u8 d] 40) = w8 at *
        have hcv1'' : (convert 22 9 (.slice (some ⟨g, 0, none⟩) 4 cap)).run Tryd.prog w8 = .ok (.string S) w8 := hcv1'
        have hcv2'' : (convert 22 9 (.slice (some ⟨w7.heap.size, 0, none⟩) 4 4)).run Tryd.prog w8 = .ok (.string S) w8 := hcv2'
        clear hcv1' hcv2'
        go_quiet (fail)
        go_wp2
        go_roundw
        case rel => exact ⟨j + 1, by omega, by go_num, Lib.hid (lb_drw HB8.out _), Lib.hid HG8.out⟩
        case measure => simp [intOf]; omega
      · have HT : Hid (lineT a b c d = []) := by show _ = _; unfold lineT; rw [if_neg hck]
        have HLN : Hid (∀ W, Calls Tryd.prog 14 #[instrV a b c d] W fun e w' => e = .returned (.tuple #[.string ⟨#[]⟩, .bool false]) ∧ Below W.heap.size W w') := fun W => by
          have := line_any a b c d hb hc hd W
          unfold LineEnd at this
          rw [HT.out, decide_eq_false hck] at this
          exact this
        obtain ⟨q, hq⟩ : ∃ q, q = checkI a b c d := ⟨_, rfl⟩
        have HRC : Hid (∀ W, Calls Tryd.prog 15 #[instrV a b c d] W fun e w' => e = .returned (.int .i64 q) ∧ Below W.heap.size W w') := fun W => by
          rw [hq]; exact rcheck_any a b c d ha W
        have hq1 : (q == 0) = false := by rw [beq_eq_false_iff_ne, hq]; exact hck
        have hq2 : ¬ q = 0 := by rw [hq]; exact hck
        have hq3 : decide (q = 0) = false := decide_eq_false hq2
        clear hck HL hq
        go_wp2_with (first | (go_at_call 14; refine (HLN.out _).mono ?_; rintro e w3 ⟨rfl, hk3⟩; obtain ⟨hc3, hf3⟩ := bcell hk3; have hl3 : b0 < w3.heap.size := Nat.lt_of_lt_of_le hzs hk3.size) | (go_at_call 15; refine (HRC.out _).mono ?_; rintro e w4 ⟨rfl, hk4⟩; obtain ⟨hc4, hf4⟩ := bcell hk4; have hl4 : b0 < w4.heap.size := Nat.lt_of_lt_of_le hl3 hk4.size))
        go_roundw
        case rel => exact ⟨j + 1, by omega, by go_num, Lib.hid (lb_step (lb_step HB0.out hk3) hk4), Lib.hid (heap_keep (heap_keep HG0.out hk3) hk4)⟩
        case measure => simp [intOf]; omega
    · obtain rfl : j = 7 := by omega
      go_wp2
      go_ret
      exact ⟨rfl, HBL.out⟩
end Go.Proofs.YtlaohefgofmfdaaDoor
