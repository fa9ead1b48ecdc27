/- The walks of an instruction: its registers. Written by gen_asm6.py. -/
import Derived.Test.YtlaohefgofmfdaaDoorAsm2
import Derived.Test.YtlaohefgofmfdaaDoorMaps
namespace Go.Proofs.YtlaohefgofmfdaaDoor
open Go Go.RowKit
set_option maxRecDepth 100000
abbrev mE (k v : Int) (b : Nat) : MapEntry := { key := .int .u8 k, val := .int .i64 v, born := b }
theorem ins_any (es : Array MapEntry) (cl : Nat) (k v : Int) (hf : Instr.findNow (.int .u8) (.int .u8 k) es.toList 0 = some none) (w : World) (n : Nat) (hn : n = w.heap.size) :
    (Instr.mapUpdate 118 (.map (some n)) (.int .u8 k) (.int .i64 v)).run Tryd.prog (w.alloc (.map es cl)) = .ok () (w.alloc (.map (es.push (mE k v cl)) (cl + 1))) :=
  run_insert_last (intWay .u8) (K := 84) (E := 3) Tryd.underlying118 Tryd.underlying84 es cl k (.int .i64 v) hf n hn
abbrev mES : Array MapEntry := #[mE 1 1 0, mE 2 2 1, mE 3 3 2, mE 4 2 3, mE 5 1 4, mE 7 2 5]
theorem ins0 (w : World) (n : Nat) (hn : n = w.heap.size) : (Instr.mapUpdate 118 (.map (some n)) (.int .u8 1) (.int .i64 1)).run Tryd.prog (w.alloc (.map #[] 0)) = .ok () (w.alloc (.map #[mE 1 1 0] 1)) := ins_any #[] 0 1 1 rfl w n hn
theorem ins1 (w : World) (n : Nat) (hn : n = w.heap.size) : (Instr.mapUpdate 118 (.map (some n)) (.int .u8 2) (.int .i64 2)).run Tryd.prog (w.alloc (.map #[mE 1 1 0] 1)) = .ok () (w.alloc (.map #[mE 1 1 0, mE 2 2 1] 2)) := ins_any _ 1 2 2 rfl w n hn
theorem ins2 (w : World) (n : Nat) (hn : n = w.heap.size) : (Instr.mapUpdate 118 (.map (some n)) (.int .u8 3) (.int .i64 3)).run Tryd.prog (w.alloc (.map #[mE 1 1 0, mE 2 2 1] 2)) = .ok () (w.alloc (.map #[mE 1 1 0, mE 2 2 1, mE 3 3 2] 3)) := ins_any _ 2 3 3 rfl w n hn
theorem ins3 (w : World) (n : Nat) (hn : n = w.heap.size) : (Instr.mapUpdate 118 (.map (some n)) (.int .u8 4) (.int .i64 2)).run Tryd.prog (w.alloc (.map #[mE 1 1 0, mE 2 2 1, mE 3 3 2] 3)) = .ok () (w.alloc (.map #[mE 1 1 0, mE 2 2 1, mE 3 3 2, mE 4 2 3] 4)) := ins_any _ 3 4 2 rfl w n hn
theorem ins4 (w : World) (n : Nat) (hn : n = w.heap.size) : (Instr.mapUpdate 118 (.map (some n)) (.int .u8 5) (.int .i64 1)).run Tryd.prog (w.alloc (.map #[mE 1 1 0, mE 2 2 1, mE 3 3 2, mE 4 2 3] 4)) = .ok () (w.alloc (.map #[mE 1 1 0, mE 2 2 1, mE 3 3 2, mE 4 2 3, mE 5 1 4] 5)) := ins_any _ 4 5 1 rfl w n hn
theorem ins5 (w : World) (n : Nat) (hn : n = w.heap.size) : (Instr.mapUpdate 118 (.map (some n)) (.int .u8 7) (.int .i64 2)).run Tryd.prog (w.alloc (.map #[mE 1 1 0, mE 2 2 1, mE 3 3 2, mE 4 2 3, mE 5 1 4] 5)) = .ok () (w.alloc (.map mES 6)) := ins_any _ 5 7 2 rfl w n hn
def manyI (f : Int) : Int := if f = 1 then 1 else if f = 2 then 2 else if f = 3 then 3 else if f = 4 then 2 else if f = 5 then 1 else if f = 7 then 2 else 0
theorem look_any (f : Int) (w : World) (n : Nat) (hn : n = w.heap.size) : (Instr.lookup 118 (.map (some n)) (.int .u8 f) false).run Tryd.prog (w.alloc (.map mES 6)) = .ok (.int .i64 (manyI f)) (w.alloc (.map mES 6)) := by
  subst hn
  obtain ⟨i, hi, hz⟩ := info3
  have hm : MapAt (intWay .u8) (w.alloc (.map mES 6)) w.heap.size [(1, .int .i64 1), (2, .int .i64 2), (3, .int .i64 3), (4, .int .i64 2), (5, .int .i64 1), (7, .int .i64 2)] := ⟨_, _, heap_alloc_new _ _, rfl⟩
  have h := run_lookup_way (intWay .u8) (P := Tryd.prog) (T := 118) (K := 84) (E := 3) Tryd.underlying118 Tryd.underlying84 hi hz hm f false
  rw [show (intWay .u8).kV f = .int .u8 f from rfl] at h
  rw [h]
  simp only [Bool.false_eq_true, if_false, lookL, manyI]
  congr 1
  repeat' split
  all_goals first | rfl | omega
def FE (o : Int) (bs : List Int) (er : Int) (w : World) (e : Ending) (w' : World) : Prop := ∃ x y z, e = .returned (.tuple #[instrV o x y z, .int .i64 er]) ∧ (er = 0 → bs = [o, x, y, z]) ∧ Below w.heap.size w w'

theorem third {w w1 : World} {z : Obj} {b off : Nat} {v : Value} (hb : Below (w.alloc z).heap.size (w.alloc z) w1) (h : w.cell? ⟨b, off, none⟩ = some v) : ∀ o1 o2 o3 : Obj, (((w1.alloc o1).alloc o2).alloc o3).cell? ⟨b, off, none⟩ = some v := by
  intro o1 o2 o3
  have hl : b < w.heap.size := block_lt_of_cell h
  have hs := hb.size
  simp only [World.size_alloc] at hs
  rw [World.cell?_alloc_lt _ _ _ (by simp; omega), World.cell?_alloc_lt _ _ _ (by simp; omega), World.cell?_alloc_lt _ _ _ (by simp; omega), hb.cell (p := ⟨b, off, none⟩) (by simp; omega), World.cell?_alloc_lt _ _ _ hl]
  exact h
theorem below_end {w w1 : World} (h : Below w.heap.size w w1) (o1 o2 o3 : Obj) (u0 u1 u2 u3 : Value) :
    Below w.heap.size w ((((((((w1.alloc o1).alloc o2).alloc o3).setCell ⟨w.heap.size, 0, none⟩ u0).setCell ⟨w.heap.size, 1, none⟩ u1).setCell ⟨w.heap.size, 2, none⟩ u2).setCell ⟨w.heap.size, 3, none⟩ u3)) :=
  (((((((h.alloc h.size _).alloc (by have := h.size; simp; omega) _).alloc (by have := h.size; simp; omega) _).setCell (Nat.le_refl _) _).setCell (Nat.le_refl _) _).setCell (Nat.le_refl _) _).setCell (Nat.le_refl _) _)
theorem zeros {w w1 : World} (hb : Below (w.alloc (.cells #[.int .u8 0, .int .u8 0, .int .u8 0, .int .u8 0] 38)).heap.size (w.alloc (.cells #[.int .u8 0, .int .u8 0, .int .u8 0, .int .u8 0] 38)) w1) :
    (∀ i, i < 4 → (∀ o1 : Obj, (w1.alloc o1).cell? ⟨w.heap.size, i, none⟩ = some (.int .u8 0)) ∧ ∀ o1 o2 o3 : Obj, (((w1.alloc o1).alloc o2).alloc o3).cell? ⟨w.heap.size, i, none⟩ = some (.int .u8 0)) ∧
    (∀ i, (∀ o1 : Obj, (w1.alloc o1).frozen? ⟨w.heap.size, i, none⟩ = false) ∧ ∀ o1 o2 o3 : Obj, (((w1.alloc o1).alloc o2).alloc o3).frozen? ⟨w.heap.size, i, none⟩ = false) := by
  have hs := hb.size
  simp only [World.size_alloc] at hs
  constructor
  · intro i hi
    have h1 : w1.cell? ⟨w.heap.size, i, none⟩ = some (.int .u8 0) := by
      rw [hb.cell (p := ⟨w.heap.size, i, none⟩) (by simp), World.cell?_alloc_new]
      match i, hi with
      | 0, _ => rfl
      | 1, _ => rfl
      | 2, _ => rfl
      | 3, _ => rfl
    refine ⟨fun o1 => ?_, fun o1 o2 o3 => ?_⟩
    · rw [World.cell?_alloc_lt _ _ _ (by simp; omega)]; exact h1
    · rw [World.cell?_alloc_lt _ _ _ (by simp; omega), World.cell?_alloc_lt _ _ _ (by simp; omega), World.cell?_alloc_lt _ _ _ (by simp; omega)]; exact h1
  · intro i
    have h1 : w1.frozen? ⟨w.heap.size, i, none⟩ = false := by
      rw [hb.frozen (p := ⟨w.heap.size, i, none⟩) (by simp), World.frozen?_alloc_new]
    refine ⟨fun o1 => ?_, fun o1 o2 o3 => ?_⟩
    · rw [World.frozen?_alloc_old _ _ _ (by simp; omega)]; exact h1
    · rw [World.frozen?_alloc_old _ _ _ (by simp; omega), World.frozen?_alloc_old _ _ _ (by simp; omega), World.frozen?_alloc_old _ _ _ (by simp; omega)]; exact h1
set_option maxHeartbeats 2000000 in
theorem instr_1_regs0 (X m : Nat) (pl : Places) (kn : Nat) (h : Bs) (b o c : Nat) (w : World) (at_ : Int)
    (hn : Hid (∀ w, Calls Tryd.prog 55 #[bsV h] w fun e w' => e = .returned (.tuple #[.int .u8 kn, .bool true]) ∧ Below w.heap.size w w'))
    (hof : Hid (∀ w, Calls Tryd.prog 35 #[.int .u8 kn] w fun e w' => e = .returned (.tuple #[.int .u8 1, .bool true]) ∧ w = w'))
    (h0 : w.cell? ⟨b, o, none⟩ = some (bsV h)) (hc : 2 ≤ c)
    (s0 : Bs) (hs0 : w.cell? ⟨b, o + 1, none⟩ = some (bsV s0)) (r0 : Int) (hr0 : Hid (∀ w, Calls Tryd.prog 57 #[bsV s0] w fun e w' => e = .returned (.tuple #[.int .u8 r0, .bool false]) ∧ w = w')) :
    Calls Tryd.prog 23 #[.pointer (some ⟨X, 0, none⟩), .slice (some ⟨b, o, none⟩) 2 c, .int .i64 at_] w (FE kn [] 30 w) := by
  have hmm := @run_makeMap Tryd.prog
  have i0 := ins0; have i1 := ins1; have i2 := ins2; have i3 := ins3; have i4 := ins4; have i5 := ins5
  have lk := look_any 1
  rw [show manyI 1 = 1 from rfl] at lk
  have hbl : b < w.heap.size := block_lt_of_cell h0
  go_enter Tryd.func23, Tryd.ntmps23
  go_wp2_with (first | (go_at_call 55; refine (hn.out _).mono ?_; rintro e w1 ⟨rfl, hb⟩; obtain ⟨hce, hfr⟩ := bcell hb; have hsz := hb.size; simp only [World.size_alloc] at hsz; obtain ⟨hz4, hzf⟩ := zeros hb; have z0 := (hz4 0 (by omega)).2; have z1 := (hz4 1 (by omega)).2; have z2 := (hz4 2 (by omega)).2; have z3 := (hz4 3 (by omega)).2; have zf := fun i => (hzf i).2; clear hz4 hzf; have q0 := third hb hs0) | (go_at_call 35; refine (hof.out _).mono ?_; rintro e w' ⟨rfl, rfl⟩) | (go_at_call 56; refine (args_any _ _).mono ?_; rintro e w' ⟨rfl, rfl⟩; rw [show argsI 1 = 1 from rfl]) | (go_at_call 57; first | ((with_reducible refine (hr0.out _).mono ?_); rintro e w' ⟨rfl, rfl⟩)))
  all_goals refine wp_loop_rounds 1 ?_
  all_goals rw [rounds_succ]
  all_goals go_wp2_with (first | (go_at_call 55; refine (hn.out _).mono ?_; rintro e w1 ⟨rfl, hb⟩; obtain ⟨hce, hfr⟩ := bcell hb; have hsz := hb.size; simp only [World.size_alloc] at hsz; obtain ⟨hz4, hzf⟩ := zeros hb; have z0 := (hz4 0 (by omega)).2; have z1 := (hz4 1 (by omega)).2; have z2 := (hz4 2 (by omega)).2; have z3 := (hz4 3 (by omega)).2; have zf := fun i => (hzf i).2; clear hz4 hzf; have q0 := third hb hs0) | (go_at_call 35; refine (hof.out _).mono ?_; rintro e w' ⟨rfl, rfl⟩) | (go_at_call 56; refine (args_any _ _).mono ?_; rintro e w' ⟨rfl, rfl⟩; rw [show argsI 1 = 1 from rfl]) | (go_at_call 57; first | ((with_reducible refine (hr0.out _).mono ?_); rintro e w' ⟨rfl, rfl⟩)))
  all_goals
    have hbel : Below w.heap.size w w1 := below_box hb
    exact bodyPost_ret (v := .tuple #[instrV kn 0 0 0, .int .i64 30]) (by simp [results, Tryd.results23, go_sem, *]) rfl ⟨_, _, _, rfl, fun h => (by cases h), below_end hbel _ _ _ _ _ _ _⟩
set_option maxHeartbeats 2000000 in
theorem instr_2_regs0 (X m : Nat) (pl : Places) (kn : Nat) (h : Bs) (b o c : Nat) (w : World) (at_ : Int)
    (hn : Hid (∀ w, Calls Tryd.prog 55 #[bsV h] w fun e w' => e = .returned (.tuple #[.int .u8 kn, .bool true]) ∧ Below w.heap.size w w'))
    (hof : Hid (∀ w, Calls Tryd.prog 35 #[.int .u8 kn] w fun e w' => e = .returned (.tuple #[.int .u8 2, .bool true]) ∧ w = w'))
    (h0 : w.cell? ⟨b, o, none⟩ = some (bsV h)) (hc : 3 ≤ c)
    (s0 : Bs) (hs0 : w.cell? ⟨b, o + 1, none⟩ = some (bsV s0)) (r0 : Int) (hr0 : Hid (∀ w, Calls Tryd.prog 57 #[bsV s0] w fun e w' => e = .returned (.tuple #[.int .u8 r0, .bool false]) ∧ w = w')) :
    Calls Tryd.prog 23 #[.pointer (some ⟨X, 0, none⟩), .slice (some ⟨b, o, none⟩) 3 c, .int .i64 at_] w (FE kn [] 30 w) := by
  have hmm := @run_makeMap Tryd.prog
  have i0 := ins0; have i1 := ins1; have i2 := ins2; have i3 := ins3; have i4 := ins4; have i5 := ins5
  have lk := look_any 2
  rw [show manyI 2 = 2 from rfl] at lk
  have hbl : b < w.heap.size := block_lt_of_cell h0
  go_enter Tryd.func23, Tryd.ntmps23
  go_wp2_with (first | (go_at_call 55; refine (hn.out _).mono ?_; rintro e w1 ⟨rfl, hb⟩; obtain ⟨hce, hfr⟩ := bcell hb; have hsz := hb.size; simp only [World.size_alloc] at hsz; obtain ⟨hz4, hzf⟩ := zeros hb; have z0 := (hz4 0 (by omega)).2; have z1 := (hz4 1 (by omega)).2; have z2 := (hz4 2 (by omega)).2; have z3 := (hz4 3 (by omega)).2; have zf := fun i => (hzf i).2; clear hz4 hzf; have q0 := third hb hs0) | (go_at_call 35; refine (hof.out _).mono ?_; rintro e w' ⟨rfl, rfl⟩) | (go_at_call 56; refine (args_any _ _).mono ?_; rintro e w' ⟨rfl, rfl⟩; rw [show argsI 2 = 2 from rfl]) | (go_at_call 57; first | ((with_reducible refine (hr0.out _).mono ?_); rintro e w' ⟨rfl, rfl⟩)))
  all_goals refine wp_loop_rounds 1 ?_
  all_goals rw [rounds_succ]
  all_goals go_wp2_with (first | (go_at_call 55; refine (hn.out _).mono ?_; rintro e w1 ⟨rfl, hb⟩; obtain ⟨hce, hfr⟩ := bcell hb; have hsz := hb.size; simp only [World.size_alloc] at hsz; obtain ⟨hz4, hzf⟩ := zeros hb; have z0 := (hz4 0 (by omega)).2; have z1 := (hz4 1 (by omega)).2; have z2 := (hz4 2 (by omega)).2; have z3 := (hz4 3 (by omega)).2; have zf := fun i => (hzf i).2; clear hz4 hzf; have q0 := third hb hs0) | (go_at_call 35; refine (hof.out _).mono ?_; rintro e w' ⟨rfl, rfl⟩) | (go_at_call 56; refine (args_any _ _).mono ?_; rintro e w' ⟨rfl, rfl⟩; rw [show argsI 2 = 2 from rfl]) | (go_at_call 57; first | ((with_reducible refine (hr0.out _).mono ?_); rintro e w' ⟨rfl, rfl⟩)))
  all_goals
    have hbel : Below w.heap.size w w1 := below_box hb
    exact bodyPost_ret (v := .tuple #[instrV kn 0 0 0, .int .i64 30]) (by simp [results, Tryd.results23, go_sem, *]) rfl ⟨_, _, _, rfl, fun h => (by cases h), below_end hbel _ _ _ _ _ _ _⟩
set_option maxHeartbeats 2000000 in
theorem instr_2_regs1 (X m : Nat) (pl : Places) (kn : Nat) (h : Bs) (b o c : Nat) (w : World) (at_ : Int)
    (hn : Hid (∀ w, Calls Tryd.prog 55 #[bsV h] w fun e w' => e = .returned (.tuple #[.int .u8 kn, .bool true]) ∧ Below w.heap.size w w'))
    (hof : Hid (∀ w, Calls Tryd.prog 35 #[.int .u8 kn] w fun e w' => e = .returned (.tuple #[.int .u8 2, .bool true]) ∧ w = w'))
    (h0 : w.cell? ⟨b, o, none⟩ = some (bsV h)) (hc : 3 ≤ c)
    (s0 : Bs) (hs0 : w.cell? ⟨b, o + 1, none⟩ = some (bsV s0)) (r0 : Int) (hr0 : Hid (∀ w, Calls Tryd.prog 57 #[bsV s0] w fun e w' => e = .returned (.tuple #[.int .u8 r0, .bool true]) ∧ w = w'))
    (s1 : Bs) (hs1 : w.cell? ⟨b, o + 1 + 1, none⟩ = some (bsV s1)) (r1 : Int) (hr1 : Hid (∀ w, Calls Tryd.prog 57 #[bsV s1] w fun e w' => e = .returned (.tuple #[.int .u8 r1, .bool false]) ∧ w = w')) :
    Calls Tryd.prog 23 #[.pointer (some ⟨X, 0, none⟩), .slice (some ⟨b, o, none⟩) 3 c, .int .i64 at_] w (FE kn [] 30 w) := by
  have hmm := @run_makeMap Tryd.prog
  have i0 := ins0; have i1 := ins1; have i2 := ins2; have i3 := ins3; have i4 := ins4; have i5 := ins5
  have lk := look_any 2
  rw [show manyI 2 = 2 from rfl] at lk
  have hbl : b < w.heap.size := block_lt_of_cell h0
  go_enter Tryd.func23, Tryd.ntmps23
  go_wp2_with (first | (go_at_call 55; refine (hn.out _).mono ?_; rintro e w1 ⟨rfl, hb⟩; obtain ⟨hce, hfr⟩ := bcell hb; have hsz := hb.size; simp only [World.size_alloc] at hsz; obtain ⟨hz4, hzf⟩ := zeros hb; have z0 := (hz4 0 (by omega)).2; have z1 := (hz4 1 (by omega)).2; have z2 := (hz4 2 (by omega)).2; have z3 := (hz4 3 (by omega)).2; have zf := fun i => (hzf i).2; clear hz4 hzf; have q0 := third hb hs0; have q1 := third hb hs1) | (go_at_call 35; refine (hof.out _).mono ?_; rintro e w' ⟨rfl, rfl⟩) | (go_at_call 56; refine (args_any _ _).mono ?_; rintro e w' ⟨rfl, rfl⟩; rw [show argsI 2 = 2 from rfl]) | (go_at_call 57; first | ((with_reducible refine (hr0.out _).mono ?_); rintro e w' ⟨rfl, rfl⟩) | ((with_reducible refine (hr1.out _).mono ?_); rintro e w' ⟨rfl, rfl⟩)))
  all_goals refine wp_loop_rounds 2 ?_
  all_goals rw [rounds_succ]
  all_goals go_wp2_with (first | (go_at_call 55; refine (hn.out _).mono ?_; rintro e w1 ⟨rfl, hb⟩; obtain ⟨hce, hfr⟩ := bcell hb; have hsz := hb.size; simp only [World.size_alloc] at hsz; obtain ⟨hz4, hzf⟩ := zeros hb; have z0 := (hz4 0 (by omega)).2; have z1 := (hz4 1 (by omega)).2; have z2 := (hz4 2 (by omega)).2; have z3 := (hz4 3 (by omega)).2; have zf := fun i => (hzf i).2; clear hz4 hzf; have q0 := third hb hs0; have q1 := third hb hs1) | (go_at_call 35; refine (hof.out _).mono ?_; rintro e w' ⟨rfl, rfl⟩) | (go_at_call 56; refine (args_any _ _).mono ?_; rintro e w' ⟨rfl, rfl⟩; rw [show argsI 2 = 2 from rfl]) | (go_at_call 57; first | ((with_reducible refine (hr0.out _).mono ?_); rintro e w' ⟨rfl, rfl⟩) | ((with_reducible refine (hr1.out _).mono ?_); rintro e w' ⟨rfl, rfl⟩)))
  all_goals rw [rounds_succ]
  all_goals go_wp2_with (first | (go_at_call 55; refine (hn.out _).mono ?_; rintro e w1 ⟨rfl, hb⟩; obtain ⟨hce, hfr⟩ := bcell hb; have hsz := hb.size; simp only [World.size_alloc] at hsz; obtain ⟨hz4, hzf⟩ := zeros hb; have z0 := (hz4 0 (by omega)).2; have z1 := (hz4 1 (by omega)).2; have z2 := (hz4 2 (by omega)).2; have z3 := (hz4 3 (by omega)).2; have zf := fun i => (hzf i).2; clear hz4 hzf; have q0 := third hb hs0; have q1 := third hb hs1) | (go_at_call 35; refine (hof.out _).mono ?_; rintro e w' ⟨rfl, rfl⟩) | (go_at_call 56; refine (args_any _ _).mono ?_; rintro e w' ⟨rfl, rfl⟩; rw [show argsI 2 = 2 from rfl]) | (go_at_call 57; first | ((with_reducible refine (hr0.out _).mono ?_); rintro e w' ⟨rfl, rfl⟩) | ((with_reducible refine (hr1.out _).mono ?_); rintro e w' ⟨rfl, rfl⟩)))
  all_goals
    have hbel : Below w.heap.size w w1 := below_box hb
    exact bodyPost_ret (v := .tuple #[instrV kn r0 0 0, .int .i64 30]) (by simp [results, Tryd.results23, go_sem, *]) rfl ⟨_, _, _, rfl, fun h => (by cases h), below_end hbel _ _ _ _ _ _ _⟩
set_option maxHeartbeats 2000000 in
theorem instr_3_regs0 (X m : Nat) (pl : Places) (kn : Nat) (h : Bs) (b o c : Nat) (w : World) (at_ : Int)
    (hn : Hid (∀ w, Calls Tryd.prog 55 #[bsV h] w fun e w' => e = .returned (.tuple #[.int .u8 kn, .bool true]) ∧ Below w.heap.size w w'))
    (hof : Hid (∀ w, Calls Tryd.prog 35 #[.int .u8 kn] w fun e w' => e = .returned (.tuple #[.int .u8 3, .bool true]) ∧ w = w'))
    (h0 : w.cell? ⟨b, o, none⟩ = some (bsV h)) (hc : 4 ≤ c)
    (s0 : Bs) (hs0 : w.cell? ⟨b, o + 1, none⟩ = some (bsV s0)) (r0 : Int) (hr0 : Hid (∀ w, Calls Tryd.prog 57 #[bsV s0] w fun e w' => e = .returned (.tuple #[.int .u8 r0, .bool false]) ∧ w = w')) :
    Calls Tryd.prog 23 #[.pointer (some ⟨X, 0, none⟩), .slice (some ⟨b, o, none⟩) 4 c, .int .i64 at_] w (FE kn [] 30 w) := by
  have hmm := @run_makeMap Tryd.prog
  have i0 := ins0; have i1 := ins1; have i2 := ins2; have i3 := ins3; have i4 := ins4; have i5 := ins5
  have lk := look_any 3
  rw [show manyI 3 = 3 from rfl] at lk
  have hbl : b < w.heap.size := block_lt_of_cell h0
  go_enter Tryd.func23, Tryd.ntmps23
  go_wp2_with (first | (go_at_call 55; refine (hn.out _).mono ?_; rintro e w1 ⟨rfl, hb⟩; obtain ⟨hce, hfr⟩ := bcell hb; have hsz := hb.size; simp only [World.size_alloc] at hsz; obtain ⟨hz4, hzf⟩ := zeros hb; have z0 := (hz4 0 (by omega)).2; have z1 := (hz4 1 (by omega)).2; have z2 := (hz4 2 (by omega)).2; have z3 := (hz4 3 (by omega)).2; have zf := fun i => (hzf i).2; clear hz4 hzf; have q0 := third hb hs0) | (go_at_call 35; refine (hof.out _).mono ?_; rintro e w' ⟨rfl, rfl⟩) | (go_at_call 56; refine (args_any _ _).mono ?_; rintro e w' ⟨rfl, rfl⟩; rw [show argsI 3 = 3 from rfl]) | (go_at_call 57; first | ((with_reducible refine (hr0.out _).mono ?_); rintro e w' ⟨rfl, rfl⟩)))
  all_goals refine wp_loop_rounds 1 ?_
  all_goals rw [rounds_succ]
  all_goals go_wp2_with (first | (go_at_call 55; refine (hn.out _).mono ?_; rintro e w1 ⟨rfl, hb⟩; obtain ⟨hce, hfr⟩ := bcell hb; have hsz := hb.size; simp only [World.size_alloc] at hsz; obtain ⟨hz4, hzf⟩ := zeros hb; have z0 := (hz4 0 (by omega)).2; have z1 := (hz4 1 (by omega)).2; have z2 := (hz4 2 (by omega)).2; have z3 := (hz4 3 (by omega)).2; have zf := fun i => (hzf i).2; clear hz4 hzf; have q0 := third hb hs0) | (go_at_call 35; refine (hof.out _).mono ?_; rintro e w' ⟨rfl, rfl⟩) | (go_at_call 56; refine (args_any _ _).mono ?_; rintro e w' ⟨rfl, rfl⟩; rw [show argsI 3 = 3 from rfl]) | (go_at_call 57; first | ((with_reducible refine (hr0.out _).mono ?_); rintro e w' ⟨rfl, rfl⟩)))
  all_goals
    have hbel : Below w.heap.size w w1 := below_box hb
    exact bodyPost_ret (v := .tuple #[instrV kn 0 0 0, .int .i64 30]) (by simp [results, Tryd.results23, go_sem, *]) rfl ⟨_, _, _, rfl, fun h => (by cases h), below_end hbel _ _ _ _ _ _ _⟩
set_option maxHeartbeats 2000000 in
theorem instr_3_regs1 (X m : Nat) (pl : Places) (kn : Nat) (h : Bs) (b o c : Nat) (w : World) (at_ : Int)
    (hn : Hid (∀ w, Calls Tryd.prog 55 #[bsV h] w fun e w' => e = .returned (.tuple #[.int .u8 kn, .bool true]) ∧ Below w.heap.size w w'))
    (hof : Hid (∀ w, Calls Tryd.prog 35 #[.int .u8 kn] w fun e w' => e = .returned (.tuple #[.int .u8 3, .bool true]) ∧ w = w'))
    (h0 : w.cell? ⟨b, o, none⟩ = some (bsV h)) (hc : 4 ≤ c)
    (s0 : Bs) (hs0 : w.cell? ⟨b, o + 1, none⟩ = some (bsV s0)) (r0 : Int) (hr0 : Hid (∀ w, Calls Tryd.prog 57 #[bsV s0] w fun e w' => e = .returned (.tuple #[.int .u8 r0, .bool true]) ∧ w = w'))
    (s1 : Bs) (hs1 : w.cell? ⟨b, o + 1 + 1, none⟩ = some (bsV s1)) (r1 : Int) (hr1 : Hid (∀ w, Calls Tryd.prog 57 #[bsV s1] w fun e w' => e = .returned (.tuple #[.int .u8 r1, .bool false]) ∧ w = w')) :
    Calls Tryd.prog 23 #[.pointer (some ⟨X, 0, none⟩), .slice (some ⟨b, o, none⟩) 4 c, .int .i64 at_] w (FE kn [] 30 w) := by
  have hmm := @run_makeMap Tryd.prog
  have i0 := ins0; have i1 := ins1; have i2 := ins2; have i3 := ins3; have i4 := ins4; have i5 := ins5
  have lk := look_any 3
  rw [show manyI 3 = 3 from rfl] at lk
  have hbl : b < w.heap.size := block_lt_of_cell h0
  go_enter Tryd.func23, Tryd.ntmps23
  go_wp2_with (first | (go_at_call 55; refine (hn.out _).mono ?_; rintro e w1 ⟨rfl, hb⟩; obtain ⟨hce, hfr⟩ := bcell hb; have hsz := hb.size; simp only [World.size_alloc] at hsz; obtain ⟨hz4, hzf⟩ := zeros hb; have z0 := (hz4 0 (by omega)).2; have z1 := (hz4 1 (by omega)).2; have z2 := (hz4 2 (by omega)).2; have z3 := (hz4 3 (by omega)).2; have zf := fun i => (hzf i).2; clear hz4 hzf; have q0 := third hb hs0; have q1 := third hb hs1) | (go_at_call 35; refine (hof.out _).mono ?_; rintro e w' ⟨rfl, rfl⟩) | (go_at_call 56; refine (args_any _ _).mono ?_; rintro e w' ⟨rfl, rfl⟩; rw [show argsI 3 = 3 from rfl]) | (go_at_call 57; first | ((with_reducible refine (hr0.out _).mono ?_); rintro e w' ⟨rfl, rfl⟩) | ((with_reducible refine (hr1.out _).mono ?_); rintro e w' ⟨rfl, rfl⟩)))
  all_goals refine wp_loop_rounds 2 ?_
  all_goals rw [rounds_succ]
  all_goals go_wp2_with (first | (go_at_call 55; refine (hn.out _).mono ?_; rintro e w1 ⟨rfl, hb⟩; obtain ⟨hce, hfr⟩ := bcell hb; have hsz := hb.size; simp only [World.size_alloc] at hsz; obtain ⟨hz4, hzf⟩ := zeros hb; have z0 := (hz4 0 (by omega)).2; have z1 := (hz4 1 (by omega)).2; have z2 := (hz4 2 (by omega)).2; have z3 := (hz4 3 (by omega)).2; have zf := fun i => (hzf i).2; clear hz4 hzf; have q0 := third hb hs0; have q1 := third hb hs1) | (go_at_call 35; refine (hof.out _).mono ?_; rintro e w' ⟨rfl, rfl⟩) | (go_at_call 56; refine (args_any _ _).mono ?_; rintro e w' ⟨rfl, rfl⟩; rw [show argsI 3 = 3 from rfl]) | (go_at_call 57; first | ((with_reducible refine (hr0.out _).mono ?_); rintro e w' ⟨rfl, rfl⟩) | ((with_reducible refine (hr1.out _).mono ?_); rintro e w' ⟨rfl, rfl⟩)))
  all_goals rw [rounds_succ]
  all_goals go_wp2_with (first | (go_at_call 55; refine (hn.out _).mono ?_; rintro e w1 ⟨rfl, hb⟩; obtain ⟨hce, hfr⟩ := bcell hb; have hsz := hb.size; simp only [World.size_alloc] at hsz; obtain ⟨hz4, hzf⟩ := zeros hb; have z0 := (hz4 0 (by omega)).2; have z1 := (hz4 1 (by omega)).2; have z2 := (hz4 2 (by omega)).2; have z3 := (hz4 3 (by omega)).2; have zf := fun i => (hzf i).2; clear hz4 hzf; have q0 := third hb hs0; have q1 := third hb hs1) | (go_at_call 35; refine (hof.out _).mono ?_; rintro e w' ⟨rfl, rfl⟩) | (go_at_call 56; refine (args_any _ _).mono ?_; rintro e w' ⟨rfl, rfl⟩; rw [show argsI 3 = 3 from rfl]) | (go_at_call 57; first | ((with_reducible refine (hr0.out _).mono ?_); rintro e w' ⟨rfl, rfl⟩) | ((with_reducible refine (hr1.out _).mono ?_); rintro e w' ⟨rfl, rfl⟩)))
  all_goals
    have hbel : Below w.heap.size w w1 := below_box hb
    exact bodyPost_ret (v := .tuple #[instrV kn r0 0 0, .int .i64 30]) (by simp [results, Tryd.results23, go_sem, *]) rfl ⟨_, _, _, rfl, fun h => (by cases h), below_end hbel _ _ _ _ _ _ _⟩
set_option maxHeartbeats 2000000 in
theorem instr_3_regs2 (X m : Nat) (pl : Places) (kn : Nat) (h : Bs) (b o c : Nat) (w : World) (at_ : Int)
    (hn : Hid (∀ w, Calls Tryd.prog 55 #[bsV h] w fun e w' => e = .returned (.tuple #[.int .u8 kn, .bool true]) ∧ Below w.heap.size w w'))
    (hof : Hid (∀ w, Calls Tryd.prog 35 #[.int .u8 kn] w fun e w' => e = .returned (.tuple #[.int .u8 3, .bool true]) ∧ w = w'))
    (h0 : w.cell? ⟨b, o, none⟩ = some (bsV h)) (hc : 4 ≤ c)
    (s0 : Bs) (hs0 : w.cell? ⟨b, o + 1, none⟩ = some (bsV s0)) (r0 : Int) (hr0 : Hid (∀ w, Calls Tryd.prog 57 #[bsV s0] w fun e w' => e = .returned (.tuple #[.int .u8 r0, .bool true]) ∧ w = w'))
    (s1 : Bs) (hs1 : w.cell? ⟨b, o + 1 + 1, none⟩ = some (bsV s1)) (r1 : Int) (hr1 : Hid (∀ w, Calls Tryd.prog 57 #[bsV s1] w fun e w' => e = .returned (.tuple #[.int .u8 r1, .bool true]) ∧ w = w'))
    (s2 : Bs) (hs2 : w.cell? ⟨b, o + 1 + 2, none⟩ = some (bsV s2)) (r2 : Int) (hr2 : Hid (∀ w, Calls Tryd.prog 57 #[bsV s2] w fun e w' => e = .returned (.tuple #[.int .u8 r2, .bool false]) ∧ w = w')) :
    Calls Tryd.prog 23 #[.pointer (some ⟨X, 0, none⟩), .slice (some ⟨b, o, none⟩) 4 c, .int .i64 at_] w (FE kn [] 30 w) := by
  have hmm := @run_makeMap Tryd.prog
  have i0 := ins0; have i1 := ins1; have i2 := ins2; have i3 := ins3; have i4 := ins4; have i5 := ins5
  have lk := look_any 3
  rw [show manyI 3 = 3 from rfl] at lk
  have hbl : b < w.heap.size := block_lt_of_cell h0
  go_enter Tryd.func23, Tryd.ntmps23
  go_wp2_with (first | (go_at_call 55; refine (hn.out _).mono ?_; rintro e w1 ⟨rfl, hb⟩; obtain ⟨hce, hfr⟩ := bcell hb; have hsz := hb.size; simp only [World.size_alloc] at hsz; obtain ⟨hz4, hzf⟩ := zeros hb; have z0 := (hz4 0 (by omega)).2; have z1 := (hz4 1 (by omega)).2; have z2 := (hz4 2 (by omega)).2; have z3 := (hz4 3 (by omega)).2; have zf := fun i => (hzf i).2; clear hz4 hzf; have q0 := third hb hs0; have q1 := third hb hs1; have q2 := third hb hs2) | (go_at_call 35; refine (hof.out _).mono ?_; rintro e w' ⟨rfl, rfl⟩) | (go_at_call 56; refine (args_any _ _).mono ?_; rintro e w' ⟨rfl, rfl⟩; rw [show argsI 3 = 3 from rfl]) | (go_at_call 57; first | ((with_reducible refine (hr0.out _).mono ?_); rintro e w' ⟨rfl, rfl⟩) | ((with_reducible refine (hr1.out _).mono ?_); rintro e w' ⟨rfl, rfl⟩) | ((with_reducible refine (hr2.out _).mono ?_); rintro e w' ⟨rfl, rfl⟩)))
  all_goals refine wp_loop_rounds 3 ?_
  all_goals rw [rounds_succ]
  all_goals go_wp2_with (first | (go_at_call 55; refine (hn.out _).mono ?_; rintro e w1 ⟨rfl, hb⟩; obtain ⟨hce, hfr⟩ := bcell hb; have hsz := hb.size; simp only [World.size_alloc] at hsz; obtain ⟨hz4, hzf⟩ := zeros hb; have z0 := (hz4 0 (by omega)).2; have z1 := (hz4 1 (by omega)).2; have z2 := (hz4 2 (by omega)).2; have z3 := (hz4 3 (by omega)).2; have zf := fun i => (hzf i).2; clear hz4 hzf; have q0 := third hb hs0; have q1 := third hb hs1; have q2 := third hb hs2) | (go_at_call 35; refine (hof.out _).mono ?_; rintro e w' ⟨rfl, rfl⟩) | (go_at_call 56; refine (args_any _ _).mono ?_; rintro e w' ⟨rfl, rfl⟩; rw [show argsI 3 = 3 from rfl]) | (go_at_call 57; first | ((with_reducible refine (hr0.out _).mono ?_); rintro e w' ⟨rfl, rfl⟩) | ((with_reducible refine (hr1.out _).mono ?_); rintro e w' ⟨rfl, rfl⟩) | ((with_reducible refine (hr2.out _).mono ?_); rintro e w' ⟨rfl, rfl⟩)))
  all_goals rw [rounds_succ]
  all_goals go_wp2_with (first | (go_at_call 55; refine (hn.out _).mono ?_; rintro e w1 ⟨rfl, hb⟩; obtain ⟨hce, hfr⟩ := bcell hb; have hsz := hb.size; simp only [World.size_alloc] at hsz; obtain ⟨hz4, hzf⟩ := zeros hb; have z0 := (hz4 0 (by omega)).2; have z1 := (hz4 1 (by omega)).2; have z2 := (hz4 2 (by omega)).2; have z3 := (hz4 3 (by omega)).2; have zf := fun i => (hzf i).2; clear hz4 hzf; have q0 := third hb hs0; have q1 := third hb hs1; have q2 := third hb hs2) | (go_at_call 35; refine (hof.out _).mono ?_; rintro e w' ⟨rfl, rfl⟩) | (go_at_call 56; refine (args_any _ _).mono ?_; rintro e w' ⟨rfl, rfl⟩; rw [show argsI 3 = 3 from rfl]) | (go_at_call 57; first | ((with_reducible refine (hr0.out _).mono ?_); rintro e w' ⟨rfl, rfl⟩) | ((with_reducible refine (hr1.out _).mono ?_); rintro e w' ⟨rfl, rfl⟩) | ((with_reducible refine (hr2.out _).mono ?_); rintro e w' ⟨rfl, rfl⟩)))
  all_goals rw [rounds_succ]
  all_goals go_wp2_with (first | (go_at_call 55; refine (hn.out _).mono ?_; rintro e w1 ⟨rfl, hb⟩; obtain ⟨hce, hfr⟩ := bcell hb; have hsz := hb.size; simp only [World.size_alloc] at hsz; obtain ⟨hz4, hzf⟩ := zeros hb; have z0 := (hz4 0 (by omega)).2; have z1 := (hz4 1 (by omega)).2; have z2 := (hz4 2 (by omega)).2; have z3 := (hz4 3 (by omega)).2; have zf := fun i => (hzf i).2; clear hz4 hzf; have q0 := third hb hs0; have q1 := third hb hs1; have q2 := third hb hs2) | (go_at_call 35; refine (hof.out _).mono ?_; rintro e w' ⟨rfl, rfl⟩) | (go_at_call 56; refine (args_any _ _).mono ?_; rintro e w' ⟨rfl, rfl⟩; rw [show argsI 3 = 3 from rfl]) | (go_at_call 57; first | ((with_reducible refine (hr0.out _).mono ?_); rintro e w' ⟨rfl, rfl⟩) | ((with_reducible refine (hr1.out _).mono ?_); rintro e w' ⟨rfl, rfl⟩) | ((with_reducible refine (hr2.out _).mono ?_); rintro e w' ⟨rfl, rfl⟩)))
  all_goals
    have hbel : Below w.heap.size w w1 := below_box hb
    exact bodyPost_ret (v := .tuple #[instrV kn r0 r1 0, .int .i64 30]) (by simp [results, Tryd.results23, go_sem, *]) rfl ⟨_, _, _, rfl, fun h => (by cases h), below_end hbel _ _ _ _ _ _ _⟩
set_option maxHeartbeats 2000000 in
theorem instr_4_regs0 (X m : Nat) (pl : Places) (kn : Nat) (h : Bs) (b o c : Nat) (w : World) (at_ : Int)
    (hn : Hid (∀ w, Calls Tryd.prog 55 #[bsV h] w fun e w' => e = .returned (.tuple #[.int .u8 kn, .bool true]) ∧ Below w.heap.size w w'))
    (hof : Hid (∀ w, Calls Tryd.prog 35 #[.int .u8 kn] w fun e w' => e = .returned (.tuple #[.int .u8 4, .bool true]) ∧ w = w'))
    (h0 : w.cell? ⟨b, o, none⟩ = some (bsV h)) (hc : 4 ≤ c)
    (s0 : Bs) (hs0 : w.cell? ⟨b, o + 1, none⟩ = some (bsV s0)) (r0 : Int) (hr0 : Hid (∀ w, Calls Tryd.prog 57 #[bsV s0] w fun e w' => e = .returned (.tuple #[.int .u8 r0, .bool false]) ∧ w = w')) :
    Calls Tryd.prog 23 #[.pointer (some ⟨X, 0, none⟩), .slice (some ⟨b, o, none⟩) 4 c, .int .i64 at_] w (FE kn [] 30 w) := by
  have hmm := @run_makeMap Tryd.prog
  have i0 := ins0; have i1 := ins1; have i2 := ins2; have i3 := ins3; have i4 := ins4; have i5 := ins5
  have lk := look_any 4
  rw [show manyI 4 = 2 from rfl] at lk
  have hbl : b < w.heap.size := block_lt_of_cell h0
  go_enter Tryd.func23, Tryd.ntmps23
  go_wp2_with (first | (go_at_call 55; refine (hn.out _).mono ?_; rintro e w1 ⟨rfl, hb⟩; obtain ⟨hce, hfr⟩ := bcell hb; have hsz := hb.size; simp only [World.size_alloc] at hsz; obtain ⟨hz4, hzf⟩ := zeros hb; have z0 := (hz4 0 (by omega)).2; have z1 := (hz4 1 (by omega)).2; have z2 := (hz4 2 (by omega)).2; have z3 := (hz4 3 (by omega)).2; have zf := fun i => (hzf i).2; clear hz4 hzf; have q0 := third hb hs0) | (go_at_call 35; refine (hof.out _).mono ?_; rintro e w' ⟨rfl, rfl⟩) | (go_at_call 56; refine (args_any _ _).mono ?_; rintro e w' ⟨rfl, rfl⟩; rw [show argsI 4 = 3 from rfl]) | (go_at_call 57; first | ((with_reducible refine (hr0.out _).mono ?_); rintro e w' ⟨rfl, rfl⟩)))
  all_goals refine wp_loop_rounds 1 ?_
  all_goals rw [rounds_succ]
  all_goals go_wp2_with (first | (go_at_call 55; refine (hn.out _).mono ?_; rintro e w1 ⟨rfl, hb⟩; obtain ⟨hce, hfr⟩ := bcell hb; have hsz := hb.size; simp only [World.size_alloc] at hsz; obtain ⟨hz4, hzf⟩ := zeros hb; have z0 := (hz4 0 (by omega)).2; have z1 := (hz4 1 (by omega)).2; have z2 := (hz4 2 (by omega)).2; have z3 := (hz4 3 (by omega)).2; have zf := fun i => (hzf i).2; clear hz4 hzf; have q0 := third hb hs0) | (go_at_call 35; refine (hof.out _).mono ?_; rintro e w' ⟨rfl, rfl⟩) | (go_at_call 56; refine (args_any _ _).mono ?_; rintro e w' ⟨rfl, rfl⟩; rw [show argsI 4 = 3 from rfl]) | (go_at_call 57; first | ((with_reducible refine (hr0.out _).mono ?_); rintro e w' ⟨rfl, rfl⟩)))
  all_goals
    have hbel : Below w.heap.size w w1 := below_box hb
    exact bodyPost_ret (v := .tuple #[instrV kn 0 0 0, .int .i64 30]) (by simp [results, Tryd.results23, go_sem, *]) rfl ⟨_, _, _, rfl, fun h => (by cases h), below_end hbel _ _ _ _ _ _ _⟩
set_option maxHeartbeats 2000000 in
theorem instr_4_regs1 (X m : Nat) (pl : Places) (kn : Nat) (h : Bs) (b o c : Nat) (w : World) (at_ : Int)
    (hn : Hid (∀ w, Calls Tryd.prog 55 #[bsV h] w fun e w' => e = .returned (.tuple #[.int .u8 kn, .bool true]) ∧ Below w.heap.size w w'))
    (hof : Hid (∀ w, Calls Tryd.prog 35 #[.int .u8 kn] w fun e w' => e = .returned (.tuple #[.int .u8 4, .bool true]) ∧ w = w'))
    (h0 : w.cell? ⟨b, o, none⟩ = some (bsV h)) (hc : 4 ≤ c)
    (s0 : Bs) (hs0 : w.cell? ⟨b, o + 1, none⟩ = some (bsV s0)) (r0 : Int) (hr0 : Hid (∀ w, Calls Tryd.prog 57 #[bsV s0] w fun e w' => e = .returned (.tuple #[.int .u8 r0, .bool true]) ∧ w = w'))
    (s1 : Bs) (hs1 : w.cell? ⟨b, o + 1 + 1, none⟩ = some (bsV s1)) (r1 : Int) (hr1 : Hid (∀ w, Calls Tryd.prog 57 #[bsV s1] w fun e w' => e = .returned (.tuple #[.int .u8 r1, .bool false]) ∧ w = w')) :
    Calls Tryd.prog 23 #[.pointer (some ⟨X, 0, none⟩), .slice (some ⟨b, o, none⟩) 4 c, .int .i64 at_] w (FE kn [] 30 w) := by
  have hmm := @run_makeMap Tryd.prog
  have i0 := ins0; have i1 := ins1; have i2 := ins2; have i3 := ins3; have i4 := ins4; have i5 := ins5
  have lk := look_any 4
  rw [show manyI 4 = 2 from rfl] at lk
  have hbl : b < w.heap.size := block_lt_of_cell h0
  go_enter Tryd.func23, Tryd.ntmps23
  go_wp2_with (first | (go_at_call 55; refine (hn.out _).mono ?_; rintro e w1 ⟨rfl, hb⟩; obtain ⟨hce, hfr⟩ := bcell hb; have hsz := hb.size; simp only [World.size_alloc] at hsz; obtain ⟨hz4, hzf⟩ := zeros hb; have z0 := (hz4 0 (by omega)).2; have z1 := (hz4 1 (by omega)).2; have z2 := (hz4 2 (by omega)).2; have z3 := (hz4 3 (by omega)).2; have zf := fun i => (hzf i).2; clear hz4 hzf; have q0 := third hb hs0; have q1 := third hb hs1) | (go_at_call 35; refine (hof.out _).mono ?_; rintro e w' ⟨rfl, rfl⟩) | (go_at_call 56; refine (args_any _ _).mono ?_; rintro e w' ⟨rfl, rfl⟩; rw [show argsI 4 = 3 from rfl]) | (go_at_call 57; first | ((with_reducible refine (hr0.out _).mono ?_); rintro e w' ⟨rfl, rfl⟩) | ((with_reducible refine (hr1.out _).mono ?_); rintro e w' ⟨rfl, rfl⟩)))
  all_goals refine wp_loop_rounds 2 ?_
  all_goals rw [rounds_succ]
  all_goals go_wp2_with (first | (go_at_call 55; refine (hn.out _).mono ?_; rintro e w1 ⟨rfl, hb⟩; obtain ⟨hce, hfr⟩ := bcell hb; have hsz := hb.size; simp only [World.size_alloc] at hsz; obtain ⟨hz4, hzf⟩ := zeros hb; have z0 := (hz4 0 (by omega)).2; have z1 := (hz4 1 (by omega)).2; have z2 := (hz4 2 (by omega)).2; have z3 := (hz4 3 (by omega)).2; have zf := fun i => (hzf i).2; clear hz4 hzf; have q0 := third hb hs0; have q1 := third hb hs1) | (go_at_call 35; refine (hof.out _).mono ?_; rintro e w' ⟨rfl, rfl⟩) | (go_at_call 56; refine (args_any _ _).mono ?_; rintro e w' ⟨rfl, rfl⟩; rw [show argsI 4 = 3 from rfl]) | (go_at_call 57; first | ((with_reducible refine (hr0.out _).mono ?_); rintro e w' ⟨rfl, rfl⟩) | ((with_reducible refine (hr1.out _).mono ?_); rintro e w' ⟨rfl, rfl⟩)))
  all_goals rw [rounds_succ]
  all_goals go_wp2_with (first | (go_at_call 55; refine (hn.out _).mono ?_; rintro e w1 ⟨rfl, hb⟩; obtain ⟨hce, hfr⟩ := bcell hb; have hsz := hb.size; simp only [World.size_alloc] at hsz; obtain ⟨hz4, hzf⟩ := zeros hb; have z0 := (hz4 0 (by omega)).2; have z1 := (hz4 1 (by omega)).2; have z2 := (hz4 2 (by omega)).2; have z3 := (hz4 3 (by omega)).2; have zf := fun i => (hzf i).2; clear hz4 hzf; have q0 := third hb hs0; have q1 := third hb hs1) | (go_at_call 35; refine (hof.out _).mono ?_; rintro e w' ⟨rfl, rfl⟩) | (go_at_call 56; refine (args_any _ _).mono ?_; rintro e w' ⟨rfl, rfl⟩; rw [show argsI 4 = 3 from rfl]) | (go_at_call 57; first | ((with_reducible refine (hr0.out _).mono ?_); rintro e w' ⟨rfl, rfl⟩) | ((with_reducible refine (hr1.out _).mono ?_); rintro e w' ⟨rfl, rfl⟩)))
  all_goals
    have hbel : Below w.heap.size w w1 := below_box hb
    exact bodyPost_ret (v := .tuple #[instrV kn r0 0 0, .int .i64 30]) (by simp [results, Tryd.results23, go_sem, *]) rfl ⟨_, _, _, rfl, fun h => (by cases h), below_end hbel _ _ _ _ _ _ _⟩
set_option maxHeartbeats 2000000 in
theorem instr_5_regs0 (X m : Nat) (pl : Places) (kn : Nat) (h : Bs) (b o c : Nat) (w : World) (at_ : Int)
    (hn : Hid (∀ w, Calls Tryd.prog 55 #[bsV h] w fun e w' => e = .returned (.tuple #[.int .u8 kn, .bool true]) ∧ Below w.heap.size w w'))
    (hof : Hid (∀ w, Calls Tryd.prog 35 #[.int .u8 kn] w fun e w' => e = .returned (.tuple #[.int .u8 5, .bool true]) ∧ w = w'))
    (h0 : w.cell? ⟨b, o, none⟩ = some (bsV h)) (hc : 3 ≤ c)
    (s0 : Bs) (hs0 : w.cell? ⟨b, o + 1, none⟩ = some (bsV s0)) (r0 : Int) (hr0 : Hid (∀ w, Calls Tryd.prog 57 #[bsV s0] w fun e w' => e = .returned (.tuple #[.int .u8 r0, .bool false]) ∧ w = w')) :
    Calls Tryd.prog 23 #[.pointer (some ⟨X, 0, none⟩), .slice (some ⟨b, o, none⟩) 3 c, .int .i64 at_] w (FE kn [] 30 w) := by
  have hmm := @run_makeMap Tryd.prog
  have i0 := ins0; have i1 := ins1; have i2 := ins2; have i3 := ins3; have i4 := ins4; have i5 := ins5
  have lk := look_any 5
  rw [show manyI 5 = 1 from rfl] at lk
  have hbl : b < w.heap.size := block_lt_of_cell h0
  go_enter Tryd.func23, Tryd.ntmps23
  go_wp2_with (first | (go_at_call 55; refine (hn.out _).mono ?_; rintro e w1 ⟨rfl, hb⟩; obtain ⟨hce, hfr⟩ := bcell hb; have hsz := hb.size; simp only [World.size_alloc] at hsz; obtain ⟨hz4, hzf⟩ := zeros hb; have z0 := (hz4 0 (by omega)).2; have z1 := (hz4 1 (by omega)).2; have z2 := (hz4 2 (by omega)).2; have z3 := (hz4 3 (by omega)).2; have zf := fun i => (hzf i).2; clear hz4 hzf; have q0 := third hb hs0) | (go_at_call 35; refine (hof.out _).mono ?_; rintro e w' ⟨rfl, rfl⟩) | (go_at_call 56; refine (args_any _ _).mono ?_; rintro e w' ⟨rfl, rfl⟩; rw [show argsI 5 = 2 from rfl]) | (go_at_call 57; first | ((with_reducible refine (hr0.out _).mono ?_); rintro e w' ⟨rfl, rfl⟩)))
  all_goals refine wp_loop_rounds 1 ?_
  all_goals rw [rounds_succ]
  all_goals go_wp2_with (first | (go_at_call 55; refine (hn.out _).mono ?_; rintro e w1 ⟨rfl, hb⟩; obtain ⟨hce, hfr⟩ := bcell hb; have hsz := hb.size; simp only [World.size_alloc] at hsz; obtain ⟨hz4, hzf⟩ := zeros hb; have z0 := (hz4 0 (by omega)).2; have z1 := (hz4 1 (by omega)).2; have z2 := (hz4 2 (by omega)).2; have z3 := (hz4 3 (by omega)).2; have zf := fun i => (hzf i).2; clear hz4 hzf; have q0 := third hb hs0) | (go_at_call 35; refine (hof.out _).mono ?_; rintro e w' ⟨rfl, rfl⟩) | (go_at_call 56; refine (args_any _ _).mono ?_; rintro e w' ⟨rfl, rfl⟩; rw [show argsI 5 = 2 from rfl]) | (go_at_call 57; first | ((with_reducible refine (hr0.out _).mono ?_); rintro e w' ⟨rfl, rfl⟩)))
  all_goals
    have hbel : Below w.heap.size w w1 := below_box hb
    exact bodyPost_ret (v := .tuple #[instrV kn 0 0 0, .int .i64 30]) (by simp [results, Tryd.results23, go_sem, *]) rfl ⟨_, _, _, rfl, fun h => (by cases h), below_end hbel _ _ _ _ _ _ _⟩
set_option maxHeartbeats 2000000 in
theorem instr_7_regs0 (X m : Nat) (pl : Places) (kn : Nat) (h : Bs) (b o c : Nat) (w : World) (at_ : Int)
    (hn : Hid (∀ w, Calls Tryd.prog 55 #[bsV h] w fun e w' => e = .returned (.tuple #[.int .u8 kn, .bool true]) ∧ Below w.heap.size w w'))
    (hof : Hid (∀ w, Calls Tryd.prog 35 #[.int .u8 kn] w fun e w' => e = .returned (.tuple #[.int .u8 7, .bool true]) ∧ w = w'))
    (h0 : w.cell? ⟨b, o, none⟩ = some (bsV h)) (hc : 4 ≤ c)
    (s0 : Bs) (hs0 : w.cell? ⟨b, o + 1, none⟩ = some (bsV s0)) (r0 : Int) (hr0 : Hid (∀ w, Calls Tryd.prog 57 #[bsV s0] w fun e w' => e = .returned (.tuple #[.int .u8 r0, .bool false]) ∧ w = w')) :
    Calls Tryd.prog 23 #[.pointer (some ⟨X, 0, none⟩), .slice (some ⟨b, o, none⟩) 4 c, .int .i64 at_] w (FE kn [] 30 w) := by
  have hmm := @run_makeMap Tryd.prog
  have i0 := ins0; have i1 := ins1; have i2 := ins2; have i3 := ins3; have i4 := ins4; have i5 := ins5
  have lk := look_any 7
  rw [show manyI 7 = 2 from rfl] at lk
  have hbl : b < w.heap.size := block_lt_of_cell h0
  go_enter Tryd.func23, Tryd.ntmps23
  go_wp2_with (first | (go_at_call 55; refine (hn.out _).mono ?_; rintro e w1 ⟨rfl, hb⟩; obtain ⟨hce, hfr⟩ := bcell hb; have hsz := hb.size; simp only [World.size_alloc] at hsz; obtain ⟨hz4, hzf⟩ := zeros hb; have z0 := (hz4 0 (by omega)).2; have z1 := (hz4 1 (by omega)).2; have z2 := (hz4 2 (by omega)).2; have z3 := (hz4 3 (by omega)).2; have zf := fun i => (hzf i).2; clear hz4 hzf; have q0 := third hb hs0) | (go_at_call 35; refine (hof.out _).mono ?_; rintro e w' ⟨rfl, rfl⟩) | (go_at_call 56; refine (args_any _ _).mono ?_; rintro e w' ⟨rfl, rfl⟩; rw [show argsI 7 = 3 from rfl]) | (go_at_call 57; first | ((with_reducible refine (hr0.out _).mono ?_); rintro e w' ⟨rfl, rfl⟩)))
  all_goals refine wp_loop_rounds 1 ?_
  all_goals rw [rounds_succ]
  all_goals go_wp2_with (first | (go_at_call 55; refine (hn.out _).mono ?_; rintro e w1 ⟨rfl, hb⟩; obtain ⟨hce, hfr⟩ := bcell hb; have hsz := hb.size; simp only [World.size_alloc] at hsz; obtain ⟨hz4, hzf⟩ := zeros hb; have z0 := (hz4 0 (by omega)).2; have z1 := (hz4 1 (by omega)).2; have z2 := (hz4 2 (by omega)).2; have z3 := (hz4 3 (by omega)).2; have zf := fun i => (hzf i).2; clear hz4 hzf; have q0 := third hb hs0) | (go_at_call 35; refine (hof.out _).mono ?_; rintro e w' ⟨rfl, rfl⟩) | (go_at_call 56; refine (args_any _ _).mono ?_; rintro e w' ⟨rfl, rfl⟩; rw [show argsI 7 = 3 from rfl]) | (go_at_call 57; first | ((with_reducible refine (hr0.out _).mono ?_); rintro e w' ⟨rfl, rfl⟩)))
  all_goals
    have hbel : Below w.heap.size w w1 := below_box hb
    exact bodyPost_ret (v := .tuple #[instrV kn 0 0 0, .int .i64 30]) (by simp [results, Tryd.results23, go_sem, *]) rfl ⟨_, _, _, rfl, fun h => (by cases h), below_end hbel _ _ _ _ _ _ _⟩
set_option maxHeartbeats 2000000 in
theorem instr_7_regs1 (X m : Nat) (pl : Places) (kn : Nat) (h : Bs) (b o c : Nat) (w : World) (at_ : Int)
    (hn : Hid (∀ w, Calls Tryd.prog 55 #[bsV h] w fun e w' => e = .returned (.tuple #[.int .u8 kn, .bool true]) ∧ Below w.heap.size w w'))
    (hof : Hid (∀ w, Calls Tryd.prog 35 #[.int .u8 kn] w fun e w' => e = .returned (.tuple #[.int .u8 7, .bool true]) ∧ w = w'))
    (h0 : w.cell? ⟨b, o, none⟩ = some (bsV h)) (hc : 4 ≤ c)
    (s0 : Bs) (hs0 : w.cell? ⟨b, o + 1, none⟩ = some (bsV s0)) (r0 : Int) (hr0 : Hid (∀ w, Calls Tryd.prog 57 #[bsV s0] w fun e w' => e = .returned (.tuple #[.int .u8 r0, .bool true]) ∧ w = w'))
    (s1 : Bs) (hs1 : w.cell? ⟨b, o + 1 + 1, none⟩ = some (bsV s1)) (r1 : Int) (hr1 : Hid (∀ w, Calls Tryd.prog 57 #[bsV s1] w fun e w' => e = .returned (.tuple #[.int .u8 r1, .bool false]) ∧ w = w')) :
    Calls Tryd.prog 23 #[.pointer (some ⟨X, 0, none⟩), .slice (some ⟨b, o, none⟩) 4 c, .int .i64 at_] w (FE kn [] 30 w) := by
  have hmm := @run_makeMap Tryd.prog
  have i0 := ins0; have i1 := ins1; have i2 := ins2; have i3 := ins3; have i4 := ins4; have i5 := ins5
  have lk := look_any 7
  rw [show manyI 7 = 2 from rfl] at lk
  have hbl : b < w.heap.size := block_lt_of_cell h0
  go_enter Tryd.func23, Tryd.ntmps23
  go_wp2_with (first | (go_at_call 55; refine (hn.out _).mono ?_; rintro e w1 ⟨rfl, hb⟩; obtain ⟨hce, hfr⟩ := bcell hb; have hsz := hb.size; simp only [World.size_alloc] at hsz; obtain ⟨hz4, hzf⟩ := zeros hb; have z0 := (hz4 0 (by omega)).2; have z1 := (hz4 1 (by omega)).2; have z2 := (hz4 2 (by omega)).2; have z3 := (hz4 3 (by omega)).2; have zf := fun i => (hzf i).2; clear hz4 hzf; have q0 := third hb hs0; have q1 := third hb hs1) | (go_at_call 35; refine (hof.out _).mono ?_; rintro e w' ⟨rfl, rfl⟩) | (go_at_call 56; refine (args_any _ _).mono ?_; rintro e w' ⟨rfl, rfl⟩; rw [show argsI 7 = 3 from rfl]) | (go_at_call 57; first | ((with_reducible refine (hr0.out _).mono ?_); rintro e w' ⟨rfl, rfl⟩) | ((with_reducible refine (hr1.out _).mono ?_); rintro e w' ⟨rfl, rfl⟩)))
  all_goals refine wp_loop_rounds 2 ?_
  all_goals rw [rounds_succ]
  all_goals go_wp2_with (first | (go_at_call 55; refine (hn.out _).mono ?_; rintro e w1 ⟨rfl, hb⟩; obtain ⟨hce, hfr⟩ := bcell hb; have hsz := hb.size; simp only [World.size_alloc] at hsz; obtain ⟨hz4, hzf⟩ := zeros hb; have z0 := (hz4 0 (by omega)).2; have z1 := (hz4 1 (by omega)).2; have z2 := (hz4 2 (by omega)).2; have z3 := (hz4 3 (by omega)).2; have zf := fun i => (hzf i).2; clear hz4 hzf; have q0 := third hb hs0; have q1 := third hb hs1) | (go_at_call 35; refine (hof.out _).mono ?_; rintro e w' ⟨rfl, rfl⟩) | (go_at_call 56; refine (args_any _ _).mono ?_; rintro e w' ⟨rfl, rfl⟩; rw [show argsI 7 = 3 from rfl]) | (go_at_call 57; first | ((with_reducible refine (hr0.out _).mono ?_); rintro e w' ⟨rfl, rfl⟩) | ((with_reducible refine (hr1.out _).mono ?_); rintro e w' ⟨rfl, rfl⟩)))
  all_goals rw [rounds_succ]
  all_goals go_wp2_with (first | (go_at_call 55; refine (hn.out _).mono ?_; rintro e w1 ⟨rfl, hb⟩; obtain ⟨hce, hfr⟩ := bcell hb; have hsz := hb.size; simp only [World.size_alloc] at hsz; obtain ⟨hz4, hzf⟩ := zeros hb; have z0 := (hz4 0 (by omega)).2; have z1 := (hz4 1 (by omega)).2; have z2 := (hz4 2 (by omega)).2; have z3 := (hz4 3 (by omega)).2; have zf := fun i => (hzf i).2; clear hz4 hzf; have q0 := third hb hs0; have q1 := third hb hs1) | (go_at_call 35; refine (hof.out _).mono ?_; rintro e w' ⟨rfl, rfl⟩) | (go_at_call 56; refine (args_any _ _).mono ?_; rintro e w' ⟨rfl, rfl⟩; rw [show argsI 7 = 3 from rfl]) | (go_at_call 57; first | ((with_reducible refine (hr0.out _).mono ?_); rintro e w' ⟨rfl, rfl⟩) | ((with_reducible refine (hr1.out _).mono ?_); rintro e w' ⟨rfl, rfl⟩)))
  all_goals
    have hbel : Below w.heap.size w w1 := below_box hb
    exact bodyPost_ret (v := .tuple #[instrV kn r0 0 0, .int .i64 30]) (by simp [results, Tryd.results23, go_sem, *]) rfl ⟨_, _, _, rfl, fun h => (by cases h), below_end hbel _ _ _ _ _ _ _⟩
set_option maxHeartbeats 2000000 in
theorem instr_0_ok (X m : Nat) (pl : Places) (kn : Nat) (h : Bs) (b o c : Nat) (w : World) (at_ : Int)
    (hn : Hid (∀ w, Calls Tryd.prog 55 #[bsV h] w fun e w' => e = .returned (.tuple #[.int .u8 kn, .bool true]) ∧ Below w.heap.size w w'))
    (hof : Hid (∀ w, Calls Tryd.prog 35 #[.int .u8 kn] w fun e w' => e = .returned (.tuple #[.int .u8 0, .bool true]) ∧ w = w'))
    (h0 : w.cell? ⟨b, o, none⟩ = some (bsV h)) (hc : 1 ≤ c) :
    Calls Tryd.prog 23 #[.pointer (some ⟨X, 0, none⟩), .slice (some ⟨b, o, none⟩) 1 c, .int .i64 at_] w (FE kn [kn, 0, 0, 0] 0 w) := by
  have hmm := @run_makeMap Tryd.prog
  have i0 := ins0; have i1 := ins1; have i2 := ins2; have i3 := ins3; have i4 := ins4; have i5 := ins5
  have lk := look_any 0
  rw [show manyI 0 = 0 from rfl] at lk
  have hbl : b < w.heap.size := block_lt_of_cell h0
  go_enter Tryd.func23, Tryd.ntmps23
  go_wp2_with (first | (go_at_call 55; refine (hn.out _).mono ?_; rintro e w1 ⟨rfl, hb⟩; obtain ⟨hce, hfr⟩ := bcell hb; have hsz := hb.size; simp only [World.size_alloc] at hsz; obtain ⟨hz4, hzf⟩ := zeros hb; have z0 := (hz4 0 (by omega)).2; have z1 := (hz4 1 (by omega)).2; have z2 := (hz4 2 (by omega)).2; have z3 := (hz4 3 (by omega)).2; have zf := fun i => (hzf i).2; clear hz4 hzf) | (go_at_call 35; refine (hof.out _).mono ?_; rintro e w' ⟨rfl, rfl⟩) | (go_at_call 56; refine (args_any _ _).mono ?_; rintro e w' ⟨rfl, rfl⟩; rw [show argsI 0 = 0 from rfl]))
  all_goals refine wp_loop_rounds 1 ?_
  all_goals rw [rounds_succ]
  all_goals go_wp2_with (first | (go_at_call 55; refine (hn.out _).mono ?_; rintro e w1 ⟨rfl, hb⟩; obtain ⟨hce, hfr⟩ := bcell hb; have hsz := hb.size; simp only [World.size_alloc] at hsz; obtain ⟨hz4, hzf⟩ := zeros hb; have z0 := (hz4 0 (by omega)).2; have z1 := (hz4 1 (by omega)).2; have z2 := (hz4 2 (by omega)).2; have z3 := (hz4 3 (by omega)).2; have zf := fun i => (hzf i).2; clear hz4 hzf) | (go_at_call 35; refine (hof.out _).mono ?_; rintro e w' ⟨rfl, rfl⟩) | (go_at_call 56; refine (args_any _ _).mono ?_; rintro e w' ⟨rfl, rfl⟩; rw [show argsI 0 = 0 from rfl]))
  all_goals
    have hbel : Below w.heap.size w w1 := below_box hb
    exact bodyPost_ret (v := .tuple #[instrV kn 0 0 0, .int .i64 0]) (by simp [results, Tryd.results23, go_sem, *]) rfl ⟨_, _, _, rfl, fun _ => rfl, below_end hbel _ _ _ _ _ _ _⟩
set_option maxHeartbeats 2000000 in
theorem instr_1_ok (X m : Nat) (pl : Places) (kn : Nat) (h : Bs) (b o c : Nat) (w : World) (at_ : Int)
    (hn : Hid (∀ w, Calls Tryd.prog 55 #[bsV h] w fun e w' => e = .returned (.tuple #[.int .u8 kn, .bool true]) ∧ Below w.heap.size w w'))
    (hof : Hid (∀ w, Calls Tryd.prog 35 #[.int .u8 kn] w fun e w' => e = .returned (.tuple #[.int .u8 1, .bool true]) ∧ w = w'))
    (h0 : w.cell? ⟨b, o, none⟩ = some (bsV h)) (hc : 2 ≤ c)
    (s0 : Bs) (hs0 : w.cell? ⟨b, o + 1, none⟩ = some (bsV s0)) (r0 : Int) (hr0 : Hid (∀ w, Calls Tryd.prog 57 #[bsV s0] w fun e w' => e = .returned (.tuple #[.int .u8 r0, .bool true]) ∧ w = w')) :
    Calls Tryd.prog 23 #[.pointer (some ⟨X, 0, none⟩), .slice (some ⟨b, o, none⟩) 2 c, .int .i64 at_] w (FE kn [kn, r0, 0, 0] 0 w) := by
  have hmm := @run_makeMap Tryd.prog
  have i0 := ins0; have i1 := ins1; have i2 := ins2; have i3 := ins3; have i4 := ins4; have i5 := ins5
  have lk := look_any 1
  rw [show manyI 1 = 1 from rfl] at lk
  have hbl : b < w.heap.size := block_lt_of_cell h0
  go_enter Tryd.func23, Tryd.ntmps23
  go_wp2_with (first | (go_at_call 55; refine (hn.out _).mono ?_; rintro e w1 ⟨rfl, hb⟩; obtain ⟨hce, hfr⟩ := bcell hb; have hsz := hb.size; simp only [World.size_alloc] at hsz; obtain ⟨hz4, hzf⟩ := zeros hb; have z0 := (hz4 0 (by omega)).2; have z1 := (hz4 1 (by omega)).2; have z2 := (hz4 2 (by omega)).2; have z3 := (hz4 3 (by omega)).2; have zf := fun i => (hzf i).2; clear hz4 hzf; have q0 := third hb hs0) | (go_at_call 35; refine (hof.out _).mono ?_; rintro e w' ⟨rfl, rfl⟩) | (go_at_call 56; refine (args_any _ _).mono ?_; rintro e w' ⟨rfl, rfl⟩; rw [show argsI 1 = 1 from rfl]) | (go_at_call 57; first | ((with_reducible refine (hr0.out _).mono ?_); rintro e w' ⟨rfl, rfl⟩)))
  all_goals refine wp_loop_rounds 2 ?_
  all_goals rw [rounds_succ]
  all_goals go_wp2_with (first | (go_at_call 55; refine (hn.out _).mono ?_; rintro e w1 ⟨rfl, hb⟩; obtain ⟨hce, hfr⟩ := bcell hb; have hsz := hb.size; simp only [World.size_alloc] at hsz; obtain ⟨hz4, hzf⟩ := zeros hb; have z0 := (hz4 0 (by omega)).2; have z1 := (hz4 1 (by omega)).2; have z2 := (hz4 2 (by omega)).2; have z3 := (hz4 3 (by omega)).2; have zf := fun i => (hzf i).2; clear hz4 hzf; have q0 := third hb hs0) | (go_at_call 35; refine (hof.out _).mono ?_; rintro e w' ⟨rfl, rfl⟩) | (go_at_call 56; refine (args_any _ _).mono ?_; rintro e w' ⟨rfl, rfl⟩; rw [show argsI 1 = 1 from rfl]) | (go_at_call 57; first | ((with_reducible refine (hr0.out _).mono ?_); rintro e w' ⟨rfl, rfl⟩)))
  all_goals rw [rounds_succ]
  all_goals go_wp2_with (first | (go_at_call 55; refine (hn.out _).mono ?_; rintro e w1 ⟨rfl, hb⟩; obtain ⟨hce, hfr⟩ := bcell hb; have hsz := hb.size; simp only [World.size_alloc] at hsz; obtain ⟨hz4, hzf⟩ := zeros hb; have z0 := (hz4 0 (by omega)).2; have z1 := (hz4 1 (by omega)).2; have z2 := (hz4 2 (by omega)).2; have z3 := (hz4 3 (by omega)).2; have zf := fun i => (hzf i).2; clear hz4 hzf; have q0 := third hb hs0) | (go_at_call 35; refine (hof.out _).mono ?_; rintro e w' ⟨rfl, rfl⟩) | (go_at_call 56; refine (args_any _ _).mono ?_; rintro e w' ⟨rfl, rfl⟩; rw [show argsI 1 = 1 from rfl]) | (go_at_call 57; first | ((with_reducible refine (hr0.out _).mono ?_); rintro e w' ⟨rfl, rfl⟩)))
  all_goals
    have hbel : Below w.heap.size w w1 := below_box hb
    exact bodyPost_ret (v := .tuple #[instrV kn r0 0 0, .int .i64 0]) (by simp [results, Tryd.results23, go_sem, *]) rfl ⟨_, _, _, rfl, fun _ => rfl, below_end hbel _ _ _ _ _ _ _⟩
set_option maxHeartbeats 2000000 in
theorem instr_2_ok (X m : Nat) (pl : Places) (kn : Nat) (h : Bs) (b o c : Nat) (w : World) (at_ : Int)
    (hn : Hid (∀ w, Calls Tryd.prog 55 #[bsV h] w fun e w' => e = .returned (.tuple #[.int .u8 kn, .bool true]) ∧ Below w.heap.size w w'))
    (hof : Hid (∀ w, Calls Tryd.prog 35 #[.int .u8 kn] w fun e w' => e = .returned (.tuple #[.int .u8 2, .bool true]) ∧ w = w'))
    (h0 : w.cell? ⟨b, o, none⟩ = some (bsV h)) (hc : 3 ≤ c)
    (s0 : Bs) (hs0 : w.cell? ⟨b, o + 1, none⟩ = some (bsV s0)) (r0 : Int) (hr0 : Hid (∀ w, Calls Tryd.prog 57 #[bsV s0] w fun e w' => e = .returned (.tuple #[.int .u8 r0, .bool true]) ∧ w = w'))
    (s1 : Bs) (hs1 : w.cell? ⟨b, o + 1 + 1, none⟩ = some (bsV s1)) (r1 : Int) (hr1 : Hid (∀ w, Calls Tryd.prog 57 #[bsV s1] w fun e w' => e = .returned (.tuple #[.int .u8 r1, .bool true]) ∧ w = w')) :
    Calls Tryd.prog 23 #[.pointer (some ⟨X, 0, none⟩), .slice (some ⟨b, o, none⟩) 3 c, .int .i64 at_] w (FE kn [kn, r0, r1, 0] 0 w) := by
  have hmm := @run_makeMap Tryd.prog
  have i0 := ins0; have i1 := ins1; have i2 := ins2; have i3 := ins3; have i4 := ins4; have i5 := ins5
  have lk := look_any 2
  rw [show manyI 2 = 2 from rfl] at lk
  have hbl : b < w.heap.size := block_lt_of_cell h0
  go_enter Tryd.func23, Tryd.ntmps23
  go_wp2_with (first | (go_at_call 55; refine (hn.out _).mono ?_; rintro e w1 ⟨rfl, hb⟩; obtain ⟨hce, hfr⟩ := bcell hb; have hsz := hb.size; simp only [World.size_alloc] at hsz; obtain ⟨hz4, hzf⟩ := zeros hb; have z0 := (hz4 0 (by omega)).2; have z1 := (hz4 1 (by omega)).2; have z2 := (hz4 2 (by omega)).2; have z3 := (hz4 3 (by omega)).2; have zf := fun i => (hzf i).2; clear hz4 hzf; have q0 := third hb hs0; have q1 := third hb hs1) | (go_at_call 35; refine (hof.out _).mono ?_; rintro e w' ⟨rfl, rfl⟩) | (go_at_call 56; refine (args_any _ _).mono ?_; rintro e w' ⟨rfl, rfl⟩; rw [show argsI 2 = 2 from rfl]) | (go_at_call 57; first | ((with_reducible refine (hr0.out _).mono ?_); rintro e w' ⟨rfl, rfl⟩) | ((with_reducible refine (hr1.out _).mono ?_); rintro e w' ⟨rfl, rfl⟩)))
  all_goals refine wp_loop_rounds 3 ?_
  all_goals rw [rounds_succ]
  all_goals go_wp2_with (first | (go_at_call 55; refine (hn.out _).mono ?_; rintro e w1 ⟨rfl, hb⟩; obtain ⟨hce, hfr⟩ := bcell hb; have hsz := hb.size; simp only [World.size_alloc] at hsz; obtain ⟨hz4, hzf⟩ := zeros hb; have z0 := (hz4 0 (by omega)).2; have z1 := (hz4 1 (by omega)).2; have z2 := (hz4 2 (by omega)).2; have z3 := (hz4 3 (by omega)).2; have zf := fun i => (hzf i).2; clear hz4 hzf; have q0 := third hb hs0; have q1 := third hb hs1) | (go_at_call 35; refine (hof.out _).mono ?_; rintro e w' ⟨rfl, rfl⟩) | (go_at_call 56; refine (args_any _ _).mono ?_; rintro e w' ⟨rfl, rfl⟩; rw [show argsI 2 = 2 from rfl]) | (go_at_call 57; first | ((with_reducible refine (hr0.out _).mono ?_); rintro e w' ⟨rfl, rfl⟩) | ((with_reducible refine (hr1.out _).mono ?_); rintro e w' ⟨rfl, rfl⟩)))
  all_goals rw [rounds_succ]
  all_goals go_wp2_with (first | (go_at_call 55; refine (hn.out _).mono ?_; rintro e w1 ⟨rfl, hb⟩; obtain ⟨hce, hfr⟩ := bcell hb; have hsz := hb.size; simp only [World.size_alloc] at hsz; obtain ⟨hz4, hzf⟩ := zeros hb; have z0 := (hz4 0 (by omega)).2; have z1 := (hz4 1 (by omega)).2; have z2 := (hz4 2 (by omega)).2; have z3 := (hz4 3 (by omega)).2; have zf := fun i => (hzf i).2; clear hz4 hzf; have q0 := third hb hs0; have q1 := third hb hs1) | (go_at_call 35; refine (hof.out _).mono ?_; rintro e w' ⟨rfl, rfl⟩) | (go_at_call 56; refine (args_any _ _).mono ?_; rintro e w' ⟨rfl, rfl⟩; rw [show argsI 2 = 2 from rfl]) | (go_at_call 57; first | ((with_reducible refine (hr0.out _).mono ?_); rintro e w' ⟨rfl, rfl⟩) | ((with_reducible refine (hr1.out _).mono ?_); rintro e w' ⟨rfl, rfl⟩)))
  all_goals rw [rounds_succ]
  all_goals go_wp2_with (first | (go_at_call 55; refine (hn.out _).mono ?_; rintro e w1 ⟨rfl, hb⟩; obtain ⟨hce, hfr⟩ := bcell hb; have hsz := hb.size; simp only [World.size_alloc] at hsz; obtain ⟨hz4, hzf⟩ := zeros hb; have z0 := (hz4 0 (by omega)).2; have z1 := (hz4 1 (by omega)).2; have z2 := (hz4 2 (by omega)).2; have z3 := (hz4 3 (by omega)).2; have zf := fun i => (hzf i).2; clear hz4 hzf; have q0 := third hb hs0; have q1 := third hb hs1) | (go_at_call 35; refine (hof.out _).mono ?_; rintro e w' ⟨rfl, rfl⟩) | (go_at_call 56; refine (args_any _ _).mono ?_; rintro e w' ⟨rfl, rfl⟩; rw [show argsI 2 = 2 from rfl]) | (go_at_call 57; first | ((with_reducible refine (hr0.out _).mono ?_); rintro e w' ⟨rfl, rfl⟩) | ((with_reducible refine (hr1.out _).mono ?_); rintro e w' ⟨rfl, rfl⟩)))
  all_goals
    have hbel : Below w.heap.size w w1 := below_box hb
    exact bodyPost_ret (v := .tuple #[instrV kn r0 r1 0, .int .i64 0]) (by simp [results, Tryd.results23, go_sem, *]) rfl ⟨_, _, _, rfl, fun _ => rfl, below_end hbel _ _ _ _ _ _ _⟩
set_option maxHeartbeats 2000000 in
theorem instr_3_ok (X m : Nat) (pl : Places) (kn : Nat) (h : Bs) (b o c : Nat) (w : World) (at_ : Int)
    (hn : Hid (∀ w, Calls Tryd.prog 55 #[bsV h] w fun e w' => e = .returned (.tuple #[.int .u8 kn, .bool true]) ∧ Below w.heap.size w w'))
    (hof : Hid (∀ w, Calls Tryd.prog 35 #[.int .u8 kn] w fun e w' => e = .returned (.tuple #[.int .u8 3, .bool true]) ∧ w = w'))
    (h0 : w.cell? ⟨b, o, none⟩ = some (bsV h)) (hc : 4 ≤ c)
    (s0 : Bs) (hs0 : w.cell? ⟨b, o + 1, none⟩ = some (bsV s0)) (r0 : Int) (hr0 : Hid (∀ w, Calls Tryd.prog 57 #[bsV s0] w fun e w' => e = .returned (.tuple #[.int .u8 r0, .bool true]) ∧ w = w'))
    (s1 : Bs) (hs1 : w.cell? ⟨b, o + 1 + 1, none⟩ = some (bsV s1)) (r1 : Int) (hr1 : Hid (∀ w, Calls Tryd.prog 57 #[bsV s1] w fun e w' => e = .returned (.tuple #[.int .u8 r1, .bool true]) ∧ w = w'))
    (s2 : Bs) (hs2 : w.cell? ⟨b, o + 1 + 2, none⟩ = some (bsV s2)) (r2 : Int) (hr2 : Hid (∀ w, Calls Tryd.prog 57 #[bsV s2] w fun e w' => e = .returned (.tuple #[.int .u8 r2, .bool true]) ∧ w = w')) :
    Calls Tryd.prog 23 #[.pointer (some ⟨X, 0, none⟩), .slice (some ⟨b, o, none⟩) 4 c, .int .i64 at_] w (FE kn [kn, r0, r1, r2] 0 w) := by
  have hmm := @run_makeMap Tryd.prog
  have i0 := ins0; have i1 := ins1; have i2 := ins2; have i3 := ins3; have i4 := ins4; have i5 := ins5
  have lk := look_any 3
  rw [show manyI 3 = 3 from rfl] at lk
  have hbl : b < w.heap.size := block_lt_of_cell h0
  go_enter Tryd.func23, Tryd.ntmps23
  go_wp2_with (first | (go_at_call 55; refine (hn.out _).mono ?_; rintro e w1 ⟨rfl, hb⟩; obtain ⟨hce, hfr⟩ := bcell hb; have hsz := hb.size; simp only [World.size_alloc] at hsz; obtain ⟨hz4, hzf⟩ := zeros hb; have z0 := (hz4 0 (by omega)).2; have z1 := (hz4 1 (by omega)).2; have z2 := (hz4 2 (by omega)).2; have z3 := (hz4 3 (by omega)).2; have zf := fun i => (hzf i).2; clear hz4 hzf; have q0 := third hb hs0; have q1 := third hb hs1; have q2 := third hb hs2) | (go_at_call 35; refine (hof.out _).mono ?_; rintro e w' ⟨rfl, rfl⟩) | (go_at_call 56; refine (args_any _ _).mono ?_; rintro e w' ⟨rfl, rfl⟩; rw [show argsI 3 = 3 from rfl]) | (go_at_call 57; first | ((with_reducible refine (hr0.out _).mono ?_); rintro e w' ⟨rfl, rfl⟩) | ((with_reducible refine (hr1.out _).mono ?_); rintro e w' ⟨rfl, rfl⟩) | ((with_reducible refine (hr2.out _).mono ?_); rintro e w' ⟨rfl, rfl⟩)))
  all_goals refine wp_loop_rounds 4 ?_
  all_goals rw [rounds_succ]
  all_goals go_wp2_with (first | (go_at_call 55; refine (hn.out _).mono ?_; rintro e w1 ⟨rfl, hb⟩; obtain ⟨hce, hfr⟩ := bcell hb; have hsz := hb.size; simp only [World.size_alloc] at hsz; obtain ⟨hz4, hzf⟩ := zeros hb; have z0 := (hz4 0 (by omega)).2; have z1 := (hz4 1 (by omega)).2; have z2 := (hz4 2 (by omega)).2; have z3 := (hz4 3 (by omega)).2; have zf := fun i => (hzf i).2; clear hz4 hzf; have q0 := third hb hs0; have q1 := third hb hs1; have q2 := third hb hs2) | (go_at_call 35; refine (hof.out _).mono ?_; rintro e w' ⟨rfl, rfl⟩) | (go_at_call 56; refine (args_any _ _).mono ?_; rintro e w' ⟨rfl, rfl⟩; rw [show argsI 3 = 3 from rfl]) | (go_at_call 57; first | ((with_reducible refine (hr0.out _).mono ?_); rintro e w' ⟨rfl, rfl⟩) | ((with_reducible refine (hr1.out _).mono ?_); rintro e w' ⟨rfl, rfl⟩) | ((with_reducible refine (hr2.out _).mono ?_); rintro e w' ⟨rfl, rfl⟩)))
  all_goals rw [rounds_succ]
  all_goals go_wp2_with (first | (go_at_call 55; refine (hn.out _).mono ?_; rintro e w1 ⟨rfl, hb⟩; obtain ⟨hce, hfr⟩ := bcell hb; have hsz := hb.size; simp only [World.size_alloc] at hsz; obtain ⟨hz4, hzf⟩ := zeros hb; have z0 := (hz4 0 (by omega)).2; have z1 := (hz4 1 (by omega)).2; have z2 := (hz4 2 (by omega)).2; have z3 := (hz4 3 (by omega)).2; have zf := fun i => (hzf i).2; clear hz4 hzf; have q0 := third hb hs0; have q1 := third hb hs1; have q2 := third hb hs2) | (go_at_call 35; refine (hof.out _).mono ?_; rintro e w' ⟨rfl, rfl⟩) | (go_at_call 56; refine (args_any _ _).mono ?_; rintro e w' ⟨rfl, rfl⟩; rw [show argsI 3 = 3 from rfl]) | (go_at_call 57; first | ((with_reducible refine (hr0.out _).mono ?_); rintro e w' ⟨rfl, rfl⟩) | ((with_reducible refine (hr1.out _).mono ?_); rintro e w' ⟨rfl, rfl⟩) | ((with_reducible refine (hr2.out _).mono ?_); rintro e w' ⟨rfl, rfl⟩)))
  all_goals rw [rounds_succ]
  all_goals go_wp2_with (first | (go_at_call 55; refine (hn.out _).mono ?_; rintro e w1 ⟨rfl, hb⟩; obtain ⟨hce, hfr⟩ := bcell hb; have hsz := hb.size; simp only [World.size_alloc] at hsz; obtain ⟨hz4, hzf⟩ := zeros hb; have z0 := (hz4 0 (by omega)).2; have z1 := (hz4 1 (by omega)).2; have z2 := (hz4 2 (by omega)).2; have z3 := (hz4 3 (by omega)).2; have zf := fun i => (hzf i).2; clear hz4 hzf; have q0 := third hb hs0; have q1 := third hb hs1; have q2 := third hb hs2) | (go_at_call 35; refine (hof.out _).mono ?_; rintro e w' ⟨rfl, rfl⟩) | (go_at_call 56; refine (args_any _ _).mono ?_; rintro e w' ⟨rfl, rfl⟩; rw [show argsI 3 = 3 from rfl]) | (go_at_call 57; first | ((with_reducible refine (hr0.out _).mono ?_); rintro e w' ⟨rfl, rfl⟩) | ((with_reducible refine (hr1.out _).mono ?_); rintro e w' ⟨rfl, rfl⟩) | ((with_reducible refine (hr2.out _).mono ?_); rintro e w' ⟨rfl, rfl⟩)))
  all_goals rw [rounds_succ]
  all_goals go_wp2_with (first | (go_at_call 55; refine (hn.out _).mono ?_; rintro e w1 ⟨rfl, hb⟩; obtain ⟨hce, hfr⟩ := bcell hb; have hsz := hb.size; simp only [World.size_alloc] at hsz; obtain ⟨hz4, hzf⟩ := zeros hb; have z0 := (hz4 0 (by omega)).2; have z1 := (hz4 1 (by omega)).2; have z2 := (hz4 2 (by omega)).2; have z3 := (hz4 3 (by omega)).2; have zf := fun i => (hzf i).2; clear hz4 hzf; have q0 := third hb hs0; have q1 := third hb hs1; have q2 := third hb hs2) | (go_at_call 35; refine (hof.out _).mono ?_; rintro e w' ⟨rfl, rfl⟩) | (go_at_call 56; refine (args_any _ _).mono ?_; rintro e w' ⟨rfl, rfl⟩; rw [show argsI 3 = 3 from rfl]) | (go_at_call 57; first | ((with_reducible refine (hr0.out _).mono ?_); rintro e w' ⟨rfl, rfl⟩) | ((with_reducible refine (hr1.out _).mono ?_); rintro e w' ⟨rfl, rfl⟩) | ((with_reducible refine (hr2.out _).mono ?_); rintro e w' ⟨rfl, rfl⟩)))
  all_goals
    have hbel : Below w.heap.size w w1 := below_box hb
    exact bodyPost_ret (v := .tuple #[instrV kn r0 r1 r2, .int .i64 0]) (by simp [results, Tryd.results23, go_sem, *]) rfl ⟨_, _, _, rfl, fun _ => rfl, below_end hbel _ _ _ _ _ _ _⟩
end Go.Proofs.YtlaohefgofmfdaaDoor
