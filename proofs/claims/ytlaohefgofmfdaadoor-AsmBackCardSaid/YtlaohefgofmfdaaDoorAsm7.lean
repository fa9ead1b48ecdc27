/- The walks of an instruction: a wrong count of words; a number behind the registers. Written by gen_asm7.py. -/
import Derived.Test.YtlaohefgofmfdaaDoorAsm6
namespace Go.Proofs.YtlaohefgofmfdaaDoor
open Go Go.RowKit
set_option maxRecDepth 100000
theorem below3 {w w1 : World} {z : Obj} (hb : Below (w.alloc z).heap.size (w.alloc z) w1) (o1 o2 o3 : Obj) : Below w.heap.size w (((w1.alloc o1).alloc o2).alloc o3) := by
  have h := below_box hb
  have := h.size
  exact ((h.alloc h.size _).alloc (by simp; omega) _).alloc (by simp; omega) _
theorem below_end1 {w w1 : World} (h : Below w.heap.size w w1) (o1 : Obj) (u0 u1 u2 u3 : Value) :
    Below w.heap.size w ((((w1.alloc o1).setCell ⟨w.heap.size, 0, none⟩ u0).setCell ⟨w.heap.size, 1, none⟩ u1).setCell ⟨w.heap.size, 2, none⟩ u2 |>.setCell ⟨w.heap.size, 3, none⟩ u3) :=
  ((((h.alloc h.size _).setCell (Nat.le_refl _) _).setCell (Nat.le_refl _) _).setCell (Nat.le_refl _) _).setCell (Nat.le_refl _) _
theorem below_end2 {w w1 w2 : World} (h : Below w.heap.size w w1) (o1 o2 o3 : Obj) (hb : Below (((w1.alloc o1).alloc o2).alloc o3).heap.size (((w1.alloc o1).alloc o2).alloc o3) w2) (u0 u1 u2 u3 : Value) :
    Below w.heap.size w ((((w2.setCell ⟨w.heap.size, 0, none⟩ u0).setCell ⟨w.heap.size, 1, none⟩ u1).setCell ⟨w.heap.size, 2, none⟩ u2).setCell ⟨w.heap.size, 3, none⟩ u3) := by
  have hs := h.size
  have h3 : Below w.heap.size w (((w1.alloc o1).alloc o2).alloc o3) := ((h.alloc h.size _).alloc (by simp; omega) _).alloc (by simp; omega) _
  have h4 := h3.trans (hb.mono h3.size)
  exact (((h4.setCell (Nat.le_refl _) _).setCell (Nat.le_refl _) _).setCell (Nat.le_refl _) _).setCell (Nat.le_refl _) _
theorem below_end3 {w w1 w2 : World} (h : Below w.heap.size w w1) (o1 o2 o3 : Obj) (hb : Below (((w1.alloc o1).alloc o2).alloc o3).drew.heap.size (((w1.alloc o1).alloc o2).alloc o3).drew w2) (u0 u1 u2 u3 : Value) :
    Below w.heap.size w ((((w2.setCell ⟨w.heap.size, 0, none⟩ u0).setCell ⟨w.heap.size, 1, none⟩ u1).setCell ⟨w.heap.size, 2, none⟩ u2).setCell ⟨w.heap.size, 3, none⟩ u3) := by
  have hs := h.size
  have h3 : Below w.heap.size w (((w1.alloc o1).alloc o2).alloc o3).drew := (((h.alloc h.size _).alloc (by simp; omega) _).alloc (by simp; omega) _).drew
  have h4 := h3.trans (hb.mono h3.size)
  exact (((h4.setCell (Nat.le_refl _) _).setCell (Nat.le_refl _) _).setCell (Nat.le_refl _) _).setCell (Nat.le_refl _) _
set_option maxHeartbeats 2000000 in
theorem instr_0_args (n : Nat) (X m : Nat) (pl : Places) (kn : Nat) (h : Bs) (b o c : Nat) (w : World) (at_ : Int)
    (hn : Hid (∀ w, Calls Tryd.prog 55 #[bsV h] w fun e w' => e = .returned (.tuple #[.int .u8 kn, .bool true]) ∧ Below w.heap.size w w'))
    (hof : Hid (∀ w, Calls Tryd.prog 35 #[.int .u8 kn] w fun e w' => e = .returned (.tuple #[.int .u8 0, .bool true]) ∧ w = w'))
    (h0 : w.cell? ⟨b, o, none⟩ = some (bsV h)) (hc : n + 1 ≤ c) (hne : ((n : Int) != 0) = true) (hnb : n < 1000000000) :
    Calls Tryd.prog 23 #[.pointer (some ⟨X, 0, none⟩), .slice (some ⟨b, o, none⟩) (n + 1) c, .int .i64 at_] w (FE kn [] 28 w) := by
  have hmm := @run_makeMap Tryd.prog
  have i0 := ins0; have i1 := ins1; have i2 := ins2; have i3 := ins3; have i4 := ins4; have i5 := ins5
  have lk := look_any 0
  rw [show manyI 0 = 0 from rfl] at lk
  have hbl : b < w.heap.size := block_lt_of_cell h0
  go_enter Tryd.func23, Tryd.ntmps23
  go_wp2_with (first | (go_at_call 55; refine (hn.out _).mono ?_; rintro e w1 ⟨rfl, hb⟩; obtain ⟨hce, hfr⟩ := bcell hb; have hsz := hb.size; simp only [World.size_alloc] at hsz; obtain ⟨hz4, hzf⟩ := zeros hb; have z0 := (hz4 0 (by omega)).1; have z1 := (hz4 1 (by omega)).1; have z2 := (hz4 2 (by omega)).1; have z3 := (hz4 3 (by omega)).1; have zf := fun i => (hzf i).1; clear hz4 hzf) | (go_at_call 35; refine (hof.out _).mono ?_; rintro e w' ⟨rfl, rfl⟩) | (go_at_call 56; refine (args_any _ _).mono ?_; rintro e w' ⟨rfl, rfl⟩; rw [show argsI 0 = 0 from rfl]))
  all_goals
    have hbel : Below w.heap.size w w1 := below_box hb
    skip
    exact bodyPost_ret (v := .tuple #[instrV kn 0 0 0, .int .i64 28]) (by simp [results, Tryd.results23, go_sem, *]) rfl ⟨_, _, _, rfl, fun h => (by cases h), below_end1 hbel _ _ _ _ _⟩
set_option maxHeartbeats 2000000 in
theorem instr_1_args (n : Nat) (X m : Nat) (pl : Places) (kn : Nat) (h : Bs) (b o c : Nat) (w : World) (at_ : Int)
    (hn : Hid (∀ w, Calls Tryd.prog 55 #[bsV h] w fun e w' => e = .returned (.tuple #[.int .u8 kn, .bool true]) ∧ Below w.heap.size w w'))
    (hof : Hid (∀ w, Calls Tryd.prog 35 #[.int .u8 kn] w fun e w' => e = .returned (.tuple #[.int .u8 1, .bool true]) ∧ w = w'))
    (h0 : w.cell? ⟨b, o, none⟩ = some (bsV h)) (hc : n + 1 ≤ c) (hne : ((n : Int) != 1) = true) (hnb : n < 1000000000) :
    Calls Tryd.prog 23 #[.pointer (some ⟨X, 0, none⟩), .slice (some ⟨b, o, none⟩) (n + 1) c, .int .i64 at_] w (FE kn [] 28 w) := by
  have hmm := @run_makeMap Tryd.prog
  have i0 := ins0; have i1 := ins1; have i2 := ins2; have i3 := ins3; have i4 := ins4; have i5 := ins5
  have lk := look_any 1
  rw [show manyI 1 = 1 from rfl] at lk
  have hbl : b < w.heap.size := block_lt_of_cell h0
  go_enter Tryd.func23, Tryd.ntmps23
  go_wp2_with (first | (go_at_call 55; refine (hn.out _).mono ?_; rintro e w1 ⟨rfl, hb⟩; obtain ⟨hce, hfr⟩ := bcell hb; have hsz := hb.size; simp only [World.size_alloc] at hsz; obtain ⟨hz4, hzf⟩ := zeros hb; have z0 := (hz4 0 (by omega)).1; have z1 := (hz4 1 (by omega)).1; have z2 := (hz4 2 (by omega)).1; have z3 := (hz4 3 (by omega)).1; have zf := fun i => (hzf i).1; clear hz4 hzf) | (go_at_call 35; refine (hof.out _).mono ?_; rintro e w' ⟨rfl, rfl⟩) | (go_at_call 56; refine (args_any _ _).mono ?_; rintro e w' ⟨rfl, rfl⟩; rw [show argsI 1 = 1 from rfl]))
  all_goals
    have hbel : Below w.heap.size w w1 := below_box hb
    skip
    exact bodyPost_ret (v := .tuple #[instrV kn 0 0 0, .int .i64 28]) (by simp [results, Tryd.results23, go_sem, *]) rfl ⟨_, _, _, rfl, fun h => (by cases h), below_end1 hbel _ _ _ _ _⟩
set_option maxHeartbeats 2000000 in
theorem instr_2_args (n : Nat) (X m : Nat) (pl : Places) (kn : Nat) (h : Bs) (b o c : Nat) (w : World) (at_ : Int)
    (hn : Hid (∀ w, Calls Tryd.prog 55 #[bsV h] w fun e w' => e = .returned (.tuple #[.int .u8 kn, .bool true]) ∧ Below w.heap.size w w'))
    (hof : Hid (∀ w, Calls Tryd.prog 35 #[.int .u8 kn] w fun e w' => e = .returned (.tuple #[.int .u8 2, .bool true]) ∧ w = w'))
    (h0 : w.cell? ⟨b, o, none⟩ = some (bsV h)) (hc : n + 1 ≤ c) (hne : ((n : Int) != 2) = true) (hnb : n < 1000000000) :
    Calls Tryd.prog 23 #[.pointer (some ⟨X, 0, none⟩), .slice (some ⟨b, o, none⟩) (n + 1) c, .int .i64 at_] w (FE kn [] 28 w) := by
  have hmm := @run_makeMap Tryd.prog
  have i0 := ins0; have i1 := ins1; have i2 := ins2; have i3 := ins3; have i4 := ins4; have i5 := ins5
  have lk := look_any 2
  rw [show manyI 2 = 2 from rfl] at lk
  have hbl : b < w.heap.size := block_lt_of_cell h0
  go_enter Tryd.func23, Tryd.ntmps23
  go_wp2_with (first | (go_at_call 55; refine (hn.out _).mono ?_; rintro e w1 ⟨rfl, hb⟩; obtain ⟨hce, hfr⟩ := bcell hb; have hsz := hb.size; simp only [World.size_alloc] at hsz; obtain ⟨hz4, hzf⟩ := zeros hb; have z0 := (hz4 0 (by omega)).1; have z1 := (hz4 1 (by omega)).1; have z2 := (hz4 2 (by omega)).1; have z3 := (hz4 3 (by omega)).1; have zf := fun i => (hzf i).1; clear hz4 hzf) | (go_at_call 35; refine (hof.out _).mono ?_; rintro e w' ⟨rfl, rfl⟩) | (go_at_call 56; refine (args_any _ _).mono ?_; rintro e w' ⟨rfl, rfl⟩; rw [show argsI 2 = 2 from rfl]))
  all_goals
    have hbel : Below w.heap.size w w1 := below_box hb
    skip
    exact bodyPost_ret (v := .tuple #[instrV kn 0 0 0, .int .i64 28]) (by simp [results, Tryd.results23, go_sem, *]) rfl ⟨_, _, _, rfl, fun h => (by cases h), below_end1 hbel _ _ _ _ _⟩
set_option maxHeartbeats 2000000 in
theorem instr_3_args (n : Nat) (X m : Nat) (pl : Places) (kn : Nat) (h : Bs) (b o c : Nat) (w : World) (at_ : Int)
    (hn : Hid (∀ w, Calls Tryd.prog 55 #[bsV h] w fun e w' => e = .returned (.tuple #[.int .u8 kn, .bool true]) ∧ Below w.heap.size w w'))
    (hof : Hid (∀ w, Calls Tryd.prog 35 #[.int .u8 kn] w fun e w' => e = .returned (.tuple #[.int .u8 3, .bool true]) ∧ w = w'))
    (h0 : w.cell? ⟨b, o, none⟩ = some (bsV h)) (hc : n + 1 ≤ c) (hne : ((n : Int) != 3) = true) (hnb : n < 1000000000) :
    Calls Tryd.prog 23 #[.pointer (some ⟨X, 0, none⟩), .slice (some ⟨b, o, none⟩) (n + 1) c, .int .i64 at_] w (FE kn [] 28 w) := by
  have hmm := @run_makeMap Tryd.prog
  have i0 := ins0; have i1 := ins1; have i2 := ins2; have i3 := ins3; have i4 := ins4; have i5 := ins5
  have lk := look_any 3
  rw [show manyI 3 = 3 from rfl] at lk
  have hbl : b < w.heap.size := block_lt_of_cell h0
  go_enter Tryd.func23, Tryd.ntmps23
  go_wp2_with (first | (go_at_call 55; refine (hn.out _).mono ?_; rintro e w1 ⟨rfl, hb⟩; obtain ⟨hce, hfr⟩ := bcell hb; have hsz := hb.size; simp only [World.size_alloc] at hsz; obtain ⟨hz4, hzf⟩ := zeros hb; have z0 := (hz4 0 (by omega)).1; have z1 := (hz4 1 (by omega)).1; have z2 := (hz4 2 (by omega)).1; have z3 := (hz4 3 (by omega)).1; have zf := fun i => (hzf i).1; clear hz4 hzf) | (go_at_call 35; refine (hof.out _).mono ?_; rintro e w' ⟨rfl, rfl⟩) | (go_at_call 56; refine (args_any _ _).mono ?_; rintro e w' ⟨rfl, rfl⟩; rw [show argsI 3 = 3 from rfl]))
  all_goals
    have hbel : Below w.heap.size w w1 := below_box hb
    skip
    exact bodyPost_ret (v := .tuple #[instrV kn 0 0 0, .int .i64 28]) (by simp [results, Tryd.results23, go_sem, *]) rfl ⟨_, _, _, rfl, fun h => (by cases h), below_end1 hbel _ _ _ _ _⟩
set_option maxHeartbeats 2000000 in
theorem instr_4_args (n : Nat) (X m : Nat) (pl : Places) (kn : Nat) (h : Bs) (b o c : Nat) (w : World) (at_ : Int)
    (hn : Hid (∀ w, Calls Tryd.prog 55 #[bsV h] w fun e w' => e = .returned (.tuple #[.int .u8 kn, .bool true]) ∧ Below w.heap.size w w'))
    (hof : Hid (∀ w, Calls Tryd.prog 35 #[.int .u8 kn] w fun e w' => e = .returned (.tuple #[.int .u8 4, .bool true]) ∧ w = w'))
    (h0 : w.cell? ⟨b, o, none⟩ = some (bsV h)) (hc : n + 1 ≤ c) (hne : ((n : Int) != 3) = true) (hnb : n < 1000000000) :
    Calls Tryd.prog 23 #[.pointer (some ⟨X, 0, none⟩), .slice (some ⟨b, o, none⟩) (n + 1) c, .int .i64 at_] w (FE kn [] 28 w) := by
  have hmm := @run_makeMap Tryd.prog
  have i0 := ins0; have i1 := ins1; have i2 := ins2; have i3 := ins3; have i4 := ins4; have i5 := ins5
  have lk := look_any 4
  rw [show manyI 4 = 2 from rfl] at lk
  have hbl : b < w.heap.size := block_lt_of_cell h0
  go_enter Tryd.func23, Tryd.ntmps23
  go_wp2_with (first | (go_at_call 55; refine (hn.out _).mono ?_; rintro e w1 ⟨rfl, hb⟩; obtain ⟨hce, hfr⟩ := bcell hb; have hsz := hb.size; simp only [World.size_alloc] at hsz; obtain ⟨hz4, hzf⟩ := zeros hb; have z0 := (hz4 0 (by omega)).1; have z1 := (hz4 1 (by omega)).1; have z2 := (hz4 2 (by omega)).1; have z3 := (hz4 3 (by omega)).1; have zf := fun i => (hzf i).1; clear hz4 hzf) | (go_at_call 35; refine (hof.out _).mono ?_; rintro e w' ⟨rfl, rfl⟩) | (go_at_call 56; refine (args_any _ _).mono ?_; rintro e w' ⟨rfl, rfl⟩; rw [show argsI 4 = 3 from rfl]))
  all_goals
    have hbel : Below w.heap.size w w1 := below_box hb
    skip
    exact bodyPost_ret (v := .tuple #[instrV kn 0 0 0, .int .i64 28]) (by simp [results, Tryd.results23, go_sem, *]) rfl ⟨_, _, _, rfl, fun h => (by cases h), below_end1 hbel _ _ _ _ _⟩
set_option maxHeartbeats 2000000 in
theorem instr_5_args (n : Nat) (X m : Nat) (pl : Places) (kn : Nat) (h : Bs) (b o c : Nat) (w : World) (at_ : Int)
    (hn : Hid (∀ w, Calls Tryd.prog 55 #[bsV h] w fun e w' => e = .returned (.tuple #[.int .u8 kn, .bool true]) ∧ Below w.heap.size w w'))
    (hof : Hid (∀ w, Calls Tryd.prog 35 #[.int .u8 kn] w fun e w' => e = .returned (.tuple #[.int .u8 5, .bool true]) ∧ w = w'))
    (h0 : w.cell? ⟨b, o, none⟩ = some (bsV h)) (hc : n + 1 ≤ c) (hne : ((n : Int) != 2) = true) (hnb : n < 1000000000) :
    Calls Tryd.prog 23 #[.pointer (some ⟨X, 0, none⟩), .slice (some ⟨b, o, none⟩) (n + 1) c, .int .i64 at_] w (FE kn [] 28 w) := by
  have hmm := @run_makeMap Tryd.prog
  have i0 := ins0; have i1 := ins1; have i2 := ins2; have i3 := ins3; have i4 := ins4; have i5 := ins5
  have lk := look_any 5
  rw [show manyI 5 = 1 from rfl] at lk
  have hbl : b < w.heap.size := block_lt_of_cell h0
  go_enter Tryd.func23, Tryd.ntmps23
  go_wp2_with (first | (go_at_call 55; refine (hn.out _).mono ?_; rintro e w1 ⟨rfl, hb⟩; obtain ⟨hce, hfr⟩ := bcell hb; have hsz := hb.size; simp only [World.size_alloc] at hsz; obtain ⟨hz4, hzf⟩ := zeros hb; have z0 := (hz4 0 (by omega)).1; have z1 := (hz4 1 (by omega)).1; have z2 := (hz4 2 (by omega)).1; have z3 := (hz4 3 (by omega)).1; have zf := fun i => (hzf i).1; clear hz4 hzf) | (go_at_call 35; refine (hof.out _).mono ?_; rintro e w' ⟨rfl, rfl⟩) | (go_at_call 56; refine (args_any _ _).mono ?_; rintro e w' ⟨rfl, rfl⟩; rw [show argsI 5 = 2 from rfl]))
  all_goals
    have hbel : Below w.heap.size w w1 := below_box hb
    skip
    exact bodyPost_ret (v := .tuple #[instrV kn 0 0 0, .int .i64 28]) (by simp [results, Tryd.results23, go_sem, *]) rfl ⟨_, _, _, rfl, fun h => (by cases h), below_end1 hbel _ _ _ _ _⟩
set_option maxHeartbeats 2000000 in
theorem instr_6_args (n : Nat) (X m : Nat) (pl : Places) (kn : Nat) (h : Bs) (b o c : Nat) (w : World) (at_ : Int)
    (hn : Hid (∀ w, Calls Tryd.prog 55 #[bsV h] w fun e w' => e = .returned (.tuple #[.int .u8 kn, .bool true]) ∧ Below w.heap.size w w'))
    (hof : Hid (∀ w, Calls Tryd.prog 35 #[.int .u8 kn] w fun e w' => e = .returned (.tuple #[.int .u8 6, .bool true]) ∧ w = w'))
    (h0 : w.cell? ⟨b, o, none⟩ = some (bsV h)) (hc : n + 1 ≤ c) (hne : ((n : Int) != 1) = true) (hnb : n < 1000000000) :
    Calls Tryd.prog 23 #[.pointer (some ⟨X, 0, none⟩), .slice (some ⟨b, o, none⟩) (n + 1) c, .int .i64 at_] w (FE kn [] 28 w) := by
  have hmm := @run_makeMap Tryd.prog
  have i0 := ins0; have i1 := ins1; have i2 := ins2; have i3 := ins3; have i4 := ins4; have i5 := ins5
  have lk := look_any 6
  rw [show manyI 6 = 0 from rfl] at lk
  have hbl : b < w.heap.size := block_lt_of_cell h0
  go_enter Tryd.func23, Tryd.ntmps23
  go_wp2_with (first | (go_at_call 55; refine (hn.out _).mono ?_; rintro e w1 ⟨rfl, hb⟩; obtain ⟨hce, hfr⟩ := bcell hb; have hsz := hb.size; simp only [World.size_alloc] at hsz; obtain ⟨hz4, hzf⟩ := zeros hb; have z0 := (hz4 0 (by omega)).1; have z1 := (hz4 1 (by omega)).1; have z2 := (hz4 2 (by omega)).1; have z3 := (hz4 3 (by omega)).1; have zf := fun i => (hzf i).1; clear hz4 hzf) | (go_at_call 35; refine (hof.out _).mono ?_; rintro e w' ⟨rfl, rfl⟩) | (go_at_call 56; refine (args_any _ _).mono ?_; rintro e w' ⟨rfl, rfl⟩; rw [show argsI 6 = 1 from rfl]))
  all_goals
    have hbel : Below w.heap.size w w1 := below_box hb
    skip
    exact bodyPost_ret (v := .tuple #[instrV kn 0 0 0, .int .i64 28]) (by simp [results, Tryd.results23, go_sem, *]) rfl ⟨_, _, _, rfl, fun h => (by cases h), below_end1 hbel _ _ _ _ _⟩
set_option maxHeartbeats 2000000 in
theorem instr_7_args (n : Nat) (X m : Nat) (pl : Places) (kn : Nat) (h : Bs) (b o c : Nat) (w : World) (at_ : Int)
    (hn : Hid (∀ w, Calls Tryd.prog 55 #[bsV h] w fun e w' => e = .returned (.tuple #[.int .u8 kn, .bool true]) ∧ Below w.heap.size w w'))
    (hof : Hid (∀ w, Calls Tryd.prog 35 #[.int .u8 kn] w fun e w' => e = .returned (.tuple #[.int .u8 7, .bool true]) ∧ w = w'))
    (h0 : w.cell? ⟨b, o, none⟩ = some (bsV h)) (hc : n + 1 ≤ c) (hne : ((n : Int) != 3) = true) (hnb : n < 1000000000) :
    Calls Tryd.prog 23 #[.pointer (some ⟨X, 0, none⟩), .slice (some ⟨b, o, none⟩) (n + 1) c, .int .i64 at_] w (FE kn [] 28 w) := by
  have hmm := @run_makeMap Tryd.prog
  have i0 := ins0; have i1 := ins1; have i2 := ins2; have i3 := ins3; have i4 := ins4; have i5 := ins5
  have lk := look_any 7
  rw [show manyI 7 = 2 from rfl] at lk
  have hbl : b < w.heap.size := block_lt_of_cell h0
  go_enter Tryd.func23, Tryd.ntmps23
  go_wp2_with (first | (go_at_call 55; refine (hn.out _).mono ?_; rintro e w1 ⟨rfl, hb⟩; obtain ⟨hce, hfr⟩ := bcell hb; have hsz := hb.size; simp only [World.size_alloc] at hsz; obtain ⟨hz4, hzf⟩ := zeros hb; have z0 := (hz4 0 (by omega)).1; have z1 := (hz4 1 (by omega)).1; have z2 := (hz4 2 (by omega)).1; have z3 := (hz4 3 (by omega)).1; have zf := fun i => (hzf i).1; clear hz4 hzf) | (go_at_call 35; refine (hof.out _).mono ?_; rintro e w' ⟨rfl, rfl⟩) | (go_at_call 56; refine (args_any _ _).mono ?_; rintro e w' ⟨rfl, rfl⟩; rw [show argsI 7 = 3 from rfl]) | (go_at_call 34; refine (check_any _ _ _ _ _).mono ?_; rintro e w2 ⟨rfl, hb2⟩; obtain ⟨hce2, hfr2⟩ := bcell hb2; have y0 := (hce2 w.heap.size 0 (by simp; omega)).trans (z0 _ _ _); have y1 := (hce2 w.heap.size 1 (by simp; omega)).trans (z1 _ _ _); have y2 := (hce2 w.heap.size 2 (by simp; omega)).trans (z2 _ _ _); have y3 := (hce2 w.heap.size 3 (by simp; omega)).trans (z3 _ _ _); have yf := fun i => (hfr2 w.heap.size i (by simp; omega)).trans (zf i _ _ _)))
  all_goals
    have hbel : Below w.heap.size w w1 := below_box hb
    skip
    exact bodyPost_ret (v := .tuple #[instrV kn 0 0 0, .int .i64 28]) (by simp [results, Tryd.results23, go_sem, *]) rfl ⟨_, _, _, rfl, fun h => (by cases h), below_end1 hbel _ _ _ _ _⟩
set_option maxHeartbeats 2000000 in
theorem instr_8_args (n : Nat) (X m : Nat) (pl : Places) (kn : Nat) (h : Bs) (b o c : Nat) (w : World) (at_ : Int)
    (hn : Hid (∀ w, Calls Tryd.prog 55 #[bsV h] w fun e w' => e = .returned (.tuple #[.int .u8 kn, .bool true]) ∧ Below w.heap.size w w'))
    (hof : Hid (∀ w, Calls Tryd.prog 35 #[.int .u8 kn] w fun e w' => e = .returned (.tuple #[.int .u8 8, .bool true]) ∧ w = w'))
    (h0 : w.cell? ⟨b, o, none⟩ = some (bsV h)) (hc : n + 1 ≤ c) (hne : ((n : Int) != 1) = true) (hnb : n < 1000000000) :
    Calls Tryd.prog 23 #[.pointer (some ⟨X, 0, none⟩), .slice (some ⟨b, o, none⟩) (n + 1) c, .int .i64 at_] w (FE kn [] 28 w) := by
  have hmm := @run_makeMap Tryd.prog
  have i0 := ins0; have i1 := ins1; have i2 := ins2; have i3 := ins3; have i4 := ins4; have i5 := ins5
  have lk := look_any 8
  rw [show manyI 8 = 0 from rfl] at lk
  have hbl : b < w.heap.size := block_lt_of_cell h0
  go_enter Tryd.func23, Tryd.ntmps23
  go_wp2_with (first | (go_at_call 55; refine (hn.out _).mono ?_; rintro e w1 ⟨rfl, hb⟩; obtain ⟨hce, hfr⟩ := bcell hb; have hsz := hb.size; simp only [World.size_alloc] at hsz; obtain ⟨hz4, hzf⟩ := zeros hb; have z0 := (hz4 0 (by omega)).1; have z1 := (hz4 1 (by omega)).1; have z2 := (hz4 2 (by omega)).1; have z3 := (hz4 3 (by omega)).1; have zf := fun i => (hzf i).1; clear hz4 hzf) | (go_at_call 35; refine (hof.out _).mono ?_; rintro e w' ⟨rfl, rfl⟩) | (go_at_call 56; refine (args_any _ _).mono ?_; rintro e w' ⟨rfl, rfl⟩; rw [show argsI 8 = 1 from rfl]))
  all_goals
    have hbel : Below w.heap.size w w1 := below_box hb
    skip
    exact bodyPost_ret (v := .tuple #[instrV kn 0 0 0, .int .i64 28]) (by simp [results, Tryd.results23, go_sem, *]) rfl ⟨_, _, _, rfl, fun h => (by cases h), below_end1 hbel _ _ _ _ _⟩
set_option maxHeartbeats 2000000 in
theorem instr_4_val (X m : Nat) (pl : Places) (kn : Nat) (h : Bs) (b o c : Nat) (w : World) (at_ : Int)
    (hn : Hid (∀ w, Calls Tryd.prog 55 #[bsV h] w fun e w' => e = .returned (.tuple #[.int .u8 kn, .bool true]) ∧ Below w.heap.size w w'))
    (hof : Hid (∀ w, Calls Tryd.prog 35 #[.int .u8 kn] w fun e w' => e = .returned (.tuple #[.int .u8 4, .bool true]) ∧ w = w'))
    (h0 : w.cell? ⟨b, o, none⟩ = some (bsV h)) (hc : 4 ≤ c)
    (s0 : Bs) (hs0 : w.cell? ⟨b, o + 1, none⟩ = some (bsV s0)) (r0 : Int) (hr0 : Hid (∀ w, Calls Tryd.prog 57 #[bsV s0] w fun e w' => e = .returned (.tuple #[.int .u8 r0, .bool true]) ∧ w = w'))
    (s1 : Bs) (hs1 : w.cell? ⟨b, o + 1 + 1, none⟩ = some (bsV s1)) (r1 : Int) (hr1 : Hid (∀ w, Calls Tryd.prog 57 #[bsV s1] w fun e w' => e = .returned (.tuple #[.int .u8 r1, .bool true]) ∧ w = w'))
    (s : Bs) (hs : w.cell? ⟨b, o + 1 + 2, none⟩ = some (bsV s)) (n er : Int) (hnb : -999999 ≤ n ∧ n ≤ 999999)
    (hv : Hid (∀ w', Below w.heap.size w w' → Calls Tryd.prog 53 #[.pointer (some ⟨X, 0, none⟩), bsV s, .int .i64 (-128), .int .i64 127] w' fun e w'' => e = .returned (.tuple #[.int .i64 n, .int .i64 er]) ∧ w' = w'')) :
    Calls Tryd.prog 23 #[.pointer (some ⟨X, 0, none⟩), .slice (some ⟨b, o, none⟩) 4 c, .int .i64 at_] w (FE kn [kn, r0, r1, n % 256] er w) := by
  have hmm := @run_makeMap Tryd.prog
  have i0 := ins0; have i1 := ins1; have i2 := ins2; have i3 := ins3; have i4 := ins4; have i5 := ins5
  have lk := look_any 4
  rw [show manyI 4 = 2 from rfl] at lk
  have hbl : b < w.heap.size := block_lt_of_cell h0
  have hwr : IntKind.u8.wrap n = n % 256 := by simp [IntKind.wrap, IntKind.bits, IntKind.signed]
  go_enter Tryd.func23, Tryd.ntmps23
  go_wp2_with (first | (go_at_call 55; refine (hn.out _).mono ?_; rintro e w1 ⟨rfl, hb⟩; obtain ⟨hce, hfr⟩ := bcell hb; have hsz := hb.size; simp only [World.size_alloc] at hsz; obtain ⟨hz4, hzf⟩ := zeros hb; have z0 := (hz4 0 (by omega)).2; have z1 := (hz4 1 (by omega)).2; have z2 := (hz4 2 (by omega)).2; have z3 := (hz4 3 (by omega)).2; have zf := fun i => (hzf i).2; clear hz4 hzf; have q0 := third hb hs0; have q1 := third hb hs1; have qs := third hb hs) | (go_at_call 35; refine (hof.out _).mono ?_; rintro e w' ⟨rfl, rfl⟩) | (go_at_call 56; refine (args_any _ _).mono ?_; rintro e w' ⟨rfl, rfl⟩; rw [show argsI 4 = 3 from rfl]) | (go_at_call 57; first | ((with_reducible refine (hr0.out _).mono ?_); rintro e w' ⟨rfl, rfl⟩) | ((with_reducible refine (hr1.out _).mono ?_); rintro e w' ⟨rfl, rfl⟩)) | (go_at_call 53; refine (hv.out _ (below3 hb _ _ _)).mono ?_; rintro e w' ⟨rfl, rfl⟩))
  all_goals refine wp_loop_rounds 3 ?_
  all_goals rw [rounds_succ]
  all_goals go_wp2_with (first | (go_at_call 55; refine (hn.out _).mono ?_; rintro e w1 ⟨rfl, hb⟩; obtain ⟨hce, hfr⟩ := bcell hb; have hsz := hb.size; simp only [World.size_alloc] at hsz; obtain ⟨hz4, hzf⟩ := zeros hb; have z0 := (hz4 0 (by omega)).2; have z1 := (hz4 1 (by omega)).2; have z2 := (hz4 2 (by omega)).2; have z3 := (hz4 3 (by omega)).2; have zf := fun i => (hzf i).2; clear hz4 hzf; have q0 := third hb hs0; have q1 := third hb hs1; have qs := third hb hs) | (go_at_call 35; refine (hof.out _).mono ?_; rintro e w' ⟨rfl, rfl⟩) | (go_at_call 56; refine (args_any _ _).mono ?_; rintro e w' ⟨rfl, rfl⟩; rw [show argsI 4 = 3 from rfl]) | (go_at_call 57; first | ((with_reducible refine (hr0.out _).mono ?_); rintro e w' ⟨rfl, rfl⟩) | ((with_reducible refine (hr1.out _).mono ?_); rintro e w' ⟨rfl, rfl⟩)) | (go_at_call 53; refine (hv.out _ (below3 hb _ _ _)).mono ?_; rintro e w' ⟨rfl, rfl⟩))
  all_goals rw [rounds_succ]
  all_goals go_wp2_with (first | (go_at_call 55; refine (hn.out _).mono ?_; rintro e w1 ⟨rfl, hb⟩; obtain ⟨hce, hfr⟩ := bcell hb; have hsz := hb.size; simp only [World.size_alloc] at hsz; obtain ⟨hz4, hzf⟩ := zeros hb; have z0 := (hz4 0 (by omega)).2; have z1 := (hz4 1 (by omega)).2; have z2 := (hz4 2 (by omega)).2; have z3 := (hz4 3 (by omega)).2; have zf := fun i => (hzf i).2; clear hz4 hzf; have q0 := third hb hs0; have q1 := third hb hs1; have qs := third hb hs) | (go_at_call 35; refine (hof.out _).mono ?_; rintro e w' ⟨rfl, rfl⟩) | (go_at_call 56; refine (args_any _ _).mono ?_; rintro e w' ⟨rfl, rfl⟩; rw [show argsI 4 = 3 from rfl]) | (go_at_call 57; first | ((with_reducible refine (hr0.out _).mono ?_); rintro e w' ⟨rfl, rfl⟩) | ((with_reducible refine (hr1.out _).mono ?_); rintro e w' ⟨rfl, rfl⟩)) | (go_at_call 53; refine (hv.out _ (below3 hb _ _ _)).mono ?_; rintro e w' ⟨rfl, rfl⟩))
  all_goals rw [rounds_succ]
  all_goals go_wp2_with (first | (go_at_call 55; refine (hn.out _).mono ?_; rintro e w1 ⟨rfl, hb⟩; obtain ⟨hce, hfr⟩ := bcell hb; have hsz := hb.size; simp only [World.size_alloc] at hsz; obtain ⟨hz4, hzf⟩ := zeros hb; have z0 := (hz4 0 (by omega)).2; have z1 := (hz4 1 (by omega)).2; have z2 := (hz4 2 (by omega)).2; have z3 := (hz4 3 (by omega)).2; have zf := fun i => (hzf i).2; clear hz4 hzf; have q0 := third hb hs0; have q1 := third hb hs1; have qs := third hb hs) | (go_at_call 35; refine (hof.out _).mono ?_; rintro e w' ⟨rfl, rfl⟩) | (go_at_call 56; refine (args_any _ _).mono ?_; rintro e w' ⟨rfl, rfl⟩; rw [show argsI 4 = 3 from rfl]) | (go_at_call 57; first | ((with_reducible refine (hr0.out _).mono ?_); rintro e w' ⟨rfl, rfl⟩) | ((with_reducible refine (hr1.out _).mono ?_); rintro e w' ⟨rfl, rfl⟩)) | (go_at_call 53; refine (hv.out _ (below3 hb _ _ _)).mono ?_; rintro e w' ⟨rfl, rfl⟩))
  all_goals
    have hbel : Below w.heap.size w w1 := below_box hb
    skip
    exact bodyPost_ret (v := .tuple #[instrV kn r0 r1 (n % 256), .int .i64 er]) (by simp [results, Tryd.results23, go_sem, *]) rfl ⟨_, _, _, rfl, fun _ => rfl, below_end hbel _ _ _ _ _ _ _⟩
set_option maxHeartbeats 2000000 in
theorem instr_8_val (X m : Nat) (pl : Places) (kn : Nat) (h : Bs) (b o c : Nat) (w : World) (at_ : Int)
    (hn : Hid (∀ w, Calls Tryd.prog 55 #[bsV h] w fun e w' => e = .returned (.tuple #[.int .u8 kn, .bool true]) ∧ Below w.heap.size w w'))
    (hof : Hid (∀ w, Calls Tryd.prog 35 #[.int .u8 kn] w fun e w' => e = .returned (.tuple #[.int .u8 8, .bool true]) ∧ w = w'))
    (h0 : w.cell? ⟨b, o, none⟩ = some (bsV h)) (hc : 2 ≤ c)
    (s : Bs) (hs : w.cell? ⟨b, o + 1, none⟩ = some (bsV s)) (n er : Int) (hnb : -999999 ≤ n ∧ n ≤ 999999)
    (hv : Hid (∀ w', Below w.heap.size w w' → Calls Tryd.prog 53 #[.pointer (some ⟨X, 0, none⟩), bsV s, .int .i64 (0), .int .i64 255] w' fun e w'' => e = .returned (.tuple #[.int .i64 n, .int .i64 er]) ∧ w' = w'')) :
    Calls Tryd.prog 23 #[.pointer (some ⟨X, 0, none⟩), .slice (some ⟨b, o, none⟩) 2 c, .int .i64 at_] w (FE kn [kn, 0, n % 256, 0] er w) := by
  have hmm := @run_makeMap Tryd.prog
  have i0 := ins0; have i1 := ins1; have i2 := ins2; have i3 := ins3; have i4 := ins4; have i5 := ins5
  have lk := look_any 8
  rw [show manyI 8 = 0 from rfl] at lk
  have hbl : b < w.heap.size := block_lt_of_cell h0
  have hwr : IntKind.u8.wrap n = n % 256 := by simp [IntKind.wrap, IntKind.bits, IntKind.signed]
  go_enter Tryd.func23, Tryd.ntmps23
  go_wp2_with (first | (go_at_call 55; refine (hn.out _).mono ?_; rintro e w1 ⟨rfl, hb⟩; obtain ⟨hce, hfr⟩ := bcell hb; have hsz := hb.size; simp only [World.size_alloc] at hsz; obtain ⟨hz4, hzf⟩ := zeros hb; have z0 := (hz4 0 (by omega)).2; have z1 := (hz4 1 (by omega)).2; have z2 := (hz4 2 (by omega)).2; have z3 := (hz4 3 (by omega)).2; have zf := fun i => (hzf i).2; clear hz4 hzf; have qs := third hb hs) | (go_at_call 35; refine (hof.out _).mono ?_; rintro e w' ⟨rfl, rfl⟩) | (go_at_call 56; refine (args_any _ _).mono ?_; rintro e w' ⟨rfl, rfl⟩; rw [show argsI 8 = 1 from rfl]) | (go_at_call 53; refine (hv.out _ (below3 hb _ _ _)).mono ?_; rintro e w' ⟨rfl, rfl⟩))
  all_goals refine wp_loop_rounds 1 ?_
  all_goals rw [rounds_succ]
  all_goals go_wp2_with (first | (go_at_call 55; refine (hn.out _).mono ?_; rintro e w1 ⟨rfl, hb⟩; obtain ⟨hce, hfr⟩ := bcell hb; have hsz := hb.size; simp only [World.size_alloc] at hsz; obtain ⟨hz4, hzf⟩ := zeros hb; have z0 := (hz4 0 (by omega)).2; have z1 := (hz4 1 (by omega)).2; have z2 := (hz4 2 (by omega)).2; have z3 := (hz4 3 (by omega)).2; have zf := fun i => (hzf i).2; clear hz4 hzf; have qs := third hb hs) | (go_at_call 35; refine (hof.out _).mono ?_; rintro e w' ⟨rfl, rfl⟩) | (go_at_call 56; refine (args_any _ _).mono ?_; rintro e w' ⟨rfl, rfl⟩; rw [show argsI 8 = 1 from rfl]) | (go_at_call 53; refine (hv.out _ (below3 hb _ _ _)).mono ?_; rintro e w' ⟨rfl, rfl⟩))
  all_goals
    have hbel : Below w.heap.size w w1 := below_box hb
    skip
    exact bodyPost_ret (v := .tuple #[instrV kn 0 (n % 256) 0, .int .i64 er]) (by simp [results, Tryd.results23, go_sem, *]) rfl ⟨_, _, _, rfl, fun _ => rfl, below_end hbel _ _ _ _ _ _ _⟩
set_option maxHeartbeats 2000000 in
theorem instr_7_valok (X m : Nat) (pl : Places) (kn : Nat) (h : Bs) (b o c : Nat) (w : World) (at_ : Int)
    (hn : Hid (∀ w, Calls Tryd.prog 55 #[bsV h] w fun e w' => e = .returned (.tuple #[.int .u8 kn, .bool true]) ∧ Below w.heap.size w w'))
    (hof : Hid (∀ w, Calls Tryd.prog 35 #[.int .u8 kn] w fun e w' => e = .returned (.tuple #[.int .u8 7, .bool true]) ∧ w = w'))
    (h0 : w.cell? ⟨b, o, none⟩ = some (bsV h)) (hc : 4 ≤ c)
    (s0 : Bs) (hs0 : w.cell? ⟨b, o + 1, none⟩ = some (bsV s0)) (r0 : Int) (hr0 : Hid (∀ w, Calls Tryd.prog 57 #[bsV s0] w fun e w' => e = .returned (.tuple #[.int .u8 r0, .bool true]) ∧ w = w'))
    (s1 : Bs) (hs1 : w.cell? ⟨b, o + 1 + 1, none⟩ = some (bsV s1)) (r1 : Int) (hr1 : Hid (∀ w, Calls Tryd.prog 57 #[bsV s1] w fun e w' => e = .returned (.tuple #[.int .u8 r1, .bool true]) ∧ w = w'))
    (s : Bs) (hs : w.cell? ⟨b, o + 1 + 2, none⟩ = some (bsV s)) (n er : Int) (hnb : -999999 ≤ n ∧ n ≤ 999999)
    (hv : Hid (∀ w', Below w.heap.size w w' → Calls Tryd.prog 53 #[.pointer (some ⟨X, 0, none⟩), bsV s, .int .i64 (8), .int .i64 16] w' fun e w'' => e = .returned (.tuple #[.int .i64 n, .int .i64 er]) ∧ w' = w'')) (her : (er == 0) = true) :
    Calls Tryd.prog 23 #[.pointer (some ⟨X, 0, none⟩), .slice (some ⟨b, o, none⟩) 4 c, .int .i64 at_] w (FE kn [kn, r0, r1, n % 256] (checkI kn r0 r1 (n % 256)) w) := by
  have hmm := @run_makeMap Tryd.prog
  have i0 := ins0; have i1 := ins1; have i2 := ins2; have i3 := ins3; have i4 := ins4; have i5 := ins5
  have lk := look_any 7
  rw [show manyI 7 = 2 from rfl] at lk
  have hbl : b < w.heap.size := block_lt_of_cell h0
  have hwr : IntKind.u8.wrap n = n % 256 := by simp [IntKind.wrap, IntKind.bits, IntKind.signed]
  go_enter Tryd.func23, Tryd.ntmps23
  go_wp2_with (first | (go_at_call 55; refine (hn.out _).mono ?_; rintro e w1 ⟨rfl, hb⟩; obtain ⟨hce, hfr⟩ := bcell hb; have hsz := hb.size; simp only [World.size_alloc] at hsz; obtain ⟨hz4, hzf⟩ := zeros hb; have z0 := (hz4 0 (by omega)).2; have z1 := (hz4 1 (by omega)).2; have z2 := (hz4 2 (by omega)).2; have z3 := (hz4 3 (by omega)).2; have zf := fun i => (hzf i).2; clear hz4 hzf; have q0 := third hb hs0; have q1 := third hb hs1; have qs := third hb hs) | (go_at_call 35; refine (hof.out _).mono ?_; rintro e w' ⟨rfl, rfl⟩) | (go_at_call 56; refine (args_any _ _).mono ?_; rintro e w' ⟨rfl, rfl⟩; rw [show argsI 7 = 3 from rfl]) | (go_at_call 57; first | ((with_reducible refine (hr0.out _).mono ?_); rintro e w' ⟨rfl, rfl⟩) | ((with_reducible refine (hr1.out _).mono ?_); rintro e w' ⟨rfl, rfl⟩)) | (go_at_call 53; refine (hv.out _ (below3 hb _ _ _)).mono ?_; rintro e w' ⟨rfl, rfl⟩) | (go_at_call 34; refine (check_any _ _ _ _ _).mono ?_; rintro e w2 ⟨rfl, hb2⟩; obtain ⟨hce2, hfr2⟩ := bcell hb2; have y0 := (hce2 w.heap.size 0 (by simp; omega)).trans (z0 _ _ _); have y1 := (hce2 w.heap.size 1 (by simp; omega)).trans (z1 _ _ _); have y2 := (hce2 w.heap.size 2 (by simp; omega)).trans (z2 _ _ _); have y3 := (hce2 w.heap.size 3 (by simp; omega)).trans (z3 _ _ _); have yf := fun i => (hfr2 w.heap.size i (by simp; omega)).trans (zf i _ _ _)))
  all_goals refine wp_loop_rounds 3 ?_
  all_goals rw [rounds_succ]
  all_goals go_wp2_with (first | (go_at_call 55; refine (hn.out _).mono ?_; rintro e w1 ⟨rfl, hb⟩; obtain ⟨hce, hfr⟩ := bcell hb; have hsz := hb.size; simp only [World.size_alloc] at hsz; obtain ⟨hz4, hzf⟩ := zeros hb; have z0 := (hz4 0 (by omega)).2; have z1 := (hz4 1 (by omega)).2; have z2 := (hz4 2 (by omega)).2; have z3 := (hz4 3 (by omega)).2; have zf := fun i => (hzf i).2; clear hz4 hzf; have q0 := third hb hs0; have q1 := third hb hs1; have qs := third hb hs) | (go_at_call 35; refine (hof.out _).mono ?_; rintro e w' ⟨rfl, rfl⟩) | (go_at_call 56; refine (args_any _ _).mono ?_; rintro e w' ⟨rfl, rfl⟩; rw [show argsI 7 = 3 from rfl]) | (go_at_call 57; first | ((with_reducible refine (hr0.out _).mono ?_); rintro e w' ⟨rfl, rfl⟩) | ((with_reducible refine (hr1.out _).mono ?_); rintro e w' ⟨rfl, rfl⟩)) | (go_at_call 53; refine (hv.out _ (below3 hb _ _ _)).mono ?_; rintro e w' ⟨rfl, rfl⟩) | (go_at_call 34; refine (check_any _ _ _ _ _).mono ?_; rintro e w2 ⟨rfl, hb2⟩; obtain ⟨hce2, hfr2⟩ := bcell hb2; have y0 := (hce2 w.heap.size 0 (by simp; omega)).trans (z0 _ _ _); have y1 := (hce2 w.heap.size 1 (by simp; omega)).trans (z1 _ _ _); have y2 := (hce2 w.heap.size 2 (by simp; omega)).trans (z2 _ _ _); have y3 := (hce2 w.heap.size 3 (by simp; omega)).trans (z3 _ _ _); have yf := fun i => (hfr2 w.heap.size i (by simp; omega)).trans (zf i _ _ _)))
  all_goals rw [rounds_succ]
  all_goals go_wp2_with (first | (go_at_call 55; refine (hn.out _).mono ?_; rintro e w1 ⟨rfl, hb⟩; obtain ⟨hce, hfr⟩ := bcell hb; have hsz := hb.size; simp only [World.size_alloc] at hsz; obtain ⟨hz4, hzf⟩ := zeros hb; have z0 := (hz4 0 (by omega)).2; have z1 := (hz4 1 (by omega)).2; have z2 := (hz4 2 (by omega)).2; have z3 := (hz4 3 (by omega)).2; have zf := fun i => (hzf i).2; clear hz4 hzf; have q0 := third hb hs0; have q1 := third hb hs1; have qs := third hb hs) | (go_at_call 35; refine (hof.out _).mono ?_; rintro e w' ⟨rfl, rfl⟩) | (go_at_call 56; refine (args_any _ _).mono ?_; rintro e w' ⟨rfl, rfl⟩; rw [show argsI 7 = 3 from rfl]) | (go_at_call 57; first | ((with_reducible refine (hr0.out _).mono ?_); rintro e w' ⟨rfl, rfl⟩) | ((with_reducible refine (hr1.out _).mono ?_); rintro e w' ⟨rfl, rfl⟩)) | (go_at_call 53; refine (hv.out _ (below3 hb _ _ _)).mono ?_; rintro e w' ⟨rfl, rfl⟩) | (go_at_call 34; refine (check_any _ _ _ _ _).mono ?_; rintro e w2 ⟨rfl, hb2⟩; obtain ⟨hce2, hfr2⟩ := bcell hb2; have y0 := (hce2 w.heap.size 0 (by simp; omega)).trans (z0 _ _ _); have y1 := (hce2 w.heap.size 1 (by simp; omega)).trans (z1 _ _ _); have y2 := (hce2 w.heap.size 2 (by simp; omega)).trans (z2 _ _ _); have y3 := (hce2 w.heap.size 3 (by simp; omega)).trans (z3 _ _ _); have yf := fun i => (hfr2 w.heap.size i (by simp; omega)).trans (zf i _ _ _)))
  all_goals rw [rounds_succ]
  all_goals go_wp2_with (first | (go_at_call 55; refine (hn.out _).mono ?_; rintro e w1 ⟨rfl, hb⟩; obtain ⟨hce, hfr⟩ := bcell hb; have hsz := hb.size; simp only [World.size_alloc] at hsz; obtain ⟨hz4, hzf⟩ := zeros hb; have z0 := (hz4 0 (by omega)).2; have z1 := (hz4 1 (by omega)).2; have z2 := (hz4 2 (by omega)).2; have z3 := (hz4 3 (by omega)).2; have zf := fun i => (hzf i).2; clear hz4 hzf; have q0 := third hb hs0; have q1 := third hb hs1; have qs := third hb hs) | (go_at_call 35; refine (hof.out _).mono ?_; rintro e w' ⟨rfl, rfl⟩) | (go_at_call 56; refine (args_any _ _).mono ?_; rintro e w' ⟨rfl, rfl⟩; rw [show argsI 7 = 3 from rfl]) | (go_at_call 57; first | ((with_reducible refine (hr0.out _).mono ?_); rintro e w' ⟨rfl, rfl⟩) | ((with_reducible refine (hr1.out _).mono ?_); rintro e w' ⟨rfl, rfl⟩)) | (go_at_call 53; refine (hv.out _ (below3 hb _ _ _)).mono ?_; rintro e w' ⟨rfl, rfl⟩) | (go_at_call 34; refine (check_any _ _ _ _ _).mono ?_; rintro e w2 ⟨rfl, hb2⟩; obtain ⟨hce2, hfr2⟩ := bcell hb2; have y0 := (hce2 w.heap.size 0 (by simp; omega)).trans (z0 _ _ _); have y1 := (hce2 w.heap.size 1 (by simp; omega)).trans (z1 _ _ _); have y2 := (hce2 w.heap.size 2 (by simp; omega)).trans (z2 _ _ _); have y3 := (hce2 w.heap.size 3 (by simp; omega)).trans (z3 _ _ _); have yf := fun i => (hfr2 w.heap.size i (by simp; omega)).trans (zf i _ _ _)))
  all_goals
    have hbel : Below w.heap.size w w1 := below_box hb
    skip
    exact bodyPost_ret (v := .tuple #[instrV kn r0 r1 (n % 256), .int .i64 (checkI kn r0 r1 (n % 256))]) (by simp [results, Tryd.results23, go_sem, *]) rfl ⟨_, _, _, rfl, fun _ => rfl, below_end2 hbel _ _ _ hb2 _ _ _ _⟩
set_option maxHeartbeats 2000000 in
theorem instr_7_valno (X m : Nat) (pl : Places) (kn : Nat) (h : Bs) (b o c : Nat) (w : World) (at_ : Int)
    (hn : Hid (∀ w, Calls Tryd.prog 55 #[bsV h] w fun e w' => e = .returned (.tuple #[.int .u8 kn, .bool true]) ∧ Below w.heap.size w w'))
    (hof : Hid (∀ w, Calls Tryd.prog 35 #[.int .u8 kn] w fun e w' => e = .returned (.tuple #[.int .u8 7, .bool true]) ∧ w = w'))
    (h0 : w.cell? ⟨b, o, none⟩ = some (bsV h)) (hc : 4 ≤ c)
    (s0 : Bs) (hs0 : w.cell? ⟨b, o + 1, none⟩ = some (bsV s0)) (r0 : Int) (hr0 : Hid (∀ w, Calls Tryd.prog 57 #[bsV s0] w fun e w' => e = .returned (.tuple #[.int .u8 r0, .bool true]) ∧ w = w'))
    (s1 : Bs) (hs1 : w.cell? ⟨b, o + 1 + 1, none⟩ = some (bsV s1)) (r1 : Int) (hr1 : Hid (∀ w, Calls Tryd.prog 57 #[bsV s1] w fun e w' => e = .returned (.tuple #[.int .u8 r1, .bool true]) ∧ w = w'))
    (s : Bs) (hs : w.cell? ⟨b, o + 1 + 2, none⟩ = some (bsV s)) (n er : Int) (hnb : -999999 ≤ n ∧ n ≤ 999999)
    (hv : Hid (∀ w', Below w.heap.size w w' → Calls Tryd.prog 53 #[.pointer (some ⟨X, 0, none⟩), bsV s, .int .i64 (8), .int .i64 16] w' fun e w'' => e = .returned (.tuple #[.int .i64 n, .int .i64 er]) ∧ w' = w'')) (her : (er == 0) = false) :
    Calls Tryd.prog 23 #[.pointer (some ⟨X, 0, none⟩), .slice (some ⟨b, o, none⟩) 4 c, .int .i64 at_] w (FE kn [] er w) := by
  have hmm := @run_makeMap Tryd.prog
  have i0 := ins0; have i1 := ins1; have i2 := ins2; have i3 := ins3; have i4 := ins4; have i5 := ins5
  have lk := look_any 7
  rw [show manyI 7 = 2 from rfl] at lk
  have hbl : b < w.heap.size := block_lt_of_cell h0
  have hwr : IntKind.u8.wrap n = n % 256 := by simp [IntKind.wrap, IntKind.bits, IntKind.signed]
  go_enter Tryd.func23, Tryd.ntmps23
  go_wp2_with (first | (go_at_call 55; refine (hn.out _).mono ?_; rintro e w1 ⟨rfl, hb⟩; obtain ⟨hce, hfr⟩ := bcell hb; have hsz := hb.size; simp only [World.size_alloc] at hsz; obtain ⟨hz4, hzf⟩ := zeros hb; have z0 := (hz4 0 (by omega)).2; have z1 := (hz4 1 (by omega)).2; have z2 := (hz4 2 (by omega)).2; have z3 := (hz4 3 (by omega)).2; have zf := fun i => (hzf i).2; clear hz4 hzf; have q0 := third hb hs0; have q1 := third hb hs1; have qs := third hb hs) | (go_at_call 35; refine (hof.out _).mono ?_; rintro e w' ⟨rfl, rfl⟩) | (go_at_call 56; refine (args_any _ _).mono ?_; rintro e w' ⟨rfl, rfl⟩; rw [show argsI 7 = 3 from rfl]) | (go_at_call 57; first | ((with_reducible refine (hr0.out _).mono ?_); rintro e w' ⟨rfl, rfl⟩) | ((with_reducible refine (hr1.out _).mono ?_); rintro e w' ⟨rfl, rfl⟩)) | (go_at_call 53; refine (hv.out _ (below3 hb _ _ _)).mono ?_; rintro e w' ⟨rfl, rfl⟩) | (go_at_call 34; refine (check_any _ _ _ _ _).mono ?_; rintro e w2 ⟨rfl, hb2⟩; obtain ⟨hce2, hfr2⟩ := bcell hb2; have y0 := (hce2 w.heap.size 0 (by simp; omega)).trans (z0 _ _ _); have y1 := (hce2 w.heap.size 1 (by simp; omega)).trans (z1 _ _ _); have y2 := (hce2 w.heap.size 2 (by simp; omega)).trans (z2 _ _ _); have y3 := (hce2 w.heap.size 3 (by simp; omega)).trans (z3 _ _ _); have yf := fun i => (hfr2 w.heap.size i (by simp; omega)).trans (zf i _ _ _)))
  all_goals refine wp_loop_rounds 3 ?_
  all_goals rw [rounds_succ]
  all_goals go_wp2_with (first | (go_at_call 55; refine (hn.out _).mono ?_; rintro e w1 ⟨rfl, hb⟩; obtain ⟨hce, hfr⟩ := bcell hb; have hsz := hb.size; simp only [World.size_alloc] at hsz; obtain ⟨hz4, hzf⟩ := zeros hb; have z0 := (hz4 0 (by omega)).2; have z1 := (hz4 1 (by omega)).2; have z2 := (hz4 2 (by omega)).2; have z3 := (hz4 3 (by omega)).2; have zf := fun i => (hzf i).2; clear hz4 hzf; have q0 := third hb hs0; have q1 := third hb hs1; have qs := third hb hs) | (go_at_call 35; refine (hof.out _).mono ?_; rintro e w' ⟨rfl, rfl⟩) | (go_at_call 56; refine (args_any _ _).mono ?_; rintro e w' ⟨rfl, rfl⟩; rw [show argsI 7 = 3 from rfl]) | (go_at_call 57; first | ((with_reducible refine (hr0.out _).mono ?_); rintro e w' ⟨rfl, rfl⟩) | ((with_reducible refine (hr1.out _).mono ?_); rintro e w' ⟨rfl, rfl⟩)) | (go_at_call 53; refine (hv.out _ (below3 hb _ _ _)).mono ?_; rintro e w' ⟨rfl, rfl⟩) | (go_at_call 34; refine (check_any _ _ _ _ _).mono ?_; rintro e w2 ⟨rfl, hb2⟩; obtain ⟨hce2, hfr2⟩ := bcell hb2; have y0 := (hce2 w.heap.size 0 (by simp; omega)).trans (z0 _ _ _); have y1 := (hce2 w.heap.size 1 (by simp; omega)).trans (z1 _ _ _); have y2 := (hce2 w.heap.size 2 (by simp; omega)).trans (z2 _ _ _); have y3 := (hce2 w.heap.size 3 (by simp; omega)).trans (z3 _ _ _); have yf := fun i => (hfr2 w.heap.size i (by simp; omega)).trans (zf i _ _ _)))
  all_goals rw [rounds_succ]
  all_goals go_wp2_with (first | (go_at_call 55; refine (hn.out _).mono ?_; rintro e w1 ⟨rfl, hb⟩; obtain ⟨hce, hfr⟩ := bcell hb; have hsz := hb.size; simp only [World.size_alloc] at hsz; obtain ⟨hz4, hzf⟩ := zeros hb; have z0 := (hz4 0 (by omega)).2; have z1 := (hz4 1 (by omega)).2; have z2 := (hz4 2 (by omega)).2; have z3 := (hz4 3 (by omega)).2; have zf := fun i => (hzf i).2; clear hz4 hzf; have q0 := third hb hs0; have q1 := third hb hs1; have qs := third hb hs) | (go_at_call 35; refine (hof.out _).mono ?_; rintro e w' ⟨rfl, rfl⟩) | (go_at_call 56; refine (args_any _ _).mono ?_; rintro e w' ⟨rfl, rfl⟩; rw [show argsI 7 = 3 from rfl]) | (go_at_call 57; first | ((with_reducible refine (hr0.out _).mono ?_); rintro e w' ⟨rfl, rfl⟩) | ((with_reducible refine (hr1.out _).mono ?_); rintro e w' ⟨rfl, rfl⟩)) | (go_at_call 53; refine (hv.out _ (below3 hb _ _ _)).mono ?_; rintro e w' ⟨rfl, rfl⟩) | (go_at_call 34; refine (check_any _ _ _ _ _).mono ?_; rintro e w2 ⟨rfl, hb2⟩; obtain ⟨hce2, hfr2⟩ := bcell hb2; have y0 := (hce2 w.heap.size 0 (by simp; omega)).trans (z0 _ _ _); have y1 := (hce2 w.heap.size 1 (by simp; omega)).trans (z1 _ _ _); have y2 := (hce2 w.heap.size 2 (by simp; omega)).trans (z2 _ _ _); have y3 := (hce2 w.heap.size 3 (by simp; omega)).trans (z3 _ _ _); have yf := fun i => (hfr2 w.heap.size i (by simp; omega)).trans (zf i _ _ _)))
  all_goals rw [rounds_succ]
  all_goals go_wp2_with (first | (go_at_call 55; refine (hn.out _).mono ?_; rintro e w1 ⟨rfl, hb⟩; obtain ⟨hce, hfr⟩ := bcell hb; have hsz := hb.size; simp only [World.size_alloc] at hsz; obtain ⟨hz4, hzf⟩ := zeros hb; have z0 := (hz4 0 (by omega)).2; have z1 := (hz4 1 (by omega)).2; have z2 := (hz4 2 (by omega)).2; have z3 := (hz4 3 (by omega)).2; have zf := fun i => (hzf i).2; clear hz4 hzf; have q0 := third hb hs0; have q1 := third hb hs1; have qs := third hb hs) | (go_at_call 35; refine (hof.out _).mono ?_; rintro e w' ⟨rfl, rfl⟩) | (go_at_call 56; refine (args_any _ _).mono ?_; rintro e w' ⟨rfl, rfl⟩; rw [show argsI 7 = 3 from rfl]) | (go_at_call 57; first | ((with_reducible refine (hr0.out _).mono ?_); rintro e w' ⟨rfl, rfl⟩) | ((with_reducible refine (hr1.out _).mono ?_); rintro e w' ⟨rfl, rfl⟩)) | (go_at_call 53; refine (hv.out _ (below3 hb _ _ _)).mono ?_; rintro e w' ⟨rfl, rfl⟩) | (go_at_call 34; refine (check_any _ _ _ _ _).mono ?_; rintro e w2 ⟨rfl, hb2⟩; obtain ⟨hce2, hfr2⟩ := bcell hb2; have y0 := (hce2 w.heap.size 0 (by simp; omega)).trans (z0 _ _ _); have y1 := (hce2 w.heap.size 1 (by simp; omega)).trans (z1 _ _ _); have y2 := (hce2 w.heap.size 2 (by simp; omega)).trans (z2 _ _ _); have y3 := (hce2 w.heap.size 3 (by simp; omega)).trans (z3 _ _ _); have yf := fun i => (hfr2 w.heap.size i (by simp; omega)).trans (zf i _ _ _)))
  all_goals
    have hbel : Below w.heap.size w w1 := below_box hb
    skip
    exact bodyPost_ret (v := .tuple #[instrV kn r0 r1 (n % 256), .int .i64 er]) (by simp [results, Tryd.results23, go_sem, *]) rfl ⟨_, _, _, rfl, fun h => absurd h (by simpa using her), below_end hbel _ _ _ _ _ _ _⟩
set_option maxHeartbeats 2000000 in
theorem instr_5_wide (X m : Nat) (pl : Places) (kn : Nat) (h : Bs) (b o c : Nat) (w : World) (at_ : Int)
    (hn : Hid (∀ w, Calls Tryd.prog 55 #[bsV h] w fun e w' => e = .returned (.tuple #[.int .u8 kn, .bool true]) ∧ Below w.heap.size w w'))
    (hof : Hid (∀ w, Calls Tryd.prog 35 #[.int .u8 kn] w fun e w' => e = .returned (.tuple #[.int .u8 5, .bool true]) ∧ w = w'))
    (h0 : w.cell? ⟨b, o, none⟩ = some (bsV h)) (hc : 3 ≤ c)
    (s0 : Bs) (hs0 : w.cell? ⟨b, o + 1, none⟩ = some (bsV s0)) (r0 : Int) (hr0 : Hid (∀ w, Calls Tryd.prog 57 #[bsV s0] w fun e w' => e = .returned (.tuple #[.int .u8 r0, .bool true]) ∧ w = w'))
    (s : Bs) (hs : w.cell? ⟨b, o + 1 + 1, none⟩ = some (bsV s)) (n er : Int)
    (hwd : Hid (∀ w', Below w.heap.size w w' → Calls Tryd.prog 58 #[.pointer (some ⟨X, 0, none⟩), instrV kn r0 0 0, bsV s, .int .i64 at_] w' (WideEnd kn r0 n er w'))) :
    Calls Tryd.prog 23 #[.pointer (some ⟨X, 0, none⟩), .slice (some ⟨b, o, none⟩) 3 c, .int .i64 at_] w (FE kn [kn, r0, n % 256, n / 256] er w) := by
  have hmm := @run_makeMap Tryd.prog
  have i0 := ins0; have i1 := ins1; have i2 := ins2; have i3 := ins3; have i4 := ins4; have i5 := ins5
  have lk := look_any 5
  rw [show manyI 5 = 1 from rfl] at lk
  have hbl : b < w.heap.size := block_lt_of_cell h0
  go_enter Tryd.func23, Tryd.ntmps23
  go_wp2_with (first | (go_at_call 55; refine (hn.out _).mono ?_; rintro e w1 ⟨rfl, hb⟩; obtain ⟨hce, hfr⟩ := bcell hb; have hsz := hb.size; simp only [World.size_alloc] at hsz; obtain ⟨hz4, hzf⟩ := zeros hb; have z0 := (hz4 0 (by omega)).2; have z1 := (hz4 1 (by omega)).2; have z2 := (hz4 2 (by omega)).2; have z3 := (hz4 3 (by omega)).2; have zf := fun i => (hzf i).2; clear hz4 hzf; have q0 := third hb hs0; have qs := third hb hs) | (go_at_call 35; refine (hof.out _).mono ?_; rintro e w' ⟨rfl, rfl⟩) | (go_at_call 56; refine (args_any _ _).mono ?_; rintro e w' ⟨rfl, rfl⟩; rw [show argsI 5 = 2 from rfl]) | (go_at_call 57; first | ((with_reducible refine (hr0.out _).mono ?_); rintro e w' ⟨rfl, rfl⟩)))
  all_goals refine wp_loop_rounds 2 ?_
  all_goals rw [rounds_succ]
  all_goals go_wp2_with (first | (go_at_call 55; refine (hn.out _).mono ?_; rintro e w1 ⟨rfl, hb⟩; obtain ⟨hce, hfr⟩ := bcell hb; have hsz := hb.size; simp only [World.size_alloc] at hsz; obtain ⟨hz4, hzf⟩ := zeros hb; have z0 := (hz4 0 (by omega)).2; have z1 := (hz4 1 (by omega)).2; have z2 := (hz4 2 (by omega)).2; have z3 := (hz4 3 (by omega)).2; have zf := fun i => (hzf i).2; clear hz4 hzf; have q0 := third hb hs0; have qs := third hb hs) | (go_at_call 35; refine (hof.out _).mono ?_; rintro e w' ⟨rfl, rfl⟩) | (go_at_call 56; refine (args_any _ _).mono ?_; rintro e w' ⟨rfl, rfl⟩; rw [show argsI 5 = 2 from rfl]) | (go_at_call 57; first | ((with_reducible refine (hr0.out _).mono ?_); rintro e w' ⟨rfl, rfl⟩)))
  all_goals rw [rounds_succ]
  all_goals go_wp2_with (first | (go_at_call 55; refine (hn.out _).mono ?_; rintro e w1 ⟨rfl, hb⟩; obtain ⟨hce, hfr⟩ := bcell hb; have hsz := hb.size; simp only [World.size_alloc] at hsz; obtain ⟨hz4, hzf⟩ := zeros hb; have z0 := (hz4 0 (by omega)).2; have z1 := (hz4 1 (by omega)).2; have z2 := (hz4 2 (by omega)).2; have z3 := (hz4 3 (by omega)).2; have zf := fun i => (hzf i).2; clear hz4 hzf; have q0 := third hb hs0; have qs := third hb hs) | (go_at_call 35; refine (hof.out _).mono ?_; rintro e w' ⟨rfl, rfl⟩) | (go_at_call 56; refine (args_any _ _).mono ?_; rintro e w' ⟨rfl, rfl⟩; rw [show argsI 5 = 2 from rfl]) | (go_at_call 57; first | ((with_reducible refine (hr0.out _).mono ?_); rintro e w' ⟨rfl, rfl⟩)))
  all_goals go_region_with (go_at_call 58; refine (hwd.out _ (below3 hb _ _ _).drew).mono ?_; rintro e w2 ⟨wy, wz, rfl, hwz', hb2⟩; have hwz := Lib.hid hwz'; clear hwz'; obtain ⟨hce2, hfr2⟩ := bcell hb2; have y0 := (hce2 w.heap.size 0 (by simp; omega)).trans (z0 _ _ _); have y1 := (hce2 w.heap.size 1 (by simp; omega)).trans (z1 _ _ _); have y2 := (hce2 w.heap.size 2 (by simp; omega)).trans (z2 _ _ _); have y3 := (hce2 w.heap.size 3 (by simp; omega)).trans (z3 _ _ _); have yf := fun i => (hfr2 w.heap.size i (by simp; omega)).trans (zf i _ _ _))
  all_goals go_wp2_with fail
  all_goals
    have hbel : Below w.heap.size w w1 := below_box hb
    have hwz := hwz.out
    exact bodyPost_ret (v := .tuple #[instrV kn r0 wy wz, .int .i64 er]) (by simp [results, Tryd.results23, go_sem, *]) rfl ⟨_, _, _, rfl, fun h => by rw [(hwz h).1, (hwz h).2], below_end3 hbel _ _ _ hb2 _ _ _ _⟩
set_option maxHeartbeats 2000000 in
theorem instr_6_wide (X m : Nat) (pl : Places) (kn : Nat) (h : Bs) (b o c : Nat) (w : World) (at_ : Int)
    (hn : Hid (∀ w, Calls Tryd.prog 55 #[bsV h] w fun e w' => e = .returned (.tuple #[.int .u8 kn, .bool true]) ∧ Below w.heap.size w w'))
    (hof : Hid (∀ w, Calls Tryd.prog 35 #[.int .u8 kn] w fun e w' => e = .returned (.tuple #[.int .u8 6, .bool true]) ∧ w = w'))
    (h0 : w.cell? ⟨b, o, none⟩ = some (bsV h)) (hc : 2 ≤ c)
    (s : Bs) (hs : w.cell? ⟨b, o + 1, none⟩ = some (bsV s)) (n er : Int)
    (hwd : Hid (∀ w', Below w.heap.size w w' → Calls Tryd.prog 58 #[.pointer (some ⟨X, 0, none⟩), instrV kn 0 0 0, bsV s, .int .i64 at_] w' (WideEnd kn 0 n er w'))) :
    Calls Tryd.prog 23 #[.pointer (some ⟨X, 0, none⟩), .slice (some ⟨b, o, none⟩) 2 c, .int .i64 at_] w (FE kn [kn, 0, n % 256, n / 256] er w) := by
  have hmm := @run_makeMap Tryd.prog
  have i0 := ins0; have i1 := ins1; have i2 := ins2; have i3 := ins3; have i4 := ins4; have i5 := ins5
  have lk := look_any 6
  rw [show manyI 6 = 0 from rfl] at lk
  have hbl : b < w.heap.size := block_lt_of_cell h0
  go_enter Tryd.func23, Tryd.ntmps23
  go_wp2_with (first | (go_at_call 55; refine (hn.out _).mono ?_; rintro e w1 ⟨rfl, hb⟩; obtain ⟨hce, hfr⟩ := bcell hb; have hsz := hb.size; simp only [World.size_alloc] at hsz; obtain ⟨hz4, hzf⟩ := zeros hb; have z0 := (hz4 0 (by omega)).2; have z1 := (hz4 1 (by omega)).2; have z2 := (hz4 2 (by omega)).2; have z3 := (hz4 3 (by omega)).2; have zf := fun i => (hzf i).2; clear hz4 hzf; have qs := third hb hs) | (go_at_call 35; refine (hof.out _).mono ?_; rintro e w' ⟨rfl, rfl⟩) | (go_at_call 56; refine (args_any _ _).mono ?_; rintro e w' ⟨rfl, rfl⟩; rw [show argsI 6 = 1 from rfl]))
  all_goals refine wp_loop_rounds 1 ?_
  all_goals rw [rounds_succ]
  all_goals go_wp2_with (first | (go_at_call 55; refine (hn.out _).mono ?_; rintro e w1 ⟨rfl, hb⟩; obtain ⟨hce, hfr⟩ := bcell hb; have hsz := hb.size; simp only [World.size_alloc] at hsz; obtain ⟨hz4, hzf⟩ := zeros hb; have z0 := (hz4 0 (by omega)).2; have z1 := (hz4 1 (by omega)).2; have z2 := (hz4 2 (by omega)).2; have z3 := (hz4 3 (by omega)).2; have zf := fun i => (hzf i).2; clear hz4 hzf; have qs := third hb hs) | (go_at_call 35; refine (hof.out _).mono ?_; rintro e w' ⟨rfl, rfl⟩) | (go_at_call 56; refine (args_any _ _).mono ?_; rintro e w' ⟨rfl, rfl⟩; rw [show argsI 6 = 1 from rfl]))
  all_goals go_region_with (go_at_call 58; refine (hwd.out _ (below3 hb _ _ _).drew).mono ?_; rintro e w2 ⟨wy, wz, rfl, hwz', hb2⟩; have hwz := Lib.hid hwz'; clear hwz'; obtain ⟨hce2, hfr2⟩ := bcell hb2; have y0 := (hce2 w.heap.size 0 (by simp; omega)).trans (z0 _ _ _); have y1 := (hce2 w.heap.size 1 (by simp; omega)).trans (z1 _ _ _); have y2 := (hce2 w.heap.size 2 (by simp; omega)).trans (z2 _ _ _); have y3 := (hce2 w.heap.size 3 (by simp; omega)).trans (z3 _ _ _); have yf := fun i => (hfr2 w.heap.size i (by simp; omega)).trans (zf i _ _ _))
  all_goals go_wp2_with fail
  all_goals
    have hbel : Below w.heap.size w w1 := below_box hb
    have hwz := hwz.out
    exact bodyPost_ret (v := .tuple #[instrV kn 0 wy wz, .int .i64 er]) (by simp [results, Tryd.results23, go_sem, *]) rfl ⟨_, _, _, rfl, fun h => by rw [(hwz h).1, (hwz h).2], below_end3 hbel _ _ _ hb2 _ _ _ _⟩
end Go.Proofs.YtlaohefgofmfdaaDoor
