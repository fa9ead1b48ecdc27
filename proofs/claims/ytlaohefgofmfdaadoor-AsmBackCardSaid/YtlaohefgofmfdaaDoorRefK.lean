/- The walks of the reference's Check and Print. -/
import Derived.Test.YtlaohefgofmfdaaDoorRefN
import Derived.Test.YtlaohefgofmfdaaDoorLine
import Derived.Deep.QuietTactic
import Derived.BigQuiet
namespace Go.Proofs.YtlaohefgofmfdaaDoor
open Go Go.RowKit Go.Proofs.YtlaohefgofmfdaaDoorW.PrintWords
set_option maxRecDepth 100000
theorem below_drw (w : World) (o : Obj) (n : Nat) : Below w.heap.size w ((w.alloc o).drewN n) := (below_one w o).trans ⟨rfl, rfl, rfl, Nat.le_refl _, fun _ _ => rfl⟩
theorem form_any (o : Int) (w : World) : Calls Tryd.prog 40 #[.int .i64 o] w fun e w' => e = .returned (.int .i64 (formI o)) ∧ Below w.heap.size w w' :=
  Ref.garrisonref16_Form.calls 101 o _ w (form_eq o 101 (by omega))
set_option maxHeartbeats 2000000 in
theorem rcheck_f (f o x y z : Int) (ho : Byt o) (hf : formI o = f) (h : f = -1 ∨ f = 0 ∨ f = 1 ∨ f = 2 ∨ f = 3 ∨ f = 4 ∨ f = 5 ∨ f = 6 ∨ f = 7 ∨ f = 8) (w : World) : Calls Tryd.prog 15 #[instrV o x y z] w fun e w' => e = .returned (.int .i64 (checkI o x y z)) ∧ Below w.heap.size w w' := by
  have HF : Hid (∀ W, Calls Tryd.prog 40 #[.int .i64 o] W fun e w' => e = .returned (.int .i64 f) ∧ Below W.heap.size W w') := fun W => by rw [← hf]; exact form_any o W
  have HC : Hid (checkI o x y z = if f < 0 then 32 else if okI f x y z then 0 else 28) := by show _ = _; unfold checkI; rw [hf]
  clear hf
  unfold Byt at ho
  obtain ⟨ho0, ho1⟩ := ho
  rcases h with rfl | rfl | rfl | rfl | rfl | rfl | rfl | rfl | rfl | rfl
  all_goals
    go_enter Tryd.func15, Tryd.ntmps15
    go_wp2_with fail
    go_quiet (fail)
    go_wp2_with (go_at_call 40; (with_reducible refine (HF.out _).mono ?_); rintro e w1 ⟨rfl, hb1⟩; obtain ⟨hc1, hf1⟩ := bcell hb1; have hl1 : w.heap.size < w1.heap.size := Nat.lt_of_lt_of_le (show w.heap.size < (w.heap.push _).size by simp) hb1.size)
    all_goals (go_ret; exact ⟨by rw [HC.out]; simp_all [okI]; try omega, below_th0 (below_drw _ _ _) hb1⟩)
theorem rcheck_any (o x y z : Int) (ho : Byt o) (w : World) : Calls Tryd.prog 15 #[instrV o x y z] w fun e w' => e = .returned (.int .i64 (checkI o x y z)) ∧ Below w.heap.size w w' :=
  rcheck_f _ o x y z ho rfl (by unfold formI; repeat' split
                                all_goals omega) w
end Go.Proofs.YtlaohefgofmfdaaDoor
