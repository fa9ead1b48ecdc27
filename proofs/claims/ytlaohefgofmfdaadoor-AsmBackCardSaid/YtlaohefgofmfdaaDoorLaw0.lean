/- The fixed fact: the chapter's example is assembled as the chapter says. -/
import Derived.Test.YtlaohefgofmfdaaDoorAsm11
import Derived.Laws.IdiomStrings
namespace Go.Proofs.YtlaohefgofmfdaaDoor
open Go Go.RowKit Go.Proofs.YtlaohefgofmfdaaDoorW.PrintWords
set_option maxRecDepth 100000
def awakeText : ByteArray := ⟨#[97, 58, 32, 97, 100, 100, 105, 32, 114, 49, 32, 114, 49, 32, 49, 10, 106, 110, 122, 32, 114, 49, 32, 97]⟩
theorem awake_plain : asmI (splitNL awakeText.data.toList) (decide (65536 < awakeText.size)) = ⟨0, 0, 0, [21, 1, 1, 1, 32, 1, 254, 255]⟩ := by kernel_rfl
/-- Of bytes that a slice of the call's own holds: a text. -/
theorem conv_own {w : World} {base : Nat} {v : Value} {l : List Int} (h : w.ownsRow base 5 1 v l.length (u8s l)) : (convert 22 9 v).run Tryd.prog w = .ok (.string (strOfNums l)) w := by
  obtain ⟨A, c, rfl, _, hC⟩ := own_reads h
  exact Kd.C_string Tryd.underlying22 Tryd.underlying5 Tryd.underlying9 hC
theorem awake_asm (w : World) (hlib : LibAt w) : Calls Tryd.prog 10 #[.string awakeText] w fun e w' => Below w.heap.size w w' ∧ ∃ p c, e = .returned (.tuple #[.agg #[.int .u8 0, .slice p 8 c], .int .i64 0, .int .i64 0]) ∧
    Hid (∀ o, (convert 22 9 (.slice p 8 c)).run Tryd.prog (w'.alloc o) = .ok (.string ⟨#[21, 1, 1, 1, 32, 1, 254, 255]⟩) (w'.alloc o)) := by
  refine (assemble_any awakeText (by decide) (fun _ => by decide) w hlib).mono ?_
  rintro e w1 ⟨hb1, v, rfl, hown⟩
  rw [awake_plain] at hown ⊢
  obtain ⟨p, c, rfl⟩ := own_slice hown
  refine ⟨hb1, p, c, rfl, Lib.hid fun o => ?_⟩
  have := conv_own (hown.alloc o)
  exact this
theorem lit_conv (w : World) (o : Obj) (t : TypeId) (fr : Nat × Nat) : (convert 22 9 (.slice (some ⟨w.heap.size + 1, 0, none⟩) 8 8)).run Tryd.prog ((w.alloc o).alloc (.cells #[.int .u8 21, .int .u8 1, .int .u8 1, .int .u8 1, .int .u8 32, .int .u8 1, .int .u8 254, .int .u8 255] t fr)) =
    .ok (.string ⟨#[21, 1, 1, 1, 32, 1, 254, 255]⟩) ((w.alloc o).alloc (.cells #[.int .u8 21, .int .u8 1, .int .u8 1, .int .u8 1, .int .u8 32, .int .u8 1, .int .u8 254, .int .u8 255] t fr)) := by
  refine run_convert_bytes_back _ 22 9 5 ⟨w.heap.size + 1, 0, none⟩ 8 [21, 1, 1, 1, 32, 1, 254, 255] Tryd.underlying22 Tryd.underlying5 Tryd.underlying9 fun j hj => ?_
  have h0 := heap_alloc_new (w.alloc o) (.cells #[.int .u8 21, .int .u8 1, .int .u8 1, .int .u8 1, .int .u8 32, .int .u8 1, .int .u8 254, .int .u8 255] t fr)
  rw [show (w.alloc o).heap.size = w.heap.size + 1 by simp] at h0
  rw [show (Addr.add ⟨w.heap.size + 1, 0, none⟩ j) = ⟨w.heap.size + 1, j, none⟩ by simp [Addr.add]; try exact fun h => h.symm, cell_of_row _ _ _ _ _ _ h0]
  match j, hj with
  | 0, _ => rfl
  | 1, _ => rfl
  | 2, _ => rfl
  | 3, _ => rfl
  | 4, _ => rfl
  | 5, _ => rfl
  | 6, _ => rfl
  | 7, _ => rfl
set_option maxHeartbeats 1000000 in
theorem awake_any (w : World) (hlib : LibAt w) : Calls Tryd.prog 8 #[] w fun e w' => e = .returned (.bool true) ∧ Below w.heap.size w w' := by
  have HA := Lib.hid (awake_asm w hlib)
  clear hlib
  go_enter Tryd.func8, Tryd.ntmps8
  go_wp2_with (go_at_call 10; refine HA.out.mono ?_; rintro e w1 ⟨hb1, p, c, rfl, hcv⟩; have hconv := hcv.out; have hc2 := lit_conv w1)
  go_ret
  exact ⟨rfl, (hb1.alloc hb1.size _).alloc (Nat.le_trans hb1.size (by simp)) _⟩
end Go.Proofs.YtlaohefgofmfdaaDoor
