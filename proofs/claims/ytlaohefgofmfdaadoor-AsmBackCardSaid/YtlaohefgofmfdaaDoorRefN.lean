/- The reference's names and forms (as print.sh printed them; taken out of its print by gen_ref2.py), what they are, and slices of words. -/
import Derived.Test.YtlaohefgofmfdaaDoorRef0
import Derived.Test.YtlaohefgofmfdaaDoorNl
import Derived.Test.YtlaohefgofmfdaaDoorSrc
import Derived.Test.YtlaohefgofmfdaaDoorAsm10
namespace Go.Proofs.YtlaohefgofmfdaaDoor.Ref
open Go.RowKit Go.Proofs.YtlaohefgofmfdaaDoorW.PrintWords Go.Proofs.YtlaohefgofmfdaaDoorW.PrintLast Go.Proofs.YtlaohefgofmfdaaDoorW.PrintMore
attribute [local go_sem] max2_int min2_int max_two min_two max_three min_three max_four min_four   -- for this text's walks alone
set_option linter.unusedVariables false
set_option linter.unusedSimpArgs false
/-! ### garrisonref16_Names: function 41 -/
def garrisonref16_Names.f  : Option (List ByteArray) := some (([(⟨#[]⟩ : ByteArray), (⟨#[109, 111, 118]⟩ : ByteArray), (⟨#[108, 100, 105]⟩ : ByteArray), (⟨#[108, 100, 115]⟩ : ByteArray), (⟨#[108, 117, 105]⟩ : ByteArray), (⟨#[97, 100, 100]⟩ : ByteArray), (⟨#[115, 117, 98]⟩ : ByteArray), (⟨#[109, 117, 108]⟩ : ByteArray), (⟨#[100, 105, 118]⟩ : ByteArray), (⟨#[114, 101, 109]⟩ : ByteArray), (⟨#[100, 105, 118, 115]⟩ : ByteArray), (⟨#[97, 110, 100]⟩ : ByteArray), (⟨#[111, 114]⟩ : ByteArray), (⟨#[120, 111, 114]⟩ : ByteArray), (⟨#[115, 104, 108]⟩ : ByteArray), (⟨#[115, 104, 114]⟩ : ByteArray), (⟨#[115, 97, 114]⟩ : ByteArray), (⟨#[114, 111, 116]⟩ : ByteArray), (⟨#[115, 108, 116]⟩ : ByteArray), (⟨#[115, 108, 117]⟩ : ByteArray), (⟨#[101, 113, 117]⟩ : ByteArray), (⟨#[97, 100, 100, 105]⟩ : ByteArray), (⟨#[108, 98]⟩ : ByteArray), (⟨#[108, 98, 115]⟩ : ByteArray), (⟨#[108, 104]⟩ : ByteArray), (⟨#[108, 104, 115]⟩ : ByteArray), (⟨#[108, 119]⟩ : ByteArray), (⟨#[115, 98]⟩ : ByteArray), (⟨#[115, 104]⟩ : ByteArray), (⟨#[115, 119]⟩ : ByteArray), (⟨#[106, 109, 112]⟩ : ByteArray), (⟨#[106, 122]⟩ : ByteArray), (⟨#[106, 110, 122]⟩ : ByteArray), (⟨#[99, 97, 108, 108]⟩ : ByteArray), (⟨#[114, 101, 116]⟩ : ByteArray), (⟨#[106, 114]⟩ : ByteArray), (⟨#[101, 120, 116]⟩ : ByteArray), (⟨#[99, 108, 122]⟩ : ByteArray), (⟨#[112, 111, 112]⟩ : ByteArray), (⟨#[115, 121, 115]⟩ : ByteArray)] : List ByteArray))
set_option maxHeartbeats 8000000 in
set_option maxRecDepth 100000 in
theorem garrisonref16_Names.calls  (r : List ByteArray) (w : World) (h : garrisonref16_Names.f  = some r) :
    Calls Tryd.prog 41 #[] w fun e w' => ∃ v0_ : Value, e = .returned (v0_) ∧ Kd.R Kd.string 9 w' w.heap.size (fun _ => True) v0_ r ∧ Below w.heap.size w w' := by
  have HB := Aside0.mk (Below.refl w.heap.size w)
  have H : (some (([(⟨#[]⟩ : ByteArray), (⟨#[109, 111, 118]⟩ : ByteArray), (⟨#[108, 100, 105]⟩ : ByteArray), (⟨#[108, 100, 115]⟩ : ByteArray), (⟨#[108, 117, 105]⟩ : ByteArray), (⟨#[97, 100, 100]⟩ : ByteArray), (⟨#[115, 117, 98]⟩ : ByteArray), (⟨#[109, 117, 108]⟩ : ByteArray), (⟨#[100, 105, 118]⟩ : ByteArray), (⟨#[114, 101, 109]⟩ : ByteArray), (⟨#[100, 105, 118, 115]⟩ : ByteArray), (⟨#[97, 110, 100]⟩ : ByteArray), (⟨#[111, 114]⟩ : ByteArray), (⟨#[120, 111, 114]⟩ : ByteArray), (⟨#[115, 104, 108]⟩ : ByteArray), (⟨#[115, 104, 114]⟩ : ByteArray), (⟨#[115, 97, 114]⟩ : ByteArray), (⟨#[114, 111, 116]⟩ : ByteArray), (⟨#[115, 108, 116]⟩ : ByteArray), (⟨#[115, 108, 117]⟩ : ByteArray), (⟨#[101, 113, 117]⟩ : ByteArray), (⟨#[97, 100, 100, 105]⟩ : ByteArray), (⟨#[108, 98]⟩ : ByteArray), (⟨#[108, 98, 115]⟩ : ByteArray), (⟨#[108, 104]⟩ : ByteArray), (⟨#[108, 104, 115]⟩ : ByteArray), (⟨#[108, 119]⟩ : ByteArray), (⟨#[115, 98]⟩ : ByteArray), (⟨#[115, 104]⟩ : ByteArray), (⟨#[115, 119]⟩ : ByteArray), (⟨#[106, 109, 112]⟩ : ByteArray), (⟨#[106, 122]⟩ : ByteArray), (⟨#[106, 110, 122]⟩ : ByteArray), (⟨#[99, 97, 108, 108]⟩ : ByteArray), (⟨#[114, 101, 116]⟩ : ByteArray), (⟨#[106, 114]⟩ : ByteArray), (⟨#[101, 120, 116]⟩ : ByteArray), (⟨#[99, 108, 122]⟩ : ByteArray), (⟨#[112, 111, 112]⟩ : ByteArray), (⟨#[115, 121, 115]⟩ : ByteArray)] : List ByteArray))) = some r := h
  clear h
  obtain ⟨y148, hy148⟩ : ∃ y_ : List ByteArray, y_ = (([(⟨#[]⟩ : ByteArray), (⟨#[109, 111, 118]⟩ : ByteArray), (⟨#[108, 100, 105]⟩ : ByteArray), (⟨#[108, 100, 115]⟩ : ByteArray), (⟨#[108, 117, 105]⟩ : ByteArray), (⟨#[97, 100, 100]⟩ : ByteArray), (⟨#[115, 117, 98]⟩ : ByteArray), (⟨#[109, 117, 108]⟩ : ByteArray), (⟨#[100, 105, 118]⟩ : ByteArray), (⟨#[114, 101, 109]⟩ : ByteArray), (⟨#[100, 105, 118, 115]⟩ : ByteArray), (⟨#[97, 110, 100]⟩ : ByteArray), (⟨#[111, 114]⟩ : ByteArray), (⟨#[120, 111, 114]⟩ : ByteArray), (⟨#[115, 104, 108]⟩ : ByteArray), (⟨#[115, 104, 114]⟩ : ByteArray), (⟨#[115, 97, 114]⟩ : ByteArray), (⟨#[114, 111, 116]⟩ : ByteArray), (⟨#[115, 108, 116]⟩ : ByteArray), (⟨#[115, 108, 117]⟩ : ByteArray), (⟨#[101, 113, 117]⟩ : ByteArray), (⟨#[97, 100, 100, 105]⟩ : ByteArray), (⟨#[108, 98]⟩ : ByteArray), (⟨#[108, 98, 115]⟩ : ByteArray), (⟨#[108, 104]⟩ : ByteArray), (⟨#[108, 104, 115]⟩ : ByteArray), (⟨#[108, 119]⟩ : ByteArray), (⟨#[115, 98]⟩ : ByteArray), (⟨#[115, 104]⟩ : ByteArray), (⟨#[115, 119]⟩ : ByteArray), (⟨#[106, 109, 112]⟩ : ByteArray), (⟨#[106, 122]⟩ : ByteArray), (⟨#[106, 110, 122]⟩ : ByteArray), (⟨#[99, 97, 108, 108]⟩ : ByteArray), (⟨#[114, 101, 116]⟩ : ByteArray), (⟨#[106, 114]⟩ : ByteArray), (⟨#[101, 120, 116]⟩ : ByteArray), (⟨#[99, 108, 122]⟩ : ByteArray), (⟨#[112, 111, 112]⟩ : ByteArray), (⟨#[115, 121, 115]⟩ : ByteArray)] : List ByteArray)) := ⟨_, rfl⟩
  replace H : (some y148) = some r := by first | (rw [hy148]; with_reducible exact H) | (have H2_ := (Option.bind_some _ _).symm.trans H; rw [hy148]; with_reducible exact H2_) | (have H2_ := (Option.bind_some _ _).symm.trans H; with_reducible exact H2_) | with_reducible exact H | (rw [hy148]; exact H) | exact H
  have Ny148 := Aside0.mk hy148
  clear hy148
  obtain rfl := Option.some.inj H
  go_enter Tryd.func41, Tryd.ntmps41
  go_wp2_with (first | ((with_reducible refine gate_dst (N := 1) rfl ?_); refine Kd.R_lit Kd.string _ 9 ?hg (N := 1) ?hd (xs := ([(⟨#[]⟩ : ByteArray), (⟨#[109, 111, 118]⟩ : ByteArray), (⟨#[108, 100, 105]⟩ : ByteArray), (⟨#[108, 100, 115]⟩ : ByteArray), (⟨#[108, 117, 105]⟩ : ByteArray), (⟨#[97, 100, 100]⟩ : ByteArray), (⟨#[115, 117, 98]⟩ : ByteArray), (⟨#[109, 117, 108]⟩ : ByteArray), (⟨#[100, 105, 118]⟩ : ByteArray), (⟨#[114, 101, 109]⟩ : ByteArray), (⟨#[100, 105, 118, 115]⟩ : ByteArray), (⟨#[97, 110, 100]⟩ : ByteArray), (⟨#[111, 114]⟩ : ByteArray), (⟨#[120, 111, 114]⟩ : ByteArray), (⟨#[115, 104, 108]⟩ : ByteArray), (⟨#[115, 104, 114]⟩ : ByteArray), (⟨#[115, 97, 114]⟩ : ByteArray), (⟨#[114, 111, 116]⟩ : ByteArray), (⟨#[115, 108, 116]⟩ : ByteArray), (⟨#[115, 108, 117]⟩ : ByteArray), (⟨#[101, 113, 117]⟩ : ByteArray), (⟨#[97, 100, 100, 105]⟩ : ByteArray), (⟨#[108, 98]⟩ : ByteArray), (⟨#[108, 98, 115]⟩ : ByteArray), (⟨#[108, 104]⟩ : ByteArray), (⟨#[108, 104, 115]⟩ : ByteArray), (⟨#[108, 119]⟩ : ByteArray), (⟨#[115, 98]⟩ : ByteArray), (⟨#[115, 104]⟩ : ByteArray), (⟨#[115, 119]⟩ : ByteArray), (⟨#[106, 109, 112]⟩ : ByteArray), (⟨#[106, 122]⟩ : ByteArray), (⟨#[106, 110, 122]⟩ : ByteArray), (⟨#[99, 97, 108, 108]⟩ : ByteArray), (⟨#[114, 101, 116]⟩ : ByteArray), (⟨#[106, 114]⟩ : ByteArray), (⟨#[101, 120, 116]⟩ : ByteArray), (⟨#[99, 108, 122]⟩ : ByteArray), (⟨#[112, 111, 112]⟩ : ByteArray), (⟨#[115, 121, 115]⟩ : ByteArray)] : List ByteArray)) (inner := [.string (⟨#[]⟩ : ByteArray), .string (⟨#[109, 111, 118]⟩ : ByteArray), .string (⟨#[108, 100, 105]⟩ : ByteArray), .string (⟨#[108, 100, 115]⟩ : ByteArray), .string (⟨#[108, 117, 105]⟩ : ByteArray), .string (⟨#[97, 100, 100]⟩ : ByteArray), .string (⟨#[115, 117, 98]⟩ : ByteArray), .string (⟨#[109, 117, 108]⟩ : ByteArray), .string (⟨#[100, 105, 118]⟩ : ByteArray), .string (⟨#[114, 101, 109]⟩ : ByteArray), .string (⟨#[100, 105, 118, 115]⟩ : ByteArray), .string (⟨#[97, 110, 100]⟩ : ByteArray), .string (⟨#[111, 114]⟩ : ByteArray), .string (⟨#[120, 111, 114]⟩ : ByteArray), .string (⟨#[115, 104, 108]⟩ : ByteArray), .string (⟨#[115, 104, 114]⟩ : ByteArray), .string (⟨#[115, 97, 114]⟩ : ByteArray), .string (⟨#[114, 111, 116]⟩ : ByteArray), .string (⟨#[115, 108, 116]⟩ : ByteArray), .string (⟨#[115, 108, 117]⟩ : ByteArray), .string (⟨#[101, 113, 117]⟩ : ByteArray), .string (⟨#[97, 100, 100, 105]⟩ : ByteArray), .string (⟨#[108, 98]⟩ : ByteArray), .string (⟨#[108, 98, 115]⟩ : ByteArray), .string (⟨#[108, 104]⟩ : ByteArray), .string (⟨#[108, 104, 115]⟩ : ByteArray), .string (⟨#[108, 119]⟩ : ByteArray), .string (⟨#[115, 98]⟩ : ByteArray), .string (⟨#[115, 104]⟩ : ByteArray), .string (⟨#[115, 119]⟩ : ByteArray), .string (⟨#[106, 109, 112]⟩ : ByteArray), .string (⟨#[106, 122]⟩ : ByteArray), .string (⟨#[106, 110, 122]⟩ : ByteArray), .string (⟨#[99, 97, 108, 108]⟩ : ByteArray), .string (⟨#[114, 101, 116]⟩ : ByteArray), .string (⟨#[106, 114]⟩ : ByteArray), .string (⟨#[101, 120, 116]⟩ : ByteArray), .string (⟨#[99, 108, 122]⟩ : ByteArray), .string (⟨#[112, 111, 112]⟩ : ByteArray), .string (⟨#[115, 121, 115]⟩ : ByteArray)]) (ok := fun _ => True) (okp := fun _ => True) ?hr ?hp (fun _ hk => hk) trivial (Below.refl _ _) (Nat.le_refl _) (by simp) ?_; (case hd => rfl); (case hg => rfl); (case hr => first | (go_simp; done) | (go_simp; rfl)); (case hp => exact (Reps.one (show Kd.M Kd.string _ _ _ (⟨#[]⟩ : ByteArray) [.string (⟨#[]⟩ : ByteArray)] from rfl) (Reps.one (show Kd.M Kd.string _ _ _ (⟨#[109, 111, 118]⟩ : ByteArray) [.string (⟨#[109, 111, 118]⟩ : ByteArray)] from rfl) (Reps.one (show Kd.M Kd.string _ _ _ (⟨#[108, 100, 105]⟩ : ByteArray) [.string (⟨#[108, 100, 105]⟩ : ByteArray)] from rfl) (Reps.one (show Kd.M Kd.string _ _ _ (⟨#[108, 100, 115]⟩ : ByteArray) [.string (⟨#[108, 100, 115]⟩ : ByteArray)] from rfl) (Reps.one (show Kd.M Kd.string _ _ _ (⟨#[108, 117, 105]⟩ : ByteArray) [.string (⟨#[108, 117, 105]⟩ : ByteArray)] from rfl) (Reps.one (show Kd.M Kd.string _ _ _ (⟨#[97, 100, 100]⟩ : ByteArray) [.string (⟨#[97, 100, 100]⟩ : ByteArray)] from rfl) (Reps.one (show Kd.M Kd.string _ _ _ (⟨#[115, 117, 98]⟩ : ByteArray) [.string (⟨#[115, 117, 98]⟩ : ByteArray)] from rfl) (Reps.one (show Kd.M Kd.string _ _ _ (⟨#[109, 117, 108]⟩ : ByteArray) [.string (⟨#[109, 117, 108]⟩ : ByteArray)] from rfl) (Reps.one (show Kd.M Kd.string _ _ _ (⟨#[100, 105, 118]⟩ : ByteArray) [.string (⟨#[100, 105, 118]⟩ : ByteArray)] from rfl) (Reps.one (show Kd.M Kd.string _ _ _ (⟨#[114, 101, 109]⟩ : ByteArray) [.string (⟨#[114, 101, 109]⟩ : ByteArray)] from rfl) (Reps.one (show Kd.M Kd.string _ _ _ (⟨#[100, 105, 118, 115]⟩ : ByteArray) [.string (⟨#[100, 105, 118, 115]⟩ : ByteArray)] from rfl) (Reps.one (show Kd.M Kd.string _ _ _ (⟨#[97, 110, 100]⟩ : ByteArray) [.string (⟨#[97, 110, 100]⟩ : ByteArray)] from rfl) (Reps.one (show Kd.M Kd.string _ _ _ (⟨#[111, 114]⟩ : ByteArray) [.string (⟨#[111, 114]⟩ : ByteArray)] from rfl) (Reps.one (show Kd.M Kd.string _ _ _ (⟨#[120, 111, 114]⟩ : ByteArray) [.string (⟨#[120, 111, 114]⟩ : ByteArray)] from rfl) (Reps.one (show Kd.M Kd.string _ _ _ (⟨#[115, 104, 108]⟩ : ByteArray) [.string (⟨#[115, 104, 108]⟩ : ByteArray)] from rfl) (Reps.one (show Kd.M Kd.string _ _ _ (⟨#[115, 104, 114]⟩ : ByteArray) [.string (⟨#[115, 104, 114]⟩ : ByteArray)] from rfl) (Reps.one (show Kd.M Kd.string _ _ _ (⟨#[115, 97, 114]⟩ : ByteArray) [.string (⟨#[115, 97, 114]⟩ : ByteArray)] from rfl) (Reps.one (show Kd.M Kd.string _ _ _ (⟨#[114, 111, 116]⟩ : ByteArray) [.string (⟨#[114, 111, 116]⟩ : ByteArray)] from rfl) (Reps.one (show Kd.M Kd.string _ _ _ (⟨#[115, 108, 116]⟩ : ByteArray) [.string (⟨#[115, 108, 116]⟩ : ByteArray)] from rfl) (Reps.one (show Kd.M Kd.string _ _ _ (⟨#[115, 108, 117]⟩ : ByteArray) [.string (⟨#[115, 108, 117]⟩ : ByteArray)] from rfl) (Reps.one (show Kd.M Kd.string _ _ _ (⟨#[101, 113, 117]⟩ : ByteArray) [.string (⟨#[101, 113, 117]⟩ : ByteArray)] from rfl) (Reps.one (show Kd.M Kd.string _ _ _ (⟨#[97, 100, 100, 105]⟩ : ByteArray) [.string (⟨#[97, 100, 100, 105]⟩ : ByteArray)] from rfl) (Reps.one (show Kd.M Kd.string _ _ _ (⟨#[108, 98]⟩ : ByteArray) [.string (⟨#[108, 98]⟩ : ByteArray)] from rfl) (Reps.one (show Kd.M Kd.string _ _ _ (⟨#[108, 98, 115]⟩ : ByteArray) [.string (⟨#[108, 98, 115]⟩ : ByteArray)] from rfl) (Reps.one (show Kd.M Kd.string _ _ _ (⟨#[108, 104]⟩ : ByteArray) [.string (⟨#[108, 104]⟩ : ByteArray)] from rfl) (Reps.one (show Kd.M Kd.string _ _ _ (⟨#[108, 104, 115]⟩ : ByteArray) [.string (⟨#[108, 104, 115]⟩ : ByteArray)] from rfl) (Reps.one (show Kd.M Kd.string _ _ _ (⟨#[108, 119]⟩ : ByteArray) [.string (⟨#[108, 119]⟩ : ByteArray)] from rfl) (Reps.one (show Kd.M Kd.string _ _ _ (⟨#[115, 98]⟩ : ByteArray) [.string (⟨#[115, 98]⟩ : ByteArray)] from rfl) (Reps.one (show Kd.M Kd.string _ _ _ (⟨#[115, 104]⟩ : ByteArray) [.string (⟨#[115, 104]⟩ : ByteArray)] from rfl) (Reps.one (show Kd.M Kd.string _ _ _ (⟨#[115, 119]⟩ : ByteArray) [.string (⟨#[115, 119]⟩ : ByteArray)] from rfl) (Reps.one (show Kd.M Kd.string _ _ _ (⟨#[106, 109, 112]⟩ : ByteArray) [.string (⟨#[106, 109, 112]⟩ : ByteArray)] from rfl) (Reps.one (show Kd.M Kd.string _ _ _ (⟨#[106, 122]⟩ : ByteArray) [.string (⟨#[106, 122]⟩ : ByteArray)] from rfl) (Reps.one (show Kd.M Kd.string _ _ _ (⟨#[106, 110, 122]⟩ : ByteArray) [.string (⟨#[106, 110, 122]⟩ : ByteArray)] from rfl) (Reps.one (show Kd.M Kd.string _ _ _ (⟨#[99, 97, 108, 108]⟩ : ByteArray) [.string (⟨#[99, 97, 108, 108]⟩ : ByteArray)] from rfl) (Reps.one (show Kd.M Kd.string _ _ _ (⟨#[114, 101, 116]⟩ : ByteArray) [.string (⟨#[114, 101, 116]⟩ : ByteArray)] from rfl) (Reps.one (show Kd.M Kd.string _ _ _ (⟨#[106, 114]⟩ : ByteArray) [.string (⟨#[106, 114]⟩ : ByteArray)] from rfl) (Reps.one (show Kd.M Kd.string _ _ _ (⟨#[101, 120, 116]⟩ : ByteArray) [.string (⟨#[101, 120, 116]⟩ : ByteArray)] from rfl) (Reps.one (show Kd.M Kd.string _ _ _ (⟨#[99, 108, 122]⟩ : ByteArray) [.string (⟨#[99, 108, 122]⟩ : ByteArray)] from rfl) (Reps.one (show Kd.M Kd.string _ _ _ (⟨#[112, 111, 112]⟩ : ByteArray) [.string (⟨#[112, 111, 112]⟩ : ByteArray)] from rfl) (Reps.one (show Kd.M Kd.string _ _ _ (⟨#[115, 121, 115]⟩ : ByteArray) [.string (⟨#[115, 121, 115]⟩ : ByteArray)] from rfl) (Reps.none _ _)))))))))))))))))))))))))))))))))))))))))); intro v149 w1 ho2 hb hg_ hnew_; clear hg_ hnew_; (first | rw [← Ny148.out] at ho2 | (simp only [Int.reduceToNat] at ho2; rw [← Ny148.out] at ho2)); have n0_ := Aside0.mk (Kd.R_lower ho2 (below_size (by repeat (first | (with_reducible first | exact HB.out | apply below_alloc | apply pw_below_drewN | apply below_drew1) | exact HB.out)))); have n1_ := Aside0.mk (below_step (by repeat (first | (with_reducible first | exact HB.out | apply below_alloc | apply pw_below_drewN | apply below_drew1) | exact HB.out)) hb); clear HB; have HO150 := n0_; have HB := n1_; clear n0_ n1_; clear hb ho2))
  go_ret
  exact ⟨_, by first | rfl | (simp [errW_none, errW_some] <;> rfl) | (simp [*, errW_none, errW_some] <;> rfl), by (with_reducible repeat (first | apply Kd.R_alloc | apply Kd.R_drewN | apply Kd.R_drew)); exact HO150.out, by repeat (first | (with_reducible first | exact HB.out | apply below_alloc | apply pw_below_drewN | apply below_drew1) | exact HB.out)⟩

/-! ### garrisonref16_in: function 63 -/
mutual
def garrisonref16_in.l0 : Nat → ByteArray → ByteArray → Int → Int → Option (Bool)
  | 0, _, _, _, _ => none
  | k + 1, x0, x1, x5, x6 => if x6 ≤ (x1.size : Int) then (if x6 = (x1.size : Int) then (garrisonref16_in.j1 k x0 x1 x5 x6 true) else (if 0 ≤ x6 then (if x6 < (x1.size : Int) then (garrisonref16_in.j1 k x0 x1 x5 x6 ((bt x1 x6) == 32)) else (none)) else (none))) else (some false)
def garrisonref16_in.j1 : Nat → ByteArray → ByteArray → Int → Int → Bool → Option (Bool)
  | 0, _, _, _, _, _ => none
  | k + 1, x0, x1, x5, x6, x22 => if x22 = true then (if 0 ≤ x5 then (if x5 ≤ x6 then (if x6 ≤ (x1.size : Int) then (if (x1.extract (x5 : Int).toNat (x6 : Int).toNat).toList = x0.toList then (some true) else (garrisonref16_in.l0 k x0 x1 (wrap64 (x6 + 1)) (wrap64 (x6 + 1)))) else (none)) else (none)) else (none)) else (garrisonref16_in.l0 k x0 x1 x5 (wrap64 (x6 + 1)))
end
def garrisonref16_in.f (k : Nat) (a0 : ByteArray) (a1 : ByteArray) : Option (Bool) := garrisonref16_in.l0 k a0 a1 0 0
theorem garrisonref16_in.mono_l : ∀ k, (∀ y0 y1 y2 y3, LeO (garrisonref16_in.l0 k y0 y1 y2 y3) (garrisonref16_in.l0 (k + 1) y0 y1 y2 y3)) ∧ (∀ y0 y1 y2 y3 y4, LeO (garrisonref16_in.j1 k y0 y1 y2 y3 y4) (garrisonref16_in.j1 (k + 1) y0 y1 y2 y3 y4))
  | 0 => ⟨fun _ _ _ _ r h => by simp [garrisonref16_in.l0] at h, fun _ _ _ _ _ r h => by simp [garrisonref16_in.j1] at h⟩
  | k + 1 => by
    obtain ⟨ih0, ih1⟩ := garrisonref16_in.mono_l k
    refine ⟨?_, ?_⟩
    · intro y0 y1 y2 y3
      unfold garrisonref16_in.l0
      repeat' first
      | (with_reducible exact ih0 _ _ _ _)
      | (with_reducible exact ih1 _ _ _ _ _)
      | (with_reducible exact LeO.refl _)
      | (with_reducible exact LeO.none _)
      | (with_reducible refine LeO.ite ?_ ?_)
      | (with_reducible refine LeO.bind ?_ (fun _ => ?_))
      | exact ih0 _ _ _ _
      | exact ih1 _ _ _ _ _
      | exact LeO.none _
      | refine LeO.ite ?_ ?_
      | refine LeO.bind ?_ (fun _ => ?_)
    · intro y0 y1 y2 y3 y4
      unfold garrisonref16_in.j1
      repeat' first
      | (with_reducible exact ih0 _ _ _ _)
      | (with_reducible exact ih1 _ _ _ _ _)
      | (with_reducible exact LeO.refl _)
      | (with_reducible exact LeO.none _)
      | (with_reducible refine LeO.ite ?_ ?_)
      | (with_reducible refine LeO.bind ?_ (fun _ => ?_))
      | exact ih0 _ _ _ _
      | exact ih1 _ _ _ _ _
      | exact LeO.none _
      | refine LeO.ite ?_ ?_
      | refine LeO.bind ?_ (fun _ => ?_)
theorem garrisonref16_in.mono : ∀ a0 a1 k, LeO (garrisonref16_in.f k a0 a1) (garrisonref16_in.f (k + 1) a0 a1) := by
  intro a0 a1 k
  obtain ⟨ih0, ih1⟩ := garrisonref16_in.mono_l k
  unfold garrisonref16_in.f
  repeat' first
      | (with_reducible exact ih0 _ _ _ _)
      | (with_reducible exact ih1 _ _ _ _ _)
      | (with_reducible exact LeO.refl _)
      | (with_reducible exact LeO.none _)
      | (with_reducible refine LeO.ite ?_ ?_)
      | (with_reducible refine LeO.bind ?_ (fun _ => ?_))
      | exact ih0 _ _ _ _
      | exact ih1 _ _ _ _ _
      | exact LeO.none _
      | refine LeO.ite ?_ ?_
      | refine LeO.bind ?_ (fun _ => ?_)
set_option maxHeartbeats 8000000 in
set_option maxRecDepth 100000 in
theorem garrisonref16_in.calls (k : Nat) (a0 : ByteArray) (a1 : ByteArray) (r : Bool) (w : World) (h : garrisonref16_in.f k a0 a1 = some r) :
    Calls Tryd.prog 63 #[.string a0, .string a1] w fun e w' => e = .returned (.bool r) ∧ Drawn0 w w' := by
  have H : (garrisonref16_in.l0 k a0 a1 0 0) = some r := h
  clear h
  have H' := Aside0.mk H
  clear H
  go_enter Tryd.func63, Tryd.ntmps63
  go_wp2
  go_loopg [5, 6] k (fun kq v5 v6 w' => ∃ (x5_1 : Int) (x6_1 : Int), v5 = .int .i64 x5_1 ∧ v6 = .int .i64 x6_1 ∧ Aside0 (garrisonref16_in.l0 kq a0 a1 x5_1 x6_1 = some r) ∧ Aside0 (kq ≤ k) ∧ Drawn0 w w')
  case atStart => exact ⟨(0), (0), (by first | rfl | (simp; done) | (simp [*]; done)), (by first | rfl | (simp; done) | (simp [*]; done)), H', ⟨Nat.le_refl _⟩, by repeat (first | exact Drawn0.refl _ | apply Drawn0.step)⟩
  case round =>
    clear H'
    try clear p2
    obtain ⟨x5_1, x6_1, rfl, rfl, HA, HK1, ⟨m1, rfl⟩⟩ := hrel
    cases gk with
    | zero => exact absurd HA.out (by simp [garrisonref16_in.l0])
    | succ k1 =>
      have H := HA.out
      clear HA
      simp only [garrisonref16_in.l0] at H
      by_cases c3 : x6_1 ≤ (a1.size : Int)
      · rw [if_pos c3] at H
        have c3b0 : decide (x6_1 ≤ (a1.size : Int)) = true := decide_eq_true c3
        clear c3
        have HC4 := Aside0.mk H
        clear H
        go_upto_region 5 with (fail)
        go_cut [22] (fun v22 wc => ∃ (kq : Nat) (x22_3 : Bool), v22 = .bool x22_3 ∧ Aside0 (garrisonref16_in.j1 kq a0 a1 x5_1 x6_1 x22_3 = some r) ∧ Aside0 (kq ≤ k1) ∧ Drawn0 w wc)
        case first =>
          have H := HC4.out
          clear HC4
          by_cases c5 : x6_1 = (a1.size : Int)
          · rw [if_pos c5] at H
            have c5b0 : (x6_1 == (a1.size : Int)) = true := beq_iff_eq.mpr c5
            have c5b1 : (x6_1 != (a1.size : Int)) = false := bne_eq_false_iff_eq.mpr c5
            clear c5
            (first | rw [c5b0] | (simp only [i64_w, i32_w]; rw [c5b0]) | skip)
            have H' := Aside0.mk H
            clear H
            go_wp2
            go_meet
            case rel => exact ⟨_, (true), (by first | rfl | (simp; done) | (simp [*]; done)), H', ⟨by have := HK1.out; first | omega | exact Nat.le_refl _⟩, by repeat (first | exact Drawn0.refl _ | apply Drawn0.step)⟩
          · rw [if_neg c5] at H
            have c5b0 : (x6_1 == (a1.size : Int)) = false := beq_eq_false_iff_ne.mpr c5
            have c5b1 : (x6_1 != (a1.size : Int)) = true := bne_iff_ne.mpr c5
            (first | rw [c5b0] | (simp only [i64_w, i32_w]; rw [c5b0]) | skip)
            by_cases c6 : 0 ≤ x6_1
            · rw [if_pos c6] at H
              have c6b0 : decide (0 ≤ x6_1) = true := decide_eq_true c6
              clear c6
              by_cases c7 : x6_1 < (a1.size : Int)
              · rw [if_pos c7] at H
                have c7b0 : decide (x6_1 < (a1.size : Int)) = true := decide_eq_true c7
                clear c7
                have H' := Aside0.mk H
                clear H
                have p8 : 0 ≤ (x6_1 : Int) := of_decide_eq_true (by first | (with_reducible assumption) | assumption)
                have q8 : x6_1 < (a1.size : Int) := of_decide_eq_true (by first | (with_reducible assumption) | assumption)
                have hx8 := bt_at a1 x6_1
                replace p8 := eq_true p8
                replace q8 := eq_true q8
                go_wp2
                go_meet
                case rel => exact ⟨_, (((bt a1 x6_1) == 32)), (by first | rfl | (simp; done) | (simp [*]; done)), H', ⟨by have := HK1.out; first | omega | exact Nat.le_refl _⟩, by repeat (first | exact Drawn0.refl _ | apply Drawn0.step)⟩
              · rw [if_neg c7] at H
                exact absurd H (by simp)
            · rw [if_neg c6] at H
              exact absurd H (by simp)
        case rest =>
          clear HC4
          try clear p2
          try clear c3
          try clear c3b0
          try clear c5
          try clear c5b0
          try clear c5b1
          try clear c6
          try clear c6b0
          try clear c7
          try clear c7b0
          try clear p8
          try clear q8
          try clear hx8
          try clear p2
          try clear p8
          try clear q8
          obtain ⟨kq, x22_3, rfl, HA, HJ3, ⟨mc3, rfl⟩⟩ := hcut
          cases kq with
          | zero => exact absurd HA.out (by simp [garrisonref16_in.j1])
          | succ kj3 =>
            have H := HA.out
            clear HA
            simp only [garrisonref16_in.j1] at H
            by_cases c9 : x22_3 = true
            · subst c9
              have H1 : (if 0 ≤ x5_1 then (if x5_1 ≤ x6_1 then (if x6_1 ≤ (a1.size : Int) then (if (a1.extract (x5_1 : Int).toNat (x6_1 : Int).toNat).toList = a0.toList then (some true) else (garrisonref16_in.l0 kj3 a0 a1 (wrap64 (x6_1 + 1)) (wrap64 (x6_1 + 1)))) else (none)) else (none)) else (none)) = some r := by rw [if_pos rfl] at H; exact H
              clear H
              have H := H1
              clear H1
              by_cases c10 : 0 ≤ x5_1
              · rw [if_pos c10] at H
                have c10b0 := eq_true c10
                have c10b1 : decide (0 ≤ x5_1) = true := decide_eq_true c10
                clear c10
                by_cases c11 : x5_1 ≤ x6_1
                · rw [if_pos c11] at H
                  have c11b0 := eq_true c11
                  have c11b1 : decide (x5_1 ≤ x6_1) = true := decide_eq_true c11
                  clear c11
                  by_cases c12 : x6_1 ≤ (a1.size : Int)
                  · rw [if_pos c12] at H
                    have c12b0 := eq_true c12
                    have c12b1 : decide (x6_1 ≤ (a1.size : Int)) = true := decide_eq_true c12
                    clear c12
                    by_cases c13 : (a1.extract (x5_1 : Int).toNat (x6_1 : Int).toNat).toList = a0.toList
                    · rw [if_pos c13] at H
                      have c13b0 : ((a1.extract (x5_1 : Int).toNat (x6_1 : Int).toNat).toList == a0.toList) = true := beq_iff_eq.mpr c13
                      have c13b1 : ((a1.extract (x5_1 : Int).toNat (x6_1 : Int).toNat).toList != a0.toList) = false := bne_eq_false_iff_eq.mpr c13
                      clear c13
                      obtain rfl := Option.some.inj H
                      go_wp2
                      go_ret
                      exact ⟨by first | rfl | (simp; done) | (simp [*]; done), by repeat (first | exact Drawn0.refl _ | apply Drawn0.step)⟩
                    · rw [if_neg c13] at H
                      have c13b0 : ((a1.extract (x5_1 : Int).toNat (x6_1 : Int).toNat).toList == a0.toList) = false := beq_eq_false_iff_ne.mpr c13
                      have c13b1 : ((a1.extract (x5_1 : Int).toNat (x6_1 : Int).toNat).toList != a0.toList) = true := bne_iff_ne.mpr c13
                      have H' := Aside0.mk H
                      clear H
                      go_wp2
                      go_roundg kj3
                      case measure => have := HK1.out; have := HJ3.out; omega
                      case rel => exact ⟨(wrap64 (x6_1 + 1)), (wrap64 (x6_1 + 1)), (by first | rfl | (simp; done) | (simp [*]; done)), (by first | rfl | (simp; done) | (simp [*]; done)), H', ⟨by have := HK1.out; have := HJ3.out; omega⟩, by repeat (first | exact Drawn0.refl _ | apply Drawn0.step)⟩
                  · rw [if_neg c12] at H
                    exact absurd H (by simp)
                · rw [if_neg c11] at H
                  exact absurd H (by simp)
              · rw [if_neg c10] at H
                exact absurd H (by simp)
            · replace c9 := Bool.eq_false_iff.mpr c9
              subst c9
              have H1 : (garrisonref16_in.l0 kj3 a0 a1 x5_1 (wrap64 (x6_1 + 1))) = some r := by rw [if_neg (show ¬ (false = true) by decide)] at H; exact H
              clear H
              have H := H1
              clear H1
              have H' := Aside0.mk H
              clear H
              go_wp2
              go_roundg kj3
              case measure => have := HK1.out; have := HJ3.out; omega
              case rel => exact ⟨(x5_1), (wrap64 (x6_1 + 1)), (by first | rfl | (simp; done) | (simp [*]; done)), (by first | rfl | (simp; done) | (simp [*]; done)), H', ⟨by have := HK1.out; have := HJ3.out; omega⟩, by repeat (first | exact Drawn0.refl _ | apply Drawn0.step)⟩
      · rw [if_neg c3] at H
        have c3b0 : decide (x6_1 ≤ (a1.size : Int)) = false := decide_eq_false c3
        clear c3
        obtain rfl := Option.some.inj H
        go_wp2
        go_ret
        exact ⟨by first | rfl | (simp; done) | (simp [*]; done), by repeat (first | exact Drawn0.refl _ | apply Drawn0.step)⟩

/-! ### garrisonref16_Form: function 40 -/
def garrisonref16_Form.j0 : Nat → Int → Bool → Option (Int)
  | 0, _, _ => none
  | k + 1, x0, x9 => if x9 = true then (some (-1)) else ((garrisonref16_Names.f).bind fun t172 => (if 0 ≤ x0 then (if x0 < (t172.length : Int) then (if (rdOf ByteArray.empty t172 x0).toList = ([114, 101, 116] : List UInt8) then (some 0) else (if (rdOf ByteArray.empty t172 x0).toList = ([106, 114] : List UInt8) then (some 1) else ((garrisonref16_in.f k (rdOf ByteArray.empty t172 x0) (⟨#[109, 111, 118, 32, 99, 108, 122, 32, 112, 111, 112]⟩ : ByteArray)).bind fun t176 => (if t176 = true then (some 2) else ((garrisonref16_in.f k (rdOf ByteArray.empty t172 x0) (⟨#[97, 100, 100, 105, 32, 108, 98, 32, 108, 98, 115, 32, 108, 104, 32, 108, 104, 115, 32, 108, 119, 32, 115, 98, 32, 115, 104, 32, 115, 119]⟩ : ByteArray)).bind fun t177 => (if t177 = true then (some 4) else ((garrisonref16_in.f k (rdOf ByteArray.empty t172 x0) (⟨#[108, 100, 105, 32, 108, 100, 115, 32, 108, 117, 105, 32, 106, 122, 32, 106, 110, 122]⟩ : ByteArray)).bind fun t178 => (if t178 = true then (some 5) else ((garrisonref16_in.f k (rdOf ByteArray.empty t172 x0) (⟨#[106, 109, 112, 32, 99, 97, 108, 108]⟩ : ByteArray)).bind fun t179 => (if t179 = true then (some 6) else (if (rdOf ByteArray.empty t172 x0).toList = ([101, 120, 116] : List UInt8) then (some 7) else (if (rdOf ByteArray.empty t172 x0).toList = ([115, 121, 115] : List UInt8) then (some 8) else (some 3))))))))))))) else (none)) else (none)))
def garrisonref16_Form.f (k : Nat) (a0 : Int) : Option (Int) := if a0 < 1 then (garrisonref16_Form.j0 k a0 true) else (garrisonref16_Form.j0 k a0 (decide (a0 > 39)))
theorem garrisonref16_Form.mono_l : ∀ k, (∀ y0 y1, LeO (garrisonref16_Form.j0 k y0 y1) (garrisonref16_Form.j0 (k + 1) y0 y1))
  | 0 => fun _ _ r h => by simp [garrisonref16_Form.j0] at h
  | k + 1 => by
    have ih0 := garrisonref16_Form.mono_l k
    · intro y0 y1
      unfold garrisonref16_Form.j0
      repeat' first
      | (with_reducible exact ih0 _ _)
      | (with_reducible exact garrisonref16_in.mono _ _ _)
      | (with_reducible exact LeO.refl _)
      | (with_reducible exact LeO.none _)
      | (with_reducible refine LeO.ite ?_ ?_)
      | (with_reducible refine LeO.bind ?_ (fun _ => ?_))
      | exact ih0 _ _
      | exact garrisonref16_in.mono _ _ _
      | exact LeO.none _
      | refine LeO.ite ?_ ?_
      | refine LeO.bind ?_ (fun _ => ?_)
theorem garrisonref16_Form.mono : ∀ a0 k, LeO (garrisonref16_Form.f k a0) (garrisonref16_Form.f (k + 1) a0) := by
  intro a0 k
  have ih0 := garrisonref16_Form.mono_l k
  unfold garrisonref16_Form.f
  repeat' first
      | (with_reducible exact ih0 _ _)
      | (with_reducible exact garrisonref16_in.mono _ _ _)
      | (with_reducible exact LeO.refl _)
      | (with_reducible exact LeO.none _)
      | (with_reducible refine LeO.ite ?_ ?_)
      | (with_reducible refine LeO.bind ?_ (fun _ => ?_))
      | exact ih0 _ _
      | exact garrisonref16_in.mono _ _ _
      | exact LeO.none _
      | refine LeO.ite ?_ ?_
      | refine LeO.bind ?_ (fun _ => ?_)
set_option maxHeartbeats 8000000 in
set_option maxRecDepth 100000 in
theorem garrisonref16_Form.calls (k : Nat) (a0 : Int) (r : Int) (w : World) (h : garrisonref16_Form.f k a0 = some r) :
    Calls Tryd.prog 40 #[.int .i64 a0] w fun e w' => e = .returned (.int .i64 r) ∧ Below w.heap.size w w' := by
  have HB := Aside0.mk (Below.refl w.heap.size w)
  have H : (if a0 < 1 then (garrisonref16_Form.j0 k a0 true) else (garrisonref16_Form.j0 k a0 (decide (a0 > 39)))) = some r := h
  clear h
  have HC2 := Aside0.mk H
  clear H
  go_enter Tryd.func40, Tryd.ntmps40
  go_upto_region 1 with (fail)
  go_cut [9] (fun v9 wc => ∃ (kq : Nat) (x9_1 : Bool), v9 = .bool x9_1 ∧ Aside0 (garrisonref16_Form.j0 kq a0 x9_1 = some r) ∧ Aside0 (kq ≤ k) ∧ Aside0 (Below w.heap.size w wc))
  case first =>
    have H := HC2.out
    clear HC2
    by_cases c3 : a0 < 1
    · rw [if_pos c3] at H
      have c3b0 : decide (a0 < 1) = true := decide_eq_true c3
      clear c3
      (first | rw [c3b0] | (simp only [i64_w, i32_w]; rw [c3b0]) | skip)
      have H' := Aside0.mk H
      clear H
      go_wp2
      go_meet
      case rel => exact ⟨_, (true), (by first | rfl | (simp; done) | (simp [*]; done)), H', ⟨by first | omega | exact Nat.le_refl _⟩, ⟨by repeat (first | (with_reducible first | exact HB.out | apply below_alloc | apply pw_below_drewN | apply below_drew1) | exact HB.out)⟩⟩
    · rw [if_neg c3] at H
      have c3b0 : decide (a0 < 1) = false := decide_eq_false c3
      clear c3
      (first | rw [c3b0] | (simp only [i64_w, i32_w]; rw [c3b0]) | skip)
      have H' := Aside0.mk H
      clear H
      go_wp2
      go_meet
      case rel => exact ⟨_, (decide (a0 > 39)), (by first | rfl | (simp; done) | (simp [*]; done)), H', ⟨by first | omega | exact Nat.le_refl _⟩, ⟨by repeat (first | (with_reducible first | exact HB.out | apply below_alloc | apply pw_below_drewN | apply below_drew1) | exact HB.out)⟩⟩
  case rest =>
    clear HC2
    try clear p2
    try clear c3
    try clear c3b0
    obtain ⟨kq, x9_1, rfl, HA, HJ1, HB⟩ := hcut
    cases kq with
    | zero => exact absurd HA.out (by simp [garrisonref16_Form.j0])
    | succ kj1 =>
      have H := HA.out
      clear HA
      simp only [garrisonref16_Form.j0] at H
      by_cases c4 : x9_1 = true
      · subst c4
        have H1 : (some (-1)) = some r := by rw [if_pos rfl] at H; exact H
        clear H
        have H := H1
        clear H1
        obtain rfl := Option.some.inj H
        go_wp2
        go_ret
        exact ⟨by first | rfl | (simp [errW_none, errW_some] <;> rfl) | (simp [*, errW_none, errW_some] <;> rfl), by repeat (first | (with_reducible first | exact HB.out | apply below_alloc | apply pw_below_drewN | apply below_drew1) | exact HB.out)⟩
      · replace c4 := Bool.eq_false_iff.mpr c4
        subst c4
        have H1 : ((garrisonref16_Names.f).bind fun t172 => (if 0 ≤ a0 then (if a0 < (t172.length : Int) then (if (rdOf ByteArray.empty t172 a0).toList = ([114, 101, 116] : List UInt8) then (some 0) else (if (rdOf ByteArray.empty t172 a0).toList = ([106, 114] : List UInt8) then (some 1) else ((garrisonref16_in.f kj1 (rdOf ByteArray.empty t172 a0) (⟨#[109, 111, 118, 32, 99, 108, 122, 32, 112, 111, 112]⟩ : ByteArray)).bind fun t176 => (if t176 = true then (some 2) else ((garrisonref16_in.f kj1 (rdOf ByteArray.empty t172 a0) (⟨#[97, 100, 100, 105, 32, 108, 98, 32, 108, 98, 115, 32, 108, 104, 32, 108, 104, 115, 32, 108, 119, 32, 115, 98, 32, 115, 104, 32, 115, 119]⟩ : ByteArray)).bind fun t177 => (if t177 = true then (some 4) else ((garrisonref16_in.f kj1 (rdOf ByteArray.empty t172 a0) (⟨#[108, 100, 105, 32, 108, 100, 115, 32, 108, 117, 105, 32, 106, 122, 32, 106, 110, 122]⟩ : ByteArray)).bind fun t178 => (if t178 = true then (some 5) else ((garrisonref16_in.f kj1 (rdOf ByteArray.empty t172 a0) (⟨#[106, 109, 112, 32, 99, 97, 108, 108]⟩ : ByteArray)).bind fun t179 => (if t179 = true then (some 6) else (if (rdOf ByteArray.empty t172 a0).toList = ([101, 120, 116] : List UInt8) then (some 7) else (if (rdOf ByteArray.empty t172 a0).toList = ([115, 121, 115] : List UInt8) then (some 8) else (some 3))))))))))))) else (none)) else (none))) = some r := by rw [if_neg (show ¬ (false = true) by decide)] at H; exact H
        clear H
        have H := H1
        clear H1
        replace H := Option.bind_eq_some_iff.mp H
        obtain ⟨t172, A50, H⟩ := H
        replace H : (if 0 ≤ a0 then (if a0 < (t172.length : Int) then (if (rdOf ByteArray.empty t172 a0).toList = ([114, 101, 116] : List UInt8) then (some 0) else (if (rdOf ByteArray.empty t172 a0).toList = ([106, 114] : List UInt8) then (some 1) else ((garrisonref16_in.f kj1 (rdOf ByteArray.empty t172 a0) (⟨#[109, 111, 118, 32, 99, 108, 122, 32, 112, 111, 112]⟩ : ByteArray)).bind fun t176 => (if t176 = true then (some 2) else ((garrisonref16_in.f kj1 (rdOf ByteArray.empty t172 a0) (⟨#[97, 100, 100, 105, 32, 108, 98, 32, 108, 98, 115, 32, 108, 104, 32, 108, 104, 115, 32, 108, 119, 32, 115, 98, 32, 115, 104, 32, 115, 119]⟩ : ByteArray)).bind fun t177 => (if t177 = true then (some 4) else ((garrisonref16_in.f kj1 (rdOf ByteArray.empty t172 a0) (⟨#[108, 100, 105, 32, 108, 100, 115, 32, 108, 117, 105, 32, 106, 122, 32, 106, 110, 122]⟩ : ByteArray)).bind fun t178 => (if t178 = true then (some 5) else ((garrisonref16_in.f kj1 (rdOf ByteArray.empty t172 a0) (⟨#[106, 109, 112, 32, 99, 97, 108, 108]⟩ : ByteArray)).bind fun t179 => (if t179 = true then (some 6) else (if (rdOf ByteArray.empty t172 a0).toList = ([101, 120, 116] : List UInt8) then (some 7) else (if (rdOf ByteArray.empty t172 a0).toList = ([115, 121, 115] : List UInt8) then (some 8) else (some 3))))))))))))) else (none)) else (none)) = some r := H
        have A5 := Aside0.mk A50
        clear A50
        by_cases c6 : 0 ≤ a0
        · rw [if_pos c6] at H
          have c6b0 : decide (0 ≤ a0) = true := decide_eq_true c6
          clear c6
          by_cases c7 : a0 < (t172.length : Int)
          · rw [if_pos c7] at H
            have c7b0 : decide (a0 < (t172.length : Int)) = true := decide_eq_true c7
            clear c7
            by_cases c8 : (rdOf ByteArray.empty t172 a0).toList = ([114, 101, 116] : List UInt8)
            · rw [if_pos c8] at H
              have c8b0 : ((rdOf ByteArray.empty t172 a0).toList == ([114, 101, 116] : List UInt8)) = true := beq_iff_eq.mpr c8
              have c8b1 : ((rdOf ByteArray.empty t172 a0).toList != ([114, 101, 116] : List UInt8)) = false := bne_eq_false_iff_eq.mpr c8
              clear c8
              obtain rfl := Option.some.inj H
              go_wp2_with (first | ((with_reducible refine gate_callee (f := 41) rfl ?_); refine goesL_ (some 10) rfl rfl Tryd.func41 (by kernel_rfl) rfl #[] rfl (by (try simp only [List.map_toArray, List.map_cons, List.map_nil]); first | done | rfl | (simp only [List.length_drop, List.length_take]; rfl)) ?_; (with_reducible refine (garrisonref16_Names.calls  t172 _ A5.out).mono ?_); rintro e w9 ⟨v173, rfl, ho0, hb⟩; refine ⟨_, rfl, ?_⟩; have n0_ := Aside0.mk (Kd.R_lower ho0 (below_size (by repeat (first | (with_reducible first | exact HB.out | apply below_alloc | apply pw_below_drewN | apply below_drew1) | exact HB.out)))); have n1_ := Aside0.mk (below_step (by repeat (first | (with_reducible first | exact HB.out | apply below_alloc | apply pw_below_drewN | apply below_drew1) | exact HB.out)) hb); clear HB; have HO174 := n0_; have HB := n1_; clear n0_ n1_; (try clear hb); (try clear hb2); (try clear hk); (try clear hi); (try clear ho0); obtain ⟨Ao10, co10, eo10⟩ := Kd.R_slice HO174.out; subst eo10; have p175 : 0 ≤ (a0 : Int) := of_decide_eq_true (by first | (with_reducible assumption) | assumption); have q175 : a0 < (t172.length : Int) := of_decide_eq_true (by first | (with_reducible assumption) | assumption); obtain ⟨ad175, e175, hx175_0⟩ := Kd.at_string (Kd.R_reads' HO174.out).2.2 a0 p175 q175; cases e175; replace p175 := eq_true p175; replace q175 := eq_true q175))
              go_ret
              exact ⟨by first | rfl | (simp [errW_none, errW_some] <;> rfl) | (simp [*, errW_none, errW_some] <;> rfl), by repeat (first | (with_reducible first | exact HB.out | apply below_alloc | apply pw_below_drewN | apply below_drew1) | exact HB.out)⟩
            · rw [if_neg c8] at H
              have c8b0 : ((rdOf ByteArray.empty t172 a0).toList == ([114, 101, 116] : List UInt8)) = false := beq_eq_false_iff_ne.mpr c8
              have c8b1 : ((rdOf ByteArray.empty t172 a0).toList != ([114, 101, 116] : List UInt8)) = true := bne_iff_ne.mpr c8
              by_cases c11 : (rdOf ByteArray.empty t172 a0).toList = ([106, 114] : List UInt8)
              · rw [if_pos c11] at H
                have c11b0 : ((rdOf ByteArray.empty t172 a0).toList == ([106, 114] : List UInt8)) = true := beq_iff_eq.mpr c11
                have c11b1 : ((rdOf ByteArray.empty t172 a0).toList != ([106, 114] : List UInt8)) = false := bne_eq_false_iff_eq.mpr c11
                clear c11
                obtain rfl := Option.some.inj H
                go_wp2_with (first | ((with_reducible refine gate_callee (f := 41) rfl ?_); refine goesL_ (some 10) rfl rfl Tryd.func41 (by kernel_rfl) rfl #[] rfl (by (try simp only [List.map_toArray, List.map_cons, List.map_nil]); first | done | rfl | (simp only [List.length_drop, List.length_take]; rfl)) ?_; (with_reducible refine (garrisonref16_Names.calls  t172 _ A5.out).mono ?_); rintro e w12 ⟨v173, rfl, ho0, hb⟩; refine ⟨_, rfl, ?_⟩; have n0_ := Aside0.mk (Kd.R_lower ho0 (below_size (by repeat (first | (with_reducible first | exact HB.out | apply below_alloc | apply pw_below_drewN | apply below_drew1) | exact HB.out)))); have n1_ := Aside0.mk (below_step (by repeat (first | (with_reducible first | exact HB.out | apply below_alloc | apply pw_below_drewN | apply below_drew1) | exact HB.out)) hb); clear HB; have HO174 := n0_; have HB := n1_; clear n0_ n1_; (try clear hb); (try clear hb2); (try clear hk); (try clear hi); (try clear ho0); obtain ⟨Ao13, co13, eo13⟩ := Kd.R_slice HO174.out; subst eo13; have p175 : 0 ≤ (a0 : Int) := of_decide_eq_true (by first | (with_reducible assumption) | assumption); have q175 : a0 < (t172.length : Int) := of_decide_eq_true (by first | (with_reducible assumption) | assumption); obtain ⟨ad175, e175, hx175_0⟩ := Kd.at_string (Kd.R_reads' HO174.out).2.2 a0 p175 q175; cases e175; replace p175 := eq_true p175; replace q175 := eq_true q175))
                go_ret
                exact ⟨by first | rfl | (simp [errW_none, errW_some] <;> rfl) | (simp [*, errW_none, errW_some] <;> rfl), by repeat (first | (with_reducible first | exact HB.out | apply below_alloc | apply pw_below_drewN | apply below_drew1) | exact HB.out)⟩
              · rw [if_neg c11] at H
                have c11b0 : ((rdOf ByteArray.empty t172 a0).toList == ([106, 114] : List UInt8)) = false := beq_eq_false_iff_ne.mpr c11
                have c11b1 : ((rdOf ByteArray.empty t172 a0).toList != ([106, 114] : List UInt8)) = true := bne_iff_ne.mpr c11
                replace H := Option.bind_eq_some_iff.mp H
                obtain ⟨t176, A140, H⟩ := H
                replace H : (if t176 = true then (some 2) else ((garrisonref16_in.f kj1 (rdOf ByteArray.empty t172 a0) (⟨#[97, 100, 100, 105, 32, 108, 98, 32, 108, 98, 115, 32, 108, 104, 32, 108, 104, 115, 32, 108, 119, 32, 115, 98, 32, 115, 104, 32, 115, 119]⟩ : ByteArray)).bind fun t177 => (if t177 = true then (some 4) else ((garrisonref16_in.f kj1 (rdOf ByteArray.empty t172 a0) (⟨#[108, 100, 105, 32, 108, 100, 115, 32, 108, 117, 105, 32, 106, 122, 32, 106, 110, 122]⟩ : ByteArray)).bind fun t178 => (if t178 = true then (some 5) else ((garrisonref16_in.f kj1 (rdOf ByteArray.empty t172 a0) (⟨#[106, 109, 112, 32, 99, 97, 108, 108]⟩ : ByteArray)).bind fun t179 => (if t179 = true then (some 6) else (if (rdOf ByteArray.empty t172 a0).toList = ([101, 120, 116] : List UInt8) then (some 7) else (if (rdOf ByteArray.empty t172 a0).toList = ([115, 121, 115] : List UInt8) then (some 8) else (some 3)))))))))) = some r := H
                have A14 := Aside0.mk A140
                clear A140
                by_cases c15 : t176 = true
                · subst c15
                  have H1 : (some 2) = some r := by rw [if_pos rfl] at H; exact H
                  clear H
                  have H := H1
                  clear H1
                  obtain rfl := Option.some.inj H
                  go_wp2_with (first | ((with_reducible refine gate_callee (f := 41) rfl ?_); refine goesL_ (some 10) rfl rfl Tryd.func41 (by kernel_rfl) rfl #[] rfl (by (try simp only [List.map_toArray, List.map_cons, List.map_nil]); first | done | rfl | (simp only [List.length_drop, List.length_take]; rfl)) ?_; (with_reducible refine (garrisonref16_Names.calls  t172 _ A5.out).mono ?_); rintro e w16 ⟨v173, rfl, ho0, hb⟩; refine ⟨_, rfl, ?_⟩; have n0_ := Aside0.mk (Kd.R_lower ho0 (below_size (by repeat (first | (with_reducible first | exact HB.out | apply below_alloc | apply pw_below_drewN | apply below_drew1) | exact HB.out)))); have n1_ := Aside0.mk (below_step (by repeat (first | (with_reducible first | exact HB.out | apply below_alloc | apply pw_below_drewN | apply below_drew1) | exact HB.out)) hb); clear HB; have HO174 := n0_; have HB := n1_; clear n0_ n1_; (try clear hb); (try clear hb2); (try clear hk); (try clear hi); (try clear ho0); obtain ⟨Ao17, co17, eo17⟩ := Kd.R_slice HO174.out; subst eo17; have p175 : 0 ≤ (a0 : Int) := of_decide_eq_true (by first | (with_reducible assumption) | assumption); have q175 : a0 < (t172.length : Int) := of_decide_eq_true (by first | (with_reducible assumption) | assumption); obtain ⟨ad175, e175, hx175_0⟩ := Kd.at_string (Kd.R_reads' HO174.out).2.2 a0 p175 q175; cases e175; replace p175 := eq_true p175; replace q175 := eq_true q175) | ((with_reducible refine gate_callee (f := 63) rfl ?_); refine goesL_ (some 22) rfl rfl Tryd.func63 (by kernel_rfl) rfl #[.string (rdOf ByteArray.empty t172 a0), .string (⟨#[109, 111, 118, 32, 99, 108, 122, 32, 112, 111, 112]⟩ : ByteArray)] rfl (by (try simp only [List.map_toArray, List.map_cons, List.map_nil]); first | done | rfl | (simp only [List.length_drop, List.length_take]; rfl)) ?_; (with_reducible refine (garrisonref16_in.calls kj1 (rdOf ByteArray.empty t172 a0) (⟨#[109, 111, 118, 32, 99, 108, 122, 32, 112, 111, 112]⟩ : ByteArray) true _ A14.out).mono ?_); rintro e w' ⟨rfl, ⟨nd, rfl⟩⟩; refine ⟨_, rfl, ?_⟩))
                  go_ret
                  exact ⟨by first | rfl | (simp [errW_none, errW_some] <;> rfl) | (simp [*, errW_none, errW_some] <;> rfl), by repeat (first | (with_reducible first | exact HB.out | apply below_alloc | apply pw_below_drewN | apply below_drew1) | exact HB.out)⟩
                · replace c15 := Bool.eq_false_iff.mpr c15
                  subst c15
                  have H1 : ((garrisonref16_in.f kj1 (rdOf ByteArray.empty t172 a0) (⟨#[97, 100, 100, 105, 32, 108, 98, 32, 108, 98, 115, 32, 108, 104, 32, 108, 104, 115, 32, 108, 119, 32, 115, 98, 32, 115, 104, 32, 115, 119]⟩ : ByteArray)).bind fun t177 => (if t177 = true then (some 4) else ((garrisonref16_in.f kj1 (rdOf ByteArray.empty t172 a0) (⟨#[108, 100, 105, 32, 108, 100, 115, 32, 108, 117, 105, 32, 106, 122, 32, 106, 110, 122]⟩ : ByteArray)).bind fun t178 => (if t178 = true then (some 5) else ((garrisonref16_in.f kj1 (rdOf ByteArray.empty t172 a0) (⟨#[106, 109, 112, 32, 99, 97, 108, 108]⟩ : ByteArray)).bind fun t179 => (if t179 = true then (some 6) else (if (rdOf ByteArray.empty t172 a0).toList = ([101, 120, 116] : List UInt8) then (some 7) else (if (rdOf ByteArray.empty t172 a0).toList = ([115, 121, 115] : List UInt8) then (some 8) else (some 3))))))))) = some r := by rw [if_neg (show ¬ (false = true) by decide)] at H; exact H
                  clear H
                  have H := H1
                  clear H1
                  replace H := Option.bind_eq_some_iff.mp H
                  obtain ⟨t177, A180, H⟩ := H
                  replace H : (if t177 = true then (some 4) else ((garrisonref16_in.f kj1 (rdOf ByteArray.empty t172 a0) (⟨#[108, 100, 105, 32, 108, 100, 115, 32, 108, 117, 105, 32, 106, 122, 32, 106, 110, 122]⟩ : ByteArray)).bind fun t178 => (if t178 = true then (some 5) else ((garrisonref16_in.f kj1 (rdOf ByteArray.empty t172 a0) (⟨#[106, 109, 112, 32, 99, 97, 108, 108]⟩ : ByteArray)).bind fun t179 => (if t179 = true then (some 6) else (if (rdOf ByteArray.empty t172 a0).toList = ([101, 120, 116] : List UInt8) then (some 7) else (if (rdOf ByteArray.empty t172 a0).toList = ([115, 121, 115] : List UInt8) then (some 8) else (some 3)))))))) = some r := H
                  have A18 := Aside0.mk A180
                  clear A180
                  by_cases c19 : t177 = true
                  · subst c19
                    have H1 : (some 4) = some r := by rw [if_pos rfl] at H; exact H
                    clear H
                    have H := H1
                    clear H1
                    obtain rfl := Option.some.inj H
                    go_wp2_with (first | ((with_reducible refine gate_callee (f := 41) rfl ?_); refine goesL_ (some 10) rfl rfl Tryd.func41 (by kernel_rfl) rfl #[] rfl (by (try simp only [List.map_toArray, List.map_cons, List.map_nil]); first | done | rfl | (simp only [List.length_drop, List.length_take]; rfl)) ?_; (with_reducible refine (garrisonref16_Names.calls  t172 _ A5.out).mono ?_); rintro e w20 ⟨v173, rfl, ho0, hb⟩; refine ⟨_, rfl, ?_⟩; have n0_ := Aside0.mk (Kd.R_lower ho0 (below_size (by repeat (first | (with_reducible first | exact HB.out | apply below_alloc | apply pw_below_drewN | apply below_drew1) | exact HB.out)))); have n1_ := Aside0.mk (below_step (by repeat (first | (with_reducible first | exact HB.out | apply below_alloc | apply pw_below_drewN | apply below_drew1) | exact HB.out)) hb); clear HB; have HO174 := n0_; have HB := n1_; clear n0_ n1_; (try clear hb); (try clear hb2); (try clear hk); (try clear hi); (try clear ho0); obtain ⟨Ao21, co21, eo21⟩ := Kd.R_slice HO174.out; subst eo21; have p175 : 0 ≤ (a0 : Int) := of_decide_eq_true (by first | (with_reducible assumption) | assumption); have q175 : a0 < (t172.length : Int) := of_decide_eq_true (by first | (with_reducible assumption) | assumption); obtain ⟨ad175, e175, hx175_0⟩ := Kd.at_string (Kd.R_reads' HO174.out).2.2 a0 p175 q175; cases e175; replace p175 := eq_true p175; replace q175 := eq_true q175) | ((with_reducible refine gate_callee (f := 63) rfl ?_); refine goesL_ (some 22) rfl rfl Tryd.func63 (by kernel_rfl) rfl #[.string (rdOf ByteArray.empty t172 a0), .string (⟨#[109, 111, 118, 32, 99, 108, 122, 32, 112, 111, 112]⟩ : ByteArray)] rfl (by (try simp only [List.map_toArray, List.map_cons, List.map_nil]); first | done | rfl | (simp only [List.length_drop, List.length_take]; rfl)) ?_; (with_reducible refine (garrisonref16_in.calls kj1 (rdOf ByteArray.empty t172 a0) (⟨#[109, 111, 118, 32, 99, 108, 122, 32, 112, 111, 112]⟩ : ByteArray) false _ A14.out).mono ?_); rintro e w' ⟨rfl, ⟨nd, rfl⟩⟩; refine ⟨_, rfl, ?_⟩) | ((with_reducible refine gate_callee (f := 63) rfl ?_); refine goesL_ (some 25) rfl rfl Tryd.func63 (by kernel_rfl) rfl #[.string (rdOf ByteArray.empty t172 a0), .string (⟨#[97, 100, 100, 105, 32, 108, 98, 32, 108, 98, 115, 32, 108, 104, 32, 108, 104, 115, 32, 108, 119, 32, 115, 98, 32, 115, 104, 32, 115, 119]⟩ : ByteArray)] rfl (by (try simp only [List.map_toArray, List.map_cons, List.map_nil]); first | done | rfl | (simp only [List.length_drop, List.length_take]; rfl)) ?_; (with_reducible refine (garrisonref16_in.calls kj1 (rdOf ByteArray.empty t172 a0) (⟨#[97, 100, 100, 105, 32, 108, 98, 32, 108, 98, 115, 32, 108, 104, 32, 108, 104, 115, 32, 108, 119, 32, 115, 98, 32, 115, 104, 32, 115, 119]⟩ : ByteArray) true _ A18.out).mono ?_); rintro e w' ⟨rfl, ⟨nd, rfl⟩⟩; refine ⟨_, rfl, ?_⟩))
                    go_ret
                    exact ⟨by first | rfl | (simp [errW_none, errW_some] <;> rfl) | (simp [*, errW_none, errW_some] <;> rfl), by repeat (first | (with_reducible first | exact HB.out | apply below_alloc | apply pw_below_drewN | apply below_drew1) | exact HB.out)⟩
                  · replace c19 := Bool.eq_false_iff.mpr c19
                    subst c19
                    have H1 : ((garrisonref16_in.f kj1 (rdOf ByteArray.empty t172 a0) (⟨#[108, 100, 105, 32, 108, 100, 115, 32, 108, 117, 105, 32, 106, 122, 32, 106, 110, 122]⟩ : ByteArray)).bind fun t178 => (if t178 = true then (some 5) else ((garrisonref16_in.f kj1 (rdOf ByteArray.empty t172 a0) (⟨#[106, 109, 112, 32, 99, 97, 108, 108]⟩ : ByteArray)).bind fun t179 => (if t179 = true then (some 6) else (if (rdOf ByteArray.empty t172 a0).toList = ([101, 120, 116] : List UInt8) then (some 7) else (if (rdOf ByteArray.empty t172 a0).toList = ([115, 121, 115] : List UInt8) then (some 8) else (some 3))))))) = some r := by rw [if_neg (show ¬ (false = true) by decide)] at H; exact H
                    clear H
                    have H := H1
                    clear H1
                    replace H := Option.bind_eq_some_iff.mp H
                    obtain ⟨t178, A220, H⟩ := H
                    replace H : (if t178 = true then (some 5) else ((garrisonref16_in.f kj1 (rdOf ByteArray.empty t172 a0) (⟨#[106, 109, 112, 32, 99, 97, 108, 108]⟩ : ByteArray)).bind fun t179 => (if t179 = true then (some 6) else (if (rdOf ByteArray.empty t172 a0).toList = ([101, 120, 116] : List UInt8) then (some 7) else (if (rdOf ByteArray.empty t172 a0).toList = ([115, 121, 115] : List UInt8) then (some 8) else (some 3)))))) = some r := H
                    have A22 := Aside0.mk A220
                    clear A220
                    by_cases c23 : t178 = true
                    · subst c23
                      have H1 : (some 5) = some r := by rw [if_pos rfl] at H; exact H
                      clear H
                      have H := H1
                      clear H1
                      obtain rfl := Option.some.inj H
                      go_wp2_with (first | ((with_reducible refine gate_callee (f := 41) rfl ?_); refine goesL_ (some 10) rfl rfl Tryd.func41 (by kernel_rfl) rfl #[] rfl (by (try simp only [List.map_toArray, List.map_cons, List.map_nil]); first | done | rfl | (simp only [List.length_drop, List.length_take]; rfl)) ?_; (with_reducible refine (garrisonref16_Names.calls  t172 _ A5.out).mono ?_); rintro e w24 ⟨v173, rfl, ho0, hb⟩; refine ⟨_, rfl, ?_⟩; have n0_ := Aside0.mk (Kd.R_lower ho0 (below_size (by repeat (first | (with_reducible first | exact HB.out | apply below_alloc | apply pw_below_drewN | apply below_drew1) | exact HB.out)))); have n1_ := Aside0.mk (below_step (by repeat (first | (with_reducible first | exact HB.out | apply below_alloc | apply pw_below_drewN | apply below_drew1) | exact HB.out)) hb); clear HB; have HO174 := n0_; have HB := n1_; clear n0_ n1_; (try clear hb); (try clear hb2); (try clear hk); (try clear hi); (try clear ho0); obtain ⟨Ao25, co25, eo25⟩ := Kd.R_slice HO174.out; subst eo25; have p175 : 0 ≤ (a0 : Int) := of_decide_eq_true (by first | (with_reducible assumption) | assumption); have q175 : a0 < (t172.length : Int) := of_decide_eq_true (by first | (with_reducible assumption) | assumption); obtain ⟨ad175, e175, hx175_0⟩ := Kd.at_string (Kd.R_reads' HO174.out).2.2 a0 p175 q175; cases e175; replace p175 := eq_true p175; replace q175 := eq_true q175) | ((with_reducible refine gate_callee (f := 63) rfl ?_); refine goesL_ (some 22) rfl rfl Tryd.func63 (by kernel_rfl) rfl #[.string (rdOf ByteArray.empty t172 a0), .string (⟨#[109, 111, 118, 32, 99, 108, 122, 32, 112, 111, 112]⟩ : ByteArray)] rfl (by (try simp only [List.map_toArray, List.map_cons, List.map_nil]); first | done | rfl | (simp only [List.length_drop, List.length_take]; rfl)) ?_; (with_reducible refine (garrisonref16_in.calls kj1 (rdOf ByteArray.empty t172 a0) (⟨#[109, 111, 118, 32, 99, 108, 122, 32, 112, 111, 112]⟩ : ByteArray) false _ A14.out).mono ?_); rintro e w' ⟨rfl, ⟨nd, rfl⟩⟩; refine ⟨_, rfl, ?_⟩) | ((with_reducible refine gate_callee (f := 63) rfl ?_); refine goesL_ (some 25) rfl rfl Tryd.func63 (by kernel_rfl) rfl #[.string (rdOf ByteArray.empty t172 a0), .string (⟨#[97, 100, 100, 105, 32, 108, 98, 32, 108, 98, 115, 32, 108, 104, 32, 108, 104, 115, 32, 108, 119, 32, 115, 98, 32, 115, 104, 32, 115, 119]⟩ : ByteArray)] rfl (by (try simp only [List.map_toArray, List.map_cons, List.map_nil]); first | done | rfl | (simp only [List.length_drop, List.length_take]; rfl)) ?_; (with_reducible refine (garrisonref16_in.calls kj1 (rdOf ByteArray.empty t172 a0) (⟨#[97, 100, 100, 105, 32, 108, 98, 32, 108, 98, 115, 32, 108, 104, 32, 108, 104, 115, 32, 108, 119, 32, 115, 98, 32, 115, 104, 32, 115, 119]⟩ : ByteArray) false _ A18.out).mono ?_); rintro e w' ⟨rfl, ⟨nd, rfl⟩⟩; refine ⟨_, rfl, ?_⟩) | ((with_reducible refine gate_callee (f := 63) rfl ?_); refine goesL_ (some 28) rfl rfl Tryd.func63 (by kernel_rfl) rfl #[.string (rdOf ByteArray.empty t172 a0), .string (⟨#[108, 100, 105, 32, 108, 100, 115, 32, 108, 117, 105, 32, 106, 122, 32, 106, 110, 122]⟩ : ByteArray)] rfl (by (try simp only [List.map_toArray, List.map_cons, List.map_nil]); first | done | rfl | (simp only [List.length_drop, List.length_take]; rfl)) ?_; (with_reducible refine (garrisonref16_in.calls kj1 (rdOf ByteArray.empty t172 a0) (⟨#[108, 100, 105, 32, 108, 100, 115, 32, 108, 117, 105, 32, 106, 122, 32, 106, 110, 122]⟩ : ByteArray) true _ A22.out).mono ?_); rintro e w' ⟨rfl, ⟨nd, rfl⟩⟩; refine ⟨_, rfl, ?_⟩))
                      go_ret
                      exact ⟨by first | rfl | (simp [errW_none, errW_some] <;> rfl) | (simp [*, errW_none, errW_some] <;> rfl), by repeat (first | (with_reducible first | exact HB.out | apply below_alloc | apply pw_below_drewN | apply below_drew1) | exact HB.out)⟩
                    · replace c23 := Bool.eq_false_iff.mpr c23
                      subst c23
                      have H1 : ((garrisonref16_in.f kj1 (rdOf ByteArray.empty t172 a0) (⟨#[106, 109, 112, 32, 99, 97, 108, 108]⟩ : ByteArray)).bind fun t179 => (if t179 = true then (some 6) else (if (rdOf ByteArray.empty t172 a0).toList = ([101, 120, 116] : List UInt8) then (some 7) else (if (rdOf ByteArray.empty t172 a0).toList = ([115, 121, 115] : List UInt8) then (some 8) else (some 3))))) = some r := by rw [if_neg (show ¬ (false = true) by decide)] at H; exact H
                      clear H
                      have H := H1
                      clear H1
                      replace H := Option.bind_eq_some_iff.mp H
                      obtain ⟨t179, A260, H⟩ := H
                      replace H : (if t179 = true then (some 6) else (if (rdOf ByteArray.empty t172 a0).toList = ([101, 120, 116] : List UInt8) then (some 7) else (if (rdOf ByteArray.empty t172 a0).toList = ([115, 121, 115] : List UInt8) then (some 8) else (some 3)))) = some r := H
                      have A26 := Aside0.mk A260
                      clear A260
                      by_cases c27 : t179 = true
                      · subst c27
                        have H1 : (some 6) = some r := by rw [if_pos rfl] at H; exact H
                        clear H
                        have H := H1
                        clear H1
                        obtain rfl := Option.some.inj H
                        go_wp2_with (first | ((with_reducible refine gate_callee (f := 41) rfl ?_); refine goesL_ (some 10) rfl rfl Tryd.func41 (by kernel_rfl) rfl #[] rfl (by (try simp only [List.map_toArray, List.map_cons, List.map_nil]); first | done | rfl | (simp only [List.length_drop, List.length_take]; rfl)) ?_; (with_reducible refine (garrisonref16_Names.calls  t172 _ A5.out).mono ?_); rintro e w28 ⟨v173, rfl, ho0, hb⟩; refine ⟨_, rfl, ?_⟩; have n0_ := Aside0.mk (Kd.R_lower ho0 (below_size (by repeat (first | (with_reducible first | exact HB.out | apply below_alloc | apply pw_below_drewN | apply below_drew1) | exact HB.out)))); have n1_ := Aside0.mk (below_step (by repeat (first | (with_reducible first | exact HB.out | apply below_alloc | apply pw_below_drewN | apply below_drew1) | exact HB.out)) hb); clear HB; have HO174 := n0_; have HB := n1_; clear n0_ n1_; (try clear hb); (try clear hb2); (try clear hk); (try clear hi); (try clear ho0); obtain ⟨Ao29, co29, eo29⟩ := Kd.R_slice HO174.out; subst eo29; have p175 : 0 ≤ (a0 : Int) := of_decide_eq_true (by first | (with_reducible assumption) | assumption); have q175 : a0 < (t172.length : Int) := of_decide_eq_true (by first | (with_reducible assumption) | assumption); obtain ⟨ad175, e175, hx175_0⟩ := Kd.at_string (Kd.R_reads' HO174.out).2.2 a0 p175 q175; cases e175; replace p175 := eq_true p175; replace q175 := eq_true q175) | ((with_reducible refine gate_callee (f := 63) rfl ?_); refine goesL_ (some 22) rfl rfl Tryd.func63 (by kernel_rfl) rfl #[.string (rdOf ByteArray.empty t172 a0), .string (⟨#[109, 111, 118, 32, 99, 108, 122, 32, 112, 111, 112]⟩ : ByteArray)] rfl (by (try simp only [List.map_toArray, List.map_cons, List.map_nil]); first | done | rfl | (simp only [List.length_drop, List.length_take]; rfl)) ?_; (with_reducible refine (garrisonref16_in.calls kj1 (rdOf ByteArray.empty t172 a0) (⟨#[109, 111, 118, 32, 99, 108, 122, 32, 112, 111, 112]⟩ : ByteArray) false _ A14.out).mono ?_); rintro e w' ⟨rfl, ⟨nd, rfl⟩⟩; refine ⟨_, rfl, ?_⟩) | ((with_reducible refine gate_callee (f := 63) rfl ?_); refine goesL_ (some 25) rfl rfl Tryd.func63 (by kernel_rfl) rfl #[.string (rdOf ByteArray.empty t172 a0), .string (⟨#[97, 100, 100, 105, 32, 108, 98, 32, 108, 98, 115, 32, 108, 104, 32, 108, 104, 115, 32, 108, 119, 32, 115, 98, 32, 115, 104, 32, 115, 119]⟩ : ByteArray)] rfl (by (try simp only [List.map_toArray, List.map_cons, List.map_nil]); first | done | rfl | (simp only [List.length_drop, List.length_take]; rfl)) ?_; (with_reducible refine (garrisonref16_in.calls kj1 (rdOf ByteArray.empty t172 a0) (⟨#[97, 100, 100, 105, 32, 108, 98, 32, 108, 98, 115, 32, 108, 104, 32, 108, 104, 115, 32, 108, 119, 32, 115, 98, 32, 115, 104, 32, 115, 119]⟩ : ByteArray) false _ A18.out).mono ?_); rintro e w' ⟨rfl, ⟨nd, rfl⟩⟩; refine ⟨_, rfl, ?_⟩) | ((with_reducible refine gate_callee (f := 63) rfl ?_); refine goesL_ (some 28) rfl rfl Tryd.func63 (by kernel_rfl) rfl #[.string (rdOf ByteArray.empty t172 a0), .string (⟨#[108, 100, 105, 32, 108, 100, 115, 32, 108, 117, 105, 32, 106, 122, 32, 106, 110, 122]⟩ : ByteArray)] rfl (by (try simp only [List.map_toArray, List.map_cons, List.map_nil]); first | done | rfl | (simp only [List.length_drop, List.length_take]; rfl)) ?_; (with_reducible refine (garrisonref16_in.calls kj1 (rdOf ByteArray.empty t172 a0) (⟨#[108, 100, 105, 32, 108, 100, 115, 32, 108, 117, 105, 32, 106, 122, 32, 106, 110, 122]⟩ : ByteArray) false _ A22.out).mono ?_); rintro e w' ⟨rfl, ⟨nd, rfl⟩⟩; refine ⟨_, rfl, ?_⟩) | ((with_reducible refine gate_callee (f := 63) rfl ?_); refine goesL_ (some 31) rfl rfl Tryd.func63 (by kernel_rfl) rfl #[.string (rdOf ByteArray.empty t172 a0), .string (⟨#[106, 109, 112, 32, 99, 97, 108, 108]⟩ : ByteArray)] rfl (by (try simp only [List.map_toArray, List.map_cons, List.map_nil]); first | done | rfl | (simp only [List.length_drop, List.length_take]; rfl)) ?_; (with_reducible refine (garrisonref16_in.calls kj1 (rdOf ByteArray.empty t172 a0) (⟨#[106, 109, 112, 32, 99, 97, 108, 108]⟩ : ByteArray) true _ A26.out).mono ?_); rintro e w' ⟨rfl, ⟨nd, rfl⟩⟩; refine ⟨_, rfl, ?_⟩))
                        go_ret
                        exact ⟨by first | rfl | (simp [errW_none, errW_some] <;> rfl) | (simp [*, errW_none, errW_some] <;> rfl), by repeat (first | (with_reducible first | exact HB.out | apply below_alloc | apply pw_below_drewN | apply below_drew1) | exact HB.out)⟩
                      · replace c27 := Bool.eq_false_iff.mpr c27
                        subst c27
                        have H1 : (if (rdOf ByteArray.empty t172 a0).toList = ([101, 120, 116] : List UInt8) then (some 7) else (if (rdOf ByteArray.empty t172 a0).toList = ([115, 121, 115] : List UInt8) then (some 8) else (some 3))) = some r := by rw [if_neg (show ¬ (false = true) by decide)] at H; exact H
                        clear H
                        have H := H1
                        clear H1
                        by_cases c30 : (rdOf ByteArray.empty t172 a0).toList = ([101, 120, 116] : List UInt8)
                        · rw [if_pos c30] at H
                          have c30b0 : ((rdOf ByteArray.empty t172 a0).toList == ([101, 120, 116] : List UInt8)) = true := beq_iff_eq.mpr c30
                          have c30b1 : ((rdOf ByteArray.empty t172 a0).toList != ([101, 120, 116] : List UInt8)) = false := bne_eq_false_iff_eq.mpr c30
                          clear c30
                          obtain rfl := Option.some.inj H
                          go_wp2_with (first | ((with_reducible refine gate_callee (f := 41) rfl ?_); refine goesL_ (some 10) rfl rfl Tryd.func41 (by kernel_rfl) rfl #[] rfl (by (try simp only [List.map_toArray, List.map_cons, List.map_nil]); first | done | rfl | (simp only [List.length_drop, List.length_take]; rfl)) ?_; (with_reducible refine (garrisonref16_Names.calls  t172 _ A5.out).mono ?_); rintro e w31 ⟨v173, rfl, ho0, hb⟩; refine ⟨_, rfl, ?_⟩; have n0_ := Aside0.mk (Kd.R_lower ho0 (below_size (by repeat (first | (with_reducible first | exact HB.out | apply below_alloc | apply pw_below_drewN | apply below_drew1) | exact HB.out)))); have n1_ := Aside0.mk (below_step (by repeat (first | (with_reducible first | exact HB.out | apply below_alloc | apply pw_below_drewN | apply below_drew1) | exact HB.out)) hb); clear HB; have HO174 := n0_; have HB := n1_; clear n0_ n1_; (try clear hb); (try clear hb2); (try clear hk); (try clear hi); (try clear ho0); obtain ⟨Ao32, co32, eo32⟩ := Kd.R_slice HO174.out; subst eo32; have p175 : 0 ≤ (a0 : Int) := of_decide_eq_true (by first | (with_reducible assumption) | assumption); have q175 : a0 < (t172.length : Int) := of_decide_eq_true (by first | (with_reducible assumption) | assumption); obtain ⟨ad175, e175, hx175_0⟩ := Kd.at_string (Kd.R_reads' HO174.out).2.2 a0 p175 q175; cases e175; replace p175 := eq_true p175; replace q175 := eq_true q175) | ((with_reducible refine gate_callee (f := 63) rfl ?_); refine goesL_ (some 22) rfl rfl Tryd.func63 (by kernel_rfl) rfl #[.string (rdOf ByteArray.empty t172 a0), .string (⟨#[109, 111, 118, 32, 99, 108, 122, 32, 112, 111, 112]⟩ : ByteArray)] rfl (by (try simp only [List.map_toArray, List.map_cons, List.map_nil]); first | done | rfl | (simp only [List.length_drop, List.length_take]; rfl)) ?_; (with_reducible refine (garrisonref16_in.calls kj1 (rdOf ByteArray.empty t172 a0) (⟨#[109, 111, 118, 32, 99, 108, 122, 32, 112, 111, 112]⟩ : ByteArray) false _ A14.out).mono ?_); rintro e w' ⟨rfl, ⟨nd, rfl⟩⟩; refine ⟨_, rfl, ?_⟩) | ((with_reducible refine gate_callee (f := 63) rfl ?_); refine goesL_ (some 25) rfl rfl Tryd.func63 (by kernel_rfl) rfl #[.string (rdOf ByteArray.empty t172 a0), .string (⟨#[97, 100, 100, 105, 32, 108, 98, 32, 108, 98, 115, 32, 108, 104, 32, 108, 104, 115, 32, 108, 119, 32, 115, 98, 32, 115, 104, 32, 115, 119]⟩ : ByteArray)] rfl (by (try simp only [List.map_toArray, List.map_cons, List.map_nil]); first | done | rfl | (simp only [List.length_drop, List.length_take]; rfl)) ?_; (with_reducible refine (garrisonref16_in.calls kj1 (rdOf ByteArray.empty t172 a0) (⟨#[97, 100, 100, 105, 32, 108, 98, 32, 108, 98, 115, 32, 108, 104, 32, 108, 104, 115, 32, 108, 119, 32, 115, 98, 32, 115, 104, 32, 115, 119]⟩ : ByteArray) false _ A18.out).mono ?_); rintro e w' ⟨rfl, ⟨nd, rfl⟩⟩; refine ⟨_, rfl, ?_⟩) | ((with_reducible refine gate_callee (f := 63) rfl ?_); refine goesL_ (some 28) rfl rfl Tryd.func63 (by kernel_rfl) rfl #[.string (rdOf ByteArray.empty t172 a0), .string (⟨#[108, 100, 105, 32, 108, 100, 115, 32, 108, 117, 105, 32, 106, 122, 32, 106, 110, 122]⟩ : ByteArray)] rfl (by (try simp only [List.map_toArray, List.map_cons, List.map_nil]); first | done | rfl | (simp only [List.length_drop, List.length_take]; rfl)) ?_; (with_reducible refine (garrisonref16_in.calls kj1 (rdOf ByteArray.empty t172 a0) (⟨#[108, 100, 105, 32, 108, 100, 115, 32, 108, 117, 105, 32, 106, 122, 32, 106, 110, 122]⟩ : ByteArray) false _ A22.out).mono ?_); rintro e w' ⟨rfl, ⟨nd, rfl⟩⟩; refine ⟨_, rfl, ?_⟩) | ((with_reducible refine gate_callee (f := 63) rfl ?_); refine goesL_ (some 31) rfl rfl Tryd.func63 (by kernel_rfl) rfl #[.string (rdOf ByteArray.empty t172 a0), .string (⟨#[106, 109, 112, 32, 99, 97, 108, 108]⟩ : ByteArray)] rfl (by (try simp only [List.map_toArray, List.map_cons, List.map_nil]); first | done | rfl | (simp only [List.length_drop, List.length_take]; rfl)) ?_; (with_reducible refine (garrisonref16_in.calls kj1 (rdOf ByteArray.empty t172 a0) (⟨#[106, 109, 112, 32, 99, 97, 108, 108]⟩ : ByteArray) false _ A26.out).mono ?_); rintro e w' ⟨rfl, ⟨nd, rfl⟩⟩; refine ⟨_, rfl, ?_⟩))
                          go_ret
                          exact ⟨by first | rfl | (simp [errW_none, errW_some] <;> rfl) | (simp [*, errW_none, errW_some] <;> rfl), by repeat (first | (with_reducible first | exact HB.out | apply below_alloc | apply pw_below_drewN | apply below_drew1) | exact HB.out)⟩
                        · rw [if_neg c30] at H
                          have c30b0 : ((rdOf ByteArray.empty t172 a0).toList == ([101, 120, 116] : List UInt8)) = false := beq_eq_false_iff_ne.mpr c30
                          have c30b1 : ((rdOf ByteArray.empty t172 a0).toList != ([101, 120, 116] : List UInt8)) = true := bne_iff_ne.mpr c30
                          by_cases c33 : (rdOf ByteArray.empty t172 a0).toList = ([115, 121, 115] : List UInt8)
                          · rw [if_pos c33] at H
                            have c33b0 : ((rdOf ByteArray.empty t172 a0).toList == ([115, 121, 115] : List UInt8)) = true := beq_iff_eq.mpr c33
                            have c33b1 : ((rdOf ByteArray.empty t172 a0).toList != ([115, 121, 115] : List UInt8)) = false := bne_eq_false_iff_eq.mpr c33
                            clear c33
                            obtain rfl := Option.some.inj H
                            go_wp2_with (first | ((with_reducible refine gate_callee (f := 41) rfl ?_); refine goesL_ (some 10) rfl rfl Tryd.func41 (by kernel_rfl) rfl #[] rfl (by (try simp only [List.map_toArray, List.map_cons, List.map_nil]); first | done | rfl | (simp only [List.length_drop, List.length_take]; rfl)) ?_; (with_reducible refine (garrisonref16_Names.calls  t172 _ A5.out).mono ?_); rintro e w34 ⟨v173, rfl, ho0, hb⟩; refine ⟨_, rfl, ?_⟩; have n0_ := Aside0.mk (Kd.R_lower ho0 (below_size (by repeat (first | (with_reducible first | exact HB.out | apply below_alloc | apply pw_below_drewN | apply below_drew1) | exact HB.out)))); have n1_ := Aside0.mk (below_step (by repeat (first | (with_reducible first | exact HB.out | apply below_alloc | apply pw_below_drewN | apply below_drew1) | exact HB.out)) hb); clear HB; have HO174 := n0_; have HB := n1_; clear n0_ n1_; (try clear hb); (try clear hb2); (try clear hk); (try clear hi); (try clear ho0); obtain ⟨Ao35, co35, eo35⟩ := Kd.R_slice HO174.out; subst eo35; have p175 : 0 ≤ (a0 : Int) := of_decide_eq_true (by first | (with_reducible assumption) | assumption); have q175 : a0 < (t172.length : Int) := of_decide_eq_true (by first | (with_reducible assumption) | assumption); obtain ⟨ad175, e175, hx175_0⟩ := Kd.at_string (Kd.R_reads' HO174.out).2.2 a0 p175 q175; cases e175; replace p175 := eq_true p175; replace q175 := eq_true q175) | ((with_reducible refine gate_callee (f := 63) rfl ?_); refine goesL_ (some 22) rfl rfl Tryd.func63 (by kernel_rfl) rfl #[.string (rdOf ByteArray.empty t172 a0), .string (⟨#[109, 111, 118, 32, 99, 108, 122, 32, 112, 111, 112]⟩ : ByteArray)] rfl (by (try simp only [List.map_toArray, List.map_cons, List.map_nil]); first | done | rfl | (simp only [List.length_drop, List.length_take]; rfl)) ?_; (with_reducible refine (garrisonref16_in.calls kj1 (rdOf ByteArray.empty t172 a0) (⟨#[109, 111, 118, 32, 99, 108, 122, 32, 112, 111, 112]⟩ : ByteArray) false _ A14.out).mono ?_); rintro e w' ⟨rfl, ⟨nd, rfl⟩⟩; refine ⟨_, rfl, ?_⟩) | ((with_reducible refine gate_callee (f := 63) rfl ?_); refine goesL_ (some 25) rfl rfl Tryd.func63 (by kernel_rfl) rfl #[.string (rdOf ByteArray.empty t172 a0), .string (⟨#[97, 100, 100, 105, 32, 108, 98, 32, 108, 98, 115, 32, 108, 104, 32, 108, 104, 115, 32, 108, 119, 32, 115, 98, 32, 115, 104, 32, 115, 119]⟩ : ByteArray)] rfl (by (try simp only [List.map_toArray, List.map_cons, List.map_nil]); first | done | rfl | (simp only [List.length_drop, List.length_take]; rfl)) ?_; (with_reducible refine (garrisonref16_in.calls kj1 (rdOf ByteArray.empty t172 a0) (⟨#[97, 100, 100, 105, 32, 108, 98, 32, 108, 98, 115, 32, 108, 104, 32, 108, 104, 115, 32, 108, 119, 32, 115, 98, 32, 115, 104, 32, 115, 119]⟩ : ByteArray) false _ A18.out).mono ?_); rintro e w' ⟨rfl, ⟨nd, rfl⟩⟩; refine ⟨_, rfl, ?_⟩) | ((with_reducible refine gate_callee (f := 63) rfl ?_); refine goesL_ (some 28) rfl rfl Tryd.func63 (by kernel_rfl) rfl #[.string (rdOf ByteArray.empty t172 a0), .string (⟨#[108, 100, 105, 32, 108, 100, 115, 32, 108, 117, 105, 32, 106, 122, 32, 106, 110, 122]⟩ : ByteArray)] rfl (by (try simp only [List.map_toArray, List.map_cons, List.map_nil]); first | done | rfl | (simp only [List.length_drop, List.length_take]; rfl)) ?_; (with_reducible refine (garrisonref16_in.calls kj1 (rdOf ByteArray.empty t172 a0) (⟨#[108, 100, 105, 32, 108, 100, 115, 32, 108, 117, 105, 32, 106, 122, 32, 106, 110, 122]⟩ : ByteArray) false _ A22.out).mono ?_); rintro e w' ⟨rfl, ⟨nd, rfl⟩⟩; refine ⟨_, rfl, ?_⟩) | ((with_reducible refine gate_callee (f := 63) rfl ?_); refine goesL_ (some 31) rfl rfl Tryd.func63 (by kernel_rfl) rfl #[.string (rdOf ByteArray.empty t172 a0), .string (⟨#[106, 109, 112, 32, 99, 97, 108, 108]⟩ : ByteArray)] rfl (by (try simp only [List.map_toArray, List.map_cons, List.map_nil]); first | done | rfl | (simp only [List.length_drop, List.length_take]; rfl)) ?_; (with_reducible refine (garrisonref16_in.calls kj1 (rdOf ByteArray.empty t172 a0) (⟨#[106, 109, 112, 32, 99, 97, 108, 108]⟩ : ByteArray) false _ A26.out).mono ?_); rintro e w' ⟨rfl, ⟨nd, rfl⟩⟩; refine ⟨_, rfl, ?_⟩))
                            go_ret
                            exact ⟨by first | rfl | (simp [errW_none, errW_some] <;> rfl) | (simp [*, errW_none, errW_some] <;> rfl), by repeat (first | (with_reducible first | exact HB.out | apply below_alloc | apply pw_below_drewN | apply below_drew1) | exact HB.out)⟩
                          · rw [if_neg c33] at H
                            have c33b0 : ((rdOf ByteArray.empty t172 a0).toList == ([115, 121, 115] : List UInt8)) = false := beq_eq_false_iff_ne.mpr c33
                            have c33b1 : ((rdOf ByteArray.empty t172 a0).toList != ([115, 121, 115] : List UInt8)) = true := bne_iff_ne.mpr c33
                            obtain rfl := Option.some.inj H
                            go_wp2_with (first | ((with_reducible refine gate_callee (f := 41) rfl ?_); refine goesL_ (some 10) rfl rfl Tryd.func41 (by kernel_rfl) rfl #[] rfl (by (try simp only [List.map_toArray, List.map_cons, List.map_nil]); first | done | rfl | (simp only [List.length_drop, List.length_take]; rfl)) ?_; (with_reducible refine (garrisonref16_Names.calls  t172 _ A5.out).mono ?_); rintro e w36 ⟨v173, rfl, ho0, hb⟩; refine ⟨_, rfl, ?_⟩; have n0_ := Aside0.mk (Kd.R_lower ho0 (below_size (by repeat (first | (with_reducible first | exact HB.out | apply below_alloc | apply pw_below_drewN | apply below_drew1) | exact HB.out)))); have n1_ := Aside0.mk (below_step (by repeat (first | (with_reducible first | exact HB.out | apply below_alloc | apply pw_below_drewN | apply below_drew1) | exact HB.out)) hb); clear HB; have HO174 := n0_; have HB := n1_; clear n0_ n1_; (try clear hb); (try clear hb2); (try clear hk); (try clear hi); (try clear ho0); obtain ⟨Ao37, co37, eo37⟩ := Kd.R_slice HO174.out; subst eo37; have p175 : 0 ≤ (a0 : Int) := of_decide_eq_true (by first | (with_reducible assumption) | assumption); have q175 : a0 < (t172.length : Int) := of_decide_eq_true (by first | (with_reducible assumption) | assumption); obtain ⟨ad175, e175, hx175_0⟩ := Kd.at_string (Kd.R_reads' HO174.out).2.2 a0 p175 q175; cases e175; replace p175 := eq_true p175; replace q175 := eq_true q175) | ((with_reducible refine gate_callee (f := 63) rfl ?_); refine goesL_ (some 22) rfl rfl Tryd.func63 (by kernel_rfl) rfl #[.string (rdOf ByteArray.empty t172 a0), .string (⟨#[109, 111, 118, 32, 99, 108, 122, 32, 112, 111, 112]⟩ : ByteArray)] rfl (by (try simp only [List.map_toArray, List.map_cons, List.map_nil]); first | done | rfl | (simp only [List.length_drop, List.length_take]; rfl)) ?_; (with_reducible refine (garrisonref16_in.calls kj1 (rdOf ByteArray.empty t172 a0) (⟨#[109, 111, 118, 32, 99, 108, 122, 32, 112, 111, 112]⟩ : ByteArray) false _ A14.out).mono ?_); rintro e w' ⟨rfl, ⟨nd, rfl⟩⟩; refine ⟨_, rfl, ?_⟩) | ((with_reducible refine gate_callee (f := 63) rfl ?_); refine goesL_ (some 25) rfl rfl Tryd.func63 (by kernel_rfl) rfl #[.string (rdOf ByteArray.empty t172 a0), .string (⟨#[97, 100, 100, 105, 32, 108, 98, 32, 108, 98, 115, 32, 108, 104, 32, 108, 104, 115, 32, 108, 119, 32, 115, 98, 32, 115, 104, 32, 115, 119]⟩ : ByteArray)] rfl (by (try simp only [List.map_toArray, List.map_cons, List.map_nil]); first | done | rfl | (simp only [List.length_drop, List.length_take]; rfl)) ?_; (with_reducible refine (garrisonref16_in.calls kj1 (rdOf ByteArray.empty t172 a0) (⟨#[97, 100, 100, 105, 32, 108, 98, 32, 108, 98, 115, 32, 108, 104, 32, 108, 104, 115, 32, 108, 119, 32, 115, 98, 32, 115, 104, 32, 115, 119]⟩ : ByteArray) false _ A18.out).mono ?_); rintro e w' ⟨rfl, ⟨nd, rfl⟩⟩; refine ⟨_, rfl, ?_⟩) | ((with_reducible refine gate_callee (f := 63) rfl ?_); refine goesL_ (some 28) rfl rfl Tryd.func63 (by kernel_rfl) rfl #[.string (rdOf ByteArray.empty t172 a0), .string (⟨#[108, 100, 105, 32, 108, 100, 115, 32, 108, 117, 105, 32, 106, 122, 32, 106, 110, 122]⟩ : ByteArray)] rfl (by (try simp only [List.map_toArray, List.map_cons, List.map_nil]); first | done | rfl | (simp only [List.length_drop, List.length_take]; rfl)) ?_; (with_reducible refine (garrisonref16_in.calls kj1 (rdOf ByteArray.empty t172 a0) (⟨#[108, 100, 105, 32, 108, 100, 115, 32, 108, 117, 105, 32, 106, 122, 32, 106, 110, 122]⟩ : ByteArray) false _ A22.out).mono ?_); rintro e w' ⟨rfl, ⟨nd, rfl⟩⟩; refine ⟨_, rfl, ?_⟩) | ((with_reducible refine gate_callee (f := 63) rfl ?_); refine goesL_ (some 31) rfl rfl Tryd.func63 (by kernel_rfl) rfl #[.string (rdOf ByteArray.empty t172 a0), .string (⟨#[106, 109, 112, 32, 99, 97, 108, 108]⟩ : ByteArray)] rfl (by (try simp only [List.map_toArray, List.map_cons, List.map_nil]); first | done | rfl | (simp only [List.length_drop, List.length_take]; rfl)) ?_; (with_reducible refine (garrisonref16_in.calls kj1 (rdOf ByteArray.empty t172 a0) (⟨#[106, 109, 112, 32, 99, 97, 108, 108]⟩ : ByteArray) false _ A26.out).mono ?_); rintro e w' ⟨rfl, ⟨nd, rfl⟩⟩; refine ⟨_, rfl, ?_⟩))
                            go_ret
                            exact ⟨by first | rfl | (simp [errW_none, errW_some] <;> rfl) | (simp [*, errW_none, errW_some] <;> rfl), by repeat (first | (with_reducible first | exact HB.out | apply below_alloc | apply pw_below_drewN | apply below_drew1) | exact HB.out)⟩
          · rw [if_neg c7] at H
            exact absurd H (by simp)
        · rw [if_neg c6] at H
          exact absurd H (by simp)

end Go.Proofs.YtlaohefgofmfdaaDoor.Ref
namespace Go.Proofs.YtlaohefgofmfdaaDoor
open Go Go.RowKit Go.Proofs.YtlaohefgofmfdaaDoorW.PrintWords
abbrev ofB (l : Bs) : ByteArray := ⟨l.toArray⟩
theorem size_data (s : ByteArray) : s.data.toList.length = s.size := by simp
theorem bt_drop (s : ByteArray) (i : Nat) (c : UInt8) (r : Bs) (h : s.data.toList.drop i = c :: r) : i < s.size ∧ bt s (i : Int) = (c.toNat : Int) ∧ s.data.toList.drop (i + 1) = r := by
  have hl : i < s.data.toList.length := by
    rcases Nat.lt_or_ge i s.data.toList.length with h1 | h1
    · exact h1
    · rw [List.drop_eq_nil_of_le h1] at h; cases h
  have hs : i < s.size := by rw [← size_data]; exact hl
  rw [List.drop_eq_getElem_cons hl] at h
  injection h with h1 h2
  refine ⟨hs, ?_, h2⟩
  unfold bt
  rw [dif_pos (by simpa using hs)]
  rw [← h1]; rfl
theorem drop_nil (s : ByteArray) (i : Nat) (h : s.data.toList.drop i = []) : s.size ≤ i := by
  have := List.drop_eq_nil_iff.1 h
  rw [size_data] at this; exact this
theorem wrap_nat (i : Nat) (h : i < 4294967296) : wrap64 ((i : Int) + 1) = ((i + 1 : Nat) : Int) := by unfold wrap64; omega
theorem nat_toNat (i : Nat) : ((i : Int)).toNat = i := by omega
theorem extract_eq (s : ByteArray) (a b : Nat) : (s.extract a b).data.toList = (s.data.toList.take b).drop a := by
  rw [Lib.extract_data, List.drop_take]
theorem toList_eq (s : ByteArray) : s.toList = s.data.toList := Lib.toList_data s
/-- Cut at a letter. -/
def splitC (d : UInt8) : Bs → List Bs
  | [] => [[]]
  | c :: r => if c = d then [] :: splitC d r else match splitC d r with
    | [] => [[c]]
    | h :: t => (c :: h) :: t
theorem splitC_nl : ∀ l, splitC 10 l = splitNL l
  | [] => rfl
  | c :: r => by rw [splitC, splitNL, splitC_nl r]; rfl
theorem splitC_line (d : UInt8) : ∀ (a b : Bs), (∀ c ∈ a, c ≠ d) → splitC d (a ++ d :: b) = a :: splitC d b
  | [], b, _ => by simp [splitC]
  | c :: a, b, h => by
    rw [List.cons_append, splitC, if_neg (h c List.mem_cons_self), splitC_line d a b fun x hx => h x (List.mem_cons_of_mem _ hx)]
theorem splitC_last (d : UInt8) : ∀ (a : Bs), (∀ c ∈ a, c ≠ d) → splitC d a = [a]
  | [], _ => rfl
  | c :: a, h => by
    rw [splitC, if_neg (h c List.mem_cons_self), splitC_last d a fun x hx => h x (List.mem_cons_of_mem _ hx)]
/-- The piece that is being read. -/
theorem piece_step (l : Bs) (a i : Nat) (c : UInt8) (r : Bs) (h : l.drop i = c :: r) (ha : a ≤ i) : (l.drop a).take (i + 1 - a) = (l.drop a).take (i - a) ++ [c] := by
  have e : i + 1 - a = (i - a) + 1 := by omega
  rw [e, List.take_add_one, List.getElem?_drop, show a + (i - a) = i by omega]
  have : l[i]? = some c := by
    have := congrArg (·[0]?) h
    simpa using this
  rw [this]; rfl
theorem extract_piece (s : ByteArray) (a i : Nat) : (s.extract a i).data.toList = (s.data.toList.drop a).take (i - a) := by
  rw [extract_eq, List.drop_take]
theorem ofB_data (s : ByteArray) : ofB s.data.toList = s := by
  apply ByteArray.ext; simp
theorem eq_ofB (s : ByteArray) (l : Bs) (h : s.data.toList = l) : s = ofB l := by rw [← h, ofB_data]
/-- Which of the words, blanks between, a text is. -/
theorem in_l0 (x s : ByteArray) (hs : s.size < 1000000) : ∀ (r : Bs) (i a k : Nat), s.data.toList.drop i = r → a ≤ i → i ≤ s.size → 2 * r.length + 2 < k → 
    (∀ c ∈ (s.data.toList.drop a).take (i - a), c ≠ 32) →
    Ref.garrisonref16_in.l0 k x s (a : Int) (i : Int) = some (decide (x.data.toList ∈ splitC 32 ((s.data.toList.drop a).take (i - a) ++ r)))
  | r, i, a, 0, _, _, _, hk, _ => by omega
  | r, i, a, 1, _, _, _, hk, _ => by omega
  | [], i, a, k + 2, h, ha, hi, hk, hp => by
    have h1 := drop_nil s i h
    have e : i = s.size := by omega
    have hd : s.data.toList.drop (i + 1) = [] := List.drop_eq_nil_of_le (by rw [size_data]; omega)
    obtain ⟨k, rfl⟩ : ∃ j, k = j + 1 := ⟨k - 1, by simp at hk; omega⟩
    have hend : Ref.garrisonref16_in.l0 (k + 1) x s ((i + 1 : Nat) : Int) ((i + 1 : Nat) : Int) = some false := by
      rw [Ref.garrisonref16_in.l0, if_neg (by omega)]
    rw [Ref.garrisonref16_in.l0, if_pos (by omega), if_pos (by omega), Ref.garrisonref16_in.j1, if_pos rfl, if_pos (by omega), if_pos (by omega), if_pos (by omega), nat_toNat, nat_toNat, toList_eq, toList_eq, extract_piece, wrap_nat i (by omega), hend, List.append_nil, splitC_last _ _ hp]
    by_cases hx : (s.data.toList.drop a).take (i - a) = x.data.toList
    · rw [if_pos hx]; simp [hx]
    · rw [if_neg hx]
      have : ¬ x.data.toList = (s.data.toList.drop a).take (i - a) := fun e => hx e.symm
      simp [this]
  | c :: r, i, a, k + 2, h, ha, hi, hk, hp => by
    obtain ⟨g1, g2, g3⟩ := bt_drop s i c r h
    have hb : (bt s (i : Int) == 32) = decide (c = 32) := by
      rw [g2, Bool.eq_iff_iff]
      simp only [beq_iff_eq, decide_eq_true_eq]
      constructor
      · intro h; apply UInt8.toNat_inj.1; show c.toNat = 32; omega
      · rintro rfl; rfl
    rw [Ref.garrisonref16_in.l0, if_pos (by omega), if_neg (by omega), if_pos (by omega), if_pos (by omega), hb, Ref.garrisonref16_in.j1]
    by_cases hc : c = 32
    · subst hc
      have ih := in_l0 x s hs r (i + 1) (i + 1) k g3 (Nat.le_refl _) (by omega) (by simp at hk; omega) (by simp)
      rw [if_pos (by decide), if_pos (by omega), if_pos (by omega), if_pos (by omega), nat_toNat, nat_toNat, toList_eq, toList_eq, extract_piece, wrap_nat i (by omega), ih, splitC_line _ _ _ hp]
      by_cases hx : (s.data.toList.drop a).take (i - a) = x.data.toList
      · rw [if_pos hx]; simp [hx]
      · rw [if_neg hx]
        have : ¬ x.data.toList = (s.data.toList.drop a).take (i - a) := fun e => hx e.symm
        simp [this]
    · have hst := piece_step _ a i c r h ha
      have ih := in_l0 x s hs r (i + 1) a k g3 (by omega) (by omega) (by simp at hk; omega) (by
        rw [hst]
        intro y hy
        rcases List.mem_append.1 hy with hy | hy
        · exact hp y hy
        · rw [List.mem_singleton.1 hy]; exact hc)
      rw [if_neg (by simpa using hc), wrap_nat i (by omega), ih, hst, List.append_assoc]; rfl
theorem in_eq (x s : ByteArray) (hs : s.size < 1000000) (k : Nat) (hk : 2 * s.size + 2 < k) : Ref.garrisonref16_in.f k x s = some (decide (x.data.toList ∈ splitC 32 s.data.toList)) := by
  have := in_l0 x s hs s.data.toList 0 0 k rfl (Nat.le_refl _) (Nat.zero_le _) (by rw [size_data]; omega) (by simp)
  exact this
def namesB : List ByteArray := opNames.map ofB
theorem names_eq : Ref.garrisonref16_Names.f = some namesB := rfl
/-- A form, by the names. -/
def formN (s : Bs) : Int :=
  if s = [114, 101, 116] then 0 else if s = [106, 114] then 1 else if s ∈ splitC 32 [109, 111, 118, 32, 99, 108, 122, 32, 112, 111, 112] then 2
  else if s ∈ splitC 32 [97, 100, 100, 105, 32, 108, 98, 32, 108, 98, 115, 32, 108, 104, 32, 108, 104, 115, 32, 108, 119, 32, 115, 98, 32, 115, 104, 32, 115, 119] then 4
  else if s ∈ splitC 32 [108, 100, 105, 32, 108, 100, 115, 32, 108, 117, 105, 32, 106, 122, 32, 106, 110, 122] then 5
  else if s ∈ splitC 32 [106, 109, 112, 32, 99, 97, 108, 108] then 6 else if s = [101, 120, 116] then 7 else if s = [115, 121, 115] then 8 else 3
theorem formN_eq : ∀ n, n < 40 → n ≠ 0 → formN (opNames.getD n []) = formI n := by decide
theorem form_eq (o : Int) (k : Nat) (hk : 100 < k) : Ref.garrisonref16_Form.f k o = some (formI o) := by
  obtain ⟨k, rfl⟩ : ∃ j, k = j + 1 := ⟨k - 1, by omega⟩
  unfold Ref.garrisonref16_Form.f
  have hbad : o < 1 ∨ o > 39 → formI o = -1 := by
    intro h; unfold formI
    repeat' split
    all_goals omega
  by_cases h1 : o < 1
  · rw [if_pos h1, Ref.garrisonref16_Form.j0, if_pos rfl, hbad (.inl h1)]
  · rw [if_neg h1, Ref.garrisonref16_Form.j0]
    by_cases h2 : o > 39
    · rw [if_pos (by simpa using h2), hbad (.inr h2)]
    · obtain ⟨n, rfl⟩ := Int.eq_ofNat_of_zero_le (show 0 ≤ o by omega)
      have hl : namesB.length = 40 := rfl
      have hrd : (rdOf ByteArray.empty namesB (n : Int)).data.toList = opNames.getD n [] := by
        have ho : n < opNames.length := by show n < 40; omega
        unfold rdOf namesB
        rw [nat_toNat]
        simp [List.getD, List.getElem?_eq_getElem ho]
      rw [if_neg (by simpa using h2), names_eq]
      simp only [Option.bind_some]
      rw [if_pos (by omega), if_pos (by rw [hl]; omega)]
      simp only [toList_eq, hrd]
      have hin : ∀ (l : Array UInt8), l.size ≤ 40 → Ref.garrisonref16_in.f k (rdOf ByteArray.empty namesB (n : Int)) ⟨l⟩ = some (decide (opNames.getD n [] ∈ splitC 32 l.toList)) := fun l hl => by
        have h1 : (⟨l⟩ : ByteArray).size = l.size := rfl
        rw [in_eq _ _ (by rw [h1]; omega) k (by rw [h1]; omega), hrd]
      rw [hin _ (by decide), hin _ (by decide), hin _ (by decide), hin _ (by decide)]
      rw [← formN_eq n (by omega) (by omega)]
      unfold formN
      simp only [Option.bind_some, decide_eq_true_eq]
      repeat' split
      all_goals first | rfl | (rename_i h; first | contradiction | exact absurd rfl h)
/-- A slice of words in a block of strings. -/
def WordsR (w : World) (B : Nat) (v : Value) (ws : List Bs) : Prop :=
  ∃ (b o c : Nat) (cur : Array Value), B ≤ b ∧ w.heap[b]? = some (.cells cur 9 (0, 0)) ∧ v = .slice (some ⟨b, o, none⟩) ws.length c ∧ ws.length ≤ c ∧ c ≤ 9223372036854775807 ∧ ∀ j, j < ws.length → cur[o + j]? = some (bsV (ws.getD j []))
theorem WordsR.kept {w w' : World} {B : Nat} {v : Value} {ws : List Bs} (h : WordsR w B v ws) (hk : ∀ k cs, B ≤ k → w.heap[k]? = some (.cells cs 9 (0, 0)) → w'.heap[k]? = w.heap[k]?) : WordsR w' B v ws := by
  obtain ⟨b, o, c, cur, hb, hh, r⟩ := h
  exact ⟨b, o, c, cur, hb, (hk b _ hb hh).trans hh, r⟩
theorem WordsR.below {w w' : World} {B : Nat} {v : Value} {ws : List Bs} (h : WordsR w B v ws) (hb : Below w.heap.size w w') : WordsR w' B v ws :=
  h.kept fun k _ _ hh => hb.block k (Array.getElem?_eq_some_iff.1 hh).1
theorem WordsR.at {w : World} {B : Nat} {v : Value} {ws : List Bs} (h : WordsR w B v ws) : ∃ b o c, v = .slice (some ⟨b, o, none⟩) ws.length c ∧ ws.length ≤ c ∧ c ≤ 9223372036854775807 ∧ b < w.heap.size ∧ ∀ j, j < ws.length → w.cell? ⟨b, o + j, none⟩ = some (bsV (ws.getD j [])) := by
  obtain ⟨b, o, c, cur, _, hh, rfl, hc, hm, hw⟩ := h
  refine ⟨b, o, c, rfl, hc, hm, (Array.getElem?_eq_some_iff.1 hh).1, fun j hj => ?_⟩
  rw [cell_of_row w b (o + j) _ _ _ hh]; exact hw j hj
/-- What the printed contracts ask of a slice of words. -/
theorem words_C {w : World} {b o : Nat} {ws : List Bs} (hl : ws.length ≤ 1000000) (h : ∀ j, j < ws.length → w.cell? ⟨b, o + j, none⟩ = some (bsV (ws.getD j []))) : Kd.C Kd.string w (some ⟨b, o, none⟩) (ws.map ofB).length (ws.map ofB) := by
  refine ⟨rfl, by rw [List.length_map]; omega, fun _ => ⟨_, rfl, fun j p hj => ⟨[.string p], rfl, rfl, fun i u hu => ?_⟩⟩⟩
  have hi : i = 0 := by
    rcases i with _ | i
    · rfl
    · simp at hu
  subst hi
  have hu' : Value.string p = u := by simpa using hu
  subst hu'
  have hjl : j < ws.length := by
    have := (List.getElem?_eq_some_iff.1 hj).1
    simpa using this
  have hp : ofB (ws.getD j []) = p := by
    rw [List.getElem?_map, List.getElem?_eq_getElem hjl] at hj
    simp at hj
    rw [List.getD_eq_getElem?_getD, List.getElem?_eq_getElem hjl]
    simp [← hj]
  show w.cell? (Addr.add ⟨b, o, none⟩ (j * 1 + 0)) = _
  rw [show Addr.add ⟨b, o, none⟩ (j * 1 + 0) = ⟨b, o + j, none⟩ by unfold Addr.add; split <;> simp_all, h j hjl, ← hp]
/-- What a printed contract hands back as a new slice of words. -/
theorem words_of_R {w : World} {base : Nat} {ok : Nat → Prop} {v : Value} {ws : List Bs} (h : Kd.R Kd.string 9 w base ok v (ws.map ofB)) : (ws = [] ∧ ∃ p c, v = .slice p 0 c) ∨ (ws ≠ [] ∧ WordsR w base v ws) := by
  obtain ⟨_, inner, hown, hrep⟩ := h
  rw [List.length_map] at hown
  have hown : w.ownsRow base 9 1 v ws.length inner := hown
  by_cases h0 : ws = []
  · subst h0
    left
    obtain ⟨p, c, hv⟩ := own_slice hown
    exact ⟨rfl, p, c, hv⟩
  · right
    refine ⟨h0, ?_⟩
    have hin : inner = ws.map bsV := by
      have hl : inner.length = ws.length := by
        have := hown.1
        simpa using this
      apply List.ext_getElem?
      intro j
      by_cases hj : j < ws.length
      · have hr := hrep.2 j (ofB ws[j]) (by simp [List.getElem?_eq_getElem hj])
        have hr : (inner.drop (j * 1)).take 1 = [.string (ofB ws[j])] := hr
        have h2 := congrArg (·[0]?) hr
        simp only [List.getElem?_take_of_lt (Nat.zero_lt_one), List.getElem?_drop] at h2
        have h2 : inner[j]? = some (.string (ofB ws[j])) := by simpa using h2
        rw [h2, List.getElem?_map, List.getElem?_eq_getElem hj]; rfl
      · rw [List.getElem?_eq_none (by omega), List.getElem?_eq_none (by simp; omega)]
    obtain ⟨_, ⟨rfl, hz⟩ | ⟨g, cap, cur, rfl, hg, hh, hcap, hm, hsz, htk⟩⟩ := hown
    · exact absurd (List.eq_nil_of_length_eq_zero hz) h0
    · refine ⟨g, 0, cap, cur, hg, hh, rfl, hcap, by simpa [maxLen] using hm, fun j hj => ?_⟩
      have : (cur.toList.take (ws.length * 1))[j]? = some (bsV (ws.getD j [])) := by
        rw [htk, hin, List.getElem?_map, List.getElem?_eq_getElem hj, List.getD_eq_getElem?_getD, List.getElem?_eq_getElem hj]; rfl
      rw [List.getElem?_take_of_lt (by omega)] at this
      rw [Nat.zero_add]; simpa using this
end Go.Proofs.YtlaohefgofmfdaaDoor
