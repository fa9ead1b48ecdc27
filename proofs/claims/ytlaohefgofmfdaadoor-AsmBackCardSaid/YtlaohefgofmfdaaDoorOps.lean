/- The walks of package ops: what each function comes to. -/
import Derived.Test.YtlaohefgofmfdaaDoorProg
import Derived.Test.YtlaohefgofmfdaaDoorLaws
import Derived.Test.YtlaohefgofmfdaaDoorSpec
import Derived.WalkLawsBesides
namespace Go.Proofs.YtlaohefgofmfdaaDoor
open Go Go.RowKit
set_option maxRecDepth 100000
abbrev instrV (o x y z : Int) : Value := .agg #[.int .u8 o, .int .u8 x, .int .u8 y, .int .u8 z]

set_option maxHeartbeats 1000000 in
theorem of_any (o : Int) (w : World) : Calls Tryd.prog 35 #[.int .u8 o] w fun e w' => e = .returned (.tuple #[.int .u8 (if formI o < 0 then 0 else formI o), .bool (decide (0 ≤ formI o))]) ∧ w = w' := by
  go_enter Tryd.func35, Tryd.ntmps35
  go_wp2
  all_goals (go_ret2; refine ⟨?_, rfl⟩; simp_all [formI]; try omega)
theorem args_any (f : Int) (w : World) : Calls Tryd.prog 56 #[.int .u8 f] w fun e w' => e = .returned (.int .i64 (argsI f)) ∧ w = w' := by
  go_enter Tryd.func56, Tryd.ntmps56
  go_wp2
  all_goals (go_ret; exact ⟨by simp_all [argsI], rfl⟩)
theorem pack_any (o x y z : Int) (w : World) : Calls Tryd.prog 17 #[instrV o x y z] w fun e w' => e = .returned (instrV o x y z) ∧ Below w.heap.size w w' := by
  go_enter Tryd.func17, Tryd.ntmps17
  go_wp2
  exact bodyPost_ret (v := instrV o x y z) (by simp [results, Tryd.results17, go_sem]) rfl ⟨rfl, ((Below.refl _ _).alloc (Nat.le_refl _) _).alloc (by simp) _⟩
theorem unpack_any (o x y z : Int) (w : World) : Calls Tryd.prog 12 #[instrV o x y z] w fun e w' => e = .returned (instrV o x y z) ∧ Below w.heap.size w w' := by
  go_enter Tryd.func12, Tryd.ntmps12
  go_wp2
  exact bodyPost_ret (v := instrV o x y z) (by simp [results, Tryd.results12, go_sem]) rfl ⟨rfl, ((Below.refl _ _).alloc (Nat.le_refl _) _).alloc (by simp) _⟩
theorem bytes_any (n : Int) (h0 : 0 ≤ n) (h1 : n ≤ 4294967295) (w : World) : Calls Tryd.prog 54 #[.int .u32 n] w fun e w' => e = .returned (instrV (n % 256) (n / 256 % 256) (n / 65536 % 256) (n / 16777216)) ∧ Below w.heap.size w w' := by
  go_enter Tryd.func54, Tryd.ntmps54
  go_wp2
  exact bodyPost_ret (v := instrV (n % 256) (n / 256 % 256) (n / 65536 % 256) (n / 16777216)) (by simp [results, Tryd.results54, go_sem]) rfl ⟨rfl, (Below.refl _ _).alloc (Nat.le_refl _) _⟩
theorem or_high (y z : Int) (h : 0 ≤ y ∧ y < 256 ∧ 0 ≤ z ∧ z < 256) : bits BinOp.or IntKind.u16 y (z * 256) = y + 256 * z := by
  rw [u16_or _ _ h.1 (by omega) (by omega) (by omega)]
  have e1 : (z * 256).toNat = 2 ^ 8 * z.toNat := by omega
  rw [e1, Nat.or_comm, ← Nat.two_pow_add_eq_or_of_lt (by omega)]
  omega
theorem wide_any (o x y z : Int) (w : World) (h : 0 ≤ y ∧ y < 256 ∧ 0 ≤ z ∧ z < 256) : Calls Tryd.prog 33 #[instrV o x y z] w fun e w' => e = .returned (.int .u16 (y + 256 * z)) ∧ Below w.heap.size w w' := by
  have e := or_high y z h
  go_enter Tryd.func33, Tryd.ntmps33
  go_wp2
  go_ret
  exact ⟨rfl, (Below.refl _ _).alloc (Nat.le_refl _) _⟩
theorem setWide_any (o x y z n : Int) (w : World) (h : 0 ≤ n ∧ n < 65536) : Calls Tryd.prog 74 #[instrV o x y z, .int .u16 n] w fun e w' => e = .returned (instrV o x (n % 256) (n / 256)) ∧ Below w.heap.size w w' := by
  go_enter Tryd.func74, Tryd.ntmps74
  go_wp2
  exact bodyPost_ret (v := instrV o x (n % 256) (n / 256)) (by simp [results, Tryd.results74, go_sem]) rfl ⟨rfl, ((Below.refl _ _).alloc (Nat.le_refl _) _).alloc (by simp) _⟩
/-- A number of sixteen bits, signed. -/
def sgn16 (n : Int) : Int := if n < 32768 then n else n - 65536
theorem jump_any (o x y z : Int) (w : World) (h : 0 ≤ y ∧ y < 256 ∧ 0 ≤ z ∧ z < 256) : Calls Tryd.prog 13 #[instrV o x y z] w fun e w' => e = .returned (.int .i64 (sgn16 (y + 256 * z))) ∧ Below w.heap.size w w' := by
  go_enter Tryd.func13, Tryd.ntmps13
  go_wp2_with (go_at_call 33; refine (wide_any _ _ _ _ _ h).mono ?_; rintro e w' ⟨rfl, hb⟩)
  go_ret
  exact ⟨by simp [IntKind.wrap, IntKind.bits, IntKind.signed, sgn16, wrap64]; split <;> omega, ((Below.refl _ _).alloc (Nat.le_refl _) _).trans (hb.mono (by simp))⟩
def sgn8 (n : Int) : Int := if n < 128 then n else n - 256
theorem near_any (o x y z : Int) (w : World) (h : 0 ≤ z ∧ z < 256) : Calls Tryd.prog 39 #[instrV o x y z] w fun e w' => e = .returned (.int .i32 (sgn8 z)) ∧ Below w.heap.size w w' := by
  go_enter Tryd.func39, Tryd.ntmps39
  go_wp2
  go_ret
  exact ⟨by simp [IntKind.wrap, IntKind.bits, IntKind.signed, sgn8, wrap32]; split <;> omega, (Below.refl _ _).alloc (Nat.le_refl _) _⟩
theorem regs_any (o x y z : Int) (k : Nat) (hk : k ≤ 3) (w : World) : Calls Tryd.prog 64 #[instrV o x y z, .int .i64 k] w fun e w' => e = .returned (.bool (([x, y, z].take k).all fun r => decide (r < 16))) ∧ Below w.heap.size w w' := by
  go_enter Tryd.func64, Tryd.ntmps64
  go_wp2
  go_loop [15] (fun i => ∃ j : Nat, j ≤ k ∧ i = .int .i64 j ∧ Hid ((([x, y, z].take j).all fun r => decide (r < 16)) = true)) (fun i => k - (intOf i).toNat)
  case atStart => exact ⟨0, Nat.zero_le _, rfl, Lib.hid rfl⟩
  case round =>
    obtain ⟨j, hj, rfl, hr⟩ := hrel
    have h3 : j = 0 ∨ j = 1 ∨ j = 2 ∨ j = 3 := by omega
    rcases h3 with rfl | rfl | rfl | rfl
    all_goals go_wp2
    all_goals first
      | (go_ret
         refine ⟨?_, ((Below.refl _ _).alloc (Nat.le_refl _) _).alloc (by simp) _⟩
         have hr' := hr.out
         clear hr
         have hk3 : k = 0 ∨ k = 1 ∨ k = 2 ∨ k = 3 := by omega
         rcases hk3 with rfl | rfl | rfl | rfl <;> first | omega | (simp_all; done) | (simp_all; omega))
      | (go_round
         case rel => have hr' := hr.out; first | exact ⟨1, by omega, by go_num, Lib.hid (by simp_all)⟩ | exact ⟨2, by omega, by go_num, Lib.hid (by simp_all)⟩ | exact ⟨3, by omega, by go_num, Lib.hid (by simp_all)⟩
         case measure => simp [intOf]; omega)
theorem all_take1 (x y z : Int) : (([x, y, z].take 1).all fun r => decide (r < 16)) = decide (x < 16) := by simp
theorem all_take2 (x y z : Int) : (([x, y, z].take 2).all fun r => decide (r < 16)) = (decide (x < 16) && decide (y < 16)) := by simp
theorem all_take3 (x y z : Int) : (([x, y, z].take 3).all fun r => decide (r < 16)) = (decide (x < 16) && (decide (y < 16) && decide (z < 16))) := by simp
theorem regs1 (o x y z : Int) (w : World) : Calls Tryd.prog 64 #[instrV o x y z, .int .i64 1] w fun e w' => e = .returned (.bool (decide (x < 16))) ∧ Below w.heap.size w w' := by
  have h := regs_any o x y z 1 (by omega) w; rw [all_take1] at h; exact h
theorem regs2 (o x y z : Int) (w : World) : Calls Tryd.prog 64 #[instrV o x y z, .int .i64 2] w fun e w' => e = .returned (.bool (decide (x < 16) && decide (y < 16))) ∧ Below w.heap.size w w' := by
  have h := regs_any o x y z 2 (by omega) w; rw [all_take2] at h; exact h
theorem regs3 (o x y z : Int) (w : World) : Calls Tryd.prog 64 #[instrV o x y z, .int .i64 3] w fun e w' => e = .returned (.bool (decide (x < 16) && (decide (y < 16) && decide (z < 16)))) ∧ Below w.heap.size w w' := by
  have h := regs_any o x y z 3 (by omega) w; rw [all_take3] at h; exact h
/-- What each of the forms asks, once the form is known. -/
theorem check_f (f o x y z : Int) (hf : formI o = f) (w : World) (h : -1 ≤ f ∧ f ≤ 8) : Calls Tryd.prog 34 #[instrV o x y z] w fun e w' => e = .returned (.int .i64 (checkI o x y z)) ∧ Below w.heap.size w w' := by
  have HF := Lib.hid hf
  have hof := of_any o
  rw [hf] at hof
  have HOF := Lib.hid hof
  clear hf hof
  have h9 : f = -1 ∨ f = 0 ∨ f = 1 ∨ f = 2 ∨ f = 3 ∨ f = 4 ∨ f = 5 ∨ f = 6 ∨ f = 7 ∨ f = 8 := by omega
  rcases h9 with rfl | rfl | rfl | rfl | rfl | rfl | rfl | rfl | rfl | rfl
  all_goals
    go_enter Tryd.func34, Tryd.ntmps34
    go_wp2_with (first | (go_at_call 35; refine (HOF.out _).mono ?_; rintro e w' ⟨rfl, rfl⟩) | (go_at_call 64; first | ((with_reducible refine (regs1 _ _ _ _ _).mono ?_); rintro e w' ⟨rfl, hb⟩; obtain ⟨hc, hf⟩ := bcell hb) | ((with_reducible refine (regs2 _ _ _ _ _).mono ?_); rintro e w' ⟨rfl, hb⟩; obtain ⟨hc, hf⟩ := bcell hb) | ((with_reducible refine (regs3 _ _ _ _ _).mono ?_); rintro e w' ⟨rfl, hb⟩; obtain ⟨hc, hf⟩ := bcell hb)))
    all_goals
      go_ret
      refine ⟨?_, by first | exact below_one _ _ | exact below_box ‹_›⟩
      rw [checkI, HF.out]
      first | rfl | (simp_all [okI]; done) | (simp_all [okI]; omega)
theorem check_any (o x y z : Int) (w : World) : Calls Tryd.prog 34 #[instrV o x y z] w fun e w' => e = .returned (.int .i64 (checkI o x y z)) ∧ Below w.heap.size w w' :=
  check_f _ o x y z rfl w (by unfold formI; repeat' split
                              all_goals omega)
def strV (l : List UInt8) : Value := .string ⟨l.toArray⟩
def nameTab : Array Value := (opNames.map strV).toArray
theorem nameTab_size : nameTab.size = 40 := by simp [nameTab, opNames]
theorem nameTab_one : ∀ v ∈ nameTab.toList, v.oneCell' = true := by
  intro v hv
  simp only [nameTab, List.mem_map] at hv
  obtain ⟨l, _, rfl⟩ := hv
  rfl
theorem nameTab_at (k : Nat) (h : k < 40) : nameTab[k]? = some (strV (opNames.getD k [])) := by
  have hl : opNames.length = 40 := rfl
  simp [nameTab, List.getD, List.getElem?_eq_getElem (show k < opNames.length by omega)]
theorem info128 : (Tryd.prog.info? 128).map (·.size) = some 40 := by kernel_rfl
theorem zero128 : ∃ i z, Tryd.prog.info? 128 = some i ∧ i.zero = some z ∧ z.cells.size = i.size ∧ i.size = 40 := by
  cases h : Tryd.prog.info? 128 with
  | none => exact absurd h (by have := info128; intro e; rw [e] at this; cases this)
  | some i =>
    have h1 : (Tryd.prog.info? 128).map (fun i => (i.zero.map (·.cells.size), i.size)) = some (some 40, 40) := by kernel_rfl
    rw [h] at h1
    simp only [Option.map_some, Option.some.injEq, Prod.mk.injEq, Option.map_eq_some_iff] at h1
    obtain ⟨⟨z, hz, hz2⟩, hs⟩ := h1
    exact ⟨i, z, rfl, hz, by omega, hs⟩
theorem name_any (o : Int) (h0 : 0 ≤ o) (h1 : o < 40) (w : World) : Calls Tryd.prog 36 #[.int .u8 o] w fun e w' => e = .returned (.string ⟨(opNames.getD o.toNat []).toArray⟩) ∧ w' = w.alloc (.cells nameTab 128) := by
  show Calls Tryd.prog 36 #[.int .u8 o] w fun e w' => e = .returned (strV (opNames.getD o.toNat [])) ∧ w' = w.alloc (.cells nameTab 128)
  obtain ⟨i, z, hi, hz, hzs, hs⟩ := zero128
  have hone := nameTab_one
  have hcell : (w.alloc (.cells nameTab 128)).cell? ⟨w.heap.size, o.toNat, none⟩ = some (strV (opNames.getD o.toNat [])) := by
    rw [World.cell?_alloc_new]; exact nameTab_at _ (by omega)
  obtain ⟨s, hsn⟩ : ∃ s, s = strV (opNames.getD o.toNat []) := ⟨_, rfl⟩
  rw [← hsn] at hcell ⊢
  have HS := Lib.hid hsn
  clear hsn
  go_enter Tryd.func36, Tryd.ntmps36
  go_wp2_with (first | (with_reducible refine wpList_build (o := ⟨some 4, _, _, _, _, _⟩) rfl 128 _ rfl (.agg nameTab) ?_ ?_; (intro w; kernel_rfl)) | (with_reducible show wpList _ _ _ (List.cons ⟨some 3, Op.alloc 128, _, _, _, _⟩ _) _ _; refine wpList_new rfl rfl 128 3 (.tmp 4) rfl rfl rfl i z hi hz hzs nameTab rfl rfl (by rw [nameTab_size]; exact hs) hone ?_))
  go_ret
  exact ⟨by rw [HS.out]; rfl, rfl⟩
theorem toList_data (s : ByteArray) : s.toList = s.data.toList := ByteArray.toList_eq s
theorem named_any (s : ByteArray) (w : World) : Calls Tryd.prog 55 #[.string s] w fun e w' => e = .returned (.tuple #[.int .u8 (namedI s.data.toList), .bool (decide (namedI s.data.toList ≠ 0))]) ∧ Below w.heap.size w w' := by
  go_enter Tryd.func55, Tryd.ntmps55
  go_wp2
  go_loopw [4] (fun i wr => ∃ k : Nat, 1 ≤ k ∧ k ≤ 40 ∧ i = .int .u8 k ∧ Hid (namedGo s.data.toList (40 - k) k = namedI s.data.toList) ∧ Below w.heap.size w wr) (fun i _ => 40 - (intOf i).toNat)
  case atStart => exact ⟨1, by omega, by omega, rfl, Lib.hid rfl, Below.refl _ _⟩
  case round =>
    obtain ⟨k, hk1, hk2, rfl, hr, hb⟩ := hrel
    by_cases hlt : k < 40
    · have hstep : Hid (namedGo s.data.toList (40 - k) k = if opNames.getD k [] = s.data.toList then k else namedGo s.data.toList (40 - (k + 1)) (k + 1)) := by
        show _ = _
        rw [show 40 - k = (40 - (k + 1)) + 1 from by omega]; rfl
      by_cases heq : opNames.getD k [] = s.data.toList
      · have H := Lib.hid heq
        have ht : (opNames[k]?.getD [] == s.toList) = true := by rw [toList_data, ← heq]; simp
        clear heq
        go_wp2_with (go_at_call 36; refine (name_any _ (by omega) (by omega) _).mono ?_; rintro e w' ⟨rfl, rfl⟩)
        go_ret2
        have e := hr.out
        rw [hstep.out, if_pos H.out] at e
        refine ⟨?_, hb.trans ((below_one _ _).mono hb.size)⟩
        rw [← e]
        simp
        omega
      · have H := Lib.hid heq
        have ht : (opNames[k]?.getD [] == s.toList) = false := by rw [toList_data]; simpa using heq
        clear heq
        go_wp2_with (go_at_call 36; refine (name_any _ (by omega) (by omega) _).mono ?_; rintro e w' ⟨rfl, rfl⟩)
        go_roundw
        case rel =>
          refine ⟨k + 1, by omega, by omega, by go_num, ?_, hb.trans ((below_one _ _).mono hb.size)⟩
          have e := hr.out
          rw [hstep.out, if_neg H.out] at e
          exact Lib.hid e
        case measure => simp [intOf]; omega
    · have hk : k = 40 := by omega
      have e := hr.out
      have HE : Hid (namedI s.data.toList = 0) := by show _ = _; rw [← e, hk]; rfl
      clear e hk
      go_wp2
      go_ret2
      exact ⟨by rw [HE.out]; rfl, hb⟩
end Go.Proofs.YtlaohefgofmfdaaDoor
