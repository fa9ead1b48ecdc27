/- The walk of AsmJumps. -/
import Derived.Test.YtlaohefgofmfdaaDoorLaw0
import Derived.Test.YtlaohefgofmfdaaDoorJumps
import Derived.Deep.QuietTactic
import Derived.BigQuiet
import Derived.Laws.Cover3
namespace Go.Proofs.YtlaohefgofmfdaaDoor
open Go Go.RowKit Go.Proofs.YtlaohefgofmfdaaDoorW.PrintWords
set_option maxRecDepth 100000
theorem below_th {a b c : World} (h : Below a.heap.size a b) (k : Below b.heap.size b c) : Below a.heap.size a c := h.trans (k.mono h.size)
theorem below_al {a b : World} (h : Below a.heap.size a b) (o : Obj) : Below a.heap.size a (b.alloc o) := h.alloc h.size o
theorem str_app (a b : Bs) : (⟨a.toArray⟩ : ByteArray) ++ ⟨b.toArray⟩ = ⟨(a ++ b).toArray⟩ := by
  apply ByteArray.ext
  simp
theorem str_app' (a : Bs) (b : Array UInt8) : (⟨a.toArray⟩ : ByteArray) ++ ⟨b⟩ = ⟨(a ++ b.toList).toArray⟩ := by
  have := str_app a b.toList
  simpa using this
theorem str_app'' (a : Array UInt8) (b : Bs) : (⟨a⟩ : ByteArray) ++ ⟨b.toArray⟩ = ⟨(a.toList ++ b).toArray⟩ := by
  have := str_app a.toList b
  simpa using this
theorem movs_ascii : ∀ n, ∀ b ∈ movs n, b.toNat < 128
  | 0 => fun b hb => by simp [movs] at hb
  | n + 1 => fun b hb => by
    rw [movs, List.mem_append] at hb
    rcases hb with hb | hb
    · exact (show ∀ b ∈ movRow, b.toNat < 128 by decide) b hb
    · rcases List.mem_cons.1 hb with rfl | hb
      · decide
      · exact movs_ascii n b hb
theorem jumpsText_bd (back : Bool) (n m : Nat) (hn : n < 100) (hm : m < 100) : (jumpsText back n m).length ≤ 3000 ∧ ∀ b ∈ jumpsText back n m, b.toNat < 128 := by
  have h1 := movs_len n
  have h2 := movs_len m
  have a1 := movs_ascii n
  have a2 := movs_ascii m
  cases back
  · refine ⟨by simp [jumpsText, jmpRow, hereRet]; omega, fun b hb => ?_⟩
    simp only [jumpsText, Bool.false_eq_true, if_false, List.mem_append, List.mem_cons, jmpRow, hereRet, List.not_mem_nil, or_false] at hb
    rcases hb with hb | hb | rfl | hb | hb | rfl
    · exact a1 b hb
    · rcases hb with rfl | rfl | rfl | rfl | rfl | rfl | rfl | rfl <;> decide
    · decide
    · exact a2 b hb
    · rcases hb with rfl | rfl | rfl | rfl | rfl | rfl | rfl | rfl | rfl <;> decide
    · decide
  · refine ⟨by simp [jumpsText, jmpRow, hereRow]; omega, fun b hb => ?_⟩
    simp only [jumpsText, if_true, List.mem_append, List.mem_cons, jmpRow, hereRow, List.not_mem_nil, or_false] at hb
    rcases hb with hb | hb | rfl | hb | rfl | hb
    · rcases hb with rfl | rfl | rfl | rfl | rfl | rfl <;> decide
    · exact a1 b hb
    · decide
    · rcases hb with rfl | rfl | rfl | rfl | rfl | rfl | rfl | rfl <;> decide
    · decide
    · exact a2 b hb
/-- Where the jump's four bytes lie. -/
def JumpEnd (n : Nat) (v : Int) (w : World) (e : Ending) (w' : World) : Prop :=
  Below w.heap.size w w' ∧ ∃ g N c : Nat, 4 * n + 4 ≤ N ∧ N ≤ c ∧ c ≤ 9223372036854775807 ∧ g < w'.heap.size ∧ e = .returned (.tuple #[.agg #[.int .u8 0, .slice (some ⟨g, 0, none⟩) N c], .int .i64 0, .int .i64 0]) ∧
    w'.cell? ⟨g, 4 * n, none⟩ = some (.int .u8 30) ∧ w'.cell? ⟨g, 4 * n + 1, none⟩ = some (.int .u8 0) ∧ w'.cell? ⟨g, 4 * n + 2, none⟩ = some (.int .u8 (v % 65536 % 256)) ∧ w'.cell? ⟨g, 4 * n + 3, none⟩ = some (.int .u8 (v % 65536 / 256))
theorem asm_jump (back : Bool) (n m : Nat) (hn : n < 100) (hm : m < 100) (w : World) (hlib : LibAt w) :
    Calls Tryd.prog 10 #[.string ⟨(jumpsText back n m).toArray⟩] w (JumpEnd n (if back then -(n : Int) - 1 else m) w) := by
  obtain ⟨hl, ha⟩ := jumpsText_bd back n m hn hm
  have hsz : (⟨(jumpsText back n m).toArray⟩ : ByteArray).size = (jumpsText back n m).length := by show (jumpsText back n m).toArray.size = _; simp
  refine (assemble_any ⟨(jumpsText back n m).toArray⟩ (by rw [hsz]; unfold maxLen; omega) (fun _ => by simpa using ha) w hlib).mono ?_
  have hr : ∃ tl, asmI (splitNL (jumpsText back n m)) (decide (65536 < (⟨(jumpsText back n m).toArray⟩ : ByteArray).size)) = ⟨0, 0, 0, movC n ++ (jumpCode (if back then -(n : Int) - 1 else m) ++ tl)⟩ := by
    rw [asmI, if_neg (by rw [hsz]; simp; omega)]
    cases back
    · exact ⟨_, jumps_ahead n m hn hm⟩
    · exact ⟨_, jumps_back n m hn hm⟩
  obtain ⟨tl, hr⟩ := hr
  rintro e w1 ⟨hb1, v, rfl, hown⟩
  rw [show (⟨(jumpsText back n m).toArray⟩ : ByteArray).data.toList = jumpsText back n m by simp, hr] at hown ⊢
  generalize (if back then -(n : Int) - 1 else (m : Int)) = val at *
  have hlen : (movC n ++ (jumpCode val ++ tl)).length = 4 * n + (4 + tl.length) := by simp [movC_len, jumpCode]; omega
  obtain ⟨_, ⟨rfl, h0⟩ | ⟨g, cap, cur, rfl, hg, hh, hcap, hmx, _⟩⟩ := id hown
  · rw [hlen] at h0; omega
  · have hc := hown.cells rfl
    have key : ∀ i, i < 4 → ∀ u, (u8s (jumpCode val))[i]? = some u → w1.cell? ⟨g, 4 * n + i, none⟩ = some u := by
      intro i hi u hu
      have := hc (4 * n + i) u (by
        simp only [u8s] at hu ⊢
        rw [List.map_append, List.getElem?_append_right (by simp [movC_len]), List.map_append, List.length_map, movC_len, show 4 * n + i - 4 * n = i by omega, List.getElem?_append_left (by simp [jumpCode]; omega)]
        exact hu)
      rw [← this, show Addr.add ⟨g, 0, none⟩ (4 * n + i) = ⟨g, 4 * n + i, none⟩ by simp [Addr.add]; try exact fun h h' => by omega]
    refine ⟨hb1, g, _, cap, by rw [hlen]; omega, hcap, hmx, (Array.getElem?_eq_some_iff.1 hh).1, rfl, ?_, ?_, ?_, ?_⟩
    · exact key 0 (by omega) _ rfl
    · exact key 1 (by omega) _ rfl
    · exact key 2 (by omega) _ rfl
    · exact key 3 (by omega) _ rfl
theorem sgn_jump (v : Int) (h : -1000 ≤ v ∧ v ≤ 1000) : sgn16 (v % 65536 % 256 + 256 * (v % 65536 / 256)) = v := by
  unfold sgn16; split <;> omega
set_option maxHeartbeats 1000000 in
theorem jumps_back_any (x y : Int) (hx : 0 ≤ x ∧ x ≤ 255) (hy : 0 ≤ y ∧ y ≤ 255) (w : World) (hlib : LibAt w) : Calls Tryd.prog 5 #[.int .u8 x, .int .u8 y, .bool true] w fun e w' => e = .returned (.bool true) ∧ Below w.heap.size w w' := by
  obtain ⟨n, hn⟩ : ∃ n : Nat, (n : Int) = x % 100 := ⟨(x % 100).toNat, by omega⟩
  obtain ⟨m, hm⟩ : ∃ m : Nat, (m : Int) = y % 100 := ⟨(y % 100).toNat, by omega⟩
  have hn1 : n < 100 := by omega
  have hm1 : m < 100 := by omega
  have HN := Lib.hid hn
  have HM := Lib.hid hm
  have hxm : Int.tmod x 100 = n := by rw [Int.tmod_eq_emod_of_nonneg hx.1]; exact hn.symm
  have hym : Int.tmod y 100 = m := by rw [Int.tmod_eq_emod_of_nonneg hy.1]; exact hm.symm
  obtain ⟨hx0, hx1⟩ := hx
  obtain ⟨hy0, hy1⟩ := hy
  have HL := Lib.hid hlib
  clear hlib hn hm
  go_enter Tryd.func5, Tryd.ntmps5
  go_wp2_with (go_at_call 8; refine (awake_any _ HL.out).mono ?_; rintro e w1 ⟨rfl, hb1⟩)
  clear hxm hym
  go_loop [9, 25] (fun t i => ∃ k : Nat, k ≤ n ∧ i = .int .i64 k ∧ t = .string ⟨(movs k).toArray⟩) (fun _ i => n - (intOf i).toNat)
  case atStart => exact ⟨0, Nat.zero_le _, rfl, rfl⟩
  case round =>
    obtain ⟨k, hk, rfl, rfl⟩ := hrel
    have hlen := movs_len k
    have hlb : List.length (movs k) ≤ 1000 := by omega
    clear hlen
    by_cases hlt : k < n
    · go_wp2
      go_round
      case rel => exact ⟨k + 1, by omega, by go_num, by rw [str_app', movs_snoc]; rfl⟩
      case measure => simp [intOf]; omega
    · obtain rfl : k = n := by omega
      go_wp2
      go_loop [9, 37] (fun t i => ∃ j : Nat, j ≤ m ∧ i = .int .i64 j ∧ t = .string ⟨(hereRow ++ (movs k ++ (10 :: (jmpRow ++ 10 :: movs j)))).toArray⟩) (fun _ i => m - (intOf i).toNat)
      case atStart =>
        refine ⟨0, Nat.zero_le _, rfl, ?_⟩
        rw [str_app'', str_app', str_app']; simp [hereRow, jmpRow, movs]
      case round =>
        obtain ⟨j, hj, rfl, rfl⟩ := hrel
        have hlen := movs_len j
        have hlj : List.length (movs j) ≤ 1000 := by omega
        have hlh : List.length hereRow = 6 := rfl
        have hljm : List.length jmpRow = 8 := rfl
        clear hlen
        by_cases hlt2 : j < m
        · go_wp2
          go_round
          case rel => exact ⟨j + 1, by omega, by go_num, by rw [str_app', movs_snoc]; simp [movRow]⟩
          case measure => simp [intOf]; omega
        · obtain rfl : j = m := by omega
          have HJ : Hid (∀ w', Below w.heap.size w w' → Calls Tryd.prog 10 #[.string ⟨(jumpsText true k j).toArray⟩] w' (JumpEnd k (-(k : Int) - 1) w')) := Lib.hid (fun w' hb => asm_jump true k j hn1 hm1 w' (lib_below HL.out (w' := w') hb))
          have harr := fun (W : World) (a : Option Addr) (cap : Nat) => run_arrayAt (P := Tryd.prog) (w := W) 40 5 4 a 4 cap Tryd.underlying40 (Nat.le_refl 4)
          have hsj := sgn_jump (-(k : Int) - 1) (by omega)
          obtain ⟨a, ha⟩ : ∃ a, a = (-(k : Int) - 1) % 65536 % 256 := ⟨_, rfl⟩
          obtain ⟨b, hb⟩ : ∃ b, b = (-(k : Int) - 1) % 65536 / 256 := ⟨_, rfl⟩
          rw [← ha, ← hb] at hsj
          have hab : 0 ≤ a ∧ a < 256 ∧ 0 ≤ b ∧ b < 256 := by omega
          have HAB := Lib.hid hab
          have HA := Lib.hid ha
          have HB := Lib.hid hb
          have hJ := fun W => jump_any 30 0 a b W HAB.out
          rw [hsj] at hJ
          clear ha hb hab hsj
          go_wp2_with (first | (go_at_call 10; refine (HJ.out _ hb1).mono ?_; rintro e w2 ⟨hb2, g, N, c, h1, h2, h3, h4, rfl, hc0, hc1, hc2, hc3⟩; rw [← HA.out] at hc2; rw [← HB.out] at hc3) | (go_at_call 12; refine (unpack_any 30 0 a b _).mono ?_; rintro e w3 ⟨rfl, hb3⟩) | (go_at_call 13; refine (hJ _).mono ?_; rintro e w4 ⟨rfl, hb4⟩))
          go_ret
          exact ⟨rfl, below_th (below_al (below_th (below_al (below_th hb1 hb2) _) hb3) _) hb4⟩
set_option maxHeartbeats 1000000 in
theorem jumps_ahead_any (x y : Int) (hx : 0 ≤ x ∧ x ≤ 255) (hy : 0 ≤ y ∧ y ≤ 255) (w : World) (hlib : LibAt w) : Calls Tryd.prog 5 #[.int .u8 x, .int .u8 y, .bool false] w fun e w' => e = .returned (.bool true) ∧ Below w.heap.size w w' := by
  obtain ⟨n, hn⟩ : ∃ n : Nat, (n : Int) = x % 100 := ⟨(x % 100).toNat, by omega⟩
  obtain ⟨m, hm⟩ : ∃ m : Nat, (m : Int) = y % 100 := ⟨(y % 100).toNat, by omega⟩
  have hn1 : n < 100 := by omega
  have hm1 : m < 100 := by omega
  have HN := Lib.hid hn
  have HM := Lib.hid hm
  have hxm : Int.tmod x 100 = n := by rw [Int.tmod_eq_emod_of_nonneg hx.1]; exact hn.symm
  have hym : Int.tmod y 100 = m := by rw [Int.tmod_eq_emod_of_nonneg hy.1]; exact hm.symm
  obtain ⟨hx0, hx1⟩ := hx
  obtain ⟨hy0, hy1⟩ := hy
  have HL := Lib.hid hlib
  clear hlib hn hm
  go_enter Tryd.func5, Tryd.ntmps5
  go_wp2_with (go_at_call 8; refine (awake_any _ HL.out).mono ?_; rintro e w1 ⟨rfl, hb1⟩)
  clear hxm hym
  go_loop [9, 25] (fun t i => ∃ k : Nat, k ≤ n ∧ i = .int .i64 k ∧ t = .string ⟨(movs k).toArray⟩) (fun _ i => n - (intOf i).toNat)
  case atStart => exact ⟨0, Nat.zero_le _, rfl, rfl⟩
  case round =>
    obtain ⟨k, hk, rfl, rfl⟩ := hrel
    have hlen := movs_len k
    have hlb : List.length (movs k) ≤ 1000 := by omega
    clear hlen
    by_cases hlt : k < n
    · go_wp2
      go_round
      case rel => exact ⟨k + 1, by omega, by go_num, by rw [str_app', movs_snoc]; rfl⟩
      case measure => simp [intOf]; omega
    · obtain rfl : k = n := by omega
      go_wp2
      go_loop [9, 37] (fun t i => ∃ j : Nat, j ≤ m ∧ i = .int .i64 j ∧ t = .string ⟨(movs k ++ (jmpRow ++ 10 :: movs j)).toArray⟩) (fun _ i => m - (intOf i).toNat)
      case atStart =>
        refine ⟨0, Nat.zero_le _, rfl, ?_⟩
        rw [str_app']; simp [jmpRow, movs]
      case round =>
        obtain ⟨j, hj, rfl, rfl⟩ := hrel
        have hlen := movs_len j
        have hlj : List.length (movs j) ≤ 1000 := by omega
        have hlh : List.length hereRow = 6 := rfl
        have hljm : List.length jmpRow = 8 := rfl
        clear hlen
        by_cases hlt2 : j < m
        · go_wp2
          go_round
          case rel => exact ⟨j + 1, by omega, by go_num, by rw [str_app', movs_snoc]; simp [movRow]⟩
          case measure => simp [intOf]; omega
        · obtain rfl : j = m := by omega
          have HJ : Hid (∀ w', Below w.heap.size w w' → Calls Tryd.prog 10 #[.string ⟨(jumpsText false k j).toArray⟩] w' (JumpEnd k (j : Int) w')) := Lib.hid (fun w' hb => asm_jump false k j hn1 hm1 w' (lib_below HL.out (w' := w') hb))
          have HTX : Hid (({ data := List.toArray (movs k ++ (jmpRow ++ 10 :: movs j)) } : ByteArray) ++ { data := #[104, 101, 114, 101, 58, 32, 114, 101, 116, 10] } = ⟨(jumpsText false k j).toArray⟩) := by
            show _ = _
            rw [str_app']; simp [jumpsText, hereRet]
          have harr := fun (W : World) (a : Option Addr) (cap : Nat) => run_arrayAt (P := Tryd.prog) (w := W) 40 5 4 a 4 cap Tryd.underlying40 (Nat.le_refl 4)
          have hsj := sgn_jump (j : Int) (by omega)
          obtain ⟨a, ha⟩ : ∃ a, a = (j : Int) % 65536 % 256 := ⟨_, rfl⟩
          obtain ⟨b, hb⟩ : ∃ b, b = (j : Int) % 65536 / 256 := ⟨_, rfl⟩
          rw [← ha, ← hb] at hsj
          have hab : 0 ≤ a ∧ a < 256 ∧ 0 ≤ b ∧ b < 256 := by omega
          have HAB := Lib.hid hab
          have HA := Lib.hid ha
          have HB := Lib.hid hb
          have hJ := fun W => jump_any 30 0 a b W HAB.out
          rw [hsj] at hJ
          clear ha hb hab hsj
          go_wp2_with (first | (go_at_call 10; rw [HTX.out]; refine (HJ.out _ hb1).mono ?_; rintro e w2 ⟨hb2, g, N, c, h1, h2, h3, h4, rfl, hc0, hc1, hc2, hc3⟩; rw [← HA.out] at hc2; rw [← HB.out] at hc3) | (go_at_call 12; refine (unpack_any 30 0 a b _).mono ?_; rintro e w3 ⟨rfl, hb3⟩) | (go_at_call 13; refine (hJ _).mono ?_; rintro e w4 ⟨rfl, hb4⟩))
          go_ret
          exact ⟨rfl, below_th (below_al (below_th (below_al (below_th hb1 hb2) _) hb3) _) hb4⟩
theorem jumps_any (x y : Int) (back : Bool) (hx : 0 ≤ x ∧ x ≤ 255) (hy : 0 ≤ y ∧ y ≤ 255) (w : World) (hlib : LibAt w) : Calls Tryd.prog 5 #[.int .u8 x, .int .u8 y, .bool back] w fun e w' => e = .returned (.bool true) ∧ Below w.heap.size w w' := by
  cases back
  · exact jumps_ahead_any x y hx hy w hlib
  · exact jumps_back_any x y hx hy w hlib
end Go.Proofs.YtlaohefgofmfdaaDoor
