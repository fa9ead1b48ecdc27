/- The walk of AsmLong. -/
import Derived.Test.YtlaohefgofmfdaaDoorLaw1
import Derived.Test.YtlaohefgofmfdaaDoorLongP
import Derived.Laws.MakeOwn
import Derived.Laws.NewBlocks
namespace Go.Proofs.YtlaohefgofmfdaaDoor
open Go Go.RowKit Go.Proofs.YtlaohefgofmfdaaDoorW.PrintWords
set_option maxRecDepth 100000
theorem asm_text (l : Bs) (hl : l.length ≤ 1000000) (ha : ∀ b ∈ l, b.toNat < 128) (w : World) (hlib : LibAt w) :
    Calls Tryd.prog 10 #[.string ⟨l.toArray⟩] w (AsmEnd (asmI (splitNL l) (decide (65536 < l.length))) w) := by
  have hsz : (⟨l.toArray⟩ : ByteArray).size = l.length := by show l.toArray.size = _; simp
  have := assemble_any ⟨l.toArray⟩ (by rw [hsz]; unfold maxLen; omega) (fun _ => by simpa using ha) w hlib
  rw [hsz] at this
  simpa using this
/-- What the call's two last results are, and how long its code is. -/
def ShortEnd (n : Nat) (w : World) (e : Ending) (w' : World) : Prop :=
  Below w.heap.size w w' ∧ ∃ p c, e = .returned (.tuple #[.agg #[.int .u8 0, .slice p n c], .int .i64 0, .int .i64 0])
def BadEnd (er line : Int) (w : World) (e : Ending) (w' : World) : Prop :=
  Below w.heap.size w w' ∧ ∃ p c, e = .returned (.tuple #[.agg #[.int .u8 0, .slice p 0 c], .int .i64 line, .int .i64 er])
theorem asm_long7_few (k : Nat) (h0 : 0 < k) (h : k ≤ 2048) (w : World) (hlib : LibAt w) : Calls Tryd.prog 10 #[.string ⟨(long7 k).toArray⟩] w (ShortEnd k w) := by
  obtain ⟨h1, h2⟩ := long7_bd k
  refine (asm_text (long7 k) (by omega) h2 w hlib).mono ?_
  rw [asmI, if_neg (by simp; omega), long7_few k h0 h]
  rintro e w1 ⟨hb, v, rfl, hown⟩
  obtain ⟨p, c, rfl⟩ := own_slice hown
  exact ⟨hb, p, c, by simp⟩
theorem asm_long7_many (k : Nat) (h : 2048 < k) (h2 : k ≤ 2100) (w : World) (hlib : LibAt w) : Calls Tryd.prog 10 #[.string ⟨(long7 k).toArray⟩] w (BadEnd 11 (1 + ((k : Int) + 63) / 64) w) := by
  obtain ⟨h3, h4⟩ := long7_bd k
  refine (asm_text (long7 k) (by omega) h4 w hlib).mono ?_
  rw [asmI, if_neg (by simp; omega), long7_many k h h2]
  rintro e w1 ⟨hb, v, rfl, hown⟩
  obtain ⟨p, c, rfl⟩ := own_slice hown
  exact ⟨hb, p, c, rfl⟩
theorem asm_nls (n : Nat) (h : n ≤ 70000) (w : World) (hlib : LibAt w) : Calls Tryd.prog 10 #[.string ⟨(List.replicate n (10 : UInt8)).toArray⟩] w (BadEnd (if 65536 < n then 8 else 19) 0 w) := by
  refine (asm_text (List.replicate n 10) (by simp; omega) (fun b hb => by rw [(List.mem_replicate.1 hb).2]; decide) w hlib).mono ?_
  rw [List.length_replicate, long_nls]
  rintro e w1 ⟨hb, v, rfl, hown⟩
  obtain ⟨p, c, rfl⟩ := own_slice hown
  exact ⟨hb, p, c, rfl⟩
set_option maxHeartbeats 1000000 in
theorem long_short (x : Int) (hx : 0 ≤ x ∧ x ≤ 65535) (w : World) (hlib : LibAt w) : Calls Tryd.prog 4 #[.int .u16 x, .bool false] w fun e w' => e = .returned (.bool true) ∧ Below w.heap.size w w' := by
  obtain ⟨n, hn⟩ : ∃ n : Nat, (n : Int) = x % 40 + 2030 := ⟨(x % 40 + 2030).toNat, by omega⟩
  have hn1 : 2030 ≤ n ∧ n ≤ 2069 := by omega
  have hxm : Int.tmod x 40 = (n : Int) - 2030 := by rw [Int.tmod_eq_emod_of_nonneg hx.1]; omega
  have e1 : (2030 : Int) + ((n : Int) - 2030) = n := by omega
  obtain ⟨hx0, hx1⟩ := hx
  obtain ⟨hn0, hn1⟩ := hn1
  have HL := Lib.hid hlib
  clear hlib hn
  go_enter Tryd.func4, Tryd.ntmps4
  go_wp2_with (go_at_call 8; refine (awake_any _ HL.out).mono ?_; rintro e w1 ⟨rfl, hb1⟩)
  clear hxm e1
  go_loop [11, 65] (fun t i => ∃ k : Nat, k ≤ n ∧ i = .int .i64 k ∧ t = .string ⟨(long7 k).toArray⟩) (fun _ i => n - (intOf i).toNat)
  case atStart => exact ⟨0, Nat.zero_le _, rfl, rfl⟩
  case round =>
    obtain ⟨k, hk, rfl, rfl⟩ := hrel
    have hlb : List.length (long7 k) ≤ 20000 := by have := (long7_bd k).1; omega
    by_cases hlt : k < n
    · by_cases h64 : k % 64 = 0
      · have hb : ((k : Int) % 64 == 0) = true := by rw [beq_iff_eq]; omega
        have HT := Lib.hid (long7_a k h64)
        clear h64
        go_wp2
        go_round
        case rel => exact ⟨k + 1, by omega, by go_num, by rw [HT.out, str_app', str_app']⟩
        case measure => simp [intOf]; omega
      · have hb : ((k : Int) % 64 == 0) = false := by rw [beq_eq_false_iff_ne]; omega
        have HT := Lib.hid (long7_b k h64)
        clear h64
        go_wp2
        go_round
        case rel => exact ⟨k + 1, by omega, by go_num, by rw [HT.out, str_app']⟩
        case measure => simp [intOf]; omega
    · obtain rfl : k = n := by omega
      by_cases hf : k ≤ 2048
      · have HJ := Lib.hid (fun w' hb => asm_long7_few k (by omega) hf w' (lib_below HL.out (w' := w') hb))
        go_wp2_with (go_at_call 10; refine (HJ.out _ hb1).mono ?_; rintro e w2 ⟨hb2, p, c, rfl⟩)
        go_ret
        exact ⟨rfl, below_al (below_th hb1 hb2) _⟩
      · have HJ := Lib.hid (fun w' hb => asm_long7_many k (by omega) (by omega) w' (lib_below HL.out (w' := w') hb))
        go_wp2_with (go_at_call 10; refine (HJ.out _ hb1).mono ?_; rintro e w2 ⟨hb2, p, c, rfl⟩)
        go_ret
        exact ⟨rfl, below_al (below_th hb1 hb2) _⟩
def nlCells (L k : Nat) : Array Value := (List.replicate k (Value.int .u8 10) ++ List.replicate (L - k) (Value.int .u8 0)).toArray
theorem nlCells_zero (n : Nat) : nlCells n 0 = madeCells #[Value.int .u8 0] n := by
  apply Array.ext
  · simp [nlCells, madeCells]
  · intro j h1 h2
    simp [nlCells, madeCells, Nat.mod_one]
theorem nlCells_size (n k : Nat) (h : k ≤ n) : (nlCells n k).size = n := by simp [nlCells]; omega
theorem nlCells_at (n k : Nat) (h : k < n) : (nlCells n k)[k]? = some (.int .u8 0) := by
  unfold nlCells
  rw [List.getElem?_toArray, List.getElem?_append_right (by simp)]
  simp [List.getElem?_replicate]; omega
theorem nlCells_set (n k : Nat) (h : k < n) : (nlCells n k).setIfInBounds k (.int .u8 10) = nlCells n (k + 1) := by
  apply Array.ext_getElem?
  intro j
  simp only [nlCells, List.setIfInBounds_toArray, List.getElem?_toArray, List.getElem?_set]
  by_cases hj : k = j
  · subst hj
    rw [if_pos rfl, List.getElem?_append_left (by simp), List.getElem?_replicate]
    simp; omega
  · rw [if_neg hj]
    by_cases hlt : j < k
    · rw [List.getElem?_append_left (by simpa using hlt), List.getElem?_append_left (by simp; omega), List.getElem?_replicate, List.getElem?_replicate, if_pos hlt, if_pos (by omega)]
    · rw [List.getElem?_append_right (by simp; omega), List.getElem?_append_right (by simp; omega)]
      simp only [List.length_replicate, List.getElem?_replicate]
      by_cases hn : j < n
      · rw [if_pos (by omega), if_pos (by omega)]
      · rw [if_neg (by omega), if_neg (by omega)]
theorem make_nls (n : Nat) (h : n ≤ 70000) (W : World) : (Instr.makeSlice 22 (.int .i64 (n : Int)) (.int .i64 (n : Int))).run Tryd.prog W = .ok (.slice (some ⟨W.heap.size, 0, none⟩) n n) (W.alloc (.cells (nlCells n 0) 5)) := by
  obtain ⟨i0, hi, hz0, hz1, hz2⟩ := info_parts infoByte
  have := run_make (P := Tryd.prog) W 22 5 i0 (.int .u8 0) Tryd.underlying22 hi hz0 .i64 .i64 n n (by omega) (by omega) (by rw [hz2]; omega) (by omega)
  rw [hz1, Nat.mul_one, Int.toNat_natCast] at this
  rw [this, nlCells_zero]; rfl
theorem conv_nls (n : Nat) (w : World) : (convert 22 9 (.slice (some ⟨w.heap.size, 0, none⟩) n n)).run Tryd.prog (w.alloc (.cells (nlCells n n) 5)) = .ok (.string ⟨(List.replicate n (10 : UInt8)).toArray⟩) (w.alloc (.cells (nlCells n n) 5)) := by
  have := run_convert_bytes_back (P := Tryd.prog) (w.alloc (.cells (nlCells n n) 5)) 22 9 5 ⟨w.heap.size, 0, none⟩ n (List.replicate n (10 : UInt8)) Tryd.underlying22 Tryd.underlying5 Tryd.underlying9 (fun j hj => by
    rw [show (Addr.add ⟨w.heap.size, 0, none⟩ j) = ⟨w.heap.size, j, none⟩ by simp [Addr.add]; try exact fun h => h.symm, cell_of_row _ _ _ _ _ _ (heap_alloc_new _ _)]
    simp at hj
    simp [nlCells, List.getElem?_replicate, hj])
  rw [List.length_replicate] at this
  exact this
set_option maxHeartbeats 1000000 in
theorem long_long (x : Int) (hx : 0 ≤ x ∧ x ≤ 65535) (w : World) (hlib : LibAt w) : Calls Tryd.prog 4 #[.int .u16 x, .bool true] w fun e w' => e = .returned (.bool true) ∧ Below w.heap.size w w' := by
  obtain ⟨n, hn⟩ : ∃ n : Nat, (n : Int) = x % 12 + 65530 := ⟨(x % 12 + 65530).toNat, by omega⟩
  have hn1 : 65530 ≤ n ∧ n ≤ 65541 := by omega
  have hxm : Int.tmod x 12 = (n : Int) - 65530 := by rw [Int.tmod_eq_emod_of_nonneg hx.1]; omega
  have e1 : (65530 : Int) + ((n : Int) - 65530) = n := by omega
  have hmk := fun W => make_nls n (by omega) W
  obtain ⟨hx0, hx1⟩ := hx
  obtain ⟨hn0, hn1⟩ := hn1
  have HL := Lib.hid hlib
  clear hlib hn
  go_enter Tryd.func4, Tryd.ntmps4
  go_wp2_with (go_at_call 8; refine (awake_any _ HL.out).mono ?_; rintro e w1 ⟨rfl, hb1⟩)
  clear hxm e1 hmk
  go_loopw [26] (fun i wr => ∃ k : Nat, k ≤ n ∧ i = .int .i64 k ∧ wr = w1.alloc (.cells (nlCells n k) 5)) (fun i _ => n - (intOf i).toNat)
  case atStart => exact ⟨0, Nat.zero_le _, rfl, rfl⟩
  case round =>
    obtain ⟨k, hk, rfl, rfl⟩ := hrel
    by_cases hlt : k < n
    · have hcell : (w1.alloc (.cells (nlCells n k) 5)).cell? ⟨w1.heap.size, k, none⟩ = some (.int .u8 0) := by
        rw [cell_of_row _ _ _ _ _ _ (heap_alloc_new _ _)]; exact nlCells_at n k hlt
      have hset := nlCells_set n k hlt
      go_wp2
      go_roundw
      case rel => exact ⟨k + 1, by omega, by go_num, rfl⟩
      case measure => simp [intOf]; omega
    · obtain rfl : k = n := by omega
      have hcv := conv_nls k w1
      have hbA : Below w.heap.size w (w1.alloc (.cells (nlCells k k) 5)) := below_al hb1 _
      have HJ := Lib.hid (asm_nls k (by omega) _ (lib_below HL.out hbA))
      go_wp2_with (go_at_call 10; refine (HJ.out).mono ?_; rintro e w2 ⟨hb2, p, c, rfl⟩)
      all_goals go_ret
      all_goals exact ⟨rfl, below_al (below_th hbA hb2) _⟩
theorem aslong_any (x : Int) (long : Bool) (hx : 0 ≤ x ∧ x ≤ 65535) (w : World) (hlib : LibAt w) : Calls Tryd.prog 4 #[.int .u16 x, .bool long] w fun e w' => e = .returned (.bool true) ∧ Below w.heap.size w w' := by
  cases long
  · exact long_short x hx w hlib
  · exact long_long x hx w hlib
end Go.Proofs.YtlaohefgofmfdaaDoor
