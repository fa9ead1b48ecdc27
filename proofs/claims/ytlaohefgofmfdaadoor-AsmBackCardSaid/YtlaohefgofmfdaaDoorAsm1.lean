/- The walks of package asm's words: a place's name, a number, a register. -/
import Derived.Test.YtlaohefgofmfdaaDoorOps
import Derived.Test.YtlaohefgofmfdaaDoorShelf
namespace Go.Proofs.YtlaohefgofmfdaaDoor
open Go Go.RowKit
set_option maxRecDepth 100000

theorem headD_data (s : ByteArray) (h : 0 < s.size) : s.data.toList.headD 0 = s[0] := by
  have h' : 0 < s.data.toList.length := h
  rw [List.headD_eq_head?_getD, List.head?_eq_getElem?, List.getElem?_eq_getElem h']; rfl
theorem drop_data (s : ByteArray) (k : Nat) (h : k < s.size) : s.data.toList.drop k = s[k] :: s.data.toList.drop (k + 1) := by
  have h' : k < s.data.toList.length := h
  rw [List.drop_eq_getElem_cons h']; rfl
theorem length_data (s : ByteArray) : s.data.toList.length = s.size := rfl

theorem low_iff (c : UInt8) : low c = (decide (97 ≤ (c.toNat : Int)) && decide ((c.toNat : Int) ≤ 122)) := by
  rw [Bool.eq_iff_iff]; simp [low, UInt8.le_iff_toNat_le]; omega
theorem dig_iff (c : UInt8) : dig c = (decide (48 ≤ (c.toNat : Int)) && decide ((c.toNat : Int) ≤ 57)) := by
  rw [Bool.eq_iff_iff]; simp [dig, UInt8.le_iff_toNat_le]; omega
theorem wch_yes (c : UInt8) (h : 97 ≤ (c.toNat : Int) ∧ (c.toNat : Int) ≤ 122 ∨ 48 ≤ (c.toNat : Int) ∧ (c.toNat : Int) ≤ 57) : wch c = true := by
  rw [wch, low_iff, dig_iff]; rcases h with h | h <;> simp <;> omega
theorem wch_no (c : UInt8) (h : ¬ (97 ≤ (c.toNat : Int) ∧ (c.toNat : Int) ≤ 122) ∧ ¬ (48 ≤ (c.toNat : Int) ∧ (c.toNat : Int) ≤ 57)) : wch c = false := by
  rw [wch, low_iff, dig_iff]; simp; omega

set_option maxHeartbeats 1000000 in
theorem word_any (s : ByteArray) (w : World) : Calls Tryd.prog 51 #[.string s] w fun e w' => e = .returned (.bool (wordI s.data.toList)) ∧ w = w' := by
  by_cases h1 : 1 ≤ s.size
  case neg =>
    go_enter Tryd.func51, Tryd.ntmps51
    go_wp2
    all_goals (go_ret; exact ⟨by simp [wordI, length_data, h1], rfl⟩)
  by_cases h2 : s.size ≤ 16
  case neg =>
    go_enter Tryd.func51, Tryd.ntmps51
    go_wp2
    all_goals (go_ret; exact ⟨by simp [wordI, length_data, h2], rfl⟩)
  have hW : Hid (wordI s.data.toList = (low s[0] && s.data.toList.all wch)) := by show _ = _; rw [wordI, length_data, headD_data s (by omega)]; simp [h1, h2]
  have h0 := Lib.hid (low_iff s[0])
  by_cases h3 : 97 ≤ (s[0].toNat : Int)
  case neg =>
    go_enter Tryd.func51, Tryd.ntmps51
    go_wp2
    all_goals (go_ret; exact ⟨by rw [hW.out, h0.out]; simp; omega, rfl⟩)
  by_cases h4 : (s[0].toNat : Int) ≤ 122
  case neg =>
    go_enter Tryd.func51, Tryd.ntmps51
    go_wp2
    all_goals (go_ret; exact ⟨by rw [hW.out, h0.out]; simp; omega, rfl⟩)
  have hW2 : Hid (wordI s.data.toList = s.data.toList.all wch) := by show _ = _; rw [hW.out, h0.out]; simp; intro _; omega
  clear hW h0
  go_enter Tryd.func51, Tryd.ntmps51
  go_wp2
  go_loop [25] (fun i => ∃ k : Nat, k ≤ s.size ∧ i = .int .i64 k ∧ Hid ((s.data.toList.drop k).all wch = wordI s.data.toList)) (fun i => s.size - (intOf i).toNat)
  case atStart => exact ⟨0, Nat.zero_le _, rfl, Lib.hid hW2.out.symm⟩
  case round =>
    obtain ⟨k, hk, rfl, hr⟩ := hrel
    by_cases hlt : k < s.size
    · have hd := hr.out
      rw [drop_data s k hlt, List.all_cons] at hd
      have HD := Lib.hid hd
      clear hd
      go_wp2
      all_goals first
        | (go_ret; exact ⟨by rw [← HD.out, wch_no _ (by simp at *; omega)]; rfl, rfl⟩)
        | (go_round
           case rel => exact ⟨k + 1, by omega, by go_num, Lib.hid (by rw [← HD.out, wch_yes _ (by simp at *; omega)]; simp)⟩
           case measure => simp [intOf]; omega)
    · have hk' : k = s.size := by omega
      have HE : Hid (wordI s.data.toList = true) := by show _ = _; rw [← hr.out, hk', ← length_data, List.drop_length]; rfl
      clear hk' hr
      go_wp2
      go_ret
      exact ⟨by rw [HE.out]; rfl, rfl⟩
theorem trim_one (l : Bs) (c : UInt8) (hc : c ≠ 0) : Lib.trimPrefix l [c] = (if l.headD 0 = c then l.tail else l) ∧ Lib.hasPrefix l [c] = decide (l.headD 0 = c) := by
  cases l with
  | nil => simp [Lib.trimPrefix, Lib.hasPrefix, Ne.symm hc]
  | cons x r =>
    by_cases h : x = c
    · subst h; simp [Lib.trimPrefix, Lib.hasPrefix]
    · have e : [c].isPrefixOf (x :: r) = false := by simp [List.isPrefixOf, Ne.symm h]
      simp [Lib.trimPrefix, Lib.hasPrefix, h, e]
theorem pow_le (k : Nat) (h : k ≤ 6) : (10 : Int) ^ k ≤ 1000000 := by
  have h7 : k = 0 ∨ k = 1 ∨ k = 2 ∨ k = 3 ∨ k = 4 ∨ k = 5 ∨ k = 6 := by omega
  rcases h7 with rfl | rfl | rfl | rfl | rfl | rfl | rfl <;> decide
theorem pow_next (n : Int) (k : Nat) (h0 : 0 ≤ n) (h : n < 10 ^ k) (c : Int) (hc : 48 ≤ c ∧ c ≤ 57) : 0 ≤ n * 10 + (c - 48) ∧ n * 10 + (c - 48) < 10 ^ (k + 1) := by
  rw [Int.pow_succ]; omega

/-- Of what is left of a text of digits: what it comes to. -/
def digGo (n : Int) (l : Bs) : Option Int := if l.all dig = true then some (decGo n l) else none
theorem digGo_yes (n : Int) (c : UInt8) (l : Bs) (h : 48 ≤ (c.toNat : Int) ∧ (c.toNat : Int) ≤ 57) : digGo n (c :: l) = digGo (n * 10 + ((c.toNat : Int) - 48)) l := by
  have e : dig c = true := by rw [dig_iff]; simp; omega
  simp [digGo, e, decGo]
theorem digGo_no (n : Int) (c : UInt8) (l : Bs) (h : ¬ (48 ≤ (c.toNat : Int) ∧ (c.toNat : Int) ≤ 57)) : digGo n (c :: l) = none := by
  have e : dig c = false := by rw [dig_iff]; simp; omega
  simp [digGo, e]
/-- What 'number' comes to behind its sign. -/
def afterSign (neg : Bool) (s : Bs) : Option Int := if neg then (if s = [48] then none else (digitsI s).map fun n => -n) else digitsI s
theorem numI_sign (l : Bs) : numI l = if l.headD 0 = 45 then afterSign true l.tail else afterSign false l := by simp [numI, afterSign]
def inRange (o : Option Int) (least most : Int) : Bool := match o with | none => false | some n => decide (least ≤ n) && decide (n ≤ most)

set_option maxHeartbeats 2000000 in
theorem number_any (s : ByteArray) (least most : Int) (w : World) : Calls Tryd.prog 72 #[.string s, .int .i64 least, .int .i64 most] w fun e w' =>
    e = .returned (.tuple #[.int .i64 ((numI s.data.toList).getD 0), .bool (inRange (numI s.data.toList) least most)]) ∧ w = w' := by
  obtain ⟨hT, hP⟩ := trim_one s.data.toList 45 (by decide)
  have hN := numI_sign s.data.toList
  by_cases hneg : s.data.toList.headD 0 = 45
  · rw [if_pos hneg] at hT hN
    have HP : Lib.hasPrefix s.data.toList [45] = true := by rw [hP]; simpa using hneg
    clear hP hneg
    obtain ⟨r, hr⟩ : ∃ r : ByteArray, r = ⟨(Lib.trimPrefix s.data.toList [45]).toArray⟩ := ⟨_, rfl⟩
    have hrl : r.data.toList = s.data.toList.tail := by rw [hr]; exact hT
    have HN : Hid (numI s.data.toList = afterSign true r.data.toList) := by show _ = _; rw [hN, hrl]
    clear hT hN hrl
    have hcall := Tryd.strings_CutPrefix s ⟨#[45]⟩ w
    rw [show (⟨#[45]⟩ : ByteArray).data.toList = [45] from rfl, HP, ← hr] at hcall
    have HC := Lib.hid hcall
    clear hcall hr HP
    by_cases h1 : 1 ≤ r.size
    case neg =>
      have HB : Hid (numI s.data.toList = none) := by show _ = _; rw [HN.out]; simp [afterSign, digitsI, length_data, h1]
      clear HN
      go_enter Tryd.func72, Tryd.ntmps72
      go_wp2_with (go_at_call 73; refine HC.out.mono ?_; rintro e w' ⟨rfl, rfl⟩)
      all_goals (go_ret2; exact ⟨by rw [HB.out]; rfl, rfl⟩)
    by_cases h2 : r.size ≤ 6
    case neg =>
      have HB : Hid (numI s.data.toList = none) := by show _ = _; rw [HN.out]; simp [afterSign, digitsI, length_data, h2]
      clear HN
      go_enter Tryd.func72, Tryd.ntmps72
      go_wp2_with (go_at_call 73; refine HC.out.mono ?_; rintro e w' ⟨rfl, rfl⟩)
      all_goals (go_ret2; exact ⟨by rw [HB.out]; rfl, rfl⟩)
    have h0d : r.data.toList.headD 0 = r[0] := headD_data r (by omega)
    have H0d := Lib.hid h0d
    clear h0d
    by_cases h3 : 1 < r.size ∧ (r[0].toNat : Int) = 48
    case pos =>
      obtain ⟨h3a, h3b⟩ := h3
      have HB : Hid (numI s.data.toList = none) := by
        show _ = _; rw [HN.out]
        have e : r[0] = 48 := by apply UInt8.toNat.inj; exact_mod_cast h3b
        have e2 : digitsI r.data.toList = none := by rw [digitsI, if_neg]; rw [H0d.out]; intro h; exact h.2.2.1 ⟨h3a, e⟩
        simp [afterSign, e2]
      have h3c : ((r[0].toNat : Int) == 48) = true := by simpa using h3b
      have H3 := Lib.hid h3b
      clear HN h3b
      go_enter Tryd.func72, Tryd.ntmps72
      go_wp2_with (go_at_call 73; refine HC.out.mono ?_; rintro e w' ⟨rfl, rfl⟩)
      all_goals (go_ret2; exact ⟨by rw [HB.out]; rfl, rfl⟩)
    have h3' : r.size ≤ 1 ∨ (r[0].toNat : Int) ≠ 48 := by omega
    by_cases h5 : r.data.toList = [48]
    case pos =>
      have HB : Hid (numI s.data.toList = none) := by show _ = _; rw [HN.out]; simp [afterSign, h5]
      have ht : (r.toList == [48]) = true := by rw [toList_data, h5]; rfl
      have hsz : r.size = 1 := by rw [← length_data, h5]; rfl
      have hsz1 : ¬ 1 < r.size := by omega
      clear HN h5 h3 h3' H0d hsz
      go_enter Tryd.func72, Tryd.ntmps72
      go_wp2_with (go_at_call 73; refine HC.out.mono ?_; rintro e w' ⟨rfl, rfl⟩)
      all_goals (go_ret2; exact ⟨by rw [HB.out]; rfl, rfl⟩)
    have ht : (r.toList == [48]) = false := by rw [toList_data]; simpa using h5
    have e9 : digitsI r.data.toList = digGo 0 r.data.toList := by
      rw [digitsI, digGo]
      have : ¬ (1 < r.data.toList.length ∧ r.data.toList.headD 0 = 48) := by rw [H0d.out, length_data]; rintro ⟨ha, hb⟩; rcases h3' with h | h; omega; exact h (by rw [hb]; rfl)
      by_cases ha : r.data.toList.all dig = true
      · rw [if_pos ⟨h1, h2, this, ha⟩, if_pos ha]
      · rw [if_neg (fun h => ha h.2.2.2), if_neg ha]
    have HM : Hid (numI s.data.toList = (digGo 0 r.data.toList).map fun n => -n) := by show _ = _; rw [HN.out, afterSign, if_pos rfl, if_neg h5, e9]
    clear h5
    clear e9 HN H0d h3
    by_cases h6 : 1 < r.size
    all_goals
      have hz : 1 < r.size → ((r[0].toNat : Int) == 48) = false := fun h => by simp; omega
      try have hz := hz h6
      clear h3'
      go_enter Tryd.func72, Tryd.ntmps72
      go_wp2_with (go_at_call 73; refine HC.out.mono ?_; rintro e w' ⟨rfl, rfl⟩)
      go_loop [11, 48] (fun v i => ∃ (k : Nat) (n : Int), k ≤ r.size ∧ i = .int .i64 k ∧ v = .int .i64 n ∧ 0 ≤ n ∧ n < 10 ^ k ∧ Hid (numI s.data.toList = (digGo n (r.data.toList.drop k)).map fun n => -n)) (fun _ i => r.size - (intOf i).toNat)
      case atStart => exact ⟨0, 0, Nat.zero_le _, rfl, rfl, by omega, by decide, HM⟩
      case round =>
        obtain ⟨k, n, hk, rfl, rfl, hn0, hn1, hr⟩ := hrel
        have hp := pow_le k (by omega)
        have hn2 : n < 1000000 := by omega
        by_cases hlt : k < r.size
        · have hd := hr.out
          rw [drop_data r k hlt] at hd
          have HD := Lib.hid hd
          have HP := Lib.hid (pow_next n k hn0 hn1 (r[k].toNat : Int))
          clear hd hr hp hn1
          go_wp2
          all_goals first
            | (go_ret2; exact ⟨by rw [HD.out, digGo_no _ _ _ (by simp at *; omega)]; rfl, rfl⟩)
            | (go_round
               case rel => exact ⟨k + 1, _, by omega, by go_num, rfl, HP.out (by simp at *; omega) |>.1, HP.out (by simp at *; omega) |>.2, Lib.hid (by rw [HD.out, digGo_yes _ _ _ (by simp at *; omega)])⟩
               case measure => simp [intOf]; omega)
        · have hke : k = r.size := by omega
          have HE : Hid (numI s.data.toList = some (-n)) := by show _ = _; rw [hr.out, hke, ← length_data, List.drop_length]; rfl
          clear hke hr hn1 hp
          go_wp2
          all_goals (go_ret2; exact ⟨by rw [HE.out]; simp [inRange]; try omega, rfl⟩)
  · rw [if_neg hneg] at hT hN
    have HP : Lib.hasPrefix s.data.toList [45] = false := by rw [hP]; simpa using hneg
    clear hP hneg
    obtain ⟨r, hr⟩ : ∃ r : ByteArray, r = ⟨(Lib.trimPrefix s.data.toList [45]).toArray⟩ := ⟨_, rfl⟩
    obtain rfl : r = s := by rw [hr, hT]
    clear hr
    have HN : Hid (numI r.data.toList = afterSign false r.data.toList) := Lib.hid hN
    have hcall := Tryd.strings_CutPrefix r ⟨#[45]⟩ w
    rw [show (⟨#[45]⟩ : ByteArray).data.toList = [45] from rfl, HP] at hcall
    have HC := Lib.hid hcall
    clear hcall HP hT hN
    by_cases h1 : 1 ≤ r.size
    case neg =>
      have HB : Hid (numI r.data.toList = none) := by show _ = _; rw [HN.out]; simp [afterSign, digitsI, length_data, h1]
      clear HN
      go_enter Tryd.func72, Tryd.ntmps72
      go_wp2_with (go_at_call 73; refine HC.out.mono ?_; rintro e w' ⟨rfl, rfl⟩)
      all_goals (go_ret2; exact ⟨by rw [HB.out]; rfl, rfl⟩)
    by_cases h2 : r.size ≤ 6
    case neg =>
      have HB : Hid (numI r.data.toList = none) := by show _ = _; rw [HN.out]; simp [afterSign, digitsI, length_data, h2]
      clear HN
      go_enter Tryd.func72, Tryd.ntmps72
      go_wp2_with (go_at_call 73; refine HC.out.mono ?_; rintro e w' ⟨rfl, rfl⟩)
      all_goals (go_ret2; exact ⟨by rw [HB.out]; rfl, rfl⟩)
    have h0d : r.data.toList.headD 0 = r[0] := headD_data r (by omega)
    have H0d := Lib.hid h0d
    clear h0d
    by_cases h3 : 1 < r.size ∧ (r[0].toNat : Int) = 48
    case pos =>
      obtain ⟨h3a, h3b⟩ := h3
      have HB : Hid (numI r.data.toList = none) := by
        show _ = _; rw [HN.out]
        have e : r[0] = 48 := by apply UInt8.toNat.inj; exact_mod_cast h3b
        have e2 : digitsI r.data.toList = none := by rw [digitsI, if_neg]; rw [H0d.out]; intro h; exact h.2.2.1 ⟨h3a, e⟩
        simp [afterSign, e2]
      have h3c : ((r[0].toNat : Int) == 48) = true := by simpa using h3b
      have H3 := Lib.hid h3b
      clear HN h3b
      go_enter Tryd.func72, Tryd.ntmps72
      go_wp2_with (go_at_call 73; refine HC.out.mono ?_; rintro e w' ⟨rfl, rfl⟩)
      all_goals (go_ret2; exact ⟨by rw [HB.out]; rfl, rfl⟩)
    have h3' : r.size ≤ 1 ∨ (r[0].toNat : Int) ≠ 48 := by omega
    have e9 : digitsI r.data.toList = digGo 0 r.data.toList := by
      rw [digitsI, digGo]
      have : ¬ (1 < r.data.toList.length ∧ r.data.toList.headD 0 = 48) := by rw [H0d.out, length_data]; rintro ⟨ha, hb⟩; rcases h3' with h | h; omega; exact h (by rw [hb]; rfl)
      by_cases ha : r.data.toList.all dig = true
      · rw [if_pos ⟨h1, h2, this, ha⟩, if_pos ha]
      · rw [if_neg (fun h => ha h.2.2.2), if_neg ha]
    have HM : Hid (numI r.data.toList = (digGo 0 r.data.toList).map fun n => n) := by show _ = _; rw [HN.out, afterSign, if_neg (by decide), e9]; simp
    clear e9 HN H0d h3
    by_cases h6 : 1 < r.size
    all_goals
      have hz : 1 < r.size → ((r[0].toNat : Int) == 48) = false := fun h => by simp; omega
      try have hz := hz h6
      clear h3'
      go_enter Tryd.func72, Tryd.ntmps72
      go_wp2_with (go_at_call 73; refine HC.out.mono ?_; rintro e w' ⟨rfl, rfl⟩)
      go_loop [11, 48] (fun v i => ∃ (k : Nat) (n : Int), k ≤ r.size ∧ i = .int .i64 k ∧ v = .int .i64 n ∧ 0 ≤ n ∧ n < 10 ^ k ∧ Hid (numI r.data.toList = (digGo n (r.data.toList.drop k)).map fun n => n)) (fun _ i => r.size - (intOf i).toNat)
      case atStart => exact ⟨0, 0, Nat.zero_le _, rfl, rfl, by omega, by decide, HM⟩
      case round =>
        obtain ⟨k, n, hk, rfl, rfl, hn0, hn1, hr⟩ := hrel
        have hp := pow_le k (by omega)
        have hn2 : n < 1000000 := by omega
        by_cases hlt : k < r.size
        · have hd := hr.out
          rw [drop_data r k hlt] at hd
          have HD := Lib.hid hd
          have HP := Lib.hid (pow_next n k hn0 hn1 (r[k].toNat : Int))
          clear hd hr hp hn1
          go_wp2
          all_goals first
            | (go_ret2; exact ⟨by rw [HD.out, digGo_no _ _ _ (by simp at *; omega)]; rfl, rfl⟩)
            | (go_round
               case rel => exact ⟨k + 1, _, by omega, by go_num, rfl, HP.out (by simp at *; omega) |>.1, HP.out (by simp at *; omega) |>.2, Lib.hid (by rw [HD.out, digGo_yes _ _ _ (by simp at *; omega)])⟩
               case measure => simp [intOf]; omega)
        · have hke : k = r.size := by omega
          have HE : Hid (numI r.data.toList = some (n)) := by show _ = _; rw [hr.out, hke, ← length_data, List.drop_length]; rfl
          clear hke hr hn1 hp
          go_wp2
          all_goals (go_ret2; exact ⟨by rw [HE.out]; simp [inRange]; try omega, rfl⟩)
theorem inRange_eq (o : Option Int) (least most : Int) : inRange o least most = (o.bind fun n => if least ≤ n ∧ n ≤ most then some n else none).isSome := by
  cases o with
  | none => rfl
  | some n =>
    by_cases h : least ≤ n ∧ n ≤ most
    · simp [inRange, h]
    · simp only [inRange, Option.bind_some, if_neg h, Option.isSome_none, Bool.and_eq_false_iff, decide_eq_false_iff_not]; omega
/-- A register: the number, and whether it is one. -/
theorem register_any (s : ByteArray) : ∃ v : Int, (∀ n, regI s.data.toList = some n → v = n ∧ 0 ≤ n ∧ n < 16) ∧ ∀ w, Calls Tryd.prog 57 #[.string s] w fun e w' => e = .returned (.tuple #[.int .u8 v, .bool (regI s.data.toList).isSome]) ∧ w = w' := by
  obtain ⟨hT, hP⟩ := trim_one s.data.toList 114 (by decide)
  obtain ⟨r, hr⟩ : ∃ r : ByteArray, r = ⟨(Lib.trimPrefix s.data.toList [114]).toArray⟩ := ⟨_, rfl⟩
  have hcall := fun w => Tryd.strings_CutPrefix s ⟨#[114]⟩ w
  simp only [show (⟨#[114]⟩ : ByteArray).data.toList = [114] from rfl, ← hr] at hcall
  have HC := Lib.hid hcall
  have HR : Hid (regI s.data.toList = if Lib.hasPrefix s.data.toList [114] = true then rangeI r.data.toList 0 15 else none) := by
    show _ = _
    rw [hP, regI, hr]
    by_cases h : s.data.toList.headD 0 = 114
    · rw [if_pos h] at hT; rw [if_pos h, if_pos (by simpa using h), hT]
    · rw [if_neg h, if_neg (by simpa using h)]
  clear hcall hr hT hP
  obtain ⟨b, hb⟩ : ∃ b, b = Lib.hasPrefix s.data.toList [114] := ⟨_, rfl⟩
  rw [← hb] at HC HR
  clear hb
  have HN : Hid (∀ n, rangeI r.data.toList 0 15 = some n → (numI r.data.toList).getD 0 = n ∧ 0 ≤ n ∧ n < 16) := by
    show ∀ _, _
    intro n hn
    rw [rangeI] at hn
    cases h : numI r.data.toList with
    | none => rw [h] at hn; cases hn
    | some m =>
      rw [h] at hn
      simp only [Option.bind_some] at hn
      split at hn
      · cases hn; exact ⟨rfl, by omega, by omega⟩
      · cases hn
  refine ⟨(numI r.data.toList).getD 0 % 256, ?_, fun w => ?_⟩
  · intro n hn
    rw [HR.out] at hn
    split at hn
    · obtain ⟨h1, h2, h3⟩ := HN.out n hn
      exact ⟨by rw [h1]; omega, h2, h3⟩
    · cases hn
  cases b with
  | true =>
    have HE : Hid (regI s.data.toList = rangeI r.data.toList 0 15) := by show _ = _; rw [HR.out, if_pos rfl]
    clear HR
    go_enter Tryd.func57, Tryd.ntmps57
    go_wp2_with (first | (go_at_call 73; refine (HC.out _).mono ?_; rintro e w' ⟨rfl, rfl⟩) | (go_at_call 72; refine (number_any _ _ _ _).mono ?_; rintro e w' ⟨rfl, rfl⟩))
    go_ret2
    exact ⟨by rw [HE.out, rangeI, ← inRange_eq]; rfl, rfl⟩
  | false =>
    have HE : Hid (regI s.data.toList = none) := by show _ = _; rw [HR.out, if_neg (by decide)]
    clear HR HN
    go_enter Tryd.func57, Tryd.ntmps57
    go_wp2_with (first | (go_at_call 73; refine (HC.out _).mono ?_; rintro e w' ⟨rfl, rfl⟩) | (go_at_call 72; refine (number_any _ _ _ _).mono ?_; rintro e w' ⟨rfl, rfl⟩))
    go_ret2
    exact ⟨by rw [HE.out]; rfl, rfl⟩
end Go.Proofs.YtlaohefgofmfdaaDoor
