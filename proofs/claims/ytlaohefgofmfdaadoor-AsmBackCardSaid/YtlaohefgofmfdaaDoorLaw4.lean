/- The walk of AsmBack. -/
import Derived.Test.YtlaohefgofmfdaaDoorLaw2
import Derived.Test.YtlaohefgofmfdaaDoorTextR
import Derived.Test.YtlaohefgofmfdaaDoorBackQ
import Derived.Deep.QuietTactic
import Derived.BigQuiet
import Derived.Deep.RegionLaw
import Derived.Deep.AppendLies
namespace Go.Proofs.YtlaohefgofmfdaaDoor
open Go Go.RowKit Go.Proofs.YtlaohefgofmfdaaDoorW.PrintWords
set_option maxRecDepth 100000
/-- The assembled text of a program that fits. -/
theorem asm_fits (x : Int) (code : List Int) (hx : 0 ≤ x ∧ x ≤ 32) (h : ∀ b ∈ code, Byt b) (hn : code.length ≤ 600) (hf : fileI x code.length = 0) (W : World) (hlib : LibAt W) :
    Calls Tryd.prog 10 #[.string ⟨(textP x code).toArray⟩] W fun e w' => LBel W w' ∧ ∃ p c, e = .returned (.tuple #[.agg #[.int .u8 x, .slice p code.length c], .int .i64 0, .int .i64 0]) ∧ w'.ownsRow W.heap.size 5 1 (.slice p code.length c) code.length (u8s code) := by
  have hl := textP_len x code hx h
  refine (asm_text (textP x code) (by omega) (textP_ascii x code hx h) W hlib).mono ?_
  rw [asmI, if_neg (by simp; omega), asm_textP x code hx h (by omega), if_pos hf]
  rintro e w1 ⟨hk, v, rfl, hown⟩
  obtain ⟨p, c, rfl⟩ := own_slice hown
  exact ⟨hk, p, c, rfl, hown⟩
theorem asm_big (x : Int) (code : List Int) (hx : 0 ≤ x ∧ x ≤ 32) (h : ∀ b ∈ code, Byt b) (hn : code.length ≤ 600) (hf : fileI x code.length ≠ 0) (W : World) (hlib : LibAt W) :
    Calls Tryd.prog 10 #[.string ⟨(textP x code).toArray⟩] W fun e w' => LBel W w' ∧ ∃ p c, e = .returned (.tuple #[.agg #[.int .u8 0, .slice p 0 c], .int .i64 0, .int .i64 19]) := by
  have hl := textP_len x code hx h
  refine (asm_text (textP x code) (by omega) (textP_ascii x code hx h) W hlib).mono ?_
  rw [asmI, if_neg (by simp; omega), asm_textP x code hx h (by omega), if_neg hf]
  rintro e w1 ⟨hk, v, rfl, hown⟩
  obtain ⟨p, c, rfl⟩ := own_slice hown
  exact ⟨hk, p, c, rfl⟩
def InsIn (w : World) (lv : Value) (li : List (Int × Int × Int × Int)) : Prop :=
  (lv = .slice none 0 0 ∧ li = []) ∨ ∃ g off c : Nat, lv = .slice (some ⟨g, off, none⟩) li.length c ∧ ∀ j, j < li.length → ∃ o x y z : Int, Byt o ∧ Byt x ∧ Byt y ∧ Byt z ∧ g < w.heap.size ∧
    w.cell? ⟨g, off + j * 4, none⟩ = some (.int .u8 o) ∧ w.cell? ⟨g, off + j * 4 + 1, none⟩ = some (.int .u8 x) ∧ w.cell? ⟨g, off + j * 4 + 2, none⟩ = some (.int .u8 y) ∧ w.cell? ⟨g, off + j * 4 + 3, none⟩ = some (.int .u8 z)
def BytesIn (w : World) (cv : Value) (ci : List Int) : Prop :=
  (cv = .slice none 0 0 ∧ ci = []) ∨ ∃ (ad : Addr) (c : Nat), cv = .slice (some ad) ci.length c ∧ ci.length ≤ c ∧ ∀ j u, (u8s ci)[j]? = some u → ad.block < w.heap.size ∧ w.cell? (ad.add j) = some u
set_option maxHeartbeats 4000000 in
theorem back_some (e : Int) (cv : Value) (ci : List Int) (g off cl : Nat) (li : List (Int × Int × Int × Int)) (he : Byt e) (hci : ∀ b ∈ ci, Byt b) (w : World) (hcv : BytesIn w cv ci) (pl : Option Addr) (hl0 : pl = none → li.length = 0)
    (hli : ∀ j, j < li.length → ∃ g off, pl = some ⟨g, off, none⟩ ∧ ∃ o x y z : Int, Byt o ∧ Byt x ∧ Byt y ∧ Byt z ∧ g < w.heap.size ∧
      w.cell? ⟨g, off + j * 4, none⟩ = some (.int .u8 o) ∧ w.cell? ⟨g, off + j * 4 + 1, none⟩ = some (.int .u8 x) ∧ w.cell? ⟨g, off + j * 4 + 2, none⟩ = some (.int .u8 y) ∧ w.cell? ⟨g, off + j * 4 + 3, none⟩ = some (.int .u8 z))
    (hc3 : ci.length ≤ 300) (hl6 : li.length ≤ 60) (hlib : LibAt w) :
    Calls Tryd.prog 7 #[.int .u8 e, cv, .slice pl li.length cl] w fun en w' => en = .returned (.bool true) ∧ LBel w w' := by
  unfold Byt at he
  have HL := Lib.hid hlib
  have HLI := Lib.hid hli
  have HCI := Lib.hid hci
  obtain ⟨L, hL⟩ : ∃ L, L = li.length := ⟨_, rfl⟩
  obtain ⟨pc, cc, rfl⟩ : ∃ pc cc, cv = .slice pc ci.length cc := by
    rcases hcv with ⟨rfl, rfl⟩ | ⟨ad, c, rfl, _⟩
    · exact ⟨none, 0, rfl⟩
    · exact ⟨some ad, c, rfl⟩
  have HCV := Lib.hid hcv
  obtain ⟨n, hn⟩ : ∃ n, n = ci.length := ⟨_, rfl⟩
  have HN := Lib.hid hn
  rw [← hL] at hl6 HLI ⊢
  rw [← hn] at hc3 ⊢
  have HLL := Lib.hid hL
  obtain ⟨x, hx⟩ : ∃ x, x = e % 24 := ⟨_, rfl⟩
  have e1 : Int.tmod e 24 = x := by rw [hx]; exact Int.tmod_eq_emod_of_nonneg he.1
  have hxb : 0 ≤ x ∧ x ≤ 23 := by omega
  have h300 : ¬ (300 : Int) < (n : Int) := by omega
  have h60 : ¬ (60 : Int) < (L : Int) := by omega
  clear hlib hli hci hcv hn hL hx hl0
  obtain ⟨he0, he1⟩ := he
  go_enter Tryd.func7, Tryd.ntmps7
  go_wp2_with (go_at_call 8; refine (awake_any _ HL.out).mono ?_; rintro e w1 ⟨rfl, hb1⟩; have hl1 := hb1.size)
  obtain ⟨B, hB⟩ : ∃ B, B = w1.heap.size := ⟨_, rfl⟩
  have h00 := heap_alloc_new w1 (.cells #[.int .u8 x, .slice none 0 0] 27)
  rw [← hB] at h00 ⊢
  have HL0 : Hid (LBel w (w1.alloc (.cells #[.int .u8 x, .slice none 0 0] 27))) := Lib.hid (lb_alloc hb1 _)
  have HG0 := Lib.hid h00
  have hwB : w.heap.size ≤ B := by omega
  clear h00 hb1 hl1 hB e1
  obtain ⟨i0, hi, hz0, hz1, hz2⟩ := info_parts infoByte
  go_loopw [30] (fun i wr => ∃ (j : Nat) (pre : List Int) (pp : Option Addr) (pcap : Nat), j ≤ L ∧ i = .int .i64 j ∧ pre.length = 4 * j ∧ Hid (∀ b ∈ pre, Byt b) ∧ Hid (LBel w wr) ∧ Hid (wr.heap[B]? = some (.cells #[.int .u8 x, .slice pp (4 * j) pcap] 27)) ∧ Hid (wr.ownsRow (B + 1) 5 1 (.slice pp (4 * j) pcap) (4 * j) (u8s pre))) (fun i _ => L - (intOf i).toNat)
  case atStart => exact ⟨0, [], none, 0, Nat.zero_le _, rfl, rfl, Lib.hid (by simp), HL0, HG0, Lib.hid (World.ownsRow_nil _ _ _ _)⟩
  case round =>
    clear HL0 HG0
    obtain ⟨j, pre, pp, pcap, hj, rfl, hpl, HPB, HLB, HG, HOWN⟩ := hrel
    have hBs : B < wr.heap.size := (Array.getElem?_eq_some_iff.1 HG.out).1
    by_cases hlt : j < L
    · obtain ⟨g, off, rfl, o, a, b, d, ho, ha, hb, hd, hg, g0, g1, g2, g3⟩ := HLI.out j hlt
      have q0 := (HLB.out.cell (p := ⟨g, off + j * 4, none⟩) hg).trans g0
      have q1 := (HLB.out.cell (p := ⟨g, off + j * 4 + 1, none⟩) hg).trans g1
      have q2 := (HLB.out.cell (p := ⟨g, off + j * 4 + 2, none⟩) hg).trans g2
      have q3 := (HLB.out.cell (p := ⟨g, off + j * 4 + 3, none⟩) hg).trans g3
      clear g0 g1 g2 g3
      unfold Byt at ho ha hb hd
      obtain ⟨p', hp⟩ : ∃ p', p' = 1 + o % 39 := ⟨_, rfl⟩
      obtain ⟨u, hu⟩ : ∃ u, u = a % 16 := ⟨_, rfl⟩
      obtain ⟨v, hv⟩ : ∃ v, v = b % 16 := ⟨_, rfl⟩
      have e1 : Int.tmod o 39 = o % 39 := Int.tmod_eq_emod_of_nonneg ho.1
      have e2 : Int.tmod a 16 = u := by rw [hu]; exact Int.tmod_eq_emod_of_nonneg ha.1
      have e3 : Int.tmod b 16 = v := by rw [hv]; exact Int.tmod_eq_emod_of_nonneg hb.1
      have e4 : 1 + o % 39 = p' := hp.symm
      have hp' : 0 ≤ p' ∧ p' ≤ 255 := by omega
      have hu' : 0 ≤ u ∧ u ≤ 255 := by omega
      have hv' : 0 ≤ v ∧ v ≤ 255 := by omega
      clear hp hu hv
      go_upto_region 11 with (go_at_call 17; refine (pack_any p' u v d _).mono ?_; rintro e w3 ⟨rfl, hb3⟩)
      have HLW := Lib.hid (lb_alloc (lb_step (lb_alloc HLB.out (.cells #[.int .u8 p', .int .u8 u, .int .u8 v, .int .u8 d] 38)) hb3) (.cells #[.int .u8 p', .int .u8 u, .int .u8 v, .int .u8 d] 40))
      have HGW := Lib.hid (heap_stay_al (heap_stay (heap_stay_al HG.out (.cells #[.int .u8 p', .int .u8 u, .int .u8 v, .int .u8 d] 38)) hb3) (.cells #[.int .u8 p', .int .u8 u, .int .u8 v, .int .u8 d] 40))
      have HOW := Lib.hid (World.ownsRow.alloc (ownsRow_below (World.ownsRow.alloc HOWN.out (.cells #[.int .u8 p', .int .u8 u, .int .u8 v, .int .u8 d] 38)) hb3) (.cells #[.int .u8 p', .int .u8 u, .int .u8 v, .int .u8 d] 40))
      have HNW := Lib.hid (heap_alloc_new w3 (.cells #[.int .u8 p', .int .u8 u, .int .u8 v, .int .u8 d] 40))
      clear HLB HG HOWN hb3 hBs q0 q1 q2 q3 e1 e2 e3 e4
      generalize w3.alloc (.cells #[.int .u8 p', .int .u8 u, .int .u8 v, .int .u8 d] 40) = W at *
      generalize w3.heap.size = b10 at *
      have hBW : B + 1 ≤ W.heap.size := (Array.getElem?_eq_some_iff.1 HGW.out).1
      obtain ⟨hr0, hr1, hrf⟩ := row_two HGW.out
      have hnews : ∀ (k : Nat) (y : Value), [Value.int .u8 p', .int .u8 u, .int .u8 v, .int .u8 d][k]? = some y → W.drew.cell? ((⟨b10, 0, none⟩ : Addr).add k) = some y := fun k y hk => by
        rw [show (⟨b10, 0, none⟩ : Addr).add k = ⟨b10, k, none⟩ by unfold Addr.add; split <;> simp_all]
        rw [show W.drew.cell? ⟨b10, k, none⟩ = W.cell? ⟨b10, k, none⟩ from rfl, cell_of_row _ _ _ _ _ _ HNW.out]
        simpa using hk
      have HNEWS := Lib.hid hnews
      have h1c : ∀ y ∈ [Value.int .u8 p', .int .u8 u, .int .u8 v, .int .u8 d], y.oneCell' = true := by intro y hy; simp at hy; rcases hy with rfl | rfl | rfl | rfl <;> rfl
      have H1C := Lib.hid h1c
      have HI := Lib.hid hi
      have hne0 : ∀ gg, (Value.slice pp (4 * j) pcap).ownBlock = some gg → B + 1 ≤ gg := fun gg hgg => (HOW.out.lt gg hgg).1
      have HNE := Lib.hid hne0
      clear hnews h1c hi hne0
      go_region_law ((refine step_append_lies _ (by rfl) _ _ _ (by rfl) (B + 1) 5 i0 (.int .u8 0) 1 1 Tryd.underlying22 HI.out hz0 hz1 hz2 rfl (by decide) _ _ _ (by rfl) HOW.out ⟨b10, 0, none⟩ 4 4 [.int .u8 p', .int .u8 u, .int .u8 v, .int .u8 d] (by rfl) rfl HNEWS.out H1C.out (by decide) (by unfold maxLen; omega) (by omega) hBW _ rfl ?_; intro g' cap w4 hown4 hgrow hat hlt4; have HG4 := Lib.hid ((hgrow.block B (Nat.lt_of_lt_of_le (Nat.lt_succ_self B) hBW) (fun h => absurd (HNE.out B h.symm) (by omega))).trans HGW.out); obtain ⟨hs0, hs1, hsf⟩ := row_two HG4.out))
      all_goals have HB4 := Lib.hid (show Below w.heap.size w w4 from Below.grown (Below.drew HLW.out) hgrow (by show w.heap.size ≤ W.heap.size; omega) (fun gg hgg => by have := HNE.out gg hgg; omega))
      all_goals have HO4 := Lib.hid hown4
      all_goals clear hown4 hgrow hz0 hz1 hz2
      all_goals go_wp2
      all_goals refine ⟨⟨j + 1, pre ++ [p', u, v, d], some ⟨g', 0, none⟩, cap, by omega, by go_num, by simp; omega, Lib.hid ?_, Lib.hid (HB4.out.setCell (p := ⟨B, 1, none⟩) hwB _), Lib.hid ?_, Lib.hid ?_⟩, by simp [intOf]; omega⟩
      · intro y hy
        rcases List.mem_append.1 hy with hy | hy
        · exact HPB.out y hy
        · simp at hy
          rcases hy with rfl | rfl | rfl | rfl <;> assumption
      · have := heap_setCell_same _ _ 1 _ _ (.slice (some ⟨g', 0, none⟩) (4 * j + 4) cap) HG4.out
        rw [show 4 * (j + 1) = 4 * j + 4 by omega]
        simpa using this
      · rw [show u8s (pre ++ [p', u, v, d]) = u8s pre ++ [Value.int .u8 p', .int .u8 u, .int .u8 v, .int .u8 d] by simp [u8s]]
        exact own_kept' HO4.out fun k hk => heap_setCell_other _ _ _ _ (by simp; omega)
    · obtain rfl : j = L := by omega
      clear hlt
      obtain ⟨hr0, hr1, hrf⟩ := row_two HG.out
      go_upto_region 13 with fail
      go_cut [58] (fun s58 wc => ∃ (code : List Int) (N : Nat) (sp : Option Addr) (sc : Nat), N = code.length ∧ code.length ≤ 600 ∧ Hid (∀ b ∈ code, Byt b) ∧ Hid (LBel w wc) ∧ Hid (wc.heap[B]? = some (.cells #[.int .u8 x, .slice sp N sc] 27)) ∧ Hid (wc.ownsRow (B + 1) 5 1 (.slice sp N sc) code.length (u8s code)))
      case first =>
        have hPB := HPB.out
        rcases HCV.out with ⟨hcv, hci0⟩ | ⟨ad, cc', hcv, hcc, hcells⟩
        · injection hcv with hcv1 hcv2 hcv3
          have hn0 : n = 0 := by rw [HN.out]; exact hcv2
          subst hcv1 hcv3 hn0
          have HI := Lib.hid hi
          clear hi hcv2 hPB
          go_wp2_with (at_builtin; refine wpList_append_own_none rfl _ _ 22 rfl (B + 1) 5 i0 1 Tryd.underlying22 HI.out _ _ _ rfl HOWN.out rfl ?_)
          go_meet
          case rel =>
            refine ⟨pre, 4 * j, pp, pcap, hpl.symm, by omega, HPB, Lib.hid (HLB.out.setCell (p := ⟨B, 1, none⟩) hwB _), Lib.hid ?_, Lib.hid ?_⟩
            · have := heap_setCell_same _ _ 1 _ _ (.slice pp (4 * j) pcap) HG.out
              simpa using this
            · rw [hpl]; exact own_kept' HOWN.out fun k hk => heap_setCell_other _ _ _ _ (by simp; omega)
        · injection hcv with hcv1 hcv2 hcv3
          subst hcv1 hcv3
          have HCC := Lib.hid (fun k y hk => (HLB.out.cell (p := ad.add k) (by rw [show (ad.add k).block = ad.block by unfold Addr.add; split <;> rfl]; exact (hcells k y hk).1)).trans (hcells k y hk).2)
          have HI := Lib.hid hi
          clear hi hcells
          go_wp2_with (at_builtin; refine wpList_append_own _ rfl _ _ 22 rfl (B + 1) 5 i0 (.int .u8 0) 1 1 Tryd.underlying22 HI.out hz0 hz1 hz2 rfl (by decide) _ _ _ rfl HOWN.out ad n cc (u8s ci) rfl ?c0 ?c1 ?c2 ?c3 ?c4 ?c5 ?_)
          case c0 => rw [HN.out]; simp [u8s]
          case c1 => exact HCC.out
          case c2 => intro y hy; simp [u8s] at hy; obtain ⟨a, _, rfl⟩ := hy; rfl
          case c3 => unfold maxLen; omega
          case c4 => omega
          case c5 => omega
          intro v' w4 hown4 hgrow _
          obtain ⟨sp, sc, rfl⟩ := own_slice hown4
          have hrow : ∀ gg, (Value.slice pp (4 * j) pcap).ownBlock = some gg → B + 1 ≤ gg := fun gg hgg => (HOWN.out.lt gg hgg).1
          have HG4 := Lib.hid ((hgrow.block B (Array.getElem?_eq_some_iff.1 HG.out).1 (fun h => by have := hrow _ h.symm; omega)).trans HG.out)
          obtain ⟨hs0, hs1, hsf⟩ := row_two HG4.out
          have HB4 := Lib.hid (show Below w.heap.size w w4 from Below.grown HLB.out hgrow (by omega) (fun gg hgg => by have := hrow gg hgg; omega))
          have HO4 := Lib.hid hown4
          clear hown4 hgrow hrow hr0 hr1 hrf hPB
          go_wp2
          go_meet
          case rel =>
            have hcl : (pre ++ ci).length = 4 * j + n := by rw [List.length_append, hpl, HN.out]
            refine ⟨pre ++ ci, 4 * j + n, sp, sc, hcl.symm, by omega, Lib.hid ?_, Lib.hid (HB4.out.setCell (p := ⟨B, 1, none⟩) hwB _), Lib.hid ?_, Lib.hid ?_⟩
            · intro y hy
              rcases List.mem_append.1 hy with hy | hy
              · exact HPB.out y hy
              · exact HCI.out y hy
            · have := heap_setCell_same _ _ 1 _ _ (.slice sp (4 * j + n) sc) HG4.out
              simpa using this
            · rw [hcl, show u8s (pre ++ ci) = u8s pre ++ u8s ci by simp [u8s]]
              exact own_kept' HO4.out fun k hk => heap_setCell_other _ _ _ _ (by simp; omega)
      case rest =>
        clear HLB HG HOWN HPB hr0 hr1 hrf
        obtain ⟨code, N, sp, sc, hNc, hcn, HCB, HLB, HG, HOWN⟩ := hcut
        obtain ⟨hr0, hr1, hrf⟩ := row_two HG.out
        have hBs : B < wc.heap.size := (Array.getElem?_eq_some_iff.1 HG.out).1
        have HOWN' : Hid (wc.ownsRow (B + 1) 5 1 (.slice sp N sc) code.length (u8s code)) := HOWN
        have hNi : N ≤ 2048 := by omega
        have HNC := Lib.hid hNc
        have hxb' : 0 ≤ x ∧ x ≤ 255 := by omega
        have hx32 : 0 ≤ x ∧ x ≤ 32 := by omega
        obtain ⟨hx0, hx1⟩ := hxb
        have wx : IntKind.i64.wrap x = x := by rw [IntKind.wrap_i64]; omega
        have HTX : Hid (Calls Tryd.prog 18 #[.agg #[.int .u8 x, .slice sp N sc]] wc fun e w' => e = .returned (.string ⟨(textP x code).toArray⟩) ∧ LBel wc w') := Lib.hid (text_any x code _ hxb' HCB.out (by omega) wc _ HOWN.out)
        have HRT : Hid (∀ W, Below wc.heap.size wc W → Calls Tryd.prog 20 #[.int .i64 x, .slice sp N sc] W fun e w' => e = .returned (.string ⟨(textP x code).toArray⟩) ∧ LBel W w') := Lib.hid fun W hW => rtext_any x code _ hxb' HCB.out (by omega) W _ (ownsRow_below HOWN.out hW)
        have HFT : Hid (∀ W, Calls Tryd.prog 19 #[.int .i64 x, .int .i64 N] W fun e w' => e = .returned (.bool (decide (fileI x N = 0))) ∧ Below W.heap.size W w') := Lib.hid fun W => fits_any x N hNi hxb' W
        by_cases hfit : fileI x N = 0
        · rw [decide_eq_true hfit] at HFT
          have HAS : Hid (∀ W, LBel w W → Calls Tryd.prog 10 #[.string ⟨(textP x code).toArray⟩] W fun e w' => LBel W w' ∧ ∃ p c, e = .returned (.tuple #[.agg #[.int .u8 x, .slice p N c], .int .i64 0, .int .i64 0]) ∧ Hid (w'.ownsRow W.heap.size 5 1 (.slice p N c) code.length (u8s code))) := Lib.hid fun W hW => by
            have := asm_fits x code hx32 HCB.out (by omega) (by rw [← hNc]; exact hfit) W (lib_below HL.out (w' := W) hW)
            rw [← hNc] at this ⊢
            exact this
          generalize textP x code = T at *
          clear hNc hfit hxb' hx32
          obtain ⟨S, hS⟩ : ∃ S, S = strOfNums code := ⟨_, rfl⟩
          have HS := Lib.hid hS
          clear hS
          go_wp2_with (first | (go_at_call 18; refine HTX.out.mono ?_; rintro e w5 ⟨rfl, hk5'⟩; have hk5 : Below wc.heap.size wc w5 := hk5'; obtain ⟨hc5, hf5⟩ := bcell hk5; have hl5 := hk5.size) | (go_at_call 10; refine (HAS.out _ (lb_step HLB.out hk5)).mono ?_; rintro e w6 ⟨hk6', p6, c6, rfl, HO6⟩; have hk6 : Below w5.heap.size w5 w6 := hk6'; obtain ⟨hc6, hf6⟩ := bcell hk6; have hl6 := hk6.size; have hl6b : B < w5.heap.size := (by omega); have hl6c : B < w6.heap.size := (by omega)) | (go_at_call 19; (with_reducible refine (HFT.out _).mono ?_); rintro e w7 ⟨rfl, hk7⟩; obtain ⟨hc7, hf7⟩ := bcell hk7; have hcv1 : (convert 22 9 (.slice p6 N c6)).run Tryd.prog w7 = .ok (.string S) w7 := (by rw [HS.out]; exact conv_own (ownsRow_below (World.ownsRow.alloc HO6.out _) hk7)); have hcv2 : (convert 22 9 (.slice sp N sc)).run Tryd.prog w7 = .ok (.string S) w7 := (by rw [HS.out]; exact conv_own (ownsRow_below (World.ownsRow.alloc (ownsRow_below (ownsRow_below HOWN.out hk5) hk6) _) hk7))) | (go_at_call 20; (with_reducible refine (HRT.out _ (below_th (below_al (below_th hk5 hk6) _) hk7)).mono ?_); rintro e w8 ⟨rfl, hk8⟩))
          go_ret
          exact ⟨rfl, lb_step (lb_step (lb_alloc (lb_step (lb_step HLB.out hk5) hk6) _) hk7) hk8⟩
        · rw [decide_eq_false hfit] at HFT
          have HAS : Hid (∀ W, LBel w W → Calls Tryd.prog 10 #[.string ⟨(textP x code).toArray⟩] W fun e w' => LBel W w' ∧ ∃ p c, e = .returned (.tuple #[.agg #[.int .u8 0, .slice p 0 c], .int .i64 0, .int .i64 19])) := Lib.hid fun W hW =>
            asm_big x code hx32 HCB.out (by omega) (by rw [← hNc]; exact hfit) W (lib_below HL.out (w' := W) hW)
          generalize textP x code = T at *
          clear hNc hfit hxb' hx32
          go_wp2_with (first | (go_at_call 18; refine HTX.out.mono ?_; rintro e w5 ⟨rfl, hk5'⟩; have hk5 : Below wc.heap.size wc w5 := hk5'; obtain ⟨hc5, hf5⟩ := bcell hk5; have hl5 := hk5.size) | (go_at_call 10; refine (HAS.out _ (lb_step HLB.out hk5)).mono ?_; rintro e w6 ⟨hk6', p6, c6, rfl⟩; have hk6 : Below w5.heap.size w5 w6 := hk6'; obtain ⟨hc6, hf6⟩ := bcell hk6; have hl6 := hk6.size; have hl6b : B < w5.heap.size := (by omega); have hl6c : B < w6.heap.size := (by omega)) | (go_at_call 19; (with_reducible refine (HFT.out _).mono ?_); rintro e w7 ⟨rfl, hk7⟩; obtain ⟨hc7, hf7⟩ := bcell hk7) | (go_at_call 20; (with_reducible refine (HRT.out _ (below_th (below_al (below_th hk5 hk6) _) hk7)).mono ?_); rintro e w8 ⟨rfl, hk8⟩))
          go_ret
          exact ⟨rfl, lb_step (lb_step (lb_alloc (lb_step (lb_step HLB.out hk5) hk6) _) hk7) hk8⟩
theorem back_long1 (e : Int) (pc pl : Option Addr) (n cc L cl : Nat) (h : 300 < n) (w : World) (hlib : LibAt w) : Calls Tryd.prog 7 #[.int .u8 e, .slice pc n cc, .slice pl L cl] w fun en w' => en = .returned (.bool true) ∧ LBel w w' := by
  have HL := Lib.hid hlib
  have h300 : (300 : Int) < (n : Int) := by omega
  clear hlib
  go_enter Tryd.func7, Tryd.ntmps7
  go_wp2_with (go_at_call 8; refine (awake_any _ HL.out).mono ?_; rintro e w1 ⟨rfl, hb1⟩)
  go_ret
  exact ⟨rfl, hb1⟩
theorem back_long2 (e : Int) (pc pl : Option Addr) (n cc L cl : Nat) (h : n ≤ 300) (h2 : 60 < L) (w : World) (hlib : LibAt w) : Calls Tryd.prog 7 #[.int .u8 e, .slice pc n cc, .slice pl L cl] w fun en w' => en = .returned (.bool true) ∧ LBel w w' := by
  have HL := Lib.hid hlib
  have h300 : ¬ (300 : Int) < (n : Int) := by omega
  have h60 : (60 : Int) < (L : Int) := by omega
  clear hlib
  go_enter Tryd.func7, Tryd.ntmps7
  go_wp2_with (go_at_call 8; refine (awake_any _ HL.out).mono ?_; rintro e w1 ⟨rfl, hb1⟩)
  go_ret
  exact ⟨rfl, hb1⟩
/-- What the law's list of instructions is. -/
def InsAt (w : World) (pl : Option Addr) (L : Nat) : Prop :=
  ∀ j, j < L → ∃ g off, pl = some ⟨g, off, none⟩ ∧ ∃ o x y z : Int, Byt o ∧ Byt x ∧ Byt y ∧ Byt z ∧ g < w.heap.size ∧
      w.cell? ⟨g, off + j * 4, none⟩ = some (.int .u8 o) ∧ w.cell? ⟨g, off + j * 4 + 1, none⟩ = some (.int .u8 x) ∧ w.cell? ⟨g, off + j * 4 + 2, none⟩ = some (.int .u8 y) ∧ w.cell? ⟨g, off + j * 4 + 3, none⟩ = some (.int .u8 z)
theorem back_any (e : Int) (pc pl : Option Addr) (cc L cl : Nat) (ci : List Int) (he : Byt e) (hci : ∀ b ∈ ci, Byt b) (w : World) (hcv : BytesIn w (.slice pc ci.length cc) ci) (hli : InsAt w pl L) (hlib : LibAt w) :
    Calls Tryd.prog 7 #[.int .u8 e, .slice pc ci.length cc, .slice pl L cl] w fun en w' => en = .returned (.bool true) ∧ LBel w w' := by
  by_cases h1 : 300 < ci.length
  · exact back_long1 e pc pl _ cc L cl h1 w hlib
  · by_cases h2 : 60 < L
    · exact back_long2 e pc pl _ cc L cl (by omega) h2 w hlib
    · have := back_some e (.slice pc ci.length cc) ci 0 0 cl (List.replicate L (0, 0, 0, 0)) he hci w hcv pl (fun h => by
        rcases Nat.eq_zero_or_pos L with h0 | h0
        · simp [h0]
        · obtain ⟨g, off, hp, _⟩ := hli 0 h0
          rw [h] at hp; cases hp) (fun j hj => hli j (by simpa using hj)) (by omega) (by simp; omega) hlib
      simpa using this
end Go.Proofs.YtlaohefgofmfdaaDoor
