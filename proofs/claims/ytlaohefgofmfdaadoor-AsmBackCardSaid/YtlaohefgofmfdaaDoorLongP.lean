/- As many bytes as may be, and one more; a text that is too long: in plain Lean. -/
import Derived.Test.YtlaohefgofmfdaaDoorJumps
namespace Go.Proofs.YtlaohefgofmfdaaDoor
open Go
def sevens : Nat → Bs
  | 0 => []
  | n + 1 => 32 :: 55 :: sevens n
theorem sevens_snoc : ∀ n, sevens (n + 1) = sevens n ++ [32, 55]
  | 0 => rfl
  | n + 1 => by
    show 32 :: 55 :: sevens (n + 1) = 32 :: 55 :: (sevens n ++ [32, 55])
    rw [sevens_snoc n]
theorem sevens_mem : ∀ n, ∀ c ∈ sevens n, c = 32 ∨ c = 55
  | 0 => fun c hc => by simp [sevens] at hc
  | n + 1 => fun c hc => by
    rcases List.mem_cons.1 hc with rfl | hc
    · exact .inl rfl
    · rcases List.mem_cons.1 hc with rfl | hc
      · exact .inr rfl
      · exact sevens_mem n c hc
theorem sevens_len : ∀ n, (sevens n).length = 2 * n
  | 0 => rfl
  | n + 1 => by simp [sevens, sevens_len n]; omega
/-- A line of so many sevens. -/
def row7 (n : Nat) : Bs := sByte ++ sevens n
def tail7 : Nat → Nat → Bs
  | 0, r => row7 r
  | q + 1, r => row7 64 ++ 10 :: tail7 q r
theorem row7_mem (n : Nat) : ∀ c ∈ row7 n, c ≠ 10 ∧ c ≠ 35 ∧ c.toNat < 128 := by
  intro c hc
  rcases List.mem_append.1 hc with h | h
  · simp [sByte] at h; rcases h with rfl | rfl | rfl | rfl <;> decide
  · rcases sevens_mem n c h with rfl | rfl <;> decide
theorem tail7_mem : ∀ (q r : Nat), ∀ c ∈ tail7 q r, c.toNat < 128
  | 0, r => fun c hc => (row7_mem r c hc).2.2
  | q + 1, r => fun c hc => by
    rcases List.mem_append.1 hc with h | h
    · exact (row7_mem 64 c h).2.2
    · rcases List.mem_cons.1 h with rfl | h
      · decide
      · exact tail7_mem q r c h
theorem tail7_len : ∀ (q r : Nat), (tail7 q r).length = 133 * q + (4 + 2 * r)
  | 0, r => by simp [tail7, row7, sByte, sevens_len]; omega
  | q + 1, r => by simp [tail7, row7, sByte, sevens_len, tail7_len q r]; omega
theorem tail7_more : ∀ (q r : Nat), tail7 q r ++ [32, 55] = tail7 q (r + 1)
  | 0, r => by simp [tail7, row7, sevens_snoc]
  | q + 1, r => by simp [tail7, ← tail7_more q r]
theorem tail7_next : ∀ (q : Nat), tail7 q 64 ++ ([10, 98, 121, 116, 101] ++ [32, 55]) = tail7 (q + 1) 1
  | 0 => by simp [tail7, row7, sByte, sevens]
  | q + 1 => by
    show (row7 64 ++ 10 :: tail7 q 64) ++ _ = row7 64 ++ 10 :: tail7 (q + 1) 1
    rw [List.append_assoc, List.cons_append, tail7_next q]
/-- The text behind so many rounds. -/
def long7 (k : Nat) : Bs := if k = 0 then [] else 10 :: tail7 ((k - 1) / 64) ((k - 1) % 64 + 1)
theorem long7_a (k : Nat) (h : k % 64 = 0) : long7 (k + 1) = (long7 k ++ [10, 98, 121, 116, 101]) ++ [32, 55] := by
  unfold long7
  rw [if_neg (by omega)]
  by_cases h0 : k = 0
  · subst h0; rfl
  · rw [if_neg h0]
    have e1 : (k + 1 - 1) / 64 = (k - 1) / 64 + 1 := by omega
    have e2 : (k + 1 - 1) % 64 + 1 = 1 := by omega
    have e3 : (k - 1) % 64 + 1 = 64 := by omega
    rw [e1, e2, e3, ← tail7_next]; simp
theorem long7_b (k : Nat) (h : k % 64 ≠ 0) : long7 (k + 1) = long7 k ++ [32, 55] := by
  unfold long7
  rw [if_neg (by omega), if_neg (by omega)]
  have e1 : (k + 1 - 1) / 64 = (k - 1) / 64 := by omega
  have e2 : (k + 1 - 1) % 64 + 1 = (k - 1) % 64 + 1 + 1 := by omega
  rw [e1, e2, ← tail7_more]; simp
theorem long7_bd (k : Nat) : (long7 k).length ≤ 5 * k + 200 ∧ ∀ c ∈ long7 k, c.toNat < 128 := by
  unfold long7
  split
  · simp
  · refine ⟨by simp [tail7_len]; omega, fun c hc => ?_⟩
    rcases List.mem_cons.1 hc with rfl | hc
    · decide
    · exact tail7_mem _ _ c hc
theorem split_tail7 : ∀ (q r : Nat), splitNL (tail7 q r) = List.replicate q (row7 64) ++ [row7 r]
  | 0, r => by rw [tail7, splitNL_last _ (fun c hc => (row7_mem r c hc).1)]; rfl
  | q + 1, r => by rw [tail7, splitNL_line _ _ (fun c hc => (row7_mem 64 c hc).1), split_tail7 q r]; rfl
theorem split_long7 (k : Nat) (h : 0 < k) : splitNL (long7 k) = [] :: (List.replicate ((k - 1) / 64) (row7 64) ++ [row7 ((k - 1) % 64 + 1)]) := by
  unfold long7
  rw [if_neg (by omega)]
  have := splitNL_line [] (tail7 ((k - 1) / 64) ((k - 1) % 64 + 1)) (by simp)
  rw [List.nil_append] at this
  rw [this, split_tail7]
theorem fields_sevens : ∀ (n : Nat) (cur : Bs), cur ≠ [] → Lib.fieldsGo cur (sevens n) = cur :: List.replicate n [55]
  | 0, cur, h => by
    cases cur with
    | nil => exact absurd rfl h
    | cons a r => rfl
  | n + 1, cur, h => by
    rw [sevens, Lib.fieldsGo_end cur 32 _ (by decide) h, Lib.fieldsGo_more [] 55 _ (by decide), List.nil_append, fields_sevens n [55] (by simp), List.replicate_succ]
theorem cut_none : ∀ (l : Bs), (∀ c ∈ l, c ≠ 35) → Lib.index l [35] = -1
  | [], _ => rfl
  | c :: l, h => by
    have h1 : c ≠ 35 := h c List.mem_cons_self
    have e : List.isPrefixOf [35] (c :: l) = false := by
      simp only [List.isPrefixOf, Bool.and_true]
      rw [Bool.eq_false_iff]; simp; exact fun h2 => h1 h2.symm
    rw [Lib.index, if_neg (by rw [e]; simp), cut_none l fun x hx => h x (List.mem_cons_of_mem _ hx)]; rfl
theorem cut_clean (l : Bs) (h : ∀ c ∈ l, c ≠ 35) : (Lib.cut l [35]).1 = l := by
  unfold Lib.cut
  rw [cut_none l h]; rfl
theorem words_row7 (n : Nat) : lineWords (row7 n) = sByte :: List.replicate n [55] := by
  unfold lineWords
  rw [cut_clean _ (fun c hc => (row7_mem n c hc).2.1)]
  unfold Lib.fields row7
  show Lib.fieldsGo [] (98 :: 121 :: 116 :: 101 :: sevens n) = _
  rw [Lib.fieldsGo_more _ 98 _ (by decide), Lib.fieldsGo_more _ 121 _ (by decide), Lib.fieldsGo_more _ 116 _ (by decide), Lib.fieldsGo_more _ 101 _ (by decide)]
  exact fields_sevens n _ (by simp)
theorem size_row7 (n : Nat) : sizeI sByte (List.replicate n [55]) = ((n : Int), 0, none) := by
  unfold sizeI
  rw [if_neg (by decide), if_pos rfl]; simp
theorem labels_row7 (size : Int) (pl : Places) (n : Nat) : labelsGo size pl (sByte :: List.replicate n [55]) = (0, pl, sByte :: List.replicate n [55]) := by
  rw [labelsGo, if_neg (by decide)]
theorem read_row7 (i : Int) (st : PS) (n : Nat) (rest : List Bs) :
    readGo i st (row7 n :: rest) = if 2048 < st.size + n then (11, i + 1, st) else readGo (i + 1) ⟨st.pl, st.lines ++ [(i + 1, sByte :: List.replicate n [55])], st.extra, st.size + n⟩ rest := by
  have hb : bodyGo i st st.pl (sByte :: List.replicate n [55]) = if 2048 < st.size + n then (11, st) else (0, ⟨st.pl, st.lines ++ [(i + 1, sByte :: List.replicate n [55])], st.extra, st.size + n⟩) := by
    rw [bodyGo, size_row7]; rfl
  rw [readGo, words_row7, labels_row7]
  simp only [↓reduceIte, hb]
  split
  · rfl
  · rfl
theorem data_sevens : ∀ (n : Nat) (acc : List Int), dataGo [] 1 (-128) 255 acc (List.replicate n [55]) = (acc ++ List.replicate n 7, 0)
  | 0, acc => by simp [dataGo]
  | n + 1, acc => by
    have hv : valueI [] [55] (-128) 255 = (7, 0) := by decide
    have hb : bytesI 7 1 = [7] := by decide
    rw [List.replicate_succ, dataGo, hv]
    simp only [↓reduceIte, hb]
    rw [data_sevens n, List.replicate_succ]; simp
theorem line_row7 (n : Nat) (here : Int) : lineI [] sByte (List.replicate n [55]) here = (List.replicate n 7, 0) := by
  unfold lineI
  rw [if_neg (by decide), if_pos rfl, data_sevens]; simp
/-- What the first pass has behind so many lines of sixty-four. -/
theorem read_rows7 : ∀ (q : Nat) (i : Int) (st : PS) (rest : List Bs), st.size + 64 * q ≤ 2048 → ∃ ls, Lns ls (List.replicate q (sByte :: List.replicate 64 [55])) ∧
    readGo i st (List.replicate q (row7 64) ++ rest) = readGo (i + q) ⟨st.pl, st.lines ++ ls, st.extra, st.size + 64 * q⟩ rest
  | 0, i, st, rest, _ => ⟨[], rfl, by simp⟩
  | q + 1, i, st, rest, h => by
    have e : List.replicate (q + 1) (row7 64) ++ rest = row7 64 :: (List.replicate q (row7 64) ++ rest) := by rw [List.replicate_succ]; rfl
    rw [e, read_row7, if_neg (by omega)]
    obtain ⟨ls, h1, h2⟩ := read_rows7 q (i + 1) ⟨st.pl, st.lines ++ [(i + 1, sByte :: List.replicate 64 [55])], st.extra, st.size + (64 : Nat)⟩ rest (by simp only; omega)
    refine ⟨(i + 1, sByte :: List.replicate 64 [55]) :: ls, by unfold Lns at h1 ⊢; rw [List.map_cons, h1]; rfl, h2.trans ?_⟩
    simp only [List.append_assoc, List.cons_append, List.nil_append]
    congr 1
    · omega
    · congr 1; omega
theorem code_rows7 : ∀ (q : Nat) (ls : List (Int × List Bs)) (code : List Int) (rest : List (Int × List Bs)), Lns ls (List.replicate q (sByte :: List.replicate 64 [55])) → codeGo [] code (ls ++ rest) = codeGo [] (code ++ List.replicate (64 * q) 7) rest
  | 0, ls, code, rest, h => by
    have : ls = [] := by simpa [Lns] using h
    subst this; simp
  | q + 1, [], code, rest, h => by simp [Lns, List.replicate_succ] at h
  | q + 1, l :: ls, code, rest, h => by
    simp only [Lns, List.map_cons, List.replicate_succ, List.cons.injEq] at h
    have hl : lineI [] (l.2.headD []) l.2.tail code.length = (List.replicate 64 7, 0) := by rw [h.1]; exact line_row7 64 _
    rw [List.cons_append, code_step [] l.1 l.2 code _ _ hl, code_rows7 q ls _ rest (by simpa [Lns, List.replicate_succ] using h.2), List.append_assoc, List.replicate_append_replicate]
    congr 2
    congr 1; omega
theorem long7_few (k : Nat) (h0 : 0 < k) (h : k ≤ 2048) : asmRest (readGo 0 ⟨[], [], 0, 0⟩ (splitNL (long7 k))) = ⟨0, 0, 0, List.replicate k 7⟩ := by
  rw [split_long7 k h0, read_none _ _ [] _ _ (by rw [words_none]; rfl)]
  obtain ⟨ls, h1, h2⟩ := read_rows7 ((k - 1) / 64) (0 + 1) ⟨[], [], 0, 0⟩ [row7 ((k - 1) % 64 + 1)] (by simp only; omega)
  refine Eq.trans (congrArg asmRest h2) ?_
  rw [read_row7, if_neg (by simp only; omega), readGo]
  refine asmRest_ok _ _ _ _ ?_ (by simpa using h0) (by simpa using h)
  show codeGo [] [] (([] ++ ls) ++ [(_, sByte :: List.replicate ((k - 1) % 64 + 1) [55])]) = _
  rw [List.nil_append, code_rows7 _ _ _ _ h1, code_step _ _ _ _ _ _ (line_row7 _ _), codeGo, List.nil_append, List.replicate_append_replicate]
  congr 2
  congr 1; omega
theorem long7_many (k : Nat) (h : 2048 < k) (h2 : k ≤ 2100) : asmRest (readGo 0 ⟨[], [], 0, 0⟩ (splitNL (long7 k))) = ⟨11, 1 + ((k : Int) + 63) / 64, 0, []⟩ := by
  rw [split_long7 k (by omega), read_none _ _ [] _ _ (by rw [words_none]; rfl)]
  have e : (k - 1) / 64 = 32 := by omega
  rw [e]
  obtain ⟨ls, h1, h2⟩ := read_rows7 32 (0 + 1) ⟨[], [], 0, 0⟩ [row7 ((k - 1) % 64 + 1)] (by decide)
  refine Eq.trans (congrArg asmRest h2) ?_
  rw [read_row7, if_pos (by simp only; omega)]
  have e : (0 : Int) + 1 + ((32 : Nat) : Int) + 1 = 1 + ((k : Int) + 63) / 64 := by omega
  rw [e, asmRest, if_neg (show ¬ ((11 : Int) = 0) by decide)]
theorem split_nls : ∀ n, splitNL (List.replicate n 10) = List.replicate (n + 1) []
  | 0 => rfl
  | n + 1 => by rw [List.replicate_succ, splitNL, if_pos rfl, split_nls n]; rfl
theorem read_nones : ∀ (n : Nat) (i : Int) (st : PS), (readGo i st (List.replicate n [])).1 = 0 ∧ (readGo i st (List.replicate n [])).2.2 = st
  | 0, i, st => ⟨rfl, rfl⟩
  | n + 1, i, st => by
    have h := read_none i st [] (List.replicate n []) st.pl (by rw [words_none]; rfl)
    rw [List.replicate_succ, h]
    exact read_nones n (i + 1) st
theorem long_nls (n : Nat) : asmI (splitNL (List.replicate n 10)) (decide (65536 < n)) = ⟨if 65536 < n then 8 else 19, 0, 0, []⟩ := by
  by_cases h : 65536 < n
  · rw [asmI, if_pos (by simpa using h), if_pos h]
  · rw [asmI, if_neg (by simpa using h), if_neg h, split_nls]
    obtain ⟨h1, h2⟩ := read_nones (n + 1) 0 ⟨[], [], 0, 0⟩
    generalize readGo 0 ⟨[], [], 0, 0⟩ (List.replicate (n + 1) []) = R at *
    obtain ⟨a, b, c⟩ := R
    simp only at h1 h2
    subst h1 h2
    rfl
end Go.Proofs.YtlaohefgofmfdaaDoor
