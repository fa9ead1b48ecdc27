/- Jumps over many instructions, in plain Lean. -/
import Derived.Test.YtlaohefgofmfdaaDoorNl
namespace Go.Proofs.YtlaohefgofmfdaaDoor
open Go
def movRow : Bs := [109, 111, 118, 32, 114, 49, 32, 114, 50]
def jmpRow : Bs := [106, 109, 112, 32, 104, 101, 114, 101]
def hereRet : Bs := [104, 101, 114, 101, 58, 32, 114, 101, 116]
def hereRow : Bs := [104, 101, 114, 101, 58, 32]
def sHere : Bs := [104, 101, 114, 101]
def movW : List Bs := [[109, 111, 118], [114, 49], [114, 50]]
def jmpW : List Bs := [[106, 109, 112], [104, 101, 114, 101]]
def retW : List Bs := [[114, 101, 116]]
/-- So many of them, a newline behind each. -/
def movs : Nat → Bs
  | 0 => []
  | n + 1 => movRow ++ 10 :: movs n
def movC : Nat → List Int
  | 0 => []
  | n + 1 => [1, 1, 2, 0] ++ movC n
theorem movC_len : ∀ n, (movC n).length = 4 * n
  | 0 => rfl
  | n + 1 => by simp only [movC, List.length_append, movC_len n, List.length_cons, List.length_nil]; omega
theorem movs_snoc : ∀ n, movs (n + 1) = movs n ++ (movRow ++ [10])
  | 0 => rfl
  | n + 1 => by
    show movRow ++ 10 :: movs (n + 1) = (movRow ++ 10 :: movs n) ++ (movRow ++ [10])
    rw [movs_snoc n]; simp
theorem movs_len : ∀ n, (movs n).length = 10 * n
  | 0 => rfl
  | n + 1 => by simp [movs, movs_len n, movRow]; omega
theorem split_movs : ∀ (n : Nat) (b : Bs), splitNL (movs n ++ b) = List.replicate n movRow ++ splitNL b
  | 0, b => rfl
  | n + 1, b => by
    rw [movs, List.append_assoc, List.cons_append, splitNL_line _ _ (by decide), split_movs n b]; rfl
theorem words_mov : lineWords movRow = movW := by decide
theorem words_jmp : lineWords jmpRow = jmpW := by decide
theorem words_hret : lineWords hereRet = [[104, 101, 114, 101, 58], [114, 101, 116]] := by decide
theorem words_here : lineWords hereRow = [[104, 101, 114, 101, 58]] := by decide
theorem words_hmov : lineWords (hereRow ++ movRow) = [104, 101, 114, 101, 58] :: movW := by decide
theorem words_none : lineWords [] = [] := by decide
theorem size_mov : sizeI [109, 111, 118] [[114, 49], [114, 50]] = (4, 0, none) := by decide
theorem size_jmp : sizeI [106, 109, 112] [[104, 101, 114, 101]] = (4, 0, none) := by decide
theorem size_ret : sizeI [114, 101, 116] [] = (4, 0, none) := by decide
theorem labels_mov (size : Int) (pl : Places) : labelsGo size pl movW = (0, pl, movW) := by unfold movW labelsGo; rw [if_neg (by decide)]
theorem labels_jmp (size : Int) (pl : Places) : labelsGo size pl jmpW = (0, pl, jmpW) := by unfold jmpW labelsGo; rw [if_neg (by decide)]
theorem labels_ret (size : Int) (pl : Places) : labelsGo size pl retW = (0, pl, retW) := by unfold retW labelsGo; rw [if_neg (by decide)]
theorem labels_here (size : Int) (pl : Places) (h : lookupP sHere pl = none) (ws : List Bs) : labelsGo size pl ([104, 101, 114, 101, 58] :: ws) = labelsGo size (pl ++ [(sHere, size)]) ws := by
  have e : Lib.trimSuffix [104, 101, 114, 101, 58] [58] = sHere := by decide
  rw [labelsGo, if_pos (by decide), if_neg (by decide), e, h, if_neg (by simp)]
/-- One line of four bytes. -/
theorem read_line (i : Int) (st : PS) (row : Bs) (rest : List Bs) (pl : Places) (h : Bs) (t : List Bs) (hl : labelsGo st.size st.pl (lineWords row) = (0, pl, h :: t)) (hs : sizeI h t = (4, 0, none)) (hz : st.size + 4 ≤ 2048) :
    readGo i st (row :: rest) = readGo (i + 1) ⟨pl, st.lines ++ [(i + 1, h :: t)], st.extra, st.size + 4⟩ rest := by
  have hb : bodyGo i st pl (h :: t) = (0, ⟨pl, st.lines ++ [(i + 1, h :: t)], st.extra, st.size + 4⟩) := by
    rw [bodyGo, hs]; simp only [↓reduceIte]; rw [if_neg (by omega)]; rfl
  rw [readGo, hl]
  simp only [↓reduceIte, hb]
theorem read_none (i : Int) (st : PS) (row : Bs) (rest : List Bs) (pl : Places) (hl : labelsGo st.size st.pl (lineWords row) = (0, pl, [])) :
    readGo i st (row :: rest) = readGo (i + 1) ⟨pl, st.lines, st.extra, st.size⟩ rest := by
  rw [readGo, hl]
  simp only [↓reduceIte, bodyGo]
/-- Lines, and what their words are. -/
def Lns (ls : List (Int × List Bs)) (ws : List (List Bs)) : Prop := ls.map (·.2) = ws
theorem read_movs : ∀ (n : Nat) (i : Int) (st : PS) (rest : List Bs), st.size + 4 * n ≤ 2048 → ∃ ls, Lns ls (List.replicate n movW) ∧
    readGo i st (List.replicate n movRow ++ rest) = readGo (i + n) ⟨st.pl, st.lines ++ ls, st.extra, st.size + 4 * n⟩ rest
  | 0, i, st, rest, _ => ⟨[], rfl, by simp⟩
  | n + 1, i, st, rest, h => by
    have e : List.replicate (n + 1) movRow ++ rest = movRow :: (List.replicate n movRow ++ rest) := by rw [List.replicate_succ]; rfl
    rw [e, read_line i st movRow _ st.pl _ _ (by rw [words_mov]; exact labels_mov _ _) size_mov (by omega)]
    obtain ⟨ls, h1, h2⟩ := read_movs n (i + 1) ⟨st.pl, st.lines ++ [(i + 1, movW)], st.extra, st.size + 4⟩ rest (by simp only; omega)
    refine ⟨(i + 1, movW) :: ls, by unfold Lns at h1 ⊢; rw [List.map_cons, h1]; rfl, h2.trans ?_⟩
    simp only [List.append_assoc, List.cons_append, List.nil_append]
    congr 1
    · omega
    · congr 1; omega
theorem code_step (pl : Places) (i : Int) (ws : List Bs) (code : List Int) (rest : List (Int × List Bs)) (bs : List Int) (h : lineI pl (ws.headD []) ws.tail code.length = (bs, 0)) :
    codeGo pl code ((i, ws) :: rest) = codeGo pl (code ++ bs) rest := by
  simp only [codeGo, h, ↓reduceIte]
theorem code_movs (pl : Places) : ∀ (n : Nat) (ls : List (Int × List Bs)) (code : List Int) (rest : List (Int × List Bs)), Lns ls (List.replicate n movW) → codeGo pl code (ls ++ rest) = codeGo pl (code ++ movC n) rest
  | 0, ls, code, rest, h => by
    have : ls = [] := by simpa [Lns] using h
    subst this; simp [movC]
  | n + 1, [], code, rest, h => by simp [Lns, List.replicate_succ] at h
  | n + 1, l :: ls, code, rest, h => by
    simp only [Lns, List.map_cons, List.replicate_succ, List.cons.injEq] at h
    have hl : lineI pl (l.2.headD []) l.2.tail code.length = ([1, 1, 2, 0], 0) := by rw [h.1]; rfl
    rw [List.cons_append, code_step pl l.1 l.2 code _ _ hl, code_movs pl n ls _ rest h.2, movC, List.append_assoc]
theorem code_jmp (pl : Places) (to : Int) (hp : lookupP sHere pl = some to) (i : Int) (code : List Int) (rest : List (Int × List Bs)) (h4 : (to - code.length) % 4 = 0) :
    codeGo pl code ((i, jmpW) :: rest) = codeGo pl (code ++ [30, 0, (to - code.length - 4) / 4 % 65536 % 256, (to - code.length - 4) / 4 % 65536 / 256]) rest := by
  have hw : wideI pl 30 sHere code.length = ((to - code.length - 4) / 4 % 65536, 0) := by
    unfold wideI; rw [hp]; simp only; rw [if_neg (by decide), if_pos h4]
  have hl : lineI pl [106, 109, 112] [[104, 101, 114, 101]] code.length = ([30, 0, (to - code.length - 4) / 4 % 65536 % 256, (to - code.length - 4) / 4 % 65536 / 256], 0) := by
    have hk : (namedI [106, 109, 112] : Int) = 30 := by decide
    unfold lineI
    rw [if_neg (by decide), if_neg (by decide), if_neg (by decide), if_neg (by decide), hk]
    unfold instrI
    rw [if_neg (by decide)]
    show tailI pl 30 6 0 0 0 sHere code.length = _
    unfold tailI
    rw [if_neg (by decide), if_neg (by decide), if_neg (by decide), if_pos (by decide), hw]
  exact code_step pl i jmpW code rest _ hl
theorem code_ret (pl : Places) (i : Int) (code : List Int) (rest : List (Int × List Bs)) : codeGo pl code ((i, retW) :: rest) = codeGo pl (code ++ [34, 0, 0, 0]) rest := by
  have hl : lineI pl [114, 101, 116] [] code.length = ([34, 0, 0, 0], 0) := rfl
  exact code_step pl i retW code rest _ hl
def jumpsText (back : Bool) (n m : Nat) : Bs :=
  if back then hereRow ++ (movs n ++ (10 :: (jmpRow ++ 10 :: movs m))) else movs n ++ (jmpRow ++ 10 :: (movs m ++ (hereRet ++ [10])))
def jumpCode (v : Int) : List Int := [30, 0, v % 65536 % 256, v % 65536 / 256]
theorem asmRest_ok (pl : Places) (ls : List (Int × List Bs)) (size : Int) (code : List Int) (h : codeGo pl [] ls = (0, 0, code)) (h1 : 0 < code.length) (h2 : code.length ≤ 2048) :
    asmRest (0, 0, ⟨pl, ls, 0, size⟩) = ⟨0, 0, 0, code⟩ := by
  have hf : fileI 0 code.length = 0 := by unfold fileI; rw [if_neg (by omega), if_neg (by omega), if_neg (by omega)]
  unfold asmRest
  simp only [↓reduceIte, h, hf]
theorem jumps_back (n m : Nat) (hn : n < 100) (hm : m < 100) :
    asmRest (readGo 0 ⟨[], [], 0, 0⟩ (splitNL (jumpsText true n m))) = ⟨0, 0, 0, movC n ++ (jumpCode (-(n : Int) - 1) ++ movC m)⟩ := by
  have hs : splitNL (10 :: (jmpRow ++ 10 :: movs m)) = [] :: jmpRow :: (List.replicate m movRow ++ [[]]) := by
    have h1 := splitNL_line [] (jmpRow ++ 10 :: movs m) (by simp)
    have h2 := splitNL_line jmpRow (movs m) (by decide)
    have h3 := split_movs m []
    rw [List.append_nil] at h3
    rw [List.nil_append] at h1
    rw [h1, h2, h3]; rfl
  have hcode : ∀ (ls0 ls1 : List (Int × List Bs)) (i : Int), Lns ls0 (List.replicate n movW) → Lns ls1 (List.replicate m movW) → codeGo [(sHere, 0)] [] (ls0 ++ ((i, jmpW) :: ls1)) = (0, 0, movC n ++ (jumpCode (-(n : Int) - 1) ++ movC m)) := by
    intro ls0 ls1 i h0 h1
    rw [code_movs _ n ls0 [] _ h0, List.nil_append, code_jmp _ 0 rfl i _ _ (by rw [movC_len]; omega)]
    have := code_movs [(sHere, 0)] m ls1 (movC n ++ [30, 0, ((0 : Int) - (movC n).length - 4) / 4 % 65536 % 256, ((0 : Int) - (movC n).length - 4) / 4 % 65536 / 256]) [] h1
    rw [List.append_nil] at this
    rw [this, codeGo, movC_len]
    have e : ((0 : Int) - (4 * n : Nat) - 4) / 4 = -(n : Int) - 1 := by omega
    rw [e]; simp [jumpCode]
  have hlen : 0 < (movC n ++ (jumpCode (-(n : Int) - 1) ++ movC m)).length ∧ (movC n ++ (jumpCode (-(n : Int) - 1) ++ movC m)).length ≤ 2048 := by
    simp only [List.length_append, movC_len, jumpCode, List.length_cons, List.length_nil]; omega
  cases n with
  | zero =>
    have hr : splitNL (jumpsText true 0 m) = hereRow :: jmpRow :: (List.replicate m movRow ++ [[]]) := by
      have h1 := splitNL_line hereRow (jmpRow ++ 10 :: movs m) (by decide)
      have h2 := splitNL_line jmpRow (movs m) (by decide)
      have h3 := split_movs m []
      rw [List.append_nil] at h3
      show splitNL (hereRow ++ 10 :: (jmpRow ++ 10 :: movs m)) = _
      rw [h1, h2, h3]; rfl
    rw [hr, read_none _ _ hereRow _ [(sHere, 0)] (by rw [words_here, labels_here _ _ rfl]; rfl), read_line _ _ jmpRow _ [(sHere, 0)] _ _ (by rw [words_jmp]; exact labels_jmp _ _) size_jmp (by decide)]
    obtain ⟨ls, h1, h2⟩ := read_movs m (0 + 1 + 1) ⟨[(sHere, 0)], [] ++ [(0 + 1 + 1, jmpW)], 0, 0 + 4⟩ [[]] (by simp only; omega)
    refine Eq.trans (congrArg asmRest h2) ?_
    rw [read_none _ _ [] [] _ (by rw [words_none]; rfl), readGo]
    exact asmRest_ok _ _ _ _ (hcode [] ls _ rfl h1) hlen.1 hlen.2
  | succ k =>
    have hr : splitNL (jumpsText true (k + 1) m) = (hereRow ++ movRow) :: (List.replicate k movRow ++ ([] :: jmpRow :: (List.replicate m movRow ++ [[]]))) := by
      have h1 := splitNL_line (hereRow ++ movRow) (movs k ++ (10 :: (jmpRow ++ 10 :: movs m))) (by decide)
      show splitNL (hereRow ++ ((movRow ++ 10 :: movs k) ++ (10 :: (jmpRow ++ 10 :: movs m)))) = _
      rw [List.append_assoc, ← List.append_assoc hereRow, List.cons_append, h1, split_movs, hs]
    rw [hr, read_line _ _ (hereRow ++ movRow) _ [(sHere, 0)] _ _ (by rw [words_hmov, labels_here _ _ rfl]; exact labels_mov _ _) size_mov (by decide)]
    obtain ⟨ls, h1, h2⟩ := read_movs k (0 + 1) ⟨[(sHere, 0)], [] ++ [(0 + 1, movW)], 0, 0 + 4⟩ ([] :: jmpRow :: (List.replicate m movRow ++ [[]])) (by simp only; omega)
    refine Eq.trans (congrArg asmRest h2) ?_
    rw [read_none _ _ [] _ _ (by rw [words_none]; rfl), read_line _ _ jmpRow _ [(sHere, 0)] _ _ (by rw [words_jmp]; exact labels_jmp _ _) size_jmp (by simp only; omega)]
    obtain ⟨ls2, h3, h4⟩ := read_movs m ((0 : Int) + 1 + k + 1 + 1) ⟨[(sHere, 0)], ([] ++ [(0 + 1, movW)] ++ ls) ++ [((0 : Int) + 1 + k + 1 + 1, jmpW)], 0, 0 + 4 + 4 * k + 4⟩ [[]] (by simp only; omega)
    refine Eq.trans (congrArg asmRest h4) ?_
    rw [read_none _ _ [] [] _ (by rw [words_none]; rfl), readGo]
    have h5 := hcode ((0 + 1, movW) :: ls) ls2 ((0 : Int) + 1 + k + 1 + 1) (by unfold Lns at h1 ⊢; rw [List.map_cons, h1]; rfl) h3
    refine asmRest_ok _ _ _ _ ?_ hlen.1 hlen.2
    rw [← h5]; simp
theorem jumps_ahead (n m : Nat) (hn : n < 100) (hm : m < 100) :
    asmRest (readGo 0 ⟨[], [], 0, 0⟩ (splitNL (jumpsText false n m))) = ⟨0, 0, 0, movC n ++ (jumpCode m ++ (movC m ++ [34, 0, 0, 0]))⟩ := by
  have hr : splitNL (jumpsText false n m) = List.replicate n movRow ++ (jmpRow :: (List.replicate m movRow ++ [hereRet, []])) := by
    have h2 := splitNL_line jmpRow (movs m ++ (hereRet ++ [10])) (by decide)
    have h4 := splitNL_line hereRet [] (by decide)
    show splitNL (movs n ++ (jmpRow ++ 10 :: (movs m ++ (hereRet ++ [10])))) = _
    rw [split_movs, h2, split_movs, h4]; rfl
  rw [hr]
  obtain ⟨ls, h1, h2⟩ := read_movs n 0 ⟨[], [], 0, 0⟩ (jmpRow :: (List.replicate m movRow ++ [hereRet, []])) (by simp only; omega)
  refine Eq.trans (congrArg asmRest h2) ?_
  rw [read_line _ _ jmpRow _ [] _ _ (by rw [words_jmp]; exact labels_jmp _ _) size_jmp (by simp only; omega)]
  obtain ⟨ls2, h3, h4⟩ := read_movs m ((0 : Int) + n + 1) ⟨[], ([] ++ ls) ++ [((0 : Int) + n + 1, jmpW)], 0, 0 + 4 * n + 4⟩ [hereRet, []] (by simp only; omega)
  refine Eq.trans (congrArg asmRest h4) ?_
  rw [read_line _ _ hereRet _ [(sHere, 0 + 4 * n + 4 + 4 * m)] _ _ (by rw [words_hret, labels_here _ _ rfl]; exact labels_ret _ _) size_ret (by simp only; omega),
    read_none _ _ [] [] _ (by rw [words_none]; rfl), readGo]
  refine asmRest_ok _ _ _ _ ?_ ?_ ?_
  · have e : ∀ a b : Int, (([] ++ ls) ++ [(a, jmpW)] ++ ls2) ++ [(b, retW)] = ls ++ ((a, jmpW) :: (ls2 ++ [(b, retW)])) := fun a b => by simp
    refine Eq.trans (congrArg (codeGo _ []) (e _ _)) ?_
    rw [code_movs _ n ls [] _ h1, List.nil_append, code_jmp _ (0 + 4 * n + 4 + 4 * m) rfl _ _ _ (by rw [List.nil_append, movC_len]; omega), code_movs _ m ls2 _ _ h3, code_ret, codeGo, List.nil_append, movC_len]
    have e : ((0 : Int) + 4 * n + 4 + 4 * m - (4 * n : Nat) - 4) / 4 = m := by omega
    rw [e]; simp [jumpCode]
  · simp only [List.length_append, movC_len, jumpCode, List.length_cons, List.length_nil]; omega
  · simp only [List.length_append, movC_len, jumpCode, List.length_cons, List.length_nil]; omega
end Go.Proofs.YtlaohefgofmfdaaDoor
