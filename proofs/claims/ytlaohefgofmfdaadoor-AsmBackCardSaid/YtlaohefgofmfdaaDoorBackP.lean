/- A program's text, and what it is put together to: in plain Lean. -/
import Derived.Test.YtlaohefgofmfdaaDoorDec
import Derived.Test.YtlaohefgofmfdaaDoorJumps
namespace Go.Proofs.YtlaohefgofmfdaaDoor
open Go
def near8 (n : Int) : Int := if n < 128 then n else n - 256
def regW (n : Int) : Bs := 114 :: decI n
def opName (o : Int) : Bs := opNames.getD o.toNat []
/-- The words behind an instruction's name. -/
def argsW (o x y z : Int) : List Bs :=
  if formI o = 0 then [] else if formI o = 1 then [regW x] else if formI o = 2 then [regW x, regW y] else if formI o = 3 then [regW x, regW y, regW z]
  else if formI o = 4 then [regW x, regW y, decI (near8 z)] else if formI o = 5 then [regW x, decI (y + 256 * z)] else if formI o = 6 then [decI (y + 256 * z)]
  else if formI o = 7 then [regW x, regW y, decI z] else [decI y]
/-- An instruction as a line. -/
def textI (o x y z : Int) : Bs := joinW (opName o :: argsW o x y z)
theorem op_facts : ∀ n, n < 40 → n ≠ 0 → namedI (opNames.getD n []) = n ∧ opNames.getD n [] ≠ sExtra ∧ opNames.getD n [] ≠ sByte ∧ opNames.getD n [] ≠ sWord ∧ opNames.getD n [] ≠ sText ∧ Lib.hasSuffix (opNames.getD n []) [58] = false ∧ good (opNames.getD n []) = true := by decide
theorem opName_facts (o : Int) (h : 1 ≤ o ∧ o ≤ 39) : (namedI (opName o) : Int) = o ∧ opName o ≠ sExtra ∧ opName o ≠ sByte ∧ opName o ≠ sWord ∧ opName o ≠ sText ∧ Lib.hasSuffix (opName o) [58] = false ∧ good (opName o) = true := by
  have := op_facts o.toNat (by omega) (by omega)
  unfold opName
  exact ⟨by rw [this.1]; omega, this.2⟩
theorem form_range (o : Int) (h : 1 ≤ o ∧ o ≤ 39) : formI o = 0 ∨ formI o = 1 ∨ formI o = 2 ∨ formI o = 3 ∨ formI o = 4 ∨ formI o = 5 ∨ formI o = 6 ∨ formI o = 7 ∨ formI o = 8 := by
  unfold formI
  repeat' split
  all_goals omega
theorem check_op (o x y z : Int) (h : checkI o x y z = 0) : 1 ≤ o ∧ o ≤ 39 := by
  unfold checkI at h
  split at h
  · simp at h
  · rename_i hf
    unfold formI at hf
    repeat' split at hf
    all_goals omega
theorem check_ok (o x y z : Int) (h : checkI o x y z = 0) : okI (formI o) x y z = true := by
  unfold checkI at h
  split at h
  · simp at h
  · split at h
    · assumption
    · simp at h
theorem regsGo1 (a : Int) (r : List Bs) (ha : 0 ≤ a ∧ a < 16) : regsGo 1 (regW a :: r) = some [a] := by
  unfold regsGo regW; rw [reg_decI a ha.1 ha.2]; rfl
theorem regsGo2 (a b : Int) (r : List Bs) (ha : 0 ≤ a ∧ a < 16) (hb : 0 ≤ b ∧ b < 16) : regsGo 2 (regW a :: regW b :: r) = some [a, b] := by
  unfold regsGo; rw [regsGo1 b r hb]; unfold regW; rw [reg_decI a ha.1 ha.2]; rfl
theorem regsGo3 (a b c : Int) (r : List Bs) (ha : 0 ≤ a ∧ a < 16) (hb : 0 ≤ b ∧ b < 16) (hc : 0 ≤ c ∧ c < 16) : regsGo 3 (regW a :: regW b :: regW c :: r) = some [a, b, c] := by
  unfold regsGo; rw [regsGo2 b c r hb hc]; unfold regW; rw [reg_decI a ha.1 ha.2]; rfl
/-- A byte. -/
def Byt (n : Int) : Prop := 0 ≤ n ∧ n ≤ 255
theorem instr_text (o x y z here : Int) (hx : Byt x) (hy : Byt y) (hz : Byt z) (hc : checkI o x y z = 0) : instrI [] o (argsW o x y z) here = ([o, x, y, z], 0) := by
  have ho := check_op o x y z hc
  have hok := check_ok o x y z hc
  unfold Byt at hx hy hz
  have hne : ∀ (n : Int) (l : List Bs), (l.length : Int) = argsI n → ¬ ((l.length : Int) ≠ argsI n) := fun n l h h2 => h2 h
  unfold instrI
  rcases form_range o ho with hf | hf | hf | hf | hf | hf | hf | hf | hf
  · have ha : argsW o x y z = [] := by unfold argsW; rw [hf]; rfl
    rw [hf] at hok; simp [okI] at hok
    obtain ⟨⟨rfl, rfl⟩, rfl⟩ := hok
    rw [ha, hf, if_neg (hne _ _ rfl)]
    rfl
  · have ha : argsW o x y z = [regW x] := by unfold argsW; rw [hf]; rfl
    rw [hf] at hok; simp [okI] at hok
    obtain ⟨⟨h1, rfl⟩, rfl⟩ := hok
    rw [ha, hf, if_neg (hne _ _ rfl)]
    show behindI [] o 1 _ here (regsGo 1 [regW x]) = _
    rw [regsGo1 x [] ⟨hx.1, h1⟩]
    rfl
  · have ha : argsW o x y z = [regW x, regW y] := by unfold argsW; rw [hf]; rfl
    rw [hf] at hok; simp [okI] at hok
    obtain ⟨⟨h1, h2⟩, rfl⟩ := hok
    rw [ha, hf, if_neg (hne _ _ rfl)]
    show behindI [] o 2 _ here (regsGo 2 [regW x, regW y]) = _
    rw [regsGo2 x y [] ⟨hx.1, h1⟩ ⟨hy.1, h2⟩]
    rfl
  · have ha : argsW o x y z = [regW x, regW y, regW z] := by unfold argsW; rw [hf]; rfl
    rw [hf] at hok; simp [okI] at hok
    obtain ⟨⟨h1, h2⟩, h3⟩ := hok
    rw [ha, hf, if_neg (hne _ _ rfl)]
    show behindI [] o 3 _ here (regsGo 3 [regW x, regW y, regW z]) = _
    rw [regsGo3 x y z [] ⟨hx.1, h1⟩ ⟨hy.1, h2⟩ ⟨hz.1, h3⟩]
    rfl
  · have ha : argsW o x y z = [regW x, regW y, decI (near8 z)] := by unfold argsW; rw [hf]; rfl
    rw [hf] at hok; simp [okI] at hok
    obtain ⟨h1, h2⟩ := hok
    rw [ha, hf, if_neg (hne _ _ rfl)]
    show behindI [] o 4 _ here (regsGo 2 [regW x, regW y, decI (near8 z)]) = _
    rw [regsGo2 x y _ ⟨hx.1, h1⟩ ⟨hy.1, h2⟩]
    show tailI [] o 4 x y 0 (decI (near8 z)) here = _
    have hn : -128 ≤ near8 z ∧ near8 z ≤ 127 ∧ near8 z % 256 = z := by unfold near8; split <;> omega
    unfold tailI
    rw [if_pos rfl, value_decI _ _ _ hn.1 hn.2.1 (by decide) (by decide)]
    simp only [hn.2.2]
  · have ha : argsW o x y z = [regW x, decI (y + 256 * z)] := by unfold argsW; rw [hf]; rfl
    rw [hf] at hok; simp [okI] at hok
    rw [ha, hf, if_neg (hne _ _ rfl)]
    show behindI [] o 5 _ here (regsGo 1 [regW x, decI (y + 256 * z)]) = _
    rw [regsGo1 x _ ⟨hx.1, hok⟩]
    show tailI [] o 5 x 0 0 (decI (y + 256 * z)) here = _
    have hw : wideI [] o (decI (y + 256 * z)) here = (y + 256 * z, 0) := by
      unfold wideI wideV
      simp only [lookupP]
      rw [value_decI _ _ _ (by omega) (by omega) (by decide) (by decide)]
      simp only; rw [Int.emod_eq_of_lt (by omega) (by omega)]
    unfold tailI
    rw [if_neg (by decide), if_neg (by decide), if_neg (by decide), if_pos (by decide), hw]
    have e1 : (y + 256 * z) % 256 = y := by omega
    have e2 : (y + 256 * z) / 256 = z := by omega
    simp only [e1, e2]
  · have ha : argsW o x y z = [decI (y + 256 * z)] := by unfold argsW; rw [hf]; rfl
    rw [hf] at hok; simp [okI] at hok
    subst hok
    rw [ha, hf, if_neg (hne _ _ rfl)]
    show tailI [] o 6 0 0 0 (decI (y + 256 * z)) here = _
    have hw : wideI [] o (decI (y + 256 * z)) here = (y + 256 * z, 0) := by
      unfold wideI wideV
      simp only [lookupP]
      rw [value_decI _ _ _ (by omega) (by omega) (by decide) (by decide)]
      simp only; rw [Int.emod_eq_of_lt (by omega) (by omega)]
    unfold tailI
    rw [if_neg (by decide), if_neg (by decide), if_neg (by decide), if_pos (by decide), hw]
    have e1 : (y + 256 * z) % 256 = y := by omega
    have e2 : (y + 256 * z) / 256 = z := by omega
    simp only [e1, e2]
  · have ha : argsW o x y z = [regW x, regW y, decI z] := by unfold argsW; rw [hf]; rfl
    rw [hf] at hok; simp [okI] at hok
    obtain ⟨⟨h1, h2⟩, h3⟩ := hok
    rw [ha, hf, if_neg (hne _ _ rfl)]
    show behindI [] o 7 _ here (regsGo 2 [regW x, regW y, decI z]) = _
    rw [regsGo2 x y _ ⟨hx.1, h1⟩ ⟨hy.1, h2⟩]
    show tailI [] o 7 x y 0 (decI z) here = _
    unfold tailI
    rw [if_neg (by decide), if_pos (by decide), value_decI z 8 16 (by omega) (by omega) (by decide) (by decide)]
    have e1 : z % 256 = z := by omega
    simp only [e1, hc, ↓reduceIte]
  · have ha : argsW o x y z = [decI y] := by unfold argsW; rw [hf]; rfl
    rw [hf] at hok; simp [okI] at hok
    obtain ⟨rfl, rfl⟩ := hok
    rw [ha, hf, if_neg (hne _ _ rfl)]
    show tailI [] o 8 0 0 0 (decI y) here = _
    unfold tailI
    rw [if_neg (by decide), if_neg (by decide), if_pos (by decide), value_decI y 0 255 (by omega) (by omega) (by decide) (by decide)]
    have e1 : y % 256 = y := by omega
    simp only [e1]
/-- A line that is right: its words, its bytes; extra pages. -/
structure RowOk (row : Bs) (h : Bs) (t : List Bs) (bs : List Int) (x : Option Int) : Prop where
  words : lineWords row = h :: t
  colon : Lib.hasSuffix h [58] = false
  size : sizeI h t = ((bs.length : Int), 0, x)
  line : ∀ here, lineI [] h t here = (bs, 0)
  mem : ∀ c ∈ row, c ≠ 10 ∧ c.toNat < 128
theorem args_good (o x y z : Int) : ∀ s ∈ argsW o x y z, good s = true := by
  intro s hs
  unfold argsW at hs
  repeat' split at hs
  all_goals simp only [List.mem_cons, List.not_mem_nil, or_false] at hs
  all_goals first
    | (rcases hs with rfl | rfl | rfl <;> first | exact good_reg _ | exact good_decI _)
    | (rcases hs with rfl | rfl <;> first | exact good_reg _ | exact good_decI _)
    | (rcases hs with rfl; first | exact good_reg _ | exact good_decI _)
theorem row_instr (o x y z : Int) (hx : Byt x) (hy : Byt y) (hz : Byt z) (hc : checkI o x y z = 0) : RowOk (textI o x y z) (opName o) (argsW o x y z) [o, x, y, z] none := by
  have ho := check_op o x y z hc
  obtain ⟨h1, h2, h3, h4, h5, h6, h7⟩ := opName_facts o ho
  have hg : ∀ s ∈ opName o :: argsW o x y z, good s = true := by
    intro s hs
    rcases List.mem_cons.1 hs with rfl | hs
    · exact h7
    · exact args_good o x y z s hs
  have hk : namedI (opName o) ≠ 0 := by omega
  refine ⟨words_join _ _ hg, h6, ?_, fun here => ?_, fun c hc => ?_⟩
  · unfold sizeI
    rw [if_neg h2, if_neg h3, if_neg h4, if_neg h5, if_neg hk]; rfl
  · unfold lineI
    rw [if_neg h2, if_neg h3, if_neg h4, if_neg h5, h1]
    exact instr_text o x y z here hx hy hz hc
  · have := join_mem _ hg c hc
    exact ⟨this.2.1, this.2.2⟩
def byteRow (bs : List Int) : Bs := joinW (sByte :: bs.map decI)
theorem data_bytes : ∀ (bs acc : List Int), (∀ b ∈ bs, Byt b) → dataGo [] 1 (-128) 255 acc (bs.map decI) = (acc ++ bs, 0)
  | [], acc, _ => by simp [dataGo]
  | b :: r, acc, h => by
    have hb := h b List.mem_cons_self
    unfold Byt at hb
    have hv := value_decI b (-128) 255 (by omega) (by omega) (by decide) (by decide)
    have e : bytesI b 1 = [b] := by unfold bytesI; simp; omega
    rw [List.map_cons, dataGo, hv]
    simp only [↓reduceIte, e]
    rw [data_bytes r _ (fun c hc => h c (List.mem_cons_of_mem _ hc))]; simp
theorem row_bytes (bs : List Int) (h : ∀ b ∈ bs, Byt b) : RowOk (byteRow bs) sByte (bs.map decI) bs none := by
  have hg : ∀ s ∈ sByte :: bs.map decI, good s = true := by
    intro s hs
    rcases List.mem_cons.1 hs with rfl | hs
    · decide
    · obtain ⟨b, _, rfl⟩ := List.mem_map.1 hs
      exact good_decI b
  refine ⟨words_join _ _ hg, by decide, ?_, fun here => ?_, fun c hc => ?_⟩
  · unfold sizeI
    rw [if_neg (by decide), if_pos rfl]; simp
  · unfold lineI
    rw [if_neg (by decide), if_pos rfl, data_bytes bs [] h]; rfl
  · have := join_mem _ hg c hc
    exact ⟨this.2.1, this.2.2⟩
def extraRow (x : Int) : Bs := joinW [sExtra, decI x]
theorem row_extra (x : Int) (h : 0 ≤ x ∧ x ≤ 32) : RowOk (extraRow x) sExtra [decI x] [] (some x) := by
  have hg : ∀ s ∈ [sExtra, decI x], good s = true := by
    intro s hs
    rcases List.mem_cons.1 hs with rfl | hs
    · decide
    · rw [List.mem_singleton.1 hs]; exact good_decI x
  refine ⟨words_join _ _ hg, by decide, ?_, fun here => ?_, fun c hc => ?_⟩
  · unfold sizeI
    rw [if_pos rfl, if_pos (by rfl), List.headD_cons, range_decI x 0 32 h.1 h.2 (by decide) (by decide)]; rfl
  · unfold lineI
    rw [if_pos rfl]
  · have := join_mem _ hg c hc
    exact ⟨this.2.1, this.2.2⟩
structure Row where
  row : Bs
  h : Bs
  t : List Bs
  bs : List Int
  x : Option Int
def Row.ok (r : Row) : Prop := RowOk r.row r.h r.t r.bs r.x
def codeOf (rs : List Row) : List Int := rs.flatMap (·.bs)
def extraOf : Int → List Row → Int
  | x, [] => x
  | x, r :: rs => extraOf (r.x.getD x) rs
theorem read_row (i : Int) (st : PS) (r : Row) (rest : List Bs) (h : r.ok) (hz : st.size + r.bs.length ≤ 2048) :
    readGo i st (r.row :: rest) = readGo (i + 1) ⟨st.pl, st.lines ++ [(i + 1, r.h :: r.t)], r.x.getD st.extra, st.size + r.bs.length⟩ rest := by
  have hl : labelsGo st.size st.pl (lineWords r.row) = (0, st.pl, r.h :: r.t) := by
    rw [h.words, labelsGo, if_neg (by rw [h.colon]; decide)]
  have hb : bodyGo i st st.pl (r.h :: r.t) = (0, ⟨st.pl, st.lines ++ [(i + 1, r.h :: r.t)], r.x.getD st.extra, st.size + r.bs.length⟩) := by
    rw [bodyGo, h.size]; simp only [↓reduceIte]; rw [if_neg (by omega)]
  rw [readGo, hl]
  simp only [↓reduceIte, hb]
theorem read_rows : ∀ (rs : List Row) (i : Int) (st : PS) (rest : List Bs), (∀ r ∈ rs, r.ok) → st.size + (codeOf rs).length ≤ 2048 → ∃ ls, Lns ls (rs.map fun r => r.h :: r.t) ∧
    readGo i st (rs.map (·.row) ++ rest) = readGo (i + rs.length) ⟨st.pl, st.lines ++ ls, extraOf st.extra rs, st.size + (codeOf rs).length⟩ rest
  | [], i, st, rest, _, _ => ⟨[], rfl, by simp [extraOf, codeOf]⟩
  | r :: rs, i, st, rest, h, hz => by
    have hc : (codeOf (r :: rs)).length = r.bs.length + (codeOf rs).length := by simp [codeOf]
    rw [hc] at hz
    have e : (r :: rs).map (·.row) ++ rest = r.row :: (rs.map (·.row) ++ rest) := rfl
    rw [e, read_row i st r _ (h r List.mem_cons_self) (by omega)]
    obtain ⟨ls, h1, h2⟩ := read_rows rs (i + 1) ⟨st.pl, st.lines ++ [(i + 1, r.h :: r.t)], r.x.getD st.extra, st.size + r.bs.length⟩ rest (fun q hq => h q (List.mem_cons_of_mem _ hq)) (by simp only; omega)
    refine ⟨(i + 1, r.h :: r.t) :: ls, by unfold Lns at h1 ⊢; rw [List.map_cons, h1]; rfl, h2.trans ?_⟩
    rw [hc]
    simp only [List.append_assoc, List.cons_append, List.nil_append, extraOf, List.length_cons]
    congr 1
    · omega
    · congr 1; omega
theorem code_rows : ∀ (rs : List Row) (ls : List (Int × List Bs)) (code : List Int), (∀ r ∈ rs, r.ok) → Lns ls (rs.map fun r => r.h :: r.t) → codeGo [] code ls = (0, 0, code ++ codeOf rs)
  | [], ls, code, _, h => by
    have : ls = [] := by simpa [Lns] using h
    subst this; simp [codeOf, codeGo]
  | r :: rs, [], code, _, h => by simp [Lns] at h
  | r :: rs, l :: ls, code, hr, h => by
    simp only [Lns, List.map_cons, List.cons.injEq] at h
    have hl : lineI [] (l.2.headD []) l.2.tail code.length = (r.bs, 0) := by rw [h.1]; exact (hr r List.mem_cons_self).line _
    have e := code_step [] l.1 l.2 code ls _ hl
    rw [show (l :: ls) = (l.1, l.2) :: ls from rfl, e, code_rows rs ls _ (fun q hq => hr q (List.mem_cons_of_mem _ hq)) h.2]
    simp [codeOf]
/-- Lines with newlines behind them. -/
def linesT (rs : List Row) : Bs := rs.flatMap fun r => r.row ++ [10]
theorem split_lines : ∀ (rs : List Row), (∀ r ∈ rs, r.ok) → splitNL (linesT rs) = rs.map (·.row) ++ [[]]
  | [], _ => rfl
  | r :: rs, h => by
    have e : linesT (r :: rs) = r.row ++ 10 :: linesT rs := by simp [linesT]
    rw [e, splitNL_line _ _ (fun c hc => ((h r List.mem_cons_self).mem c hc).1), split_lines rs (fun q hq => h q (List.mem_cons_of_mem _ hq))]; rfl
theorem asm_rows (rs : List Row) (h : ∀ r ∈ rs, r.ok) (hz : (codeOf rs).length ≤ 2048) (last : List Bs) (hl : last = [[]] ∨ last = []) :
    ∃ size, readGo 0 ⟨[], [], 0, 0⟩ (rs.map (·.row) ++ last) = (0, 0, size) ∧ size.pl = [] ∧ size.extra = extraOf 0 rs ∧ codeGo [] [] size.lines = (0, 0, codeOf rs) := by
  obtain ⟨ls, h1, h2⟩ := read_rows rs 0 ⟨[], [], 0, 0⟩ last h (by simp only; omega)
  have hc := code_rows rs ls [] h h1
  rw [h2]
  rcases hl with rfl | rfl
  · rw [read_none _ _ [] [] _ (by rw [words_none]; rfl), readGo]
    exact ⟨_, rfl, rfl, rfl, by simpa using hc⟩
  · rw [readGo]
    exact ⟨_, rfl, rfl, rfl, by simpa using hc⟩
theorem asmRest_rows (rs : List Row) (h : ∀ r ∈ rs, r.ok) (hz : (codeOf rs).length ≤ 2048) (last : List Bs) (hl : last = [[]] ∨ last = []) :
    asmRest (readGo 0 ⟨[], [], 0, 0⟩ (rs.map (·.row) ++ last)) = if fileI (extraOf 0 rs) (codeOf rs).length = 0 then ⟨0, 0, extraOf 0 rs, codeOf rs⟩ else ⟨19, 0, 0, []⟩ := by
  obtain ⟨st, h1, h2, h3, h4⟩ := asm_rows rs h hz last hl
  rw [h1]
  unfold asmRest
  simp only [↓reduceIte, h2, h3, h4]
/-- One instruction's line is that instruction. -/
theorem asm_line (o x y z : Int) (hx : Byt x) (hy : Byt y) (hz : Byt z) (hc : checkI o x y z = 0) : asmRest (readGo 0 ⟨[], [], 0, 0⟩ (splitNL (textI o x y z))) = ⟨0, 0, 0, [o, x, y, z]⟩ := by
  have hr := row_instr o x y z hx hy hz hc
  have := asmRest_rows [⟨textI o x y z, opName o, argsW o x y z, [o, x, y, z], none⟩] (fun r hr' => by rw [List.mem_singleton.1 hr']; exact hr) (by simp [codeOf]) [] (.inr rfl)
  have hf : fileI 0 [o, x, y, z].length = 0 := (by decide : fileI 0 4 = 0)
  have e : codeOf [⟨textI o x y z, opName o, argsW o x y z, [o, x, y, z], none⟩] = [o, x, y, z] := rfl
  rw [e] at this
  rw [splitNL_last _ (fun c hc => (hr.mem c hc).1)]
  refine Eq.trans this ?_
  rw [if_pos (show fileI (extraOf 0 [⟨textI o x y z, opName o, argsW o x y z, [o, x, y, z], none⟩]) [o, x, y, z].length = 0 from hf)]
  rfl
/-- A program's lines: four bytes each. -/
def rowsT : List Int → List Row
  | a :: b :: c :: d :: r => (if checkI a b c d = 0 then ⟨textI a b c d, opName a, argsW a b c d, [a, b, c, d], none⟩ else ⟨byteRow [a, b, c, d], sByte, [a, b, c, d].map decI, [a, b, c, d], none⟩) :: rowsT r
  | [] => []
  | bs => [⟨byteRow bs, sByte, bs.map decI, bs, none⟩]
theorem rowsT_ok : ∀ (code : List Int), (∀ b ∈ code, Byt b) → (∀ r ∈ rowsT code, r.ok) ∧ codeOf (rowsT code) = code ∧ ∀ x, extraOf x (rowsT code) = x
  | a :: b :: c :: d :: r, h => by
    obtain ⟨h1, h2, h3⟩ := rowsT_ok r fun q hq => h q (by simp [hq])
    have ha := h a (by simp); have hb := h b (by simp); have hc := h c (by simp); have hd := h d (by simp)
    by_cases hk : checkI a b c d = 0
    · rw [rowsT, if_pos hk]
      refine ⟨fun q hq => ?_, ?_, fun x => ?_⟩
      · rcases List.mem_cons.1 hq with rfl | hq
        · exact row_instr a b c d hb hc hd hk
        · exact h1 q hq
      · simp only [codeOf, List.flatMap_cons] at h2 ⊢; rw [h2]; rfl
      · exact h3 x
    · rw [rowsT, if_neg hk]
      refine ⟨fun q hq => ?_, ?_, fun x => ?_⟩
      · rcases List.mem_cons.1 hq with rfl | hq
        · exact row_bytes [a, b, c, d] (by intro q hq; simp at hq; rcases hq with rfl | rfl | rfl | rfl <;> assumption)
        · exact h1 q hq
      · simp only [codeOf, List.flatMap_cons] at h2 ⊢; rw [h2]; rfl
      · exact h3 x
  | [], _ => ⟨by simp [rowsT], rfl, fun _ => rfl⟩
  | [a], h => ⟨fun q hq => by rw [List.mem_singleton.1 hq]; exact row_bytes [a] h, rfl, fun _ => rfl⟩
  | [a, b], h => ⟨fun q hq => by rw [List.mem_singleton.1 hq]; exact row_bytes [a, b] h, rfl, fun _ => rfl⟩
  | [a, b, c], h => ⟨fun q hq => by rw [List.mem_singleton.1 hq]; exact row_bytes [a, b, c] h, rfl, fun _ => rfl⟩
/-- A program's text. -/
def rowsP (extra : Int) (code : List Int) : List Row := (if 0 < extra then [⟨extraRow extra, sExtra, [decI extra], [], some extra⟩] else []) ++ rowsT code
def textP (extra : Int) (code : List Int) : Bs := linesT (rowsP extra code)
theorem rowsP_ok (extra : Int) (code : List Int) (hx : 0 ≤ extra ∧ extra ≤ 32) (h : ∀ b ∈ code, Byt b) : (∀ r ∈ rowsP extra code, r.ok) ∧ codeOf (rowsP extra code) = code ∧ extraOf 0 (rowsP extra code) = extra := by
  obtain ⟨h1, h2, h3⟩ := rowsT_ok code h
  unfold rowsP
  by_cases hp : 0 < extra
  · rw [if_pos hp]
    refine ⟨fun r hr => ?_, by simpa [codeOf] using h2, ?_⟩
    · rcases List.mem_append.1 hr with hr | hr
      · rw [List.mem_singleton.1 hr]; exact row_extra extra hx
      · exact h1 r hr
    · simp [extraOf, h3]
  · rw [if_neg hp]
    exact ⟨by simpa using h1, by simpa using h2, by simp [h3]; omega⟩
theorem asm_textP (extra : Int) (code : List Int) (hx : 0 ≤ extra ∧ extra ≤ 32) (h : ∀ b ∈ code, Byt b) (hz : code.length ≤ 2048) :
    asmRest (readGo 0 ⟨[], [], 0, 0⟩ (splitNL (textP extra code))) = if fileI extra code.length = 0 then ⟨0, 0, extra, code⟩ else ⟨19, 0, 0, []⟩ := by
  obtain ⟨h1, h2, h3⟩ := rowsP_ok extra code hx h
  have := asmRest_rows (rowsP extra code) h1 (by rw [h2]; exact hz) [[]] (.inl rfl)
  rw [h2, h3] at this
  unfold textP
  rw [split_lines _ h1]
  exact this
end Go.Proofs.YtlaohefgofmfdaaDoor
