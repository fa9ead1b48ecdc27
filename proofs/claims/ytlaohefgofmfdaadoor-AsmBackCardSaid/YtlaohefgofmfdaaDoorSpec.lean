/- The assembler in plain Lean: no program in sight. -/
import Derived.Lib.Fields
import Derived.Lib.IndexMore
import Derived.Lib.Strings
namespace Go.Proofs.YtlaohefgofmfdaaDoor
abbrev Bs := List UInt8
def opNames : List Bs := [[], [109, 111, 118], [108, 100, 105], [108, 100, 115], [108, 117, 105], [97, 100, 100], [115, 117, 98], [109, 117, 108], [100, 105, 118], [114, 101, 109], [100, 105, 118, 115], [97, 110, 100], [111, 114], [120, 111, 114], [115, 104, 108], [115, 104, 114], [115, 97, 114], [114, 111, 116], [115, 108, 116], [115, 108, 117], [101, 113, 117], [97, 100, 100, 105], [108, 98], [108, 98, 115], [108, 104], [108, 104, 115], [108, 119], [115, 98], [115, 104], [115, 119], [106, 109, 112], [106, 122], [106, 110, 122], [99, 97, 108, 108], [114, 101, 116], [106, 114], [101, 120, 116], [99, 108, 122], [112, 111, 112], [115, 121, 115]]
/-- An op's form, 0 to 8; -1: there is no such op. -/
def formI (o : Int) : Int :=
  if o = 34 then 0 else if o = 35 then 1 else if o = 1 ∨ o = 37 ∨ o = 38 then 2 else if 5 ≤ o ∧ o ≤ 20 then 3 else if 21 ≤ o ∧ o ≤ 29 then 4
  else if o = 2 ∨ o = 3 ∨ o = 4 ∨ o = 31 ∨ o = 32 then 5 else if o = 30 ∨ o = 33 then 6 else if o = 36 then 7 else if o = 39 then 8 else -1
/-- How many words an instruction has behind its name. -/
def argsI (f : Int) : Int := if f = 0 then 0 else if f = 1 ∨ f = 6 ∨ f = 8 then 1 else if f = 2 ∨ f = 5 then 2 else 3
def okI (f x y z : Int) : Bool :=
  if f = 0 then x == 0 && y == 0 && z == 0 else if f = 1 then decide (x < 16) && y == 0 && z == 0 else if f = 2 then decide (x < 16) && decide (y < 16) && z == 0
  else if f = 3 then decide (x < 16) && decide (y < 16) && decide (z < 16) else if f = 4 then decide (x < 16) && decide (y < 16) else if f = 5 then decide (x < 16)
  else if f = 6 then x == 0 else if f = 7 then decide (x < 16) && decide (y < 16) && (z == 8 || z == 16) else x == 0 && z == 0
/-- Is an instruction right? An error's number. -/
def checkI (o x y z : Int) : Int := if formI o < 0 then 32 else if okI (formI o) x y z then 0 else 28
/-- Which op has a name; 0: none. -/
def namedGo (s : Bs) : Nat → Nat → Nat
  | 0, _ => 0
  | k + 1, o => if opNames.getD o [] = s then o else namedGo s k (o + 1)
def namedI (s : Bs) : Nat := namedGo s 39 1
def low (c : UInt8) : Bool := 97 ≤ c && c ≤ 122
def dig (c : UInt8) : Bool := 48 ≤ c && c ≤ 57
def wch (c : UInt8) : Bool := low c || dig c
/-- May it be a place's name? -/
def wordI (s : Bs) : Bool := decide (1 ≤ s.length) && decide (s.length ≤ 16) && low (s.headD 0) && s.all wch
def decGo : Int → Bs → Int
  | n, [] => n
  | n, c :: r => decGo (n * 10 + (c.toNat - 48)) r
/-- Digits, one to six, none of them a nought ahead. -/
def digitsI (s : Bs) : Option Int :=
  if 1 ≤ s.length ∧ s.length ≤ 6 ∧ ¬ (1 < s.length ∧ s.headD 0 = 48) ∧ s.all dig = true then some (decGo 0 s) else none
/-- A number. -/
def numI (s : Bs) : Option Int :=
  if s.headD 0 = 45 then (if s.tail = [48] then none else (digitsI s.tail).map fun n => -n) else digitsI s
def rangeI (s : Bs) (least most : Int) : Option Int := (numI s).bind fun n => if least ≤ n ∧ n ≤ most then some n else none
/-- A register. -/
def regI (s : Bs) : Option Int := if s.headD 0 = 114 then rangeI s.tail 0 15 else none
def sExtra : Bs := [101, 120, 116, 114, 97]
def sByte : Bs := [98, 121, 116, 101]
def sWord : Bs := [119, 111, 114, 100]
def sText : Bs := [116, 101, 120, 116]
def extraI : Option Int → Int × Int × Option Int
  | none => (0, 27, none)
  | some n => (0, 0, some n)
/-- How many bytes a line takes; an error's number; extra pages. -/
def sizeI (h : Bs) (t : List Bs) : Int × Int × Option Int :=
  if h = sExtra then (if t.length = 1 then extraI (rangeI (t.headD []) 0 32) else (0, 28, none))
  else if h = sByte then (t.length, 0, none) else if h = sWord then (4 * t.length, 0, none)
  else if h = sText then (if t.length = 1 then ((t.headD []).length, 0, none) else (0, 28, none))
  else if namedI h = 0 then (0, 32, none) else (4, 0, none)
/-- Places: their names, and what they mean. -/
abbrev Places := List (Bs × Int)
def lookupP (k : Bs) : Places → Option Int
  | [] => none
  | p :: r => if p.1 = k then some p.2 else lookupP k r
/-- A number, or a place: what it is; an error's number. -/
def valueI (pl : Places) (s : Bs) (least most : Int) : Int × Int :=
  match lookupP s pl with
  | some at_ => if at_ < least ∨ most < at_ then (0, 27) else (at_, 0)
  | none => if wordI s then (0, 3) else match rangeI s least most with | none => (0, 27) | some n => (n, 0)
end Go.Proofs.YtlaohefgofmfdaaDoor
namespace Go.Proofs.YtlaohefgofmfdaaDoor
/-- A number as bytes, the lowest first. -/
def bytesI (n : Int) (k : Nat) : List Int := [n % 256, n % 4294967296 / 256 % 256, n % 4294967296 / 65536 % 256, n % 4294967296 / 16777216].take k
/-- A line of numbers, of so many bytes each; an error's number. -/
def dataGo (pl : Places) (k : Nat) (least most : Int) : List Int → List Bs → List Int × Int
  | acc, [] => (acc, 0)
  | acc, s :: r => if (valueI pl s least most).2 = 0 then dataGo pl k least most (acc ++ bytesI (valueI pl s least most).1 k) r else ([], (valueI pl s least most).2)
def dataI (pl : Places) (k : Nat) (ws : List Bs) : List Int × Int := if k = 4 then dataGo pl 4 (-999999) 999999 [] ws else dataGo pl k (-128) 255 [] ws
/-- A number of sixteen bits, or a jump's way to a place; an error's number. -/
def wideV (pl : Places) (s : Bs) : Int × Int := ((valueI pl s (-32768) 65535).1 % 65536, (valueI pl s (-32768) 65535).2)
def wideI (pl : Places) (o : Int) (s : Bs) (at_ : Int) : Int × Int :=
  match lookupP s pl with
  | some to => if o = 2 ∨ o = 3 ∨ o = 4 then wideV pl s else if (to - at_) % 4 = 0 then ((to - at_ - 4) / 4 % 65536, 0) else (0, 28)
  | none => wideV pl s
end Go.Proofs.YtlaohefgofmfdaaDoor
namespace Go.Proofs.YtlaohefgofmfdaaDoor
/-- How many registers an instruction of a form has. -/
def regN (f : Int) : Nat := if f = 1 then 1 else if f = 2 then 2 else if f = 3 then 3 else if f = 4 then 2 else if f = 5 then 1 else if f = 7 then 2 else 0
/-- So many registers. -/
def regsGo : Nat → List Bs → Option (List Int)
  | 0, _ => some []
  | _ + 1, [] => none
  | k + 1, s :: r => (regI s).bind fun x => (regsGo k r).map (x :: ·)
/-- What stands behind an instruction's registers. -/
def tailI (pl : Places) (k f : Int) (x y z : Int) (s : Bs) (at_ : Int) : List Int × Int :=
  if f = 4 then ([k, x, y, (valueI pl s (-128) 127).1 % 256], (valueI pl s (-128) 127).2)
  else if f = 7 then (if (valueI pl s 8 16).2 = 0 then ([k, x, y, (valueI pl s 8 16).1 % 256], checkI k x y ((valueI pl s 8 16).1 % 256)) else ([], (valueI pl s 8 16).2))
  else if f = 8 then ([k, 0, (valueI pl s 0 255).1 % 256, 0], (valueI pl s 0 255).2)
  else if f = 5 ∨ f = 6 then ([k, x, (wideI pl k s at_).1 % 256, (wideI pl k s at_).1 / 256], (wideI pl k s at_).2)
  else ([k, x, y, z], 0)
def behindI (pl : Places) (k f : Int) (t : List Bs) (at_ : Int) : Option (List Int) → List Int × Int
  | none => ([], 30)
  | some rs => tailI pl k f (rs.getD 0 0) (rs.getD 1 0) (rs.getD 2 0) (t.getD (regN f) []) at_
/-- An instruction as bytes; an error's number. -/
def instrI (pl : Places) (k : Int) (t : List Bs) (at_ : Int) : List Int × Int :=
  if (t.length : Int) ≠ argsI (formI k) then ([], 28) else behindI pl k (formI k) t at_ (regsGo (regN (formI k)) t)
end Go.Proofs.YtlaohefgofmfdaaDoor
namespace Go.Proofs.YtlaohefgofmfdaaDoor
open Go
/-- A line's words. -/
def lineWords (l : Bs) : List Bs := Lib.fields (Lib.cut l [35]).1
/-- What the first pass has gathered. -/
structure PS where
  pl : Places
  lines : List (Int × List Bs)
  extra : Int
  size : Int
/-- The places with which a line begins; an error's number. -/
def labelsGo (size : Int) : Places → List Bs → Int × Places × List Bs
  | pl, [] => (0, pl, [])
  | pl, s :: r =>
    if Lib.hasSuffix s [58] = true then
      (if wordI (Lib.trimSuffix s [58]) = false then (30, pl, s :: r) else if (lookupP (Lib.trimSuffix s [58]) pl).isSome = true then (29, pl, s :: r)
       else labelsGo size (pl ++ [(Lib.trimSuffix s [58], size)]) r)
    else (0, pl, s :: r)
/-- What stands behind a line's places. -/
def bodyGo (i : Int) (st : PS) (pl : Places) : List Bs → Int × PS
  | [] => (0, { st with pl := pl })
  | h :: t =>
    if (sizeI h t).2.1 = 0 then
      (if 2048 < st.size + (sizeI h t).1 then (11, st) else (0, ⟨pl, st.lines ++ [(i + 1, h :: t)], (sizeI h t).2.2.getD st.extra, st.size + (sizeI h t).1⟩))
    else ((sizeI h t).2.1, st)
def readGo : Int → PS → List Bs → Int × Int × PS
  | _, st, [] => (0, 0, st)
  | i, st, l :: rest =>
    if (labelsGo st.size st.pl (lineWords l)).1 = 0 then
      (if (bodyGo i st (labelsGo st.size st.pl (lineWords l)).2.1 (labelsGo st.size st.pl (lineWords l)).2.2).1 = 0 then
        readGo (i + 1) (bodyGo i st (labelsGo st.size st.pl (lineWords l)).2.1 (labelsGo st.size st.pl (lineWords l)).2.2).2 rest
       else ((bodyGo i st (labelsGo st.size st.pl (lineWords l)).2.1 (labelsGo st.size st.pl (lineWords l)).2.2).1, i + 1, st))
    else ((labelsGo st.size st.pl (lineWords l)).1, i + 1, st)
end Go.Proofs.YtlaohefgofmfdaaDoor
namespace Go.Proofs.YtlaohefgofmfdaaDoor
open Go
/-- A line as bytes; an error's number. -/
def lineI (pl : Places) (h : Bs) (t : List Bs) (here : Int) : List Int × Int :=
  if h = sExtra then ([], 0) else if h = sByte then dataGo pl 1 (-128) 255 [] t else if h = sWord then dataGo pl 4 (-999999) 999999 [] t
  else if h = sText then ((t.headD []).map fun b => (b.toNat : Int), 0) else instrI pl (namedI h) t here
def codeGo (pl : Places) : List Int → List (Int × List Bs) → Int × Int × List Int
  | code, [] => (0, 0, code)
  | code, l :: r =>
    if (lineI pl (l.2.headD []) l.2.tail code.length).2 = 0 then codeGo pl (code ++ (lineI pl (l.2.headD []) l.2.tail code.length).1) r
    else ((lineI pl (l.2.headD []) l.2.tail code.length).2, l.1, code)
/-- May it be a program? -/
def fileI (extra : Int) (n : Nat) : Int := if (n : Int) = 0 then 19 else if (n : Int) > 2048 then 19 else if ((n : Int) + 63) / 64 + extra > 32 then 19 else 0
/-- An error's number, its line, the pages behind, the code. -/
structure Asmd where
  err : Int
  line : Int
  extra : Int
  code : List Int
def asmRest (R : Int × Int × PS) : Asmd :=
  if R.1 = 0 then
    (if (codeGo R.2.2.pl [] R.2.2.lines).1 = 0 then
      (if fileI R.2.2.extra (codeGo R.2.2.pl [] R.2.2.lines).2.2.length = 0 then ⟨0, 0, R.2.2.extra, (codeGo R.2.2.pl [] R.2.2.lines).2.2⟩ else ⟨19, 0, 0, []⟩)
     else ⟨(codeGo R.2.2.pl [] R.2.2.lines).1, (codeGo R.2.2.pl [] R.2.2.lines).2.1, 0, []⟩)
  else ⟨R.1, R.2.1, 0, []⟩
def asmI (rows : List Bs) (big : Bool) : Asmd := if big then ⟨8, 0, 0, []⟩ else asmRest (readGo 0 ⟨[], [], 0, 0⟩ rows)
/-- A line that the first pass let through. -/
def LineOk (l : Int × List Bs) : Prop := ∃ h t, l.2 = h :: t ∧ (sizeI h t).2.1 = 0 ∧ t.length ≤ 65536 ∧ ∀ a ∈ t, a.length ≤ 65536
def sumI (ls : List (Int × List Bs)) : Int := (ls.map fun l => (sizeI (l.2.headD []) l.2.tail).1).sum
structure StOk (st : PS) : Prop where
  pl : ∀ p ∈ st.pl, 0 ≤ p.2 ∧ p.2 ≤ 2048
  size : 0 ≤ st.size ∧ st.size ≤ 2048
  lines : ∀ l ∈ st.lines, LineOk l
  sum : sumI st.lines = st.size
  extra : 0 ≤ st.extra ∧ st.extra ≤ 32
theorem extraI_bd (s : Bs) : ∀ x, (extraI (rangeI s 0 32)).2.2 = some x → 0 ≤ x ∧ x ≤ 32 := by
  intro x hx
  unfold rangeI at hx
  cases hn : numI s with
  | none => rw [hn] at hx; simp [extraI] at hx
  | some n =>
    rw [hn] at hx
    by_cases h : 0 ≤ n ∧ n ≤ 32
    · simp [h, extraI] at hx; omega
    · simp only [Option.bind_some, if_neg h] at hx; simp [extraI] at hx
theorem sizeI_extra (h : Bs) (t : List Bs) : ∀ x, (sizeI h t).2.2 = some x → 0 ≤ x ∧ x ≤ 32 := by
  intro x
  unfold sizeI
  split
  · split
    · exact extraI_bd _ x
    · simp
  · split
    · simp
    · split
      · simp
      · split
        · split <;> simp
        · split <;> simp
theorem sizeI_nonneg (h : Bs) (t : List Bs) : 0 ≤ (sizeI h t).1 := by
  unfold sizeI
  split
  · split
    · cases rangeI (t.headD []) 0 32 <;> simp [extraI]
    · simp
  · split
    · simp only; omega
    · split
      · simp only; omega
      · split
        · split
          · simp only; omega
          · simp
        · split <;> simp
theorem labelsGo_ok (size : Int) (hs : 0 ≤ size ∧ size ≤ 2048) : ∀ (ws : List Bs) (pl : Places), (∀ p ∈ pl, 0 ≤ p.2 ∧ p.2 ≤ 2048) →
    (∀ p ∈ (labelsGo size pl ws).2.1, 0 ≤ p.2 ∧ p.2 ≤ 2048) ∧ ∀ a ∈ (labelsGo size pl ws).2.2, a ∈ ws
  | [], pl, h => ⟨h, fun a ha => ha⟩
  | s :: r, pl, h => by
    rw [labelsGo]
    split
    · split
      · exact ⟨h, fun a ha => ha⟩
      · split
        · exact ⟨h, fun a ha => ha⟩
        · have := labelsGo_ok size hs r (pl ++ [(Lib.trimSuffix s [58], size)]) (by
            intro p hp
            rcases List.mem_append.1 hp with h1 | h1
            · exact h p h1
            · rw [List.mem_singleton.1 h1]; exact hs)
          exact ⟨this.1, fun a ha => List.mem_cons_of_mem _ (this.2 a ha)⟩
    · exact ⟨h, fun a ha => ha⟩
theorem labelsGo_len (size : Int) : ∀ (ws : List Bs) (pl : Places), (labelsGo size pl ws).2.2.length ≤ ws.length
  | [], pl => by simp [labelsGo]
  | s :: r, pl => by
    rw [labelsGo]
    split
    · split
      · exact Nat.le_refl _
      · split
        · exact Nat.le_refl _
        · exact Nat.le_succ_of_le (labelsGo_len size r _)
    · exact Nat.le_refl _
theorem bodyGo_ok (i : Int) (st : PS) (pl : Places) (ws : List Bs) (hst : StOk st) (hpl : ∀ p ∈ pl, 0 ≤ p.2 ∧ p.2 ≤ 2048) (hl : ws.length ≤ 65536) (ha : ∀ a ∈ ws, a.length ≤ 65536)
    (h0 : (bodyGo i st pl ws).1 = 0) : StOk (bodyGo i st pl ws).2 := by
  cases ws with
  | nil => exact ⟨hpl, hst.size, hst.lines, hst.sum, hst.extra⟩
  | cons h t =>
    rw [bodyGo] at h0 ⊢
    by_cases e1 : (sizeI h t).2.1 = 0
    · rw [if_pos e1] at h0 ⊢
      by_cases e2 : 2048 < st.size + (sizeI h t).1
      · rw [if_pos e2] at h0; simp at h0
      · rw [if_neg e2]
        refine ⟨hpl, ?_, ?_, ?_, ?_⟩
        · have := sizeI_nonneg h t; have := hst.size; simp only; omega
        · intro l hl'
          rcases List.mem_append.1 hl' with h1 | h1
          · exact hst.lines l h1
          · rw [List.mem_singleton.1 h1]
            exact ⟨h, t, rfl, e1, by simp at hl; omega, fun a h2 => ha a (List.mem_cons_of_mem _ h2)⟩
        · simp only [sumI, List.map_append, List.map_cons, List.map_nil, List.sum_append, List.sum_cons, List.sum_nil, List.headD_cons, List.tail_cons]
          have := hst.sum; unfold sumI at this; omega
        · cases hx : (sizeI h t).2.2 with
          | none => exact hst.extra
          | some x => exact sizeI_extra h t x hx
    · rw [if_neg e1] at h0; exact absurd h0 e1
theorem readGo_ok : ∀ (rows : List Bs) (i : Int) (st : PS), StOk st → (∀ p ∈ rows, (lineWords p).length ≤ 65536 ∧ ∀ y ∈ lineWords p, y.length ≤ 65536) → (readGo i st rows).1 = 0 → StOk (readGo i st rows).2.2
  | [], i, st, h, _, _ => h
  | l :: rest, i, st, h, hr, h0 => by
    rw [readGo] at h0 ⊢
    have hl := hr l List.mem_cons_self
    split
    · rename_i e1
      rw [if_pos e1] at h0
      split
      · rename_i e2
        rw [if_pos e2] at h0
        have h3 := labelsGo_ok st.size h.size (lineWords l) st.pl h.pl
        have h4 := labelsGo_len st.size (lineWords l) st.pl
        exact readGo_ok rest (i + 1) _ (bodyGo_ok i st _ _ h h3.1 (by omega) (fun a ha => hl.2 a (h3.2 a ha)) e2) (fun p hp => hr p (List.mem_cons_of_mem _ hp)) h0
      · rename_i e2
        rw [if_neg e2] at h0
        exact absurd h0 e2
    · rename_i e1
      rw [if_neg e1] at h0
      exact absurd h0 e1
theorem bytesI_len (n : Int) (k : Nat) (hk : k ≤ 4) : (bytesI n k).length = k := by simp [bytesI]; omega
theorem dataGo_len (pl : Places) (k : Nat) (hk : k ≤ 4) (least most : Int) : ∀ (ws : List Bs) (acc : List Int), (dataGo pl k least most acc ws).2 = 0 → (dataGo pl k least most acc ws).1.length = acc.length + k * ws.length
  | [], acc, _ => by simp [dataGo]
  | s :: r, acc, h => by
    rw [dataGo] at h ⊢
    split
    · rename_i e
      rw [if_pos e] at h
      rw [dataGo_len pl k hk least most r _ h, List.length_append, bytesI_len _ _ hk, List.length_cons, Nat.mul_succ]; omega
    · rename_i e
      rw [if_neg e] at h; exact absurd h e
theorem instrI_len (pl : Places) (k : Int) (t : List Bs) (at_ : Int) : (instrI pl k t at_).1.length ≤ 4 := by
  unfold instrI
  split
  · simp
  · unfold behindI
    split
    · simp
    · unfold tailI
      split
      · simp
      · split
        · split <;> simp
        · split
          · simp
          · split <;> simp
theorem lineI_len (pl : Places) (h : Bs) (t : List Bs) (here : Int) (h1 : (sizeI h t).2.1 = 0) (h2 : (lineI pl h t here).2 = 0) : ((lineI pl h t here).1.length : Int) ≤ (sizeI h t).1 := by
  have hn := sizeI_nonneg h t
  unfold lineI at h2 ⊢
  unfold sizeI at h1 hn ⊢
  by_cases e1 : h = sExtra
  · simp only [if_pos e1] at *; simpa using hn
  · simp only [if_neg e1] at *
    by_cases e2 : h = sByte
    · simp only [if_pos e2] at *
      rw [dataGo_len _ _ (by omega) _ _ _ _ h2]; simp
    · simp only [if_neg e2] at *
      by_cases e3 : h = sWord
      · simp only [if_pos e3] at *
        rw [dataGo_len _ _ (by omega) _ _ _ _ h2]; simp
      · simp only [if_neg e3] at *
        by_cases e4 : h = sText
        · simp only [if_pos e4] at *
          split at h1
          · rename_i e5; rw [if_pos e5]; simp
          · simp at h1
        · simp only [if_neg e4] at *
          split at h1
          · simp at h1
          · rename_i e5; rw [if_neg e5]
            have := instrI_len pl (namedI h) t here; simp only; omega
end Go.Proofs.YtlaohefgofmfdaaDoor
