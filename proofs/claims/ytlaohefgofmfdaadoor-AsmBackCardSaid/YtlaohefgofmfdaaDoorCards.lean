/-
  DERIVED. GIVEN WITH THE SEED: THE CARDS: each row of YtlaohefgofmfdaaDoorRows.lean that lists a variable, with what it lists TIED to the program's text (the seventh form; the later family's looks); each row that meets fmt, with fmt's text TOLD by the authors' own Lean function (tested against real Go, not proved from fmt's source: count such statements apart). THE CARD IS WHAT COUNTS. Prove the row's statement (the work); the ties are given (YtlaohefgofmfdaaDoorTie.lean); close each card by the builder's one call (the guide's Derived/Test/ToyasCard.lean, 'card_holds'). Laid BY PROGRAM, IN A SANDBOX (cutbox-door.mjs). By AI agents, Wed Nov 11 2026. No macro, syntax, notation, axiom, sorry.
-/
import Derived.Test.YtlaohefgofmfdaaDoorRows
import GoSem.ClaimSeven
namespace Go.Proofs.YtlaohefgofmfdaaDoor
namespace Rows

/-- THE TIED CARD OF 'garrisonlaw17.AsmTexts'. -/
def asmTextsCard : Claim7 := { stood := { row := asmTextsRow, standIns := [], harness := (true, "252e8d06229f5e99e425dc40dd08fab9fc64cb4ce3369460ff8588e36a7cd652"), looks := false }, kinds := [], alts := [], laidByText := true, laidKinds := [.data, .listed, .data, .pinned], laidTests := true, laidLooks := .later }
def AsmTextsCardSaid : Prop := Claim7.holds Tryd.pinned (.plain (OpenSpec.ofChange asmTextsSpec)) asmTextsCard

/-- THE TIED CARD OF 'garrisonlaw17.AsmLong'. -/
def asmLongCard : Claim7 := { stood := { row := asmLongRow, standIns := [], harness := (true, "252e8d06229f5e99e425dc40dd08fab9fc64cb4ce3369460ff8588e36a7cd652"), looks := false }, kinds := [], alts := [], laidByText := true, laidKinds := [.data, .listed, .data, .pinned], laidTests := true, laidLooks := .later }
def AsmLongCardSaid : Prop := Claim7.holds Tryd.pinned (.plain (OpenSpec.ofChange asmLongSpec)) asmLongCard

/-- THE TIED CARD OF 'garrisonlaw17.AsmJumps'. -/
def asmJumpsCard : Claim7 := { stood := { row := asmJumpsRow, standIns := [], harness := (true, "252e8d06229f5e99e425dc40dd08fab9fc64cb4ce3369460ff8588e36a7cd652"), looks := false }, kinds := [], alts := [], laidByText := true, laidKinds := [.data, .listed, .data, .pinned], laidTests := true, laidLooks := .later }
def AsmJumpsCardSaid : Prop := Claim7.holds Tryd.pinned (.plain (OpenSpec.ofChange asmJumpsSpec)) asmJumpsCard

/-- THE TIED CARD OF 'garrisonlaw17.AsmLines'. -/
def asmLinesCard : Claim7 := { stood := { row := asmLinesRow, standIns := [], harness := (true, "252e8d06229f5e99e425dc40dd08fab9fc64cb4ce3369460ff8588e36a7cd652"), looks := false }, kinds := [], alts := [], laidByText := true, laidKinds := [.data, .listed, .data, .pinned], laidTests := true, laidLooks := .later }
def AsmLinesCardSaid : Prop := Claim7.holds Tryd.pinned (.plain (OpenSpec.ofChange asmLinesSpec)) asmLinesCard

/-- THE TIED CARD OF 'garrisonlaw17.AsmBack'. -/
def asmBackCard : Claim7 := { stood := { row := asmBackRow, standIns := [], harness := (true, "252e8d06229f5e99e425dc40dd08fab9fc64cb4ce3369460ff8588e36a7cd652"), looks := false }, kinds := [], alts := [], laidByText := true, laidKinds := [.data, .listed, .data, .pinned], laidTests := true, laidLooks := .later }
def AsmBackCardSaid : Prop := Claim7.holds Tryd.pinned (.plain (OpenSpec.ofChange asmBackSpec)) asmBackCard

/-- THE SECOND FORM's CARD OF 'garrisonlaw17.AsmTexts'. -/
def asmTextsUptoCard : Claim7 := { stood := { row := asmTextsUptoRow, standIns := [], harness := (true, "252e8d06229f5e99e425dc40dd08fab9fc64cb4ce3369460ff8588e36a7cd652"), looks := false }, kinds := [], alts := [], laidByText := true, laidKinds := [.data, .listed, .data, .pinned], laidTests := true, laidLooks := .later }
def AsmTextsUptoCardSaid : Prop := Claim7.holds Tryd.pinned (.plain (OpenSpec.upto asmTextsSpec)) asmTextsUptoCard

/-- THE SECOND FORM's CARD OF 'garrisonlaw17.AsmLong'. -/
def asmLongUptoCard : Claim7 := { stood := { row := asmLongUptoRow, standIns := [], harness := (true, "252e8d06229f5e99e425dc40dd08fab9fc64cb4ce3369460ff8588e36a7cd652"), looks := false }, kinds := [], alts := [], laidByText := true, laidKinds := [.data, .listed, .data, .pinned], laidTests := true, laidLooks := .later }
def AsmLongUptoCardSaid : Prop := Claim7.holds Tryd.pinned (.plain (OpenSpec.upto asmLongSpec)) asmLongUptoCard

/-- THE SECOND FORM's CARD OF 'garrisonlaw17.AsmJumps'. -/
def asmJumpsUptoCard : Claim7 := { stood := { row := asmJumpsUptoRow, standIns := [], harness := (true, "252e8d06229f5e99e425dc40dd08fab9fc64cb4ce3369460ff8588e36a7cd652"), looks := false }, kinds := [], alts := [], laidByText := true, laidKinds := [.data, .listed, .data, .pinned], laidTests := true, laidLooks := .later }
def AsmJumpsUptoCardSaid : Prop := Claim7.holds Tryd.pinned (.plain (OpenSpec.upto asmJumpsSpec)) asmJumpsUptoCard

/-- THE SECOND FORM's CARD OF 'garrisonlaw17.AsmLines'. -/
def asmLinesUptoCard : Claim7 := { stood := { row := asmLinesUptoRow, standIns := [], harness := (true, "252e8d06229f5e99e425dc40dd08fab9fc64cb4ce3369460ff8588e36a7cd652"), looks := false }, kinds := [], alts := [], laidByText := true, laidKinds := [.data, .listed, .data, .pinned], laidTests := true, laidLooks := .later }
def AsmLinesUptoCardSaid : Prop := Claim7.holds Tryd.pinned (.plain (OpenSpec.upto asmLinesSpec)) asmLinesUptoCard

/-- THE SECOND FORM's CARD OF 'garrisonlaw17.AsmBack'. -/
def asmBackUptoCard : Claim7 := { stood := { row := asmBackUptoRow, standIns := [], harness := (true, "252e8d06229f5e99e425dc40dd08fab9fc64cb4ce3369460ff8588e36a7cd652"), looks := false }, kinds := [], alts := [], laidByText := true, laidKinds := [.data, .listed, .data, .pinned], laidTests := true, laidLooks := .later }
def AsmBackUptoCardSaid : Prop := Claim7.holds Tryd.pinned (.plain (OpenSpec.upto asmBackSpec)) asmBackUptoCard
end Rows
end Go.Proofs.YtlaohefgofmfdaaDoor
