/-
  DERIVED. GIVEN WITH THE SEED: THE CARDS: each row of YtgnpkjfaekimcaaDoorRows.lean that lists a variable, with what it lists TIED to the program's text (the seventh form; the later family's looks); each row that meets fmt, with fmt's text TOLD by the authors' own Lean function (tested against real Go, not proved from fmt's source: count such statements apart). THE CARD IS WHAT COUNTS. Prove the row's statement (the work); the ties are given (YtgnpkjfaekimcaaDoorTie.lean); close each card by the builder's one call (the guide's Derived/Test/ToyasCard.lean, 'card_holds'). Laid BY PROGRAM, IN A SANDBOX (cutbox-door.mjs). By AI agents, Wed Nov 11 2026. No macro, syntax, notation, axiom, sorry.
-/
import Derived.Test.YtgnpkjfaekimcaaDoorRows
import GoSem.ClaimSeven
namespace Go.Proofs.YtgnpkjfaekimcaaDoor
namespace Rows

/-- THE TIED CARD OF 'solenoidlaw12.CheckHeights'. -/
def checkHeightsCard : Claim7 := { stood := { row := checkHeightsRow, standIns := [], harness := (true, "c154dbfda8be883948e1bfe1df1a046ae6208d7ac78f7958703d7fa8b9dd8b14"), looks := false }, kinds := [], alts := [], laidByText := true, laidKinds := [.data, .data, .data], laidTests := true, laidLooks := .later }
def CheckHeightsCardSaid : Prop := Claim7.holds Tryd.pinned (.plain (OpenSpec.ofChange checkHeightsSpec)) checkHeightsCard

/-- THE TIED CARD OF 'solenoidlaw12.CheckJoins'. -/
def checkJoinsCard : Claim7 := { stood := { row := checkJoinsRow, standIns := [], harness := (true, "c154dbfda8be883948e1bfe1df1a046ae6208d7ac78f7958703d7fa8b9dd8b14"), looks := false }, kinds := [], alts := [], laidByText := true, laidKinds := [.data, .data, .data], laidTests := true, laidLooks := .later }
def CheckJoinsCardSaid : Prop := Claim7.holds Tryd.pinned (.plain (OpenSpec.ofChange checkJoinsSpec)) checkJoinsCard

/-- THE TIED CARD OF 'solenoidlaw12.CheckJumps'. -/
def checkJumpsCard : Claim7 := { stood := { row := checkJumpsRow, standIns := [], harness := (true, "c154dbfda8be883948e1bfe1df1a046ae6208d7ac78f7958703d7fa8b9dd8b14"), looks := false }, kinds := [], alts := [], laidByText := true, laidKinds := [.data, .data, .data], laidTests := true, laidLooks := .later }
def CheckJumpsCardSaid : Prop := Claim7.holds Tryd.pinned (.plain (OpenSpec.ofChange checkJumpsSpec)) checkJumpsCard

/-- THE TIED CARD OF 'solenoidlaw12.CheckBears'. -/
def checkBearsCard : Claim7 := { stood := { row := checkBearsRow, standIns := [], harness := (true, "c154dbfda8be883948e1bfe1df1a046ae6208d7ac78f7958703d7fa8b9dd8b14"), looks := false }, kinds := [], alts := [], laidByText := true, laidKinds := [.data, .data, .data], laidTests := true, laidLooks := .later }
def CheckBearsCardSaid : Prop := Claim7.holds Tryd.pinned (.plain (OpenSpec.ofChange checkBearsSpec)) checkBearsCard

/-- THE TIED CARD OF 'solenoidlaw12.CheckPushes'. -/
def checkPushesCard : Claim7 := { stood := { row := checkPushesRow, standIns := [], harness := (true, "c154dbfda8be883948e1bfe1df1a046ae6208d7ac78f7958703d7fa8b9dd8b14"), looks := false }, kinds := [], alts := [], laidByText := true, laidKinds := [.data, .data, .data], laidTests := true, laidLooks := .later }
def CheckPushesCardSaid : Prop := Claim7.holds Tryd.pinned (.plain (OpenSpec.ofChange checkPushesSpec)) checkPushesCard

/-- THE TIED CARD OF 'solenoidlaw12.CheckNone'. -/
def checkNoneCard : Claim7 := { stood := { row := checkNoneRow, standIns := [], harness := (true, "c154dbfda8be883948e1bfe1df1a046ae6208d7ac78f7958703d7fa8b9dd8b14"), looks := false }, kinds := [], alts := [], laidByText := true, laidKinds := [.data, .data, .data], laidTests := true, laidLooks := .later }
def CheckNoneCardSaid : Prop := Claim7.holds Tryd.pinned (.plain (OpenSpec.ofChange checkNoneSpec)) checkNoneCard

/-- THE SECOND FORM's CARD OF 'solenoidlaw12.CheckHeights'. -/
def checkHeightsUptoCard : Claim7 := { stood := { row := checkHeightsUptoRow, standIns := [], harness := (true, "c154dbfda8be883948e1bfe1df1a046ae6208d7ac78f7958703d7fa8b9dd8b14"), looks := false }, kinds := [], alts := [], laidByText := true, laidKinds := [.data, .data, .data], laidTests := true, laidLooks := .later }
def CheckHeightsUptoCardSaid : Prop := Claim7.holds Tryd.pinned (.plain (OpenSpec.upto checkHeightsSpec)) checkHeightsUptoCard

/-- THE SECOND FORM's CARD OF 'solenoidlaw12.CheckJoins'. -/
def checkJoinsUptoCard : Claim7 := { stood := { row := checkJoinsUptoRow, standIns := [], harness := (true, "c154dbfda8be883948e1bfe1df1a046ae6208d7ac78f7958703d7fa8b9dd8b14"), looks := false }, kinds := [], alts := [], laidByText := true, laidKinds := [.data, .data, .data], laidTests := true, laidLooks := .later }
def CheckJoinsUptoCardSaid : Prop := Claim7.holds Tryd.pinned (.plain (OpenSpec.upto checkJoinsSpec)) checkJoinsUptoCard

/-- THE SECOND FORM's CARD OF 'solenoidlaw12.CheckJumps'. -/
def checkJumpsUptoCard : Claim7 := { stood := { row := checkJumpsUptoRow, standIns := [], harness := (true, "c154dbfda8be883948e1bfe1df1a046ae6208d7ac78f7958703d7fa8b9dd8b14"), looks := false }, kinds := [], alts := [], laidByText := true, laidKinds := [.data, .data, .data], laidTests := true, laidLooks := .later }
def CheckJumpsUptoCardSaid : Prop := Claim7.holds Tryd.pinned (.plain (OpenSpec.upto checkJumpsSpec)) checkJumpsUptoCard

/-- THE SECOND FORM's CARD OF 'solenoidlaw12.CheckBears'. -/
def checkBearsUptoCard : Claim7 := { stood := { row := checkBearsUptoRow, standIns := [], harness := (true, "c154dbfda8be883948e1bfe1df1a046ae6208d7ac78f7958703d7fa8b9dd8b14"), looks := false }, kinds := [], alts := [], laidByText := true, laidKinds := [.data, .data, .data], laidTests := true, laidLooks := .later }
def CheckBearsUptoCardSaid : Prop := Claim7.holds Tryd.pinned (.plain (OpenSpec.upto checkBearsSpec)) checkBearsUptoCard

/-- THE SECOND FORM's CARD OF 'solenoidlaw12.CheckPushes'. -/
def checkPushesUptoCard : Claim7 := { stood := { row := checkPushesUptoRow, standIns := [], harness := (true, "c154dbfda8be883948e1bfe1df1a046ae6208d7ac78f7958703d7fa8b9dd8b14"), looks := false }, kinds := [], alts := [], laidByText := true, laidKinds := [.data, .data, .data], laidTests := true, laidLooks := .later }
def CheckPushesUptoCardSaid : Prop := Claim7.holds Tryd.pinned (.plain (OpenSpec.upto checkPushesSpec)) checkPushesUptoCard

/-- THE SECOND FORM's CARD OF 'solenoidlaw12.CheckNone'. -/
def checkNoneUptoCard : Claim7 := { stood := { row := checkNoneUptoRow, standIns := [], harness := (true, "c154dbfda8be883948e1bfe1df1a046ae6208d7ac78f7958703d7fa8b9dd8b14"), looks := false }, kinds := [], alts := [], laidByText := true, laidKinds := [.data, .data, .data], laidTests := true, laidLooks := .later }
def CheckNoneUptoCardSaid : Prop := Claim7.holds Tryd.pinned (.plain (OpenSpec.upto checkNoneSpec)) checkNoneUptoCard
end Rows
end Go.Proofs.YtgnpkjfaekimcaaDoor
