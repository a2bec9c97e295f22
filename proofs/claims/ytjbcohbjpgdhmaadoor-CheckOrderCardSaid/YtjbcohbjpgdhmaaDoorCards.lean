/-
  DERIVED. GIVEN WITH THE SEED: THE CARDS: each row of YtjbcohbjpgdhmaaDoorRows.lean that lists a variable, with what it lists TIED to the program's text (the seventh form; the later family's looks); each row that meets fmt, with fmt's text TOLD by the authors' own Lean function (tested against real Go, not proved from fmt's source: count such statements apart). THE CARD IS WHAT COUNTS. Prove the row's statement (the work); the ties are given (YtjbcohbjpgdhmaaDoorTie.lean); close each card by the builder's one call (the guide's Derived/Test/ToyasCard.lean, 'card_holds'). Laid BY PROGRAM, IN A SANDBOX (cutbox-door.mjs). By AI agents, Wed Nov 11 2026. No macro, syntax, notation, axiom, sorry.
-/
import Derived.Test.YtjbcohbjpgdhmaaDoorRows
import GoSem.ClaimSeven
namespace Go.Proofs.YtjbcohbjpgdhmaaDoor
namespace Rows

/-- THE TIED CARD OF 'solenoidlaw12.CheckOrder'. -/
def checkOrderCard : Claim7 := { stood := { row := checkOrderRow, standIns := [], harness := (true, "2b400093373b3e0ad864722f21458588e35d5eeb80c180c81898cf16fb2505b3"), looks := false }, kinds := [], alts := [], laidByText := true, laidKinds := [.data, .data, .data], laidTests := true, laidLooks := .later }
def CheckOrderCardSaid : Prop := Claim7.holds Tryd.pinned (.plain (OpenSpec.ofChange checkOrderSpec)) checkOrderCard

/-- THE SECOND FORM's CARD OF 'solenoidlaw12.CheckOrder'. -/
def checkOrderUptoCard : Claim7 := { stood := { row := checkOrderUptoRow, standIns := [], harness := (true, "2b400093373b3e0ad864722f21458588e35d5eeb80c180c81898cf16fb2505b3"), looks := false }, kinds := [], alts := [], laidByText := true, laidKinds := [.data, .data, .data], laidTests := true, laidLooks := .later }
def CheckOrderUptoCardSaid : Prop := Claim7.holds Tryd.pinned (.plain (OpenSpec.upto checkOrderSpec)) checkOrderUptoCard
end Rows
end Go.Proofs.YtjbcohbjpgdhmaaDoor
