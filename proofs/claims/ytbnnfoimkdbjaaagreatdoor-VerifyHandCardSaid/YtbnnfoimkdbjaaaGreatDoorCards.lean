/-
  DERIVED. GIVEN WITH THE SEED: THE CARDS: each row of YtbnnfoimkdbjaaaGreatDoorRows.lean that lists a variable, with what it lists TIED to the program's text (the seventh form; the later family's looks); each row that meets fmt, with fmt's text TOLD by the authors' own Lean function (tested against real Go, not proved from fmt's source: count such statements apart). THE CARD IS WHAT COUNTS. Prove the row's statement (the work); the ties are given (YtbnnfoimkdbjaaaGreatDoorTie.lean); close each card by the builder's one call (the guide's Derived/Test/ToyasCard.lean, 'card_holds'). Laid BY PROGRAM, IN A SANDBOX (cutbox-door.mjs). By AI agents, Wed Nov 11 2026. No macro, syntax, notation, axiom, sorry.
-/
import Derived.Test.YtbnnfoimkdbjaaaGreatDoorRows
import GoSem.ClaimSeven
namespace Go.Proofs.YtbnnfoimkdbjaaaGreatDoor
namespace Rows

/-- THE TIED CARD OF 'reparteelaw34.VerifyHand'. -/
def verifyHandCard : Claim7 := { stood := { row := verifyHandRow, standIns := [], harness := (true, "61c91fab193ba69c32987ca38e2b4af37bf911b990fb50ef17b6c8ab8116cbf0"), looks := false }, kinds := [], alts := [], laidByText := true, laidKinds := [.data, .data, .data, .data], laidTests := true, laidLooks := .later }
def VerifyHandCardSaid : Prop := Claim7.holds Tryz.pinned (.plain (OpenSpec.ofChange verifyHandSpec)) verifyHandCard

/-- THE SECOND FORM's CARD OF 'reparteelaw34.VerifyHand'. -/
def verifyHandUptoCard : Claim7 := { stood := { row := verifyHandUptoRow, standIns := [], harness := (true, "61c91fab193ba69c32987ca38e2b4af37bf911b990fb50ef17b6c8ab8116cbf0"), looks := false }, kinds := [], alts := [], laidByText := true, laidKinds := [.data, .data, .data, .data], laidTests := true, laidLooks := .later }
def VerifyHandUptoCardSaid : Prop := Claim7.holds Tryz.pinned (.plain (OpenSpec.upto verifyHandSpec)) verifyHandUptoCard
end Rows
end Go.Proofs.YtbnnfoimkdbjaaaGreatDoor
