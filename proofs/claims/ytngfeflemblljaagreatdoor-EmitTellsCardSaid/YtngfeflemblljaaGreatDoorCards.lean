/-
  DERIVED. GIVEN WITH THE SEED: THE CARDS: each row of YtngfeflemblljaaGreatDoorRows.lean that lists a variable, with what it lists TIED to the program's text (the seventh form; the later family's looks); each row that meets fmt, with fmt's text TOLD by the authors' own Lean function (tested against real Go, not proved from fmt's source: count such statements apart). THE CARD IS WHAT COUNTS. Prove the row's statement (the work); the ties are given (YtngfeflemblljaaGreatDoorTie.lean); close each card by the builder's one call (the guide's Derived/Test/ToyasCard.lean, 'card_holds'). Laid BY PROGRAM, IN A SANDBOX (cutbox-door.mjs). By AI agents, Wed Nov 11 2026. No macro, syntax, notation, axiom, sorry.
-/
import Derived.Test.YtngfeflemblljaaGreatDoorRows
import GoSem.ClaimSeven
namespace Go.Proofs.YtngfeflemblljaaGreatDoor
namespace Rows

/-- THE TIED CARD OF 'reparteelaw32.EmitTells'. -/
def emitTellsCard : Claim7 := { stood := { row := emitTellsRow, standIns := [], harness := (true, "d39441b38d925fafbc8747a86d8458d8fc85d4411a71b37e7509b63fc33d9a2e"), looks := false }, kinds := [], alts := [], laidByText := true, laidKinds := [.data, .data, .data], laidTests := true, laidLooks := .later }
def EmitTellsCardSaid : Prop := Claim7.holds Tryz.pinned (.plain (OpenSpec.ofChange emitTellsSpec)) emitTellsCard

/-- THE SECOND FORM's CARD OF 'reparteelaw32.EmitTells'. -/
def emitTellsUptoCard : Claim7 := { stood := { row := emitTellsUptoRow, standIns := [], harness := (true, "d39441b38d925fafbc8747a86d8458d8fc85d4411a71b37e7509b63fc33d9a2e"), looks := false }, kinds := [], alts := [], laidByText := true, laidKinds := [.data, .data, .data], laidTests := true, laidLooks := .later }
def EmitTellsUptoCardSaid : Prop := Claim7.holds Tryz.pinned (.plain (OpenSpec.upto emitTellsSpec)) emitTellsUptoCard
end Rows
end Go.Proofs.YtngfeflemblljaaGreatDoor
