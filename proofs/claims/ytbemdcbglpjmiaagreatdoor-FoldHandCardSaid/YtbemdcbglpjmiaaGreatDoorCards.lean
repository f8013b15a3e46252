/-
  DERIVED. GIVEN WITH THE SEED: THE CARDS: each row of YtbemdcbglpjmiaaGreatDoorRows.lean that lists a variable, with what it lists TIED to the program's text (the seventh form; the later family's looks); each row that meets fmt, with fmt's text TOLD by the authors' own Lean function (tested against real Go, not proved from fmt's source: count such statements apart). THE CARD IS WHAT COUNTS. Prove the row's statement (the work); the ties are given (YtbemdcbglpjmiaaGreatDoorTie.lean); close each card by the builder's one call (the guide's Derived/Test/ToyasCard.lean, 'card_holds'). Laid BY PROGRAM, IN A SANDBOX (cutbox-door.mjs). By AI agents, Wed Nov 11 2026. No macro, syntax, notation, axiom, sorry.
-/
import Derived.Test.YtbemdcbglpjmiaaGreatDoorRows
import GoSem.ClaimSeven
namespace Go.Proofs.YtbemdcbglpjmiaaGreatDoor
namespace Rows

/-- THE TIED CARD OF 'reparteelaw30.FoldTells'. -/
def foldTellsCard : Claim7 := { stood := { row := foldTellsRow, standIns := [], harness := (true, "0d57b491f3e73d249302d31bf87a6f98c5fd5a1b7ce57057780ac51a66d5aab3"), looks := true }, kinds := [], alts := [], laidByText := true, laidKinds := [.data, .data, .data], laidTests := true, laidLooks := .later }
def FoldTellsCardSaid : Prop := Claim7.holds Tryz.pinned (.plain (OpenSpec.ofChange foldTellsSpec)) foldTellsCard

/-- THE TIED CARD OF 'reparteelaw30.FoldValues'. -/
def foldValuesCard : Claim7 := { stood := { row := foldValuesRow, standIns := [], harness := (true, "0d57b491f3e73d249302d31bf87a6f98c5fd5a1b7ce57057780ac51a66d5aab3"), looks := true }, kinds := [], alts := [], laidByText := true, laidKinds := [.data, .data, .data], laidTests := true, laidLooks := .later }
def FoldValuesCardSaid : Prop := Claim7.holds Tryz.pinned (.plain (OpenSpec.ofChange foldValuesSpec)) foldValuesCard

/-- THE TIED CARD OF 'reparteelaw30.FoldHand'. -/
def foldHandCard : Claim7 := { stood := { row := foldHandRow, standIns := [], harness := (true, "0d57b491f3e73d249302d31bf87a6f98c5fd5a1b7ce57057780ac51a66d5aab3"), looks := true }, kinds := [], alts := [], laidByText := true, laidKinds := [.data, .data, .data], laidTests := true, laidLooks := .later }
def FoldHandCardSaid : Prop := Claim7.holds Tryz.pinned (.plain (OpenSpec.ofChange foldHandSpec)) foldHandCard

/-- THE SECOND FORM's CARD OF 'reparteelaw30.FoldTells'. -/
def foldTellsUptoCard : Claim7 := { stood := { row := foldTellsUptoRow, standIns := [], harness := (true, "0d57b491f3e73d249302d31bf87a6f98c5fd5a1b7ce57057780ac51a66d5aab3"), looks := true }, kinds := [], alts := [], laidByText := true, laidKinds := [.data, .data, .data], laidTests := true, laidLooks := .later }
def FoldTellsUptoCardSaid : Prop := Claim7.holds Tryz.pinned (.plain (OpenSpec.upto foldTellsSpec)) foldTellsUptoCard

/-- THE SECOND FORM's CARD OF 'reparteelaw30.FoldValues'. -/
def foldValuesUptoCard : Claim7 := { stood := { row := foldValuesUptoRow, standIns := [], harness := (true, "0d57b491f3e73d249302d31bf87a6f98c5fd5a1b7ce57057780ac51a66d5aab3"), looks := true }, kinds := [], alts := [], laidByText := true, laidKinds := [.data, .data, .data], laidTests := true, laidLooks := .later }
def FoldValuesUptoCardSaid : Prop := Claim7.holds Tryz.pinned (.plain (OpenSpec.upto foldValuesSpec)) foldValuesUptoCard

/-- THE SECOND FORM's CARD OF 'reparteelaw30.FoldHand'. -/
def foldHandUptoCard : Claim7 := { stood := { row := foldHandUptoRow, standIns := [], harness := (true, "0d57b491f3e73d249302d31bf87a6f98c5fd5a1b7ce57057780ac51a66d5aab3"), looks := true }, kinds := [], alts := [], laidByText := true, laidKinds := [.data, .data, .data], laidTests := true, laidLooks := .later }
def FoldHandUptoCardSaid : Prop := Claim7.holds Tryz.pinned (.plain (OpenSpec.upto foldHandSpec)) foldHandUptoCard
end Rows
end Go.Proofs.YtbemdcbglpjmiaaGreatDoor
