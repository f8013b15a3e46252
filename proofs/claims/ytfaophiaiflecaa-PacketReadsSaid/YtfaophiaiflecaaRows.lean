/-
  No cell of these rows narrows 'for every input' (looked for: loops, veiled, ifaces, maps, wideKeys, modest, calm, conditions, laid).
  DERIVED. THE GIVEN ROWS OF THIS SEAT. 4 by the template 'for every input the law returns true; each argument reads behind the call as it read before'; 0 by the template 'total and deterministic' (their statements: YtfaophiaiflecaaTotals.lean).
  GIVEN WITH THE SEED: the statements are not yours to turn. If you find one false, say at which input.
  Laid BY PROGRAM, IN A SANDBOX (cutbox-rows.mjs): the forced cells as the released guide's own fill.sh prints them over the translation aea7286d218a533f… (all of the seat's roots in one cut). By AI agents, Wed Nov 11 2026. No macro, syntax, notation, axiom, sorry.
-/
import Derived.Test.YtfaophiaiflecaaChecked
import GoSem.Claim
import GoSem.ClaimJoined
import GoSem.ClaimMapViews
import Derived.JoinedTies
import Derived.KernelRfl
namespace Go.Proofs.Ytfaophiaiflecaa
/- THE CELL 'sum', in the pinned program and in every row, IS THE sha256 OF THE DUMP (.gsa) THAT YtfaophiaiflecaaProg.lean LOADS. Nothing in Lean hashes anything: it is a label: what it is worth is what the hold of that sum in a sandbox is worth. -/
noncomputable def Try.pinned : Pinned := { name := "ytfaophiaiflecaa", sum := "aea7286d218a533fce6dcd43c7a7d88e5fcbc103ca55a129caf32eb665f988ae", checked := Try.checked }
namespace Rows
def none {H : Type} : Left H := { results := [], args := [] }

/-- 'reparteelaw38.PacketFrames': WHATEVER THE INPUT: true; the input reads as it did. -/
def packetFramesSpec : ChangeSpec := { name := "packetFrames", fn := fun _ => fun
  | [d1, d2] => { results := [.lit (.bool true)], args := [d1, d2] }
  | _ => none }
def packetFramesRow : OpenClaim := { program := "ytfaophiaiflecaa", sum := "aea7286d218a533fce6dcd43c7a7d88e5fcbc103ca55a129caf32eb665f988ae", func := "repartee/reparteelaw38.PacketFrames", spec := "packetFrames", unfollowed := true, recurses := true, apart := false }
def PacketFramesSaid : Prop := packetFramesRow.holds Try.pinned (OpenSpec.ofChange packetFramesSpec)

/-- ITS FALSE NEIGHBOUR: 'it returns false'. Refute it at one input. -/
def packetFramesWrong : ChangeSpec := { name := "packetFrames", fn := fun _ => fun
  | [d1, d2] => { results := [.lit (.bool false)], args := [d1, d2] }
  | _ => none }
def PacketFramesWrongFalsely : Prop := packetFramesRow.holds Try.pinned (OpenSpec.ofChange packetFramesWrong)

/-- 'reparteelaw38.PacketSpoilt': WHATEVER THE INPUT: true; the input reads as it did. -/
def packetSpoiltSpec : ChangeSpec := { name := "packetSpoilt", fn := fun _ => fun
  | [d1, d2] => { results := [.lit (.bool true)], args := [d1, d2] }
  | _ => none }
def packetSpoiltRow : OpenClaim := { program := "ytfaophiaiflecaa", sum := "aea7286d218a533fce6dcd43c7a7d88e5fcbc103ca55a129caf32eb665f988ae", func := "repartee/reparteelaw38.PacketSpoilt", spec := "packetSpoilt", unfollowed := true, recurses := true, apart := false }
def PacketSpoiltSaid : Prop := packetSpoiltRow.holds Try.pinned (OpenSpec.ofChange packetSpoiltSpec)

/-- ITS FALSE NEIGHBOUR: 'it returns false'. Refute it at one input. -/
def packetSpoiltWrong : ChangeSpec := { name := "packetSpoilt", fn := fun _ => fun
  | [d1, d2] => { results := [.lit (.bool false)], args := [d1, d2] }
  | _ => none }
def PacketSpoiltWrongFalsely : Prop := packetSpoiltRow.holds Try.pinned (OpenSpec.ofChange packetSpoiltWrong)

/-- 'reparteelaw38.PacketNotes': WHATEVER THE INPUT: true; the input reads as it did. -/
def packetNotesSpec : ChangeSpec := { name := "packetNotes", fn := fun _ => fun
  | [d1, d2, d3, d4] => { results := [.lit (.bool true)], args := [d1, d2, d3, d4] }
  | _ => none }
def packetNotesRow : OpenClaim := { program := "ytfaophiaiflecaa", sum := "aea7286d218a533fce6dcd43c7a7d88e5fcbc103ca55a129caf32eb665f988ae", func := "repartee/reparteelaw38.PacketNotes", spec := "packetNotes", unfollowed := true, recurses := true, apart := false }
def PacketNotesSaid : Prop := packetNotesRow.holds Try.pinned (OpenSpec.ofChange packetNotesSpec)

/-- ITS FALSE NEIGHBOUR: 'it returns false'. Refute it at one input. -/
def packetNotesWrong : ChangeSpec := { name := "packetNotes", fn := fun _ => fun
  | [d1, d2, d3, d4] => { results := [.lit (.bool false)], args := [d1, d2, d3, d4] }
  | _ => none }
def PacketNotesWrongFalsely : Prop := packetNotesRow.holds Try.pinned (OpenSpec.ofChange packetNotesWrong)

/-- 'reparteelaw38.PacketReads': WHATEVER THE INPUT: true; the input reads as it did. -/
def packetReadsSpec : ChangeSpec := { name := "packetReads", fn := fun _ => fun
  | [d1, d2, d3, d4, d5, d6, d7] => { results := [.lit (.bool true)], args := [d1, d2, d3, d4, d5, d6, d7] }
  | _ => none }
def packetReadsRow : OpenClaim := { program := "ytfaophiaiflecaa", sum := "aea7286d218a533fce6dcd43c7a7d88e5fcbc103ca55a129caf32eb665f988ae", func := "repartee/reparteelaw38.PacketReads", spec := "packetReads", unfollowed := true, recurses := true, apart := false }
def PacketReadsSaid : Prop := packetReadsRow.holds Try.pinned (OpenSpec.ofChange packetReadsSpec)

/-- ITS FALSE NEIGHBOUR: 'it returns false'. Refute it at one input. -/
def packetReadsWrong : ChangeSpec := { name := "packetReads", fn := fun _ => fun
  | [d1, d2, d3, d4, d5, d6, d7] => { results := [.lit (.bool false)], args := [d1, d2, d3, d4, d5, d6, d7] }
  | _ => none }
def PacketReadsWrongFalsely : Prop := packetReadsRow.holds Try.pinned (OpenSpec.ofChange packetReadsWrong)

/- THE SECOND FORM. 'bulk': how many values and letters a reading holds, each counted each time it is reached (what is shared counts as often as it is met; a slice's spare places count too). A statement '..UptoSaid' is the law's where the arguments, and the package variables that the reading takes, are together of bulk at most 1048576: NARROWER than '..Said'. Prove '..Said' where nothing that the law and all that it calls make is longer than what came in: it says more and counts as full. Else prove '..UptoSaid'. A law counts once. -/
mutual
def uptoBulk {H : Type} : DataW H → Nat
  | .lit (.string bytes) => bytes.length + 1
  | .lit _ => 1
  | .nil => 1
  | .ptr d => uptoBulk d + 1
  | .slice elems spare => uptoBulkAll elems + uptoBulkAll spare + 1
  | .agg parts => uptoBulkAll parts + 1
  | .iface _ d => uptoBulk d + 1
  | .map entries => uptoBulkEntries entries + 1
  | .held _ => 1
def uptoBulkAll {H : Type} : List (DataW H) → Nat
  | [] => 0
  | d :: r => uptoBulk d + uptoBulkAll r
def uptoBulkEntries {H : Type} : List (Lit × DataW H) → Nat
  | [] => 0
  | x :: r => uptoBulkEntry x + uptoBulkEntries r
def uptoBulkEntry {H : Type} : Lit × DataW H → Nat
  | (.string bytes, d) => bytes.length + uptoBulk d + 1
  | (_, d) => uptoBulk d + 1
 end
def uptoSmall : (H : Type) → List (DataW H) → Bool := fun _ ds => decide (uptoBulkAll ds ≤ 1048576)
def OpenSpec.upto (s : _root_.Go.ChangeSpec) : _root_.Go.OpenSpec := { _root_.Go.OpenSpec.ofChange s with cond := some uptoSmall }

/-- 'reparteelaw38.PacketFrames', WHERE WHAT IT READS IS OF BULK AT MOST 1048576: true; the input reads as it did. -/
def packetFramesUptoRow : OpenClaim := { program := "ytfaophiaiflecaa", sum := "aea7286d218a533fce6dcd43c7a7d88e5fcbc103ca55a129caf32eb665f988ae", func := "repartee/reparteelaw38.PacketFrames", spec := "packetFrames", unfollowed := true, recurses := true, apart := false, narrowed := true }
def PacketFramesUptoSaid : Prop := packetFramesUptoRow.holds Try.pinned (OpenSpec.upto packetFramesSpec)

/-- 'reparteelaw38.PacketSpoilt', WHERE WHAT IT READS IS OF BULK AT MOST 1048576: true; the input reads as it did. -/
def packetSpoiltUptoRow : OpenClaim := { program := "ytfaophiaiflecaa", sum := "aea7286d218a533fce6dcd43c7a7d88e5fcbc103ca55a129caf32eb665f988ae", func := "repartee/reparteelaw38.PacketSpoilt", spec := "packetSpoilt", unfollowed := true, recurses := true, apart := false, narrowed := true }
def PacketSpoiltUptoSaid : Prop := packetSpoiltUptoRow.holds Try.pinned (OpenSpec.upto packetSpoiltSpec)

/-- 'reparteelaw38.PacketNotes', WHERE WHAT IT READS IS OF BULK AT MOST 1048576: true; the input reads as it did. -/
def packetNotesUptoRow : OpenClaim := { program := "ytfaophiaiflecaa", sum := "aea7286d218a533fce6dcd43c7a7d88e5fcbc103ca55a129caf32eb665f988ae", func := "repartee/reparteelaw38.PacketNotes", spec := "packetNotes", unfollowed := true, recurses := true, apart := false, narrowed := true }
def PacketNotesUptoSaid : Prop := packetNotesUptoRow.holds Try.pinned (OpenSpec.upto packetNotesSpec)

/-- 'reparteelaw38.PacketReads', WHERE WHAT IT READS IS OF BULK AT MOST 1048576: true; the input reads as it did. -/
def packetReadsUptoRow : OpenClaim := { program := "ytfaophiaiflecaa", sum := "aea7286d218a533fce6dcd43c7a7d88e5fcbc103ca55a129caf32eb665f988ae", func := "repartee/reparteelaw38.PacketReads", spec := "packetReads", unfollowed := true, recurses := true, apart := false, narrowed := true }
def PacketReadsUptoSaid : Prop := packetReadsUptoRow.holds Try.pinned (OpenSpec.upto packetReadsSpec)

end Rows
end Go.Proofs.Ytfaophiaiflecaa
