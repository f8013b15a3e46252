/-
  No cell of these rows narrows 'for every input' (looked for: loops, veiled, ifaces, maps, wideKeys, modest, calm, conditions, laid).
  DERIVED. THE GIVEN ROWS OF THIS SEAT. 3 by the template 'for every input the law returns true; each argument reads behind the call as it read before'; 0 by the template 'total and deterministic' (their statements: YtgmdfchkljaooaaGreatTotals.lean).
  GIVEN WITH THE SEED: the statements are not yours to turn. If you find one false, say at which input.
  Laid BY PROGRAM, IN A SANDBOX (cutbox-rows.mjs): the forced cells as the released guide's own fill.sh prints them over the translation 527b01fde5e9ccbf… (all of the seat's roots in one cut). By AI agents, Wed Nov 11 2026. No macro, syntax, notation, axiom, sorry.
-/
import Derived.Test.YtgmdfchkljaooaaGreatChecked
import GoSem.Claim
import GoSem.ClaimJoined
import GoSem.ClaimMapViews
import Derived.JoinedTies
import Derived.KernelRfl
namespace Go.Proofs.YtgmdfchkljaooaaGreat
/- THE CELL 'sum', in the pinned program and in every row, IS THE sha256 OF THE DUMP (.gsa) THAT YtgmdfchkljaooaaGreatProg.lean LOADS. Nothing in Lean hashes anything: it is a label: what it is worth is what the hold of that sum in a sandbox is worth. -/
noncomputable def Tryz.pinned : Pinned := { name := "ytgmdfchkljaooaagreat", sum := "527b01fde5e9ccbf540c80fb6f935bc269515aac444b5ee6a96bcb95f713b9a9", checked := Tryz.checked }
namespace Rows
def none {H : Type} : Left H := { results := [], args := [] }

/-- 'reparteelaw33.ObjectTells': WHATEVER THE INPUT: true; the input reads as it did. -/
def objectTellsSpec : ChangeSpec := { name := "objectTells", fn := fun _ => fun
  | [d1, d2, d3, d4, d5] => { results := [.lit (.bool true)], args := [d1, d2, d3, d4, d5] }
  | _ => none }
def objectTellsRow : OpenClaim := { program := "ytgmdfchkljaooaagreat", sum := "527b01fde5e9ccbf540c80fb6f935bc269515aac444b5ee6a96bcb95f713b9a9", func := "repartee/reparteelaw33.ObjectTells", spec := "objectTells", unfollowed := true, recurses := true, apart := false }
def ObjectTellsSaid : Prop := objectTellsRow.holds Tryz.pinned (OpenSpec.ofChange objectTellsSpec)

/-- ITS FALSE NEIGHBOUR: 'it returns false'. Refute it at one input. -/
def objectTellsWrong : ChangeSpec := { name := "objectTells", fn := fun _ => fun
  | [d1, d2, d3, d4, d5] => { results := [.lit (.bool false)], args := [d1, d2, d3, d4, d5] }
  | _ => none }
def ObjectTellsWrongFalsely : Prop := objectTellsRow.holds Tryz.pinned (OpenSpec.ofChange objectTellsWrong)

/-- 'reparteelaw33.ObjectReads': WHATEVER THE INPUT: true; the input reads as it did. -/
def objectReadsSpec : ChangeSpec := { name := "objectReads", fn := fun _ => fun
  | [d1, d2, d3, d4, d5, d6] => { results := [.lit (.bool true)], args := [d1, d2, d3, d4, d5, d6] }
  | _ => none }
def objectReadsRow : OpenClaim := { program := "ytgmdfchkljaooaagreat", sum := "527b01fde5e9ccbf540c80fb6f935bc269515aac444b5ee6a96bcb95f713b9a9", func := "repartee/reparteelaw33.ObjectReads", spec := "objectReads", unfollowed := true, recurses := true, apart := false }
def ObjectReadsSaid : Prop := objectReadsRow.holds Tryz.pinned (OpenSpec.ofChange objectReadsSpec)

/-- ITS FALSE NEIGHBOUR: 'it returns false'. Refute it at one input. -/
def objectReadsWrong : ChangeSpec := { name := "objectReads", fn := fun _ => fun
  | [d1, d2, d3, d4, d5, d6] => { results := [.lit (.bool false)], args := [d1, d2, d3, d4, d5, d6] }
  | _ => none }
def ObjectReadsWrongFalsely : Prop := objectReadsRow.holds Tryz.pinned (OpenSpec.ofChange objectReadsWrong)

/-- 'reparteelaw33.ObjectSpoilt': WHATEVER THE INPUT: true; the input reads as it did. -/
def objectSpoiltSpec : ChangeSpec := { name := "objectSpoilt", fn := fun _ => fun
  | [d1, d2, d3] => { results := [.lit (.bool true)], args := [d1, d2, d3] }
  | _ => none }
def objectSpoiltRow : OpenClaim := { program := "ytgmdfchkljaooaagreat", sum := "527b01fde5e9ccbf540c80fb6f935bc269515aac444b5ee6a96bcb95f713b9a9", func := "repartee/reparteelaw33.ObjectSpoilt", spec := "objectSpoilt", unfollowed := true, recurses := true, apart := false }
def ObjectSpoiltSaid : Prop := objectSpoiltRow.holds Tryz.pinned (OpenSpec.ofChange objectSpoiltSpec)

/-- ITS FALSE NEIGHBOUR: 'it returns false'. Refute it at one input. -/
def objectSpoiltWrong : ChangeSpec := { name := "objectSpoilt", fn := fun _ => fun
  | [d1, d2, d3] => { results := [.lit (.bool false)], args := [d1, d2, d3] }
  | _ => none }
def ObjectSpoiltWrongFalsely : Prop := objectSpoiltRow.holds Tryz.pinned (OpenSpec.ofChange objectSpoiltWrong)

/- THE SECOND FORM. 'bulk': how many values and letters a reading holds, each counted each time it is reached (what is shared counts as often as it is met; a slice's spare places count too). A statement '..UptoSaid' is the law's where the arguments, and the package variables that the reading takes, are together of bulk at most 1048576: NARROWER than '..Said'. Prove '..Said' where nothing that the law and all that it calls make is longer than what came in: it says more and counts as full. Else prove '..UptoSaid'. A law counts once. -/
mutual
def uptoBulk {H : Type} : DataW H → Nat
  | .lit (.string bytes) => bytes.length + 1
  | .lit _ => 1
  | .nil => 1
  | .ptr d => uptoBulk d + 1
  | .slice elems spare => uptoBulkAll elems + uptoBulkAll spare + 1
  | .agg parts => uptoBulkAll parts + 1
  | .iface _ d => uptoBulk d + 1
  | .map entries => uptoBulkEntries entries + 1
  | .held _ => 1
def uptoBulkAll {H : Type} : List (DataW H) → Nat
  | [] => 0
  | d :: r => uptoBulk d + uptoBulkAll r
def uptoBulkEntries {H : Type} : List (Lit × DataW H) → Nat
  | [] => 0
  | x :: r => uptoBulkEntry x + uptoBulkEntries r
def uptoBulkEntry {H : Type} : Lit × DataW H → Nat
  | (.string bytes, d) => bytes.length + uptoBulk d + 1
  | (_, d) => uptoBulk d + 1
 end
def uptoSmall : (H : Type) → List (DataW H) → Bool := fun _ ds => decide (uptoBulkAll ds ≤ 1048576)
def OpenSpec.upto (s : _root_.Go.ChangeSpec) : _root_.Go.OpenSpec := { _root_.Go.OpenSpec.ofChange s with cond := some uptoSmall }

/-- 'reparteelaw33.ObjectTells', WHERE WHAT IT READS IS OF BULK AT MOST 1048576: true; the input reads as it did. -/
def objectTellsUptoRow : OpenClaim := { program := "ytgmdfchkljaooaagreat", sum := "527b01fde5e9ccbf540c80fb6f935bc269515aac444b5ee6a96bcb95f713b9a9", func := "repartee/reparteelaw33.ObjectTells", spec := "objectTells", unfollowed := true, recurses := true, apart := false, narrowed := true }
def ObjectTellsUptoSaid : Prop := objectTellsUptoRow.holds Tryz.pinned (OpenSpec.upto objectTellsSpec)

/-- 'reparteelaw33.ObjectReads', WHERE WHAT IT READS IS OF BULK AT MOST 1048576: true; the input reads as it did. -/
def objectReadsUptoRow : OpenClaim := { program := "ytgmdfchkljaooaagreat", sum := "527b01fde5e9ccbf540c80fb6f935bc269515aac444b5ee6a96bcb95f713b9a9", func := "repartee/reparteelaw33.ObjectReads", spec := "objectReads", unfollowed := true, recurses := true, apart := false, narrowed := true }
def ObjectReadsUptoSaid : Prop := objectReadsUptoRow.holds Tryz.pinned (OpenSpec.upto objectReadsSpec)

/-- 'reparteelaw33.ObjectSpoilt', WHERE WHAT IT READS IS OF BULK AT MOST 1048576: true; the input reads as it did. -/
def objectSpoiltUptoRow : OpenClaim := { program := "ytgmdfchkljaooaagreat", sum := "527b01fde5e9ccbf540c80fb6f935bc269515aac444b5ee6a96bcb95f713b9a9", func := "repartee/reparteelaw33.ObjectSpoilt", spec := "objectSpoilt", unfollowed := true, recurses := true, apart := false, narrowed := true }
def ObjectSpoiltUptoSaid : Prop := objectSpoiltUptoRow.holds Tryz.pinned (OpenSpec.upto objectSpoiltSpec)

end Rows
end Go.Proofs.YtgmdfchkljaooaaGreat
