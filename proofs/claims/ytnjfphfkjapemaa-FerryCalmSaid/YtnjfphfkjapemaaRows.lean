/-
  No cell of these rows narrows 'for every input' (looked for: loops, veiled, ifaces, maps, wideKeys, modest, calm, conditions, laid).
  DERIVED. THE GIVEN ROWS OF THIS SEAT. 4 by the template 'for every input the law returns true; each argument reads behind the call as it read before'; 0 by the template 'total and deterministic' (their statements: YtnjfphfkjapemaaTotals.lean).
  GIVEN WITH THE SEED: the statements are not yours to turn. If you find one false, say at which input.
  Laid BY PROGRAM, IN A SANDBOX (cutbox-rows.mjs): the forced cells as the released guide's own fill.sh prints them over the translation 284be0c5c651bc75… (all of the seat's roots in one cut). By AI agents, Wed Nov 11 2026. No macro, syntax, notation, axiom, sorry.
-/
import Derived.Test.YtnjfphfkjapemaaChecked
import GoSem.Claim
import GoSem.ClaimJoined
import GoSem.ClaimMapViews
import Derived.JoinedTies
import Derived.KernelRfl
namespace Go.Proofs.Ytnjfphfkjapemaa
/- THE CELL 'sum', in the pinned program and in every row, IS THE sha256 OF THE DUMP (.gsa) THAT YtnjfphfkjapemaaProg.lean LOADS. Nothing in Lean hashes anything: it is a label: what it is worth is what the hold of that sum in a sandbox is worth. -/
noncomputable def Try.pinned : Pinned := { name := "ytnjfphfkjapemaa", sum := "284be0c5c651bc7567e9a42ddfc6099c2e66791a3a99dd4489376733c824a328", checked := Try.checked }
namespace Rows
def none {H : Type} : Left H := { results := [], args := [] }

/-- 'reparteelaw40.FerryTells': WHATEVER THE INPUT: true; the input reads as it did. -/
def ferryTellsSpec : ChangeSpec := { name := "ferryTells", fn := fun _ => fun
  | [d1, d2, d3, d4, d5, d6] => { results := [.lit (.bool true)], args := [d1, d2, d3, d4, d5, d6] }
  | _ => none }
def ferryTellsRow : OpenClaim := { program := "ytnjfphfkjapemaa", sum := "284be0c5c651bc7567e9a42ddfc6099c2e66791a3a99dd4489376733c824a328", func := "repartee/reparteelaw40.FerryTells", spec := "ferryTells", apart := false }
def FerryTellsSaid : Prop := ferryTellsRow.holds Try.pinned (OpenSpec.ofChange ferryTellsSpec)

/-- ITS FALSE NEIGHBOUR: 'it returns false'. Refute it at one input. -/
def ferryTellsWrong : ChangeSpec := { name := "ferryTells", fn := fun _ => fun
  | [d1, d2, d3, d4, d5, d6] => { results := [.lit (.bool false)], args := [d1, d2, d3, d4, d5, d6] }
  | _ => none }
def FerryTellsWrongFalsely : Prop := ferryTellsRow.holds Try.pinned (OpenSpec.ofChange ferryTellsWrong)

/-- 'reparteelaw40.FerryOrder': WHATEVER THE INPUT: true; the input reads as it did. -/
def ferryOrderSpec : ChangeSpec := { name := "ferryOrder", fn := fun _ => fun
  | [d] => { results := [.lit (.bool true)], args := [d] }
  | _ => none }
def ferryOrderRow : OpenClaim := { program := "ytnjfphfkjapemaa", sum := "284be0c5c651bc7567e9a42ddfc6099c2e66791a3a99dd4489376733c824a328", func := "repartee/reparteelaw40.FerryOrder", spec := "ferryOrder", apart := false }
def FerryOrderSaid : Prop := ferryOrderRow.holds Try.pinned (OpenSpec.ofChange ferryOrderSpec)

/-- ITS FALSE NEIGHBOUR: 'it returns false'. Refute it at one input. -/
def ferryOrderWrong : ChangeSpec := { name := "ferryOrder", fn := fun _ => fun
  | [d] => { results := [.lit (.bool false)], args := [d] }
  | _ => none }
def FerryOrderWrongFalsely : Prop := ferryOrderRow.holds Try.pinned (OpenSpec.ofChange ferryOrderWrong)

/-- 'reparteelaw40.FerryCalm': WHATEVER THE INPUT: true; the input reads as it did. -/
def ferryCalmSpec : ChangeSpec := { name := "ferryCalm", fn := fun _ => fun
  | [d] => { results := [.lit (.bool true)], args := [d] }
  | _ => none }
def ferryCalmRow : OpenClaim := { program := "ytnjfphfkjapemaa", sum := "284be0c5c651bc7567e9a42ddfc6099c2e66791a3a99dd4489376733c824a328", func := "repartee/reparteelaw40.FerryCalm", spec := "ferryCalm", apart := false }
def FerryCalmSaid : Prop := ferryCalmRow.holds Try.pinned (OpenSpec.ofChange ferryCalmSpec)

/-- ITS FALSE NEIGHBOUR: 'it returns false'. Refute it at one input. -/
def ferryCalmWrong : ChangeSpec := { name := "ferryCalm", fn := fun _ => fun
  | [d] => { results := [.lit (.bool false)], args := [d] }
  | _ => none }
def FerryCalmWrongFalsely : Prop := ferryCalmRow.holds Try.pinned (OpenSpec.ofChange ferryCalmWrong)

/-- 'reparteelaw40.FerryOnce': WHATEVER THE INPUT: true; the input reads as it did. -/
def ferryOnceSpec : ChangeSpec := { name := "ferryOnce", fn := fun _ => fun
  | [d1, d2] => { results := [.lit (.bool true)], args := [d1, d2] }
  | _ => none }
def ferryOnceRow : OpenClaim := { program := "ytnjfphfkjapemaa", sum := "284be0c5c651bc7567e9a42ddfc6099c2e66791a3a99dd4489376733c824a328", func := "repartee/reparteelaw40.FerryOnce", spec := "ferryOnce", apart := false }
def FerryOnceSaid : Prop := ferryOnceRow.holds Try.pinned (OpenSpec.ofChange ferryOnceSpec)

/-- ITS FALSE NEIGHBOUR: 'it returns false'. Refute it at one input. -/
def ferryOnceWrong : ChangeSpec := { name := "ferryOnce", fn := fun _ => fun
  | [d1, d2] => { results := [.lit (.bool false)], args := [d1, d2] }
  | _ => none }
def FerryOnceWrongFalsely : Prop := ferryOnceRow.holds Try.pinned (OpenSpec.ofChange ferryOnceWrong)

/- THE SECOND FORM. 'bulk': how many values and letters a reading holds, each counted each time it is reached (what is shared counts as often as it is met; a slice's spare places count too). A statement '..UptoSaid' is the law's where the arguments, and the package variables that the reading takes, are together of bulk at most 1048576: NARROWER than '..Said'. Prove '..Said' where nothing that the law and all that it calls make is longer than what came in: it says more and counts as full. Else prove '..UptoSaid'. A law counts once. -/
mutual
def uptoBulk {H : Type} : DataW H → Nat
  | .lit (.string bytes) => bytes.length + 1
  | .lit _ => 1
  | .nil => 1
  | .ptr d => uptoBulk d + 1
  | .slice elems spare => uptoBulkAll elems + uptoBulkAll spare + 1
  | .agg parts => uptoBulkAll parts + 1
  | .iface _ d => uptoBulk d + 1
  | .map entries => uptoBulkEntries entries + 1
  | .held _ => 1
def uptoBulkAll {H : Type} : List (DataW H) → Nat
  | [] => 0
  | d :: r => uptoBulk d + uptoBulkAll r
def uptoBulkEntries {H : Type} : List (Lit × DataW H) → Nat
  | [] => 0
  | x :: r => uptoBulkEntry x + uptoBulkEntries r
def uptoBulkEntry {H : Type} : Lit × DataW H → Nat
  | (.string bytes, d) => bytes.length + uptoBulk d + 1
  | (_, d) => uptoBulk d + 1
 end
def uptoSmall : (H : Type) → List (DataW H) → Bool := fun _ ds => decide (uptoBulkAll ds ≤ 1048576)
def OpenSpec.upto (s : _root_.Go.ChangeSpec) : _root_.Go.OpenSpec := { _root_.Go.OpenSpec.ofChange s with cond := some uptoSmall }

/-- 'reparteelaw40.FerryTells', WHERE WHAT IT READS IS OF BULK AT MOST 1048576: true; the input reads as it did. -/
def ferryTellsUptoRow : OpenClaim := { program := "ytnjfphfkjapemaa", sum := "284be0c5c651bc7567e9a42ddfc6099c2e66791a3a99dd4489376733c824a328", func := "repartee/reparteelaw40.FerryTells", spec := "ferryTells", apart := false, narrowed := true }
def FerryTellsUptoSaid : Prop := ferryTellsUptoRow.holds Try.pinned (OpenSpec.upto ferryTellsSpec)

/-- 'reparteelaw40.FerryOrder', WHERE WHAT IT READS IS OF BULK AT MOST 1048576: true; the input reads as it did. -/
def ferryOrderUptoRow : OpenClaim := { program := "ytnjfphfkjapemaa", sum := "284be0c5c651bc7567e9a42ddfc6099c2e66791a3a99dd4489376733c824a328", func := "repartee/reparteelaw40.FerryOrder", spec := "ferryOrder", apart := false, narrowed := true }
def FerryOrderUptoSaid : Prop := ferryOrderUptoRow.holds Try.pinned (OpenSpec.upto ferryOrderSpec)

/-- 'reparteelaw40.FerryCalm', WHERE WHAT IT READS IS OF BULK AT MOST 1048576: true; the input reads as it did. -/
def ferryCalmUptoRow : OpenClaim := { program := "ytnjfphfkjapemaa", sum := "284be0c5c651bc7567e9a42ddfc6099c2e66791a3a99dd4489376733c824a328", func := "repartee/reparteelaw40.FerryCalm", spec := "ferryCalm", apart := false, narrowed := true }
def FerryCalmUptoSaid : Prop := ferryCalmUptoRow.holds Try.pinned (OpenSpec.upto ferryCalmSpec)

/-- 'reparteelaw40.FerryOnce', WHERE WHAT IT READS IS OF BULK AT MOST 1048576: true; the input reads as it did. -/
def ferryOnceUptoRow : OpenClaim := { program := "ytnjfphfkjapemaa", sum := "284be0c5c651bc7567e9a42ddfc6099c2e66791a3a99dd4489376733c824a328", func := "repartee/reparteelaw40.FerryOnce", spec := "ferryOnce", apart := false, narrowed := true }
def FerryOnceUptoSaid : Prop := ferryOnceUptoRow.holds Try.pinned (OpenSpec.upto ferryOnceSpec)

end Rows
end Go.Proofs.Ytnjfphfkjapemaa
