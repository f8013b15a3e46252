/- A region that draws its order, stepped through by hand: its operations in the text's order, those that a guard passes over too. No program's text in sight. -/
import Derived.Test.YtfaophiaiflecaaBase
import Derived.Deep.RegionHeld3
namespace Go.Proofs.Ytfaophiaiflecaa
open Go.RowKit

section
variable {P : Program} {ops : Array Oper} {Q : Exit → Act → World → Prop} {md : Region.Mode} {S : World → Prop} {fuel : Nat} {listed : Array Bool} {a : Act} {w : World} {d : Option Tmp} {op : Op} {ty : TypeId} {pos : String} {af : Array Edge} {g : Option (Nat × Bool)}
/-- The operation number i yields v in every world that meets S. -/
theorem held_take {v : Value} (i : Nat) (hi : ops[i]? = some (Oper.mk d op ty pos af g))
    (hs : Region.noSelect ops = true) (hf : Region.free md ops listed i = true) (hr : (Region.ready md ops listed).contains i = true)
    (hQ : ∀ c a w, Q (.panic c) (a.put d v) w → Q (.panic c) a w) (hw : Region.wanted (Oper.mk d op ty pos af g) (yielded ops a.tmps) = true) (hy : ∀ w, S w → (execOp a.eval (Oper.mk d op ty pos af g)).run P w = .ok (.value v) w) (hS : S w)
    (h : wpAnyH P md ops Q S fuel (listed.setIfInBounds i true) (a.put d v) w) : wpAnyH P md ops Q S (fuel + 1) listed a w :=
  wpAnyH_take (oi := Oper.mk d op ty pos af g) hi hs hf hr hQ (.inl ⟨hw, hy⟩) hS h
/-- A guard passes over the operation number i. -/
theorem held_skip (i : Nat) (hi : ops[i]? = some (Oper.mk d op ty pos af g))
    (hs : Region.noSelect ops = true) (hf : Region.free md ops listed i = true) (hr : (Region.ready md ops listed).contains i = true)
    (hQ : ∀ c a w, Q (.panic c) (a.put d undef) w → Q (.panic c) a w) (hw : Region.wanted (Oper.mk d op ty pos af g) (yielded ops a.tmps) = false) (hS : S w)
    (h : wpAnyH P md ops Q S fuel (listed.setIfInBounds i true) (a.put d undef) w) : wpAnyH P md ops Q S (fuel + 1) listed a w :=
  wpAnyH_take (oi := Oper.mk d op ty pos af g) hi hs hf hr hQ (.inr ⟨hw, rfl⟩) hS h
/-- The operation number i is the only one that may come up. -/
theorem held_call (i : Nat) (hi : ops[i]? = some (Oper.mk d op ty pos af g)) (hr : Region.ready md ops listed = [i]) (hw : Region.wanted (Oper.mk d op ty pos af g) (yielded ops a.tmps) = true)
    (h : ∀ K' : Act → World → Prop, (∀ a w, S w → wpAnyH P md ops Q S fuel (listed.setIfInBounds i true) a w → K' a w) → Oper.wp P (Oper.mk d op ty pos af g) a w K' Q) : wpAnyH P md ops Q S (fuel + 1) listed a w := by
  refine wpAnyH_ready hr (by simp) (AllReadyH.cons hi (fun K hK => ?_) AllReadyH.nil)
  rw [if_pos hw]
  exact h K fun a w hS hW => hK.out a w hS (fun _ => hW)
end
end Go.Proofs.Ytfaophiaiflecaa
