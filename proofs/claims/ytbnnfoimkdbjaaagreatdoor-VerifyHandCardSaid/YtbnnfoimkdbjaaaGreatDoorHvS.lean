/- VerifyHand: for every argument the law returns true, and the argument reads as it did, where the listed variables hold what the program's text lays: the card, which ties them to that text. No further condition is asked. -/
import Derived.Test.YtbnnfoimkdbjaaaGreatDoorHvR
import Derived.Test.YtbnnfoimkdbjaaaGreatDoorHvT
namespace Go.Proofs.YtbnnfoimkdbjaaaGreatDoor
set_option maxHeartbeats 4000000 in
theorem verifyHand_card : Rows.VerifyHandCardSaid :=
  Claim7.holds_tied_plain_at .later [] [.data, .data, .data, .data] true (true, "61c91fab193ba69c32987ca38e2b4af37bf911b990fb50ef17b6c8ab8116cbf0") false
    hand.said (fun _ h => by cases h) hand.textWf (fun _ h => by cases h) verifyHand_row_tie rfl ⟨rfl, rfl⟩ hand.mainIs rfl
    (fun f fn hf hfn => by
      obtain rfl : f = 3 := Option.some.inj (hand.named.symm.trans hf) |>.symm
      obtain rfl : fn = Tryz.f3 := (Option.some.inj (Tryz.func3.symm.trans hfn)).symm
      exact ⟨hand.noLooks, fun j t ht => by
        rw [Tryz.params3] at ht
        have hm : t ∈ [3] := by simpa using Array.mem_of_getElem? ht
        exact (show Tryz.prog.wantsStandIn t = false by simpa using List.all_eq_true.1 hand.noStandIn t hm)⟩)
    hand.noGoes
#print axioms verifyHand_card
end Go.Proofs.YtbnnfoimkdbjaaaGreatDoor
