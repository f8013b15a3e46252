/- FoldHand: for every argument the law returns true, and the arguments read as they did, where the listed variables hold what the program's text lays: the card, which ties them to that text. No further condition is asked. -/
import Derived.Test.YtbemdcbglpjmiaaGreatDoorFhR
import Derived.Test.YtbemdcbglpjmiaaGreatDoorFhT
namespace Go.Proofs.YtbemdcbglpjmiaaGreatDoor
set_option maxHeartbeats 4000000 in
theorem foldHand_card : Rows.FoldHandCardSaid :=
  Claim7.holds_tied_plain_at .later [] [.data, .data, .data] true (true, "0d57b491f3e73d249302d31bf87a6f98c5fd5a1b7ce57057780ac51a66d5aab3") true
    foldHand.said (fun _ h => by cases h) foldHand.textWf (fun _ h => by cases h) foldHand_row_tie rfl ⟨rfl, rfl⟩ foldHand.mainIs rfl
    (fun f fn hf hfn => by
      obtain rfl : f = 5 := Option.some.inj (foldHand.named.symm.trans hf) |>.symm
      obtain rfl : fn = Tryz.f5 := (Option.some.inj (Tryz.func5.symm.trans hfn)).symm
      exact ⟨foldHand.noLooks, fun j t ht => by
        rw [Tryz.params5] at ht
        have hm : t ∈ [3, 2] := by simpa using Array.mem_of_getElem? ht
        exact (show Tryz.prog.wantsStandIn t = false by simpa using List.all_eq_true.1 foldHand.noStandIn t hm)⟩)
    foldHand.noGoes
#print axioms foldHand_card
end Go.Proofs.YtbemdcbglpjmiaaGreatDoor
