/- FoldValues: for every argument the law returns true, and the arguments read as they did, where the listed variables hold what the program's text lays: the card, which ties them to that text. No further condition is asked. -/
import Derived.Test.YtbemdcbglpjmiaaGreatDoorFvR
import Derived.Test.YtbemdcbglpjmiaaGreatDoorFvT
namespace Go.Proofs.YtbemdcbglpjmiaaGreatDoor
set_option maxHeartbeats 4000000 in
theorem foldValues_card : Rows.FoldValuesCardSaid :=
  Claim7.holds_tied_plain_at .later [] [.data, .data, .data] true (true, "0d57b491f3e73d249302d31bf87a6f98c5fd5a1b7ce57057780ac51a66d5aab3") true
    foldValues.said (fun _ h => by cases h) foldValues.textWf (fun _ h => by cases h) foldValues_row_tie rfl ⟨rfl, rfl⟩ foldValues.mainIs rfl
    (fun f fn hf hfn => by
      obtain rfl : f = 4 := Option.some.inj (foldValues.named.symm.trans hf) |>.symm
      obtain rfl : fn = Tryz.f4 := (Option.some.inj (Tryz.func4.symm.trans hfn)).symm
      exact ⟨foldValues.noLooks, fun j t ht => by
        rw [Tryz.params4] at ht
        have hm : t ∈ [22, 3, 28] := by simpa using Array.mem_of_getElem? ht
        exact (show Tryz.prog.wantsStandIn t = false by simpa using List.all_eq_true.1 foldValues.noStandIn t hm)⟩)
    foldValues.noGoes
#print axioms foldValues_card
end Go.Proofs.YtbemdcbglpjmiaaGreatDoor
