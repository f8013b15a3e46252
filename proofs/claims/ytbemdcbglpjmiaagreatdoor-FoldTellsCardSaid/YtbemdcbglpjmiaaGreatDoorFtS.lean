/- FoldTells: for every argument the law returns true, and the arguments read as they did, where the listed variables hold what the program's text lays: the card, which ties them to that text. No further condition is asked. -/
import Derived.Test.YtbemdcbglpjmiaaGreatDoorFtR
import Derived.Test.YtbemdcbglpjmiaaGreatDoorFtT
namespace Go.Proofs.YtbemdcbglpjmiaaGreatDoor
set_option maxHeartbeats 4000000 in
theorem foldTells_card : Rows.FoldTellsCardSaid :=
  Claim7.holds_tied_plain_at .later [] [.data, .data, .data] true (true, "0d57b491f3e73d249302d31bf87a6f98c5fd5a1b7ce57057780ac51a66d5aab3") true
    foldTells.said (fun _ h => by cases h) foldTells.textWf (fun _ h => by cases h) foldTells_row_tie rfl ⟨rfl, rfl⟩ foldTells.mainIs rfl
    (fun f fn hf hfn => by
      obtain rfl : f = 3 := Option.some.inj (foldTells.named.symm.trans hf) |>.symm
      obtain rfl : fn = Tryz.f3 := (Option.some.inj (Tryz.func3.symm.trans hfn)).symm
      exact ⟨foldTells.noLooks, fun j t ht => by
        rw [Tryz.params3] at ht
        have hm : t ∈ [22, 3] := by simpa using Array.mem_of_getElem? ht
        exact (show Tryz.prog.wantsStandIn t = false by simpa using List.all_eq_true.1 foldTells.noStandIn t hm)⟩)
    foldTells.noGoes
#print axioms foldTells_card
end Go.Proofs.YtbemdcbglpjmiaaGreatDoor
