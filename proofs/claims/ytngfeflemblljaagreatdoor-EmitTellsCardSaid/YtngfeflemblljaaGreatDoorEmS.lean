/- EmitTells: for every argument the law returns true, and the arguments read as they did, where the listed variables hold what the program's text lays: the card, which ties them to that text. No further condition is asked. -/
import Derived.Test.YtngfeflemblljaaGreatDoorEmR
import Derived.Test.YtngfeflemblljaaGreatDoorEmT
namespace Go.Proofs.YtngfeflemblljaaGreatDoor
set_option maxHeartbeats 4000000 in
theorem emitTells_card : Rows.EmitTellsCardSaid :=
  Claim7.holds_tied_plain_at .later [] [.data, .data, .data] true (true, "d39441b38d925fafbc8747a86d8458d8fc85d4411a71b37e7509b63fc33d9a2e") false
    emitTells.said (fun _ h => by cases h) emitTells.textWf (fun _ h => by cases h) emitTells_row_tie rfl ⟨rfl, rfl⟩ emitTells.mainIs rfl
    (fun f fn hf hfn => by
      obtain rfl : f = 3 := Option.some.inj (emitTells.named.symm.trans hf) |>.symm
      obtain rfl : fn = Tryz.f3 := (Option.some.inj (Tryz.func3.symm.trans hfn)).symm
      exact ⟨emitTells.noLooks, fun j t ht => by
        rw [Tryz.params3] at ht
        have hm : t ∈ [22, 3, 23, 24] := by simpa using Array.mem_of_getElem? ht
        exact (show Tryz.prog.wantsStandIn t = false by simpa using List.all_eq_true.1 emitTells.noStandIn t hm)⟩)
    emitTells.noGoes
#print axioms emitTells_card
end Go.Proofs.YtngfeflemblljaaGreatDoor
