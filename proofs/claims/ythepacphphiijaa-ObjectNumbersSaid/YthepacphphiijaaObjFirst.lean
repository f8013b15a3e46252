/- Contract: reparteelaw33.first. -/
import Derived.Test.YthepacphphiijaaObjW
namespace Go.Proofs.Ythepacphphiijaa
open Go.RowKit Go.Lib

theorem numB_0 : numB 0 = [0] := by decide
theorem numB_m1 : numB (-1) = [1] := by decide
theorem numB_64 : numB 64 = [128, 1] := by decide
set_option maxRecDepth 100000 in
set_option maxHeartbeats 1600000 in
theorem first33_any (w : World) : Calls Try.prog 6 #[] w fun e w' => e = .returned (.bool true) ∧ Below w.heap.size w w' := by
  go_enter Try.func6, Try.ntmps6
  go_wp2_with fail
  have CW := write_nil w
  obtain ⟨a, b, c, d, hF⟩ : ∃ a b c d, fourB (fnv [82, 80, 84, 49, 0, 0, 0]) = [a, b, c, d] := ⟨_, _, _, _, rfl⟩
  rw [hF] at CW
  clear hF
  have hx : ((⟨#[82, 80, 84, 49, 0, 0, 0, a, b, c, d]⟩ : ByteArray).extract 0 7).toList = [82, 80, 84, 49, 0, 0, 0] := by
    rw [ByteArray.toList_eq]
    rfl
  refine CW.mono ?_
  clear CW
  rintro e w1 ⟨rfl, hb1⟩
  have B1 := Lib.hid hb1
  clear hb1
  go_wp2_with fail
  have C := number_any 0 w1 (by omega) (by omega)
  rw [numB_0] at C
  refine C.mono ?_
  clear C
  rintro e w2 ⟨rfl, hb⟩
  have B2 := Lib.hid (below_next B1.out hb)
  clear hb
  go_wp2_with fail
  have C := number_any (-1) w2 (by omega) (by omega)
  rw [numB_m1] at C
  refine C.mono ?_
  clear C
  rintro e w3 ⟨rfl, hb⟩
  have B3 := Lib.hid (below_next B2.out hb)
  clear hb
  go_wp2_with fail
  have C := number_any 64 w3 (by omega) (by omega)
  rw [numB_64] at C
  refine C.mono ?_
  clear C
  rintro e w4 ⟨rfl, hb⟩
  have B4 := Lib.hid (below_next B3.out hb)
  clear hb
  go_wp2_with fail
  refine (sum_any _ _ (by decide)).mono ?_
  rintro e w5 ⟨rfl, rfl⟩
  rw [show fnv (⟨#[]⟩ : ByteArray).data.toList = 2166136261 from rfl]
  go_wp2_with fail
  go_ret
  exact ⟨rfl, B4.out⟩
end Go.Proofs.Ythepacphphiijaa
