/- Contract: packet.Note at the note that the law begins with. -/
import Derived.Test.YtfaophiaiflecaaPkOk
namespace Go.Proofs.Ytfaophiaiflecaa
open Go.RowKit

def okFields (b v u : Nat) : List (Fd × Nat) := [(.num 3, b), (.txt s0, b + 2), (.txt sNil, b + 4), (.num 0, b + 6), (.txt sNil, b + 8), (.txt sNil, b + 10), (.num 0, v), (.ext .i64 #[.pointer (some ⟨v + 2, 0, none⟩)] #[.pointer (some ⟨v + 2, 0, none⟩)] (numB 0), 0), (.txt sNil, v + 4),
  (.ext .l64 #[.pointer (some ⟨v + 6, 0, none⟩), .pointer (some ⟨v + 6 + 1, 0, none⟩)] #[.pointer (some ⟨v + 6 + 1, 0, none⟩), .pointer (some ⟨v + 6, 0, none⟩)] (numB 0), 0), (.num 0, u),
  (.ext .lB #[.pointer (some ⟨u + 2, 0, none⟩), .pointer (some ⟨u + 2 + 1, 0, none⟩)] #[.pointer (some ⟨u + 2 + 1, 0, none⟩), .pointer (some ⟨u + 2, 0, none⟩)] (numB 0), 0)]
def okBytes : List UInt8 := [6, 2, 48, 0, 0, 0, 0, 0, 0, 0, 0, 0, 0]
theorem okFields_bytes (b v u : Nat) : fdBytes (okFields b v u) = okBytes := rfl
set_option maxRecDepth 100000 in
set_option maxHeartbeats 1600000 in
theorem noteOk_any (w : World) : Calls Try.prog 14 #[.agg okCells] w fun e w' => e = .returned (.tuple #[.string ⟨okBytes.toArray⟩, .int .i64 0]) ∧ Below w.heap.size w w' := by
  have CM := Lib.hid (fun W => noteMayOk_any W)
  have HB := Lib.hid (Blk.new w okCells 41)
  have BF := Lib.hid (below_allocS (Below.refl _ _) (.cells okCells 41) : Below w.heap.size w (w.alloc (.cells okCells 41)))
  go_enter Try.func14, Try.ntmps14
  go_wp2_with fail
  refine (CM.out _).mono ?_
  rintro e w1 ⟨rfl, hb1⟩
  have B1 := Lib.hid hb1
  have CN := Lib.hid (note_any w.heap.size w1 41 okCells (HB.out.belowS hb1))
  clear hb1
  go_wp2_with fail
  refine CN.out.mono ?_
  rintro e w2 ⟨A, b, v, u, c, rfl, hA, k0, k1, k2, k3, k4, k5, q0, q1, q2, q3, r0, r1, hb2⟩
  have HBX := HB.out.belowS (below_next B1.out hb2)
  have CW := Lib.hid (write_any A (okFields b v u) c w2 hA (by
    intro x hx
    simp only [okFields, List.mem_cons, List.not_mem_nil, or_false] at hx
    rcases hx with rfl | rfl | rfl | rfl | rfl | rfl | rfl | rfl | rfl | rfl | rfl | rfl
    · exact ⟨_, k0, HBX.cell 0, by omega, by omega⟩
    · exact ⟨_, k1, HBX.cell 1, by decide⟩
    · exact ⟨_, k2, HBX.cell 2, by decide⟩
    · exact ⟨_, k3, HBX.cell 3, by omega, by omega⟩
    · exact ⟨_, k4, HBX.cell 4, by decide⟩
    · exact ⟨_, k5, HBX.cell 5, by decide⟩
    · exact ⟨_, q0, HBX.cell 6, by omega, by omega⟩
    · exact ⟨by decide, fun W hw => number641_any (v + 2) ⟨w.heap.size, 7, none⟩ 0 W (q1.belowS hw) ((HBX.belowS hw).cell 7) (by omega) (by omega)⟩
    · exact ⟨_, q2, HBX.cell 8, by decide⟩
    · exact ⟨by decide, fun W hw => list641_nil (v + 6) ⟨w.heap.size, 9, none⟩ none 0 _ W (q3.belowS hw) ((HBX.belowS hw).cell 9)⟩
    · exact ⟨_, r0, HBX.cell 10, by omega, by omega⟩
    · exact ⟨by decide, fun W hw => listB1_nil (u + 2) ⟨w.heap.size, 11, none⟩ none 0 _ W (r1.belowS hw) ((HBX.belowS hw).cell 11)⟩) (by show 12 ≤ 1000; omega))
  rw [okFields_bytes] at CW
  have B2 := Lib.hid (below_next (below_next BF.out B1.out) hb2)
  clear hA k0 k1 k2 k3 k4 k5 q0 q1 q2 q3 r0 r1 hb2 HBX
  go_wp2_with fail
  refine CW.out.mono ?_
  rintro e w3 ⟨rfl, hb3⟩
  have B3 := Lib.hid (below_next B2.out hb3)
  clear hb3
  go_wp2_with fail
  go_ret2
  exact ⟨rfl, B3.out⟩
end Go.Proofs.Ytfaophiaiflecaa
