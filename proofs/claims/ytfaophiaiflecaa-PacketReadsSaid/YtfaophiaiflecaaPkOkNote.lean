/- Contracts at the one note that the law begins with: data.Same, slices.EqualFunc, packet.same, NoteMay. Contract: packet.Note at the note that the law begins with. -/
import Derived.Test.YtfaophiaiflecaaPkNote
namespace Go.Proofs.Ytfaophiaiflecaa
open Go.RowKit

abbrev sNil : ByteArray := ⟨#[]⟩
abbrev s0 : ByteArray := ⟨#[48]⟩
abbrev zVal : Value := .agg #[.int .i64 0, .int .i64 0, .string sNil, .slice none 0 0]
abbrev okCells : Array Value := #[.int .i64 3, .string s0, .string sNil, .int .i64 0, .string sNil, .string sNil, .int .i64 0, .int .i64 0, .string sNil, .slice none 0 0, .int .i64 0, .slice none 0 0]
set_option maxHeartbeats 800000 in
theorem sameZero_any (w : World) : Calls Try.prog 63 #[zVal, zVal] w fun e w' => e = .returned (.bool true) ∧ Below w.heap.size w w' := by
  go_enter Try.func63, Try.ntmps63
  go_wp2_with fail
  refine wp_loop_rounds 1 ?_
  rw [rounds_succ]
  go_wp2_with fail
  go_ret
  exact ⟨rfl, below_allocS (below_allocS (Below.refl _ _) _) _⟩
set_option maxHeartbeats 800000 in
theorem equalNil_any (f : Value) (w : World) : Calls Try.prog 64 #[.slice none 0 0, .slice none 0 0, f] w fun e w' => e = .returned (.bool true) ∧ Below w.heap.size w w' := by
  go_enter Try.func64, Try.ntmps64
  go_wp2_with fail
  refine wp_loop_rounds 1 ?_
  rw [rounds_succ]
  go_wp2_with fail
  go_ret
  exact ⟨rfl, Below.refl _ _⟩
set_option maxRecDepth 100000 in
set_option maxHeartbeats 1600000 in
theorem sameOk_any (w : World) : Calls Try.prog 38 #[.agg okCells, .agg okCells] w fun e w' => e = .returned (.bool true) ∧ Below w.heap.size w w' := by
  have C1 := Lib.hid (fun W => sameZero_any W)
  have C2 := Lib.hid (fun f W => equalNil_any f W)
  have B2 := Lib.hid (below_allocS (below_allocS (Below.refl _ _) (.cells okCells 41)) (.cells okCells 41) : Below w.heap.size w ((w.alloc (.cells okCells 41)).alloc (.cells okCells 41)))
  have HA := Lib.hid ((Blk.new w okCells 41).alloc (.cells okCells 41))
  have HB := Lib.hid (show Blk ((w.alloc (.cells okCells 41)).alloc (.cells okCells 41)) (w.heap.size + 1) okCells 41 by
    have h := Blk.new (w.alloc (.cells okCells 41)) okCells 41
    rwa [World.size_alloc] at h)
  go_enter Try.func38, Try.ntmps38
  go_wp2_with fail
  refine (C1.out _).mono ?_
  rintro e w1 ⟨rfl, hb1⟩
  have B3 := Lib.hid (below_next B2.out hb1)
  have HA1 := Lib.hid (HA.out.belowS hb1)
  have HB1 := Lib.hid (HB.out.belowS hb1)
  clear hb1
  have x10 : w1.cell? ⟨w.heap.size, 10, none⟩ = some (.int .i64 0) := HA1.out.cell 10
  have x11 : w1.cell? ⟨w.heap.size, 11, none⟩ = some (.slice none 0 0) := HA1.out.cell 11
  have y10 : w1.cell? ⟨w.heap.size + 1, 10, none⟩ = some (.int .i64 0) := HB1.out.cell 10
  have y11 : w1.cell? ⟨w.heap.size + 1, 11, none⟩ = some (.slice none 0 0) := HB1.out.cell 11
  go_wp2_with fail
  refine (C2.out _ _).mono ?_
  rintro e w2 ⟨rfl, hb2⟩
  have B4 := Lib.hid (below_next B3.out hb2)
  clear hb2 x10 x11 y10 y11
  go_wp2_with fail
  go_ret
  exact ⟨rfl, B4.out⟩
abbrev onlyCells : Array Value := #[.int .i64 3, .string sNil, .string sNil, .int .i64 0, .string sNil, .string sNil, .int .i64 0, .int .i64 0, .string sNil, .slice none 0 0, .int .i64 0, .slice none 0 0]
set_option maxHeartbeats 1600000 in
theorem agentOk_any (n b1 b2 b3 : Nat) (w : World) (h1 : Blk w b1 okCells 41) (h2 : Blk w b2 onlyCells 41) (h3 : Blk w b3 #[.bool true] 4) (d12 : b1 ≠ b2) (d13 : b1 ≠ b3) (d23 : b2 ≠ b3) (n2 : n ≤ b2) (n3 : n ≤ b3) :
    Calls Try.prog 31 #[.pointer (some ⟨b1, 0, none⟩), .pointer (some ⟨b3, 0, none⟩), .pointer (some ⟨b2, 0, none⟩)] w fun e w' => e = .returned (.tuple #[]) ∧ Blk w' b1 okCells 41 ∧ Blk w' b2 okCells 41 ∧ Blk w' b3 #[.bool true] 4 ∧ Below n w w' := by
  have H1 := Lib.hid h1
  have H2 := Lib.hid h2
  have H3 := Lib.hid h3
  have x1 : w.cell? ⟨b1, 1, none⟩ = some (.string s0) := h1.cell 1
  have x2 : w.cell? ⟨b2, 1, none⟩ = some (.string sNil) := h2.cell 1
  have x3 : w.cell? ⟨b3, 0, none⟩ = some (.bool true) := h3.cell 0
  have y2 := h2.frozen 1
  have y3 := h3.frozen 0
  clear h1 h2 h3
  go_enter Try.func31, Try.ntmps31
  go_wp2_with fail
  go_region
  all_goals
    go_wp2_with fail
    go_end0
    have E2 : Blk (w.setCell ⟨b2, 1, none⟩ (.string s0)) b2 okCells 41 := H2.out.set_ 1 (.string s0)
    refine ⟨rfl, ?_, ?_, ?_, ?_⟩
    · exact ((H1.out.far (p := ⟨b2, 1, none⟩) d12 _).far (p := ⟨b3, 0, none⟩) d13 _).drew
    · exact (E2.far (p := ⟨b3, 0, none⟩) d23 _).drew
    · exact ((H3.out.far (p := ⟨b2, 1, none⟩) (Ne.symm d23) _).set_ 0 (.bool true)).drew
    · exact (((Below.refl n w).setCell (p := ⟨b2, 1, none⟩) n2 _).setCell (p := ⟨b3, 0, none⟩) n3 _).drew
set_option maxRecDepth 100000 in
set_option maxHeartbeats 1600000 in
theorem noteMayOk_any (w : World) : Calls Try.prog 16 #[.agg okCells] w fun e w' => e = .returned (.bool true) ∧ Below w.heap.size w w' := by
  have hmf := mf Try.prog
  have CS := Lib.hid (fun W => sameOk_any W)
  go_enter Try.func16, Try.ntmps16
  go_wp2_with fail
  have h1 := ((Blk.new w okCells 41).alloc (.cells onlyCells 41)).alloc (.cells #[.bool true] 4)
  have h2 := (Blk.new (w.alloc (.cells okCells 41)) onlyCells 41).alloc (.cells #[.bool true] 4)
  have h3 := Blk.new ((w.alloc (.cells okCells 41)).alloc (.cells onlyCells 41)) #[.bool true] 4
  rw [World.size_alloc] at h2
  rw [World.size_alloc, World.size_alloc] at h3
  refine (agentOk_any w.heap.size w.heap.size (w.heap.size + 1) (w.heap.size + 1 + 1) _ h1 h2 h3 (by omega) (by omega) (by omega) (by omega) (by omega)).mono ?_
  rintro e w1 ⟨rfl, k1, k2, k3, hb⟩
  have K1 := Lib.hid k1
  have K2 := Lib.hid k2
  have BX := Lib.hid ((below_allocS (below_allocS (below_allocS (Below.refl _ _) (.cells okCells 41)) (.cells onlyCells 41)) (.cells #[.bool true] 4) : Below w.heap.size w _).trans hb)
  have z0 : w1.cell? ⟨w.heap.size + 1 + 1, 0, none⟩ = some (.bool true) := k3.cell 0
  clear h1 h2 h3 k1 k2 k3 hb
  have x0 : w1.cell? ⟨w.heap.size, 0, none⟩ = some (.int .i64 3) := K1.out.cell 0
  have y0 : w1.cell? ⟨w.heap.size + 1, 0, none⟩ = some (.int .i64 3) := K2.out.cell 0
  have x1 : w1.cell? ⟨w.heap.size, 1, none⟩ = some (.string s0) := K1.out.cell 1
  have y1 : w1.cell? ⟨w.heap.size + 1, 1, none⟩ = some (.string s0) := K2.out.cell 1
  have x2 : w1.cell? ⟨w.heap.size, 2, none⟩ = some (.string sNil) := K1.out.cell 2
  have y2 : w1.cell? ⟨w.heap.size + 1, 2, none⟩ = some (.string sNil) := K2.out.cell 2
  have x3 : w1.cell? ⟨w.heap.size, 3, none⟩ = some (.int .i64 0) := K1.out.cell 3
  have y3 : w1.cell? ⟨w.heap.size + 1, 3, none⟩ = some (.int .i64 0) := K2.out.cell 3
  have x4 : w1.cell? ⟨w.heap.size, 4, none⟩ = some (.string sNil) := K1.out.cell 4
  have y4 : w1.cell? ⟨w.heap.size + 1, 4, none⟩ = some (.string sNil) := K2.out.cell 4
  have x5 : w1.cell? ⟨w.heap.size, 5, none⟩ = some (.string sNil) := K1.out.cell 5
  have y5 : w1.cell? ⟨w.heap.size + 1, 5, none⟩ = some (.string sNil) := K2.out.cell 5
  have x6 : w1.cell? ⟨w.heap.size, 6, none⟩ = some (.int .i64 0) := K1.out.cell 6
  have y6 : w1.cell? ⟨w.heap.size + 1, 6, none⟩ = some (.int .i64 0) := K2.out.cell 6
  have x7 : w1.cell? ⟨w.heap.size, 7, none⟩ = some (.int .i64 0) := K1.out.cell 7
  have y7 : w1.cell? ⟨w.heap.size + 1, 7, none⟩ = some (.int .i64 0) := K2.out.cell 7
  have x8 : w1.cell? ⟨w.heap.size, 8, none⟩ = some (.string sNil) := K1.out.cell 8
  have y8 : w1.cell? ⟨w.heap.size + 1, 8, none⟩ = some (.string sNil) := K2.out.cell 8
  have x9 : w1.cell? ⟨w.heap.size, 9, none⟩ = some (.slice none 0 0) := K1.out.cell 9
  have y9 : w1.cell? ⟨w.heap.size + 1, 9, none⟩ = some (.slice none 0 0) := K2.out.cell 9
  have x10 : w1.cell? ⟨w.heap.size, 10, none⟩ = some (.int .i64 0) := K1.out.cell 10
  have y10 : w1.cell? ⟨w.heap.size + 1, 10, none⟩ = some (.int .i64 0) := K2.out.cell 10
  have x11 : w1.cell? ⟨w.heap.size, 11, none⟩ = some (.slice none 0 0) := K1.out.cell 11
  have y11 : w1.cell? ⟨w.heap.size + 1, 11, none⟩ = some (.slice none 0 0) := K2.out.cell 11
  go_wp2_with fail
  refine (CS.out _).mono ?_
  rintro e w2 ⟨rfl, hb2⟩
  have B4 := Lib.hid (below_next BX.out hb2)
  clear hb2 z0 x0 y0 x1 y1 x2 y2 x3 y3 x4 y4 x5 y5 x6 y6 x7 y7 x8 y8 x9 y9 x10 y10 x11 y11
  go_wp2_with fail
  go_ret
  exact ⟨rfl, B4.out⟩
end Go.Proofs.Ytfaophiaiflecaa
namespace Go.Proofs.Ytfaophiaiflecaa
open Go.RowKit

def okFields (b v u : Nat) : List (Fd × Nat) := [(.num 3, b), (.txt s0, b + 2), (.txt sNil, b + 4), (.num 0, b + 6), (.txt sNil, b + 8), (.txt sNil, b + 10), (.num 0, v), (.ext .i64 #[.pointer (some ⟨v + 2, 0, none⟩)] #[.pointer (some ⟨v + 2, 0, none⟩)] (numB 0), 0), (.txt sNil, v + 4),
  (.ext .l64 #[.pointer (some ⟨v + 6, 0, none⟩), .pointer (some ⟨v + 6 + 1, 0, none⟩)] #[.pointer (some ⟨v + 6 + 1, 0, none⟩), .pointer (some ⟨v + 6, 0, none⟩)] (numB 0), 0), (.num 0, u),
  (.ext .lB #[.pointer (some ⟨u + 2, 0, none⟩), .pointer (some ⟨u + 2 + 1, 0, none⟩)] #[.pointer (some ⟨u + 2 + 1, 0, none⟩), .pointer (some ⟨u + 2, 0, none⟩)] (numB 0), 0)]
def okBytes : List UInt8 := [6, 2, 48, 0, 0, 0, 0, 0, 0, 0, 0, 0, 0]
theorem okFields_bytes (b v u : Nat) : fdBytes (okFields b v u) = okBytes := rfl
set_option maxRecDepth 100000 in
set_option maxHeartbeats 1600000 in
theorem noteOk_any (w : World) : Calls Try.prog 14 #[.agg okCells] w fun e w' => e = .returned (.tuple #[.string ⟨okBytes.toArray⟩, .int .i64 0]) ∧ Below w.heap.size w w' := by
  have CM := Lib.hid (fun W => noteMayOk_any W)
  have HB := Lib.hid (Blk.new w okCells 41)
  have BF := Lib.hid (below_allocS (Below.refl _ _) (.cells okCells 41) : Below w.heap.size w (w.alloc (.cells okCells 41)))
  go_enter Try.func14, Try.ntmps14
  go_wp2_with fail
  refine (CM.out _).mono ?_
  rintro e w1 ⟨rfl, hb1⟩
  have B1 := Lib.hid hb1
  have CN := Lib.hid (note_any w.heap.size w1 41 okCells (HB.out.belowS hb1))
  clear hb1
  go_wp2_with fail
  refine CN.out.mono ?_
  rintro e w2 ⟨A, b, v, u, c, rfl, hA, k0, k1, k2, k3, k4, k5, q0, q1, q2, q3, r0, r1, hb2⟩
  have HBX := HB.out.belowS (below_next B1.out hb2)
  have CW := Lib.hid (write_any A (okFields b v u) c w2 hA (by
    intro x hx
    simp only [okFields, List.mem_cons, List.not_mem_nil, or_false] at hx
    rcases hx with rfl | rfl | rfl | rfl | rfl | rfl | rfl | rfl | rfl | rfl | rfl | rfl
    · exact ⟨_, k0, HBX.cell 0, by omega, by omega⟩
    · exact ⟨_, k1, HBX.cell 1, by decide⟩
    · exact ⟨_, k2, HBX.cell 2, by decide⟩
    · exact ⟨_, k3, HBX.cell 3, by omega, by omega⟩
    · exact ⟨_, k4, HBX.cell 4, by decide⟩
    · exact ⟨_, k5, HBX.cell 5, by decide⟩
    · exact ⟨_, q0, HBX.cell 6, by omega, by omega⟩
    · exact ⟨by decide, fun W hw => number641_any (v + 2) ⟨w.heap.size, 7, none⟩ 0 W (q1.belowS hw) ((HBX.belowS hw).cell 7) (by omega) (by omega)⟩
    · exact ⟨_, q2, HBX.cell 8, by decide⟩
    · exact ⟨by decide, fun W hw => list641_nil (v + 6) ⟨w.heap.size, 9, none⟩ none 0 _ W (q3.belowS hw) ((HBX.belowS hw).cell 9)⟩
    · exact ⟨_, r0, HBX.cell 10, by omega, by omega⟩
    · exact ⟨by decide, fun W hw => listB1_nil (u + 2) ⟨w.heap.size, 11, none⟩ none 0 _ W (r1.belowS hw) ((HBX.belowS hw).cell 11)⟩) (by show 12 ≤ 1000; omega))
  rw [okFields_bytes] at CW
  have B2 := Lib.hid (below_next (below_next BF.out B1.out) hb2)
  clear hA k0 k1 k2 k3 k4 k5 q0 q1 q2 q3 r0 r1 hb2 HBX
  go_wp2_with fail
  refine CW.out.mono ?_
  rintro e w3 ⟨rfl, hb3⟩
  have B3 := Lib.hid (below_next B2.out hb3)
  clear hb3
  go_wp2_with fail
  go_ret2
  exact ⟨rfl, B3.out⟩
end Go.Proofs.Ytfaophiaiflecaa
