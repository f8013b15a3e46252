/- Contract: reparteelaw38.first. -/
import Derived.Test.YtfaophiaiflecaaPkOkNote
import Derived.Test.YtfaophiaiflecaaPkLaw
namespace Go.Proofs.Ytfaophiaiflecaa
open Go.RowKit

abbrev sAck : ByteArray := ⟨#[4, 0, 2, 0, 0, 117, 65, 23, 153]⟩
abbrev xAck : Fr := ⟨2, 0, 1, 0, ⟨#[]⟩⟩
theorem frame_ack : frameF xAck = (sAck, 0) := rfl
theorem read_ack : readFrameF sAck = (xAck, 0) := rfl
set_option maxRecDepth 100000 in
set_option maxHeartbeats 1600000 in
theorem pkFirst_any (w : World) : Calls Try.prog 7 #[] w fun e w' => e = .returned (.bool true) ∧ Below w.heap.size w w' := by
  have C1 := packetFrame_any xAck w ⟨by decide, by decide, by decide, by decide⟩
  rw [frame_ack] at C1
  have C1' := Lib.hid C1
  have C2 := Lib.hid (fun W => show Calls Try.prog 11 #[.string sAck] W (fun e w' => e = .returned (.tuple #[.agg #[.int .i64 2, .int .i64 0, .int .i64 1, .int .i64 0, .string ⟨#[]⟩], .int .i64 0]) ∧ Below W.heap.size W w') by
    have C := readFrame_any sAck W (by decide)
    rw [read_ack] at C
    exact C)
  have C3 := Lib.hid (fun W => noteOk_any W)
  clear C1
  go_enter Try.func7, Try.ntmps7
  go_wp2_with fail
  refine C1'.out.mono ?_
  rintro e w1 ⟨rfl, hb1⟩
  have B1 := Lib.hid hb1
  clear hb1
  go_wp2_with fail
  refine (C2.out _).mono ?_
  rintro e w2 ⟨rfl, hb2⟩
  have B2 := Lib.hid (below_next B1.out hb2)
  clear hb2
  go_wp2_with fail
  refine (C3.out _).mono ?_
  rintro e w3 ⟨rfl, hb3⟩
  have HX := Lib.hid ((Blk.new w2 #[.int .i64 2, .int .i64 0, .int .i64 1, .int .i64 0, .string ⟨#[]⟩] 23).belowS hb3)
  obtain ⟨y0, y1, y2, y3, y4⟩ := blk5 HX.out
  have B3 := Lib.hid (below_next (below_allocS B2.out _) hb3)
  clear hb3
  have hq : (sAck.extract 0 5).toList = [4, 0, 2, 0, 0] := by rw [Go.ByteArray.toList_eq, ba_extract]; rfl
  go_wp2_with fail
  go_ret
  exact ⟨rfl, B3.out⟩
end Go.Proofs.Ytfaophiaiflecaa
