/- Contract: reparteelaw38.PacketFrames returns true. -/
import Derived.Test.YtfaophiaiflecaaPkFirst
import Derived.Test.YtfaophiaiflecaaPkText
import Derived.Test.YtfaophiaiflecaaLow
import Derived.Deep.DeepCutAuto
import Derived.Deep.RegionHeld3
namespace Go.Proofs.Ytfaophiaiflecaa
open Go.RowKit

theorem frame_cases (x : Fr) (hx : x.fits) : (∃ c : Int, (c = 3800 ∨ c = 3801) ∧ frameF x = (⟨#[]⟩, c)) ∨ ∃ s : ByteArray, frameF x = (s, 0) ∧ s.size ≤ 1000000 ∧ readFrameF s = (x, 0) := by
  unfold frameF
  by_cases hm : x.may
  · rw [if_pos hm]
    by_cases h4 : 4096 < x.body.size
    · rw [if_pos h4]
      exact .inl ⟨_, .inr rfl, rfl⟩
    · rw [if_neg h4]
      refine .inr ⟨_, rfl, ?_, read_back x hx hm (by omega)⟩
      show (frB x ++ fourB (fnv (frB x))).length ≤ 1000000
      rw [List.length_append, fourB_len]
      have := frB_len x
      omega
  · rw [if_neg hm]
    exact .inl ⟨_, .inl rfl, rfl⟩
theorem read_none : readFrameF ⟨#[]⟩ = (fr0, 3800) := rfl
set_option maxRecDepth 100000 in
set_option maxHeartbeats 3200000 in
theorem frames_walk (y : Fr) (raw : Bool) (w : World) (hy : y.fits) : Calls Try.prog 3 #[.agg #[.int .i64 y.kind, .int .i64 y.from_, .int .i64 y.to, .int .i64 y.seq, .string y.body], .bool raw] w fun e w' => e = .returned (.bool true) ∧ Below w.heap.size w w' := by
  have HY := Lib.hid hy
  have C1 := Lib.hid (fun W => pkFirst_any W)
  have HB := Lib.hid (Blk.new w #[.int .i64 y.kind, .int .i64 y.from_, .int .i64 y.to, .int .i64 y.seq, .string y.body] 23)
  have BF := Lib.hid (below_allocS (Below.refl _ _) (.cells #[.int .i64 y.kind, .int .i64 y.from_, .int .i64 y.to, .int .i64 y.seq, .string y.body] 23) : Below w.heap.size w (w.alloc (.cells #[.int .i64 y.kind, .int .i64 y.from_, .int .i64 y.to, .int .i64 y.seq, .string y.body] 23)))
  clear hy
  go_enter Try.func3, Try.ntmps3
  go_wp2_with fail
  refine (C1.out _).mono ?_
  rintro e w1 ⟨rfl, hb1⟩
  have B1 := Lib.hid (below_next BF.out hb1)
  have HB1 := Lib.hid (HB.out.belowS hb1)
  have HLT := Lib.hid (show w.heap.size < w1.heap.size from HB1.out.lt)
  clear hb1
  obtain ⟨y0, y1, y2, y3, y4⟩ := blk5 HB1.out
  have hl1 := HB1.out.lt
  go_upto_if 16 with fail
  have HB5 := Lib.hid (Blk.new w1 #[.int .i64 y.kind, .int .i64 y.from_, .int .i64 y.to, .int .i64 y.seq, .string y.body] 23)
  have HB2 := Lib.hid (HB1.out.alloc (.cells #[.int .i64 y.kind, .int .i64 y.from_, .int .i64 y.to, .int .i64 y.seq, .string y.body] 23))
  have B2 := Lib.hid (below_allocS B1.out (.cells #[.int .i64 y.kind, .int .i64 y.from_, .int .i64 y.to, .int .i64 y.seq, .string y.body] 23))
  generalize w1.alloc (.cells #[.int .i64 y.kind, .int .i64 y.from_, .int .i64 y.to, .int .i64 y.seq, .string y.body] 23) = W2 at *
  clear y0 y1 y2 y3 y4
  go_cut [16] (fun s16 wx => ∃ x : Fr, x.fits ∧ Hid (Blk wx w1.heap.size x.cells 23) ∧ Hid (Below w.heap.size w wx))
  case first =>
    cases raw with
    | true =>
      go_wp2_with fail
      go_meet
      exact ⟨y, HY.out, HB5, B2⟩
    | false =>
      obtain ⟨y0, y1, y2, y3, y4⟩ := blk5 HB2.out
      have z0 := HB5.out.frozen 0
      have z1 := HB5.out.frozen 1
      have z2 := HB5.out.frozen 2
      have z3 := HB5.out.frozen 3
      have z4 := HB5.out.frozen 4
      obtain ⟨v0, v1, v2, v3, v4⟩ := blk5 HB5.out
      have hb1 := lowF_lt y.kind 2 (by omega)
      have hb2 := lowF_lt y.from_ 5 (by omega)
      have hb3 := lowF_lt y.to 5 (by omega)
      have HFIT := Lib.hid (show Fr.fits ⟨1 + lowF y.kind 2, lowF y.from_ 5, lowF y.to 5, y.seq, y.body⟩ from ⟨⟨by show _ ≤ 1 + lowF y.kind 2; omega, by show 1 + lowF y.kind 2 ≤ _; omega⟩, ⟨by show _ ≤ lowF y.from_ 5; omega, by show lowF y.from_ 5 ≤ _; omega⟩, ⟨by show _ ≤ lowF y.to 5; omega, by show lowF y.to 5 ≤ _; omega⟩, HY.out.2.2.2⟩)
      have hq : IntKind.i64.wrap (1 + lowF y.kind 2) = 1 + lowF y.kind 2 := IntWalk.i64_in _ (by omega)
      have CL := Lib.hid (fun x n W hn => low_any x n W hn)
      clear hb1 hb2 hb3
      have ng : w.heap.size ≠ w1.heap.size := Nat.ne_of_lt HLT.out
      have ng' : w1.heap.size ≠ w.heap.size := Ne.symm ng
      go_upto_region 5 with fail
      go_region_held3 (fun W => W.cell? ⟨w.heap.size, 0, none⟩ = some (.int .i64 y.kind) ∧ W.cell? ⟨w.heap.size, 1, none⟩ = some (.int .i64 y.from_) ∧ W.cell? ⟨w.heap.size, 2, none⟩ = some (.int .i64 y.to) ∧ W.cell? ⟨w.heap.size, 3, none⟩ = some (.int .i64 y.seq) ∧ W.cell? ⟨w.heap.size, 4, none⟩ = some (.string y.body)) (go_keep) ((go_at_call 8; refine (CL.out _ _ _ (by omega)).mono ?_; rintro e w' ⟨rfl, rfl⟩))
      all_goals
        go_wp2_with fail
        go_meet
        exact ⟨⟨1 + lowF y.kind 2, lowF y.from_ 5, lowF y.to 5, y.seq, y.body⟩, HFIT.out, Lib.hid (((((HB5.out.set_ 0 _).set_ 1 _).set_ 2 _).set_ 3 _).set_ 4 _).drew, Lib.hid (((((B2.out.setCell (Nat.le_of_lt HLT.out) _).setCell (Nat.le_of_lt HLT.out) _).setCell (Nat.le_of_lt HLT.out) _).setCell (Nat.le_of_lt HLT.out) _).setCell (Nat.le_of_lt HLT.out) _).drew⟩
  case rest =>
    obtain ⟨x, hx, hX, B3⟩ := hcut
    have CF := Lib.hid (fun W => packetFrame_any x W hx)
    have CT := Lib.hid (fun W => frameText_any x W hx)
    have HC := Lib.hid (frame_cases x hx)
    clear hx HB5 HB2 B2 HB1 HB
    obtain ⟨kd, fr, tt, sq, bd⟩ := x
    simp only [Fr.cells] at hX CF CT
    obtain ⟨y0, y1, y2, y3, y4⟩ := blk5 hX.out
    have hl2 := hX.out.lt
    by_cases hbs : bd.size ≤ 5000
    · have hd : decide ((5000 : Int) < (bd.size : Int)) = false := by simp; omega
      have hd2 : decide (5000 < bd.size) = false := by simp; omega
      go_wp2_with fail
      refine (CF.out _).mono ?_
      rintro e w4 ⟨rfl, hb4⟩
      have hX4 := Lib.hid (hX.out.belowS hb4)
      have B4 := Lib.hid (below_next B3.out hb4)
      clear hb4 y0 y1 y2 y3 y4 hl2 hd hd2
      obtain ⟨y0, y1, y2, y3, y4⟩ := blk5 hX4.out
      have hl2 := hX4.out.lt
      go_wp2_with fail
      refine (CT.out _).mono ?_
      rintro e w5 ⟨rfl, hb5⟩
      have hX5 := Lib.hid (hX4.out.belowS hb5)
      have B5 := Lib.hid (below_next B4.out hb5)
      clear hb5 y0 y1 y2 y3 y4 hl2 CF CT hX4 hX
      rcases HC.out with ⟨c, hc, hcf⟩ | ⟨s, hcf, hss, hrd⟩
      · rw [hcf]
        have CR := Lib.hid (fun W => show Calls Try.prog 11 #[.string ⟨#[]⟩] W (fun e w' => e = .returned (.tuple #[.agg #[.int .i64 0, .int .i64 0, .int .i64 0, .int .i64 0, .string ⟨#[]⟩], .int .i64 3800]) ∧ Below W.heap.size W w') by
          have C := readFrame_any ⟨#[]⟩ W (by decide)
          rw [read_none] at C
          exact C)
        have hc0 : (c == 0) = false := by rcases hc with rfl | rfl <;> rfl
        clear hcf hc HC
        go_wp2_with fail
        refine (CR.out _).mono ?_
        rintro e w6 ⟨rfl, hb6⟩
        have B6 := Lib.hid (below_next B5.out hb6)
        clear hb6
        go_wp2_with fail
        go_ret
        exact ⟨rfl, below_allocS B6.out _⟩
      · rw [hcf]
        have CR := Lib.hid (fun W => show Calls Try.prog 11 #[.string s] W (fun e w' => e = .returned (.tuple #[.agg #[.int .i64 kd, .int .i64 fr, .int .i64 tt, .int .i64 sq, .string bd], .int .i64 0]) ∧ Below W.heap.size W w') by
          have C := readFrame_any s W hss
          rw [hrd] at C
          exact C)
        clear hcf hrd hss HC
        go_wp2_with fail
        refine (CR.out _).mono ?_
        rintro e w6 ⟨rfl, hb6⟩
        have hX6 := Lib.hid ((hX5.out.belowS hb6).alloc (.cells #[.int .i64 kd, .int .i64 fr, .int .i64 tt, .int .i64 sq, .string bd] 23))
        have hY6 := Lib.hid (Blk.new w6 #[.int .i64 kd, .int .i64 fr, .int .i64 tt, .int .i64 sq, .string bd] 23)
        have B6 := Lib.hid (below_next B5.out hb6)
        have hl6 := (hX5.out.belowS hb6).lt
        obtain ⟨y0, y1, y2, y3, y4⟩ := blk5 (hX5.out.belowS hb6)
        clear hb6
        go_wp2_with fail
        go_ret
        exact ⟨rfl, below_allocS B6.out _⟩
    · have hd : decide ((5000 : Int) < (bd.size : Int)) = true := by simp; omega
      have hd2 : decide (5000 < bd.size) = true := by simp; omega
      go_wp2_with fail
      go_ret
      exact ⟨rfl, B3.out⟩
end Go.Proofs.Ytfaophiaiflecaa
