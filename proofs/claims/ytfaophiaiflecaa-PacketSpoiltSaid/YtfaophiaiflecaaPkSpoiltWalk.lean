/- Contract: reparteelaw38.PacketSpoilt returns true. -/
import Derived.Test.YtfaophiaiflecaaPkFirst
import Derived.Test.YtfaophiaiflecaaLow
import Derived.Test.YtfaophiaiflecaaFlip
import Derived.Deep.DeepCutAuto
import Derived.Deep.RegionHeld3
namespace Go.Proofs.Ytfaophiaiflecaa
open Go.RowKit

theorem lowN (x : Int) (n : Nat) (h : 1 ≤ n) : ∃ k : Nat, lowF x n = k ∧ k < n := by
  have := lowF_lt x n (by omega)
  exact ⟨(lowF x n).toNat, by omega, by omega⟩
/-- The frame that the law writes: what its bytes are, and what a change makes of them. -/
theorem spoilt_facts (x : Fr) (hx : x.fits) (hm : x.may = true) (hb : x.body.size ≤ 4000) :
    ∃ SL : List UInt8, frameF x = (⟨SL.toArray⟩, 0) ∧ 4 ≤ SL.length ∧ SL.length ≤ 5000 ∧ (∀ K, K / 8 < SL.length → readFrameF (flipAt ⟨SL.toArray⟩ K) = (fr0, 3800)) ∧ readFrameF ((⟨SL.toArray⟩ : ByteArray).extract 0 (SL.length - 1)) = (fr0, 3800) := by
  refine ⟨frB x ++ fourB (fnv (frB x)), ?_, ?_, ?_, fun K hK => ?_, ?_⟩
  · unfold frameF
    rw [if_pos hm, if_neg (by omega)]
  · rw [List.length_append, fourB_len]; omega
  · rw [List.length_append, fourB_len]
    have := frB_len x
    omega
  · have h1 := flip_list (frB x ++ fourB (fnv (frB x))) K hK
    have h2 := spoilt_byte (frB x) (K / 8) ((frB x ++ fourB (fnv (frB x)))[K / 8] ^^^ UInt8.ofNat (2 ^ (K % 8))) hK (flip_ne _ K)
    rw [← h1] at h2
    simpa using h2
  · have h1 := spoilt_short x hx (by omega)
    rw [List.dropLast_eq_take] at h1
    rw [ba_take]
    exact h1
set_option maxRecDepth 100000 in
set_option maxHeartbeats 3200000 in
theorem spoilt_walk (y : Fr) (bit : Int) (w : World) (hy : y.fits) : Calls Try.prog 4 #[.agg #[.int .i64 y.kind, .int .i64 y.from_, .int .i64 y.to, .int .i64 y.seq, .string y.body], .int .i64 bit] w fun e w' => e = .returned (.bool true) ∧ Below w.heap.size w w' := by
  have HY := Lib.hid hy
  have C1 := Lib.hid (fun W => pkFirst_any W)
  have HB := Lib.hid (Blk.new w #[.int .i64 y.kind, .int .i64 y.from_, .int .i64 y.to, .int .i64 y.seq, .string y.body] 23)
  have BF := Lib.hid (below_allocS (Below.refl _ _) (.cells #[.int .i64 y.kind, .int .i64 y.from_, .int .i64 y.to, .int .i64 y.seq, .string y.body] 23) : Below w.heap.size w (w.alloc (.cells #[.int .i64 y.kind, .int .i64 y.from_, .int .i64 y.to, .int .i64 y.seq, .string y.body] 23)))
  clear hy
  go_enter Try.func4, Try.ntmps4
  go_wp2_with fail
  refine (C1.out _).mono ?_
  rintro e w1 ⟨rfl, hb1⟩
  have B1 := Lib.hid (below_next BF.out hb1)
  have HB1 := Lib.hid (HB.out.belowS hb1)
  clear hb1 BF C1 HB
  obtain ⟨y0, y1, y2, y3, y4⟩ := blk5 HB1.out
  have hl1 := HB1.out.lt
  by_cases hbs : y.body.size ≤ 4000
  · have hd : decide ((4000 : Int) < (y.body.size : Int)) = false := by simp; omega
    have hd2 : decide (4000 < y.body.size) = false := by simp; omega
    have hb1 := lowF_lt y.from_ 2 (by omega)
    have hb2 := lowF_lt y.to 2 (by omega)
    have hb3 := lowF_lt y.seq 1099511627776 (by omega)
    have hfit : Fr.fits ⟨1, lowF y.from_ 2, 2 + lowF y.to 2, lowF y.seq 1099511627776, y.body⟩ := ⟨⟨by show (-9223372036854775808 : Int) ≤ 1; decide, by show (1 : Int) ≤ 9223372036854775807; decide⟩, ⟨by show _ ≤ lowF y.from_ 2; omega, by show lowF y.from_ 2 ≤ _; omega⟩, ⟨by show _ ≤ 2 + lowF y.to 2; omega, by show 2 + lowF y.to 2 ≤ _; omega⟩, ⟨by show _ ≤ lowF y.seq 1099511627776; omega, by show lowF y.seq 1099511627776 ≤ _; omega⟩⟩
    have hmay : Fr.may ⟨1, lowF y.from_ 2, 2 + lowF y.to 2, lowF y.seq 1099511627776, y.body⟩ = true := by
      simp [Fr.may, Fr.node]
      omega
    obtain ⟨SL, hfr, hS1, hS2, hS3, hS4⟩ := spoilt_facts _ hfit hmay hbs
    have hq : IntKind.i64.wrap (2 + lowF y.to 2) = 2 + lowF y.to 2 := IntWalk.i64_in _ (by omega)
    have CL := Lib.hid (fun x n W hn => low_any x n W hn)
    have CF := Lib.hid (fun W => show Calls Try.prog 9 #[.agg #[.int .i64 1, .int .i64 (lowF y.from_ 2), .int .i64 (2 + lowF y.to 2), .int .i64 (lowF y.seq 1099511627776), .string y.body]] W (fun e w' => e = .returned (.tuple #[.string ⟨SL.toArray⟩, .int .i64 0]) ∧ Below W.heap.size W w') by
      have C := packetFrame_any ⟨1, lowF y.from_ 2, 2 + lowF y.to 2, lowF y.seq 1099511627776, y.body⟩ W hfit
      rw [hfr] at C
      exact C)
    have KS := Lib.hid (fun W (hb : Below w1.heap.size w1 W) => show Below w1.heap.size w1 W ∧ W.cell? ⟨w.heap.size, 1, none⟩ = some (.int .i64 y.from_) ∧ W.cell? ⟨w.heap.size, 2, none⟩ = some (.int .i64 y.to) ∧ W.cell? ⟨w.heap.size, 3, none⟩ = some (.int .i64 y.seq) ∧ W.cell? ⟨w.heap.size, 4, none⟩ = some (.string y.body) by
      obtain ⟨x0, x1, x2, x3, x4⟩ := blk5 (HB1.out.belowS hb)
      exact ⟨hb, x1, x2, x3, x4⟩)
    have HS3 := Lib.hid hS3
    have HS4 := Lib.hid hS4
    clear hb1 hb2 hb3 hfit hmay hfr hS3 hS4
    go_upto_region 5 with fail
    go_cut [5, 6] (fun s5 s6 wx => s5 = .string ⟨SL.toArray⟩ ∧ s6 = .int .i64 0 ∧ Hid (Below w.heap.size w wx))
    case first =>
      go_region_held3 (fun W => Below w1.heap.size w1 W ∧ W.cell? ⟨w.heap.size, 1, none⟩ = some (.int .i64 y.from_) ∧ W.cell? ⟨w.heap.size, 2, none⟩ = some (.int .i64 y.to) ∧ W.cell? ⟨w.heap.size, 3, none⟩ = some (.int .i64 y.seq) ∧ W.cell? ⟨w.heap.size, 4, none⟩ = some (.string y.body))
        (first
          | (exact KS.out _ ((Below.refl _ _).drew))
          | (exact KS.out _ (And.left (by assumption)))
          | (exact KS.out _ (below_next (And.left (by assumption)) (by assumption))))
        (first
          | (go_at_call 8; refine (CL.out _ _ _ (by omega)).mono ?_; rintro e w' ⟨rfl, rfl⟩)
          | (go_at_call 9; refine (CF.out _).mono ?_; rintro e wf ⟨rfl, hbf⟩))
      all_goals
        go_wp2_with fail
        go_meet
        exact ⟨rfl, rfl, Lib.hid (below_next B1.out (And.left (by assumption)))⟩
    case rest =>
      obtain ⟨rfl, rfl, B2⟩ := hcut
      clear y0 y1 y2 y3 y4 hl1 hd hd2 hq HB1 KS CF CL hbs
      obtain ⟨cp, n, BR, hcp, hnn, hBRs, hBR, hconv⟩ := conv_any (P := Try.prog) wc 9 32 5 ⟨SL.toArray⟩ Try.underlying9 Try.underlying32 Try.underlying5
      obtain ⟨K, hKl, hKS⟩ := lowN bit (8 * SL.length) (by omega)
      rw [show ((8 * SL.length : Nat) : Int) = 8 * (SL.length : Int) by omega] at hKl
      have hd4 : decide ((SL.length : Int) < 4) = false := by simp; omega
      have hd5 : decide (SL.length < 4) = false := by simp; omega
      have hqb : K / 8 < (⟨SL.toArray⟩ : ByteArray).size := by show K / 8 < SL.length; omega
      have hqS : K / 8 < SL.length := hqb
      have hq' : (K : Int) / 8 < (SL.length : Int) := by omega
      have hcell := (mark_cell wc BR 5 n (K / 8)).trans (hBR _ hqb)
      have hfro := mark_frozen wc BR 5 n (K / 8) (by omega)
      have HBR := Lib.hid hBR
      have HKL := Lib.hid hKl
      clear hBR hKl hBRs hnn
      have hszS : (⟨SL.toArray⟩ : ByteArray).size = SL.length := rfl
      rw [hszS] at hcp hconv
      have hcp2 : SL.length ≤ cp := hcp
      clear hszS hcp
      go_wp2_with fail
      refine (low_any _ _ _ (by omega)).mono ?_
      rintro e w10 ⟨rfl, rfl⟩
      rw [HKL.out]
      go_wp2_with fail
      go_region
      generalize hW : ((wc.alloc (.cells BR 5 (n, n + 1))).setCell ⟨wc.heap.size, K / 8, none⟩ (.int .u8 (bits BinOp.xor IntKind.u8 (↑(⟨SL.toArray⟩ : ByteArray)[K / 8].toNat) (2 ^ (K % 8) % 256)))).drew.drew = W2
      have hflip : ∀ j (hj : j < (flipAt ⟨SL.toArray⟩ K).data.toList.length), W2.cell? ((⟨wc.heap.size, 0, none⟩ : Addr).add j) = some (.int .u8 ((flipAt ⟨SL.toArray⟩ K).data.toList[j].toNat : Int)) := by
        rw [← hW]
        exact flip_cells wc BR 5 n K ⟨SL.toArray⟩ HBR.out hqb _ (flip_byte _ K)
      have hold : Below wc.heap.size wc W2 := by
        rw [← hW]
        exact (((Below.refl _ _).alloc (Nat.le_refl _) _).setCell (by simp) _).drew.drew
      clear hW
      have hback : (convert 32 9 (.slice (some ⟨wc.heap.size, 0, none⟩) SL.length cp)).run Try.prog W2 = .ok (.string (flipAt ⟨SL.toArray⟩ K)) W2 := flip_back (P := Try.prog) W2 32 5 9 ⟨wc.heap.size, 0, none⟩ cp K ⟨SL.toArray⟩ Try.underlying32 Try.underlying5 Try.underlying9 hflip
      have B10 := Lib.hid (below_next B2.out hold)
      have CR9 := Lib.hid (fun W => show Calls Try.prog 11 #[.string (flipAt ⟨SL.toArray⟩ K)] W (fun e w' => e = .returned (.tuple #[.agg #[.int .i64 0, .int .i64 0, .int .i64 0, .int .i64 0, .string ⟨#[]⟩], .int .i64 3800]) ∧ Below W.heap.size W w') by
        have C := readFrame_any (flipAt ⟨SL.toArray⟩ K) W (by rw [flipAt_size]; show SL.length ≤ _; omega)
        rw [HS3.out K hqS] at C
        exact C)
      have CR8 := Lib.hid (fun W => show Calls Try.prog 11 #[.string ((⟨SL.toArray⟩ : ByteArray).extract 0 (SL.length - 1))] W (fun e w' => e = .returned (.tuple #[.agg #[.int .i64 0, .int .i64 0, .int .i64 0, .int .i64 0, .string ⟨#[]⟩], .int .i64 3800]) ∧ Below W.heap.size W w') by
        have C := readFrame_any ((⟨SL.toArray⟩ : ByteArray).extract 0 (SL.length - 1)) W (by rw [ba_size, ba_extract, List.length_take, List.length_drop]; show min _ (SL.length - 0) ≤ _; omega)
        rw [HS4.out] at C
        exact C)
      have hc1 : IntKind.i64.wrap ((SL.length : Int) - 1) = ((SL.length - 1 : Nat) : Int) := by rw [IntWalk.i64_in _ (by omega)]; omega
      have hcut1 := fun W => cutS0 (P := Try.prog) 9 Try.underlying9 (⟨SL.toArray⟩ : ByteArray) (SL.length - 1) (by show SL.length - 1 ≤ SL.length; omega) W
      clear hconv hcell hfro hflip hold hd4 hd5 hcp2 hq' hqS HS3 HS4 HBR
      go_wp2_with fail
      refine (CR9.out _).mono ?_
      rintro e w11 ⟨rfl, hb⟩
      have B11 := Lib.hid (below_next B10.out hb)
      clear hb
      go_wp2_with fail
      refine (CR8.out _).mono ?_
      rintro e w12 ⟨rfl, hb⟩
      have B12 := Lib.hid (below_next (below_allocS B11.out _) hb)
      clear hb
      go_wp2_with fail
      go_ret
      exact ⟨rfl, below_allocS B12.out _⟩
  · have hd : decide ((4000 : Int) < (y.body.size : Int)) = true := by simp; omega
    have hd2 : decide (4000 < y.body.size) = true := by simp; omega
    go_wp2_with fail
    go_ret
    exact ⟨rfl, B1.out⟩
end Go.Proofs.Ytfaophiaiflecaa
