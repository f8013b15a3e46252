/- Contract: reparteelaw38.PacketReads returns true. -/
import Derived.Test.YtfaophiaiflecaaNtBent
import Derived.Test.YtfaophiaiflecaaPkFirst
import Derived.Test.YtfaophiaiflecaaNtSame4
import Derived.Test.YtfaophiaiflecaaNtRdN
import Derived.Test.YtfaophiaiflecaaNtRdR
import Derived.Test.YtfaophiaiflecaaFlip
import Derived.Deep.DeepCutAuto
import Derived.Deep.RegionHeld3
namespace Go.Proofs.Ytfaophiaiflecaa
open Go.RowKit
set_option linter.unusedVariables false

theorem noteTF_size (x : Nt) : (noteTF x).1.size ≤ 4096 := by
  unfold noteTF
  split
  · split
    · exact Nat.zero_le _
    · rename_i h; show (noteB x).length ≤ 4096; omega
  · exact Nat.zero_le _
theorem lowN (x : Int) (n : Nat) (h : 1 ≤ n) : ∃ k : Nat, lowF x n = k ∧ k < n := by
  have := lowF_lt x n (by omega)
  exact ⟨(lowF x n).toNat, by omega, by omega⟩
theorem frameF_size (x : Fr) (h : x.body.size ≤ 5000) : (frameF x).1.size ≤ 100000 := by
  unfold frameF
  split
  · split
    · exact Nat.zero_le _
    · show (frB x ++ fourB (fnv (frB x))).length ≤ 100000
      rw [List.length_append, fourB_len]
      have := frB_len x
      omega
  · exact Nat.zero_le _
/-- The string with one byte another one. -/
def putAt (s : ByteArray) (j : Nat) (c : UInt8) : ByteArray := ⟨s.data.setIfInBounds j c⟩
theorem putAt_size (s : ByteArray) (j : Nat) (c : UInt8) : (putAt s j c).size = s.size := by
  show (s.data.setIfInBounds _ _).size = s.data.size
  simp
theorem put_cells (w : World) (BR : Array Value) (e n K : Nat) (s : ByteArray) (c : UInt8) (hBR : ∀ j (h : j < s.size), BR[j]? = some (.int .u8 (s[j].toNat : Int))) (hq : K < s.size) (x : Int) (hx : x = (c.toNat : Int)) :
    ∀ j (hj : j < (putAt s K c).data.toList.length), ((w.alloc (.cells BR e (n, n + 1))).setCell ⟨w.heap.size, K, none⟩ (.int .u8 x)).cell? ((⟨w.heap.size, 0, none⟩ : Addr).add j) = some (.int .u8 ((putAt s K c).data.toList[j].toNat : Int)) := by
  intro j hj
  have hj' : j < s.size := by rw [Array.length_toList] at hj; exact (putAt_size s K c) ▸ hj
  rw [addr_add]
  by_cases hjk : j = K
  · subst hjk
    rw [World.cell?_setCell_same _ _ _ ((mark_cell w BR e n _).trans (hBR _ hq)), hx]
    simp [putAt]
  · rw [World.cell?_setCell_other _ _ _ _ (by intro h; injection h with h1 h2; exact hjk h2.symm), mark_cell, hBR _ hj']
    have : (putAt s K c).data.toList[j] = s[j] := by
      simp [putAt, Ne.symm hjk]
      rfl
    rw [this]
theorem put_back {P : Program} (W : World) (src e dst : TypeId) (a : Addr) (cap K : Nat) (s : ByteArray) (c : UInt8) (hs : P.underlying src = some (.slice e)) (he : P.underlying e = some (.int .u8)) (hd : P.underlying dst = some .string)
    (hc : ∀ j (hj : j < (putAt s K c).data.toList.length), W.cell? (a.add j) = some (.int .u8 ((putAt s K c).data.toList[j].toNat : Int))) :
    (convert src dst (.slice (some a) s.size cap)).run P W = .ok (.string (putAt s K c)) W := by
  have h := run_convert_bytes_back (P := P) W src dst e a cap (putAt s K c).data.toList hs he hd hc
  have hl : (putAt s K c).data.toList.length = s.size := by rw [Array.length_toList]; exact putAt_size s K c
  rw [hl] at h
  exact h
theorem u8_mod (b : Int) : b % 256 = ((UInt8.ofNat (b % 256).toNat).toNat : Int) := by
  rw [UInt8.toNat_ofNat']
  omega
set_option maxRecDepth 100000 in
set_option maxHeartbeats 16000000 in
theorem reads_walk (x : Nt) (A : Option Addr) (c : Nat) (E : Option Addr) (d : Nat) (kind : Int) (y : Fr) (s : ByteArray) (raw : Bool) (at_ b : Int) (w : World) (hL : NtL w x A E) (hI : NtI x) (hag : x.agent.size ≤ 1000000000000000) (hse : x.session.size ≤ 1000000000000000) (hy : y.fits) :
    Calls Try.prog 6 #[.agg (x.cells A c E d), .int .i64 kind, .agg #[.int .i64 y.kind, .int .i64 y.from_, .int .i64 y.to, .int .i64 y.seq, .string y.body], .string s, .bool raw, .int .i64 at_, .int .i64 b] w fun e w' => e = .returned (.bool true) ∧ Below w.heap.size w w' := by
  obtain ⟨xk, xag, xse, xst, xpe, xla, ⟨xvk, xvn, xvs, xvl⟩, xpr, xen⟩ := x
  dsimp only [Nt.cells]
  have HL := Lib.hid hL
  have HI := Lib.hid hI
  have HAG := Lib.hid hag
  have HSE := Lib.hid hse
  have HY := Lib.hid hy
  have C1 := Lib.hid (fun W => pkFirst_any W)
  obtain ⟨W0, hW0⟩ : ∃ W0, W0 = (w.alloc (.cells #[.int .i64 xk, .string xag, .string xse, .int .i64 xst, .string xpe, .string xla, .int .i64 xvk, .int .i64 xvn, .string xvs, .slice A xvl.length c, .int .i64 xpr, .slice E xen.length d] 41)).alloc (.cells #[.int .i64 y.kind, .int .i64 y.from_, .int .i64 y.to, .int .i64 y.seq, .string y.body] 23) := ⟨_, rfl⟩
  have e0 : W0.heap.size = w.heap.size + 2 := by rw [hW0]; simp
  have HB := Lib.hid (show Blk W0 w.heap.size #[.int .i64 xk, .string xag, .string xse, .int .i64 xst, .string xpe, .string xla, .int .i64 xvk, .int .i64 xvn, .string xvs, .slice A xvl.length c, .int .i64 xpr, .slice E xen.length d] 41 by rw [hW0]; exact (Blk.new w _ _).alloc _)
  have HF := Lib.hid (show Blk W0 (w.heap.size + 1) #[.int .i64 y.kind, .int .i64 y.from_, .int .i64 y.to, .int .i64 y.seq, .string y.body] 23 by
    have h := Blk.new (w.alloc (.cells #[.int .i64 xk, .string xag, .string xse, .int .i64 xst, .string xpe, .string xla, .int .i64 xvk, .int .i64 xvn, .string xvs, .slice A xvl.length c, .int .i64 xpr, .slice E xen.length d] 41)) #[.int .i64 y.kind, .int .i64 y.from_, .int .i64 y.to, .int .i64 y.seq, .string y.body] 23
    rw [World.size_alloc] at h
    rw [hW0]; exact h)
  have BF := Lib.hid (show Below w.heap.size w W0 by rw [hW0]; exact below_allocS (below_allocS (Below.refl _ _) _) _)
  have HW := Lib.hid hW0
  clear hL hI hag hse hy hW0
  go_enter Try.func6, Try.ntmps6
  go_wp2_with fail
  rw [← HW.out]
  refine (C1.out _).mono ?_
  rintro e w1 ⟨rfl, hb1⟩
  have B1 := Lib.hid (below_next BF.out hb1)
  have HB1 := Lib.hid (HB.out.belowS hb1)
  have HF1 := Lib.hid (HF.out.belowS hb1)
  clear hb1 e0
  have x0 : w1.cell? ⟨w.heap.size, 0, none⟩ = some (.int .i64 xk) := HB1.out.cell 0
  have x1 : w1.cell? ⟨w.heap.size, 1, none⟩ = some (.string xag) := HB1.out.cell 1
  have x2 : w1.cell? ⟨w.heap.size, 2, none⟩ = some (.string xse) := HB1.out.cell 2
  have x3 : w1.cell? ⟨w.heap.size, 3, none⟩ = some (.int .i64 xst) := HB1.out.cell 3
  have x4 : w1.cell? ⟨w.heap.size, 4, none⟩ = some (.string xpe) := HB1.out.cell 4
  have x5 : w1.cell? ⟨w.heap.size, 5, none⟩ = some (.string xla) := HB1.out.cell 5
  have x6 : w1.cell? ⟨w.heap.size, 6, none⟩ = some (.int .i64 xvk) := HB1.out.cell 6
  have x7 : w1.cell? ⟨w.heap.size, 7, none⟩ = some (.int .i64 xvn) := HB1.out.cell 7
  have x8 : w1.cell? ⟨w.heap.size, 8, none⟩ = some (.string xvs) := HB1.out.cell 8
  have x9 : w1.cell? ⟨w.heap.size, 9, none⟩ = some (.slice A xvl.length c) := HB1.out.cell 9
  have x10 : w1.cell? ⟨w.heap.size, 10, none⟩ = some (.int .i64 xpr) := HB1.out.cell 10
  have x11 : w1.cell? ⟨w.heap.size, 11, none⟩ = some (.slice E xen.length d) := HB1.out.cell 11
  have hl1 := HB1.out.lt
  by_cases hs3 : 3000 < s.size
  · have hd1 : decide ((3000 : Int) < (s.size : Int)) = true := by simp; omega
    have hd2 : decide (3000 < s.size) = true := by simp; omega
    go_wp2_with fail
    go_ret
    exact ⟨rfl, B1.out⟩
  have hd1 : decide ((3000 : Int) < (s.size : Int)) = false := by simp; omega
  have hd2 : decide (3000 < s.size) = false := by simp; omega
  have CF := Lib.hid (few_any ⟨xk, xag, xse, xst, xpe, xla, ⟨xvk, xvn, xvs, xvl⟩, xpr, xen⟩ A c E d w1 (HL.out.none_.below B1.out).at)
  dsimp only [Nt.cells] at CF
  go_wp2_with fail
  refine CF.out.mono ?_
  rintro e w4 ⟨r, rfl, hf, hb4⟩
  have B4 := Lib.hid (below_next B1.out hb4)
  have HB4 := Lib.hid (HB1.out.belowS hb4)
  have HF4 := Lib.hid (HF1.out.belowS hb4)
  have HFW := Lib.hid hf
  clear hf hb4 hl1 CF x0 x1 x2 x3 x4 x5 x6 x7 x8 x9 x10 x11
  cases r with
  | false =>
    go_wp2_with fail
    go_ret
    exact ⟨rfl, B4.out⟩
  | true =>
    have y0 : w4.cell? ⟨w.heap.size + 1, 0, none⟩ = some (.int .i64 y.kind) := HF4.out.cell 0
    have y1 : w4.cell? ⟨w.heap.size + 1, 1, none⟩ = some (.int .i64 y.from_) := HF4.out.cell 1
    have y2 : w4.cell? ⟨w.heap.size + 1, 2, none⟩ = some (.int .i64 y.to) := HF4.out.cell 2
    have y3 : w4.cell? ⟨w.heap.size + 1, 3, none⟩ = some (.int .i64 y.seq) := HF4.out.cell 3
    have y4 : w4.cell? ⟨w.heap.size + 1, 4, none⟩ = some (.string y.body) := HF4.out.cell 4
    have hl4 := HF4.out.lt
    by_cases hbd : 5000 < y.body.size
    · have hd3 : decide ((5000 : Int) < (y.body.size : Int)) = true := by simp; omega
      have hd4 : decide (5000 < y.body.size) = true := by simp; omega
      go_wp2_with fail
      go_ret
      exact ⟨rfl, B4.out⟩
    have hd3 : decide ((5000 : Int) < (y.body.size : Int)) = false := by simp; omega
    have hd4 : decide (5000 < y.body.size) = false := by simp; omega
    have HS3 := Lib.hid (show s.size ≤ 3000 by omega)
    have HBD := Lib.hid (show y.body.size ≤ 5000 by omega)
    have HFX := Lib.hid (HFW.out rfl)
    clear HFW hbd hs3
    go_upto_if 46 with fail
    clear hd1 hd2 hd3 hd4 y0 y1 y2 y3 y4
    go_cut [15, 16] (fun s15 s16 wx => ∃ t u : ByteArray, s15 = .string t ∧ s16 = .string u ∧ t.size ≤ 1000000 ∧ u.size ≤ 1000000 ∧ Hid (Below w.heap.size w wx))
    case first =>
      cases raw with
      | true =>
        go_wp2_with fail
        go_meet
        exact ⟨s, s, rfl, rfl, by have := HS3.out; omega, by have := HS3.out; omega, B4⟩
      | false =>
        have x0 : w4.cell? ⟨w.heap.size, 0, none⟩ = some (.int .i64 xk) := HB4.out.cell 0
        have x1 : w4.cell? ⟨w.heap.size, 1, none⟩ = some (.string xag) := HB4.out.cell 1
        have x2 : w4.cell? ⟨w.heap.size, 2, none⟩ = some (.string xse) := HB4.out.cell 2
        have x3 : w4.cell? ⟨w.heap.size, 3, none⟩ = some (.int .i64 xst) := HB4.out.cell 3
        have x4 : w4.cell? ⟨w.heap.size, 4, none⟩ = some (.string xpe) := HB4.out.cell 4
        have x5 : w4.cell? ⟨w.heap.size, 5, none⟩ = some (.string xla) := HB4.out.cell 5
        have x6 : w4.cell? ⟨w.heap.size, 6, none⟩ = some (.int .i64 xvk) := HB4.out.cell 6
        have x7 : w4.cell? ⟨w.heap.size, 7, none⟩ = some (.int .i64 xvn) := HB4.out.cell 7
        have x8 : w4.cell? ⟨w.heap.size, 8, none⟩ = some (.string xvs) := HB4.out.cell 8
        have x9 : w4.cell? ⟨w.heap.size, 9, none⟩ = some (.slice A xvl.length c) := HB4.out.cell 9
        have x10 : w4.cell? ⟨w.heap.size, 10, none⟩ = some (.int .i64 xpr) := HB4.out.cell 10
        have x11 : w4.cell? ⟨w.heap.size, 11, none⟩ = some (.slice E xen.length d) := HB4.out.cell 11
        have hl5 := HB4.out.lt
        have HN := Lib.hid (HL.out.none_.more B4.out (g := w.heap.size) (Nat.le_refl _))
        have CB := Lib.hid (bent_any w.heap.size ⟨xk, xag, xse, xst, xpe, xla, ⟨xvk, xvn, xvs, xvl⟩, xpr, xen⟩ A c E d kind 11 w4 HB4.out.lt HN.out HI.out HAG.out HSE.out)
        dsimp only [Nt.cells] at CB
        go_wp2_with fail
        refine CB.out.mono ?_
        rintro e w5 ⟨ny, A2, c2, E2, d2, rfl, hn, hi, hsz, hb5⟩
        have hz := hsz HFX.out
        have CT := Lib.hid (noteText_any ny A2 E2 c2 d2 w5 (hz.at hn.at) (fun _ => hz.ok hi))
        have HTS := Lib.hid (noteTF_size ny)
        generalize noteTF ny = TF at *
        obtain ⟨t0, ec0⟩ := TF
        have B5 := Lib.hid (below_next B4.out hb5)
        have HF5 := Lib.hid (HF4.out.belowS hb5)
        clear hn hi hsz hz hb5 CB hl5 hl4 x0 x1 x2 x3 x4 x5 x6 x7 x8 x9 x10 x11
        go_wp2_with fail
        refine CT.out.mono ?_
        rintro e w6 ⟨rfl, hb6⟩
        have B6 := Lib.hid (below_next B5.out hb6)
        have HF6 := Lib.hid (HF5.out.belowS hb6)
        clear hb6 CT
        have hl6 := HF6.out.lt
        have b1 := lowF_lt kind 2 (by omega)
        have b2 := lowF_lt y.to 2 (by omega)
        obtain ⟨Q, hQ, hQ1, hQ2⟩ : ∃ Q, bits BinOp.and IntKind.i64 y.seq 65535 = Q ∧ -9223372036854775808 ≤ Q ∧ Q ≤ 9223372036854775807 := ⟨_, rfl, by unfold bits; rw [IntKind.wrap_i64]; omega, by unfold bits; rw [IntKind.wrap_i64]; omega⟩
        have hq1 : IntKind.i64.wrap (1 + lowF kind 2) = 1 + lowF kind 2 := IntWalk.i64_in _ (by omega)
        have hq2 : IntKind.i64.wrap (lowF y.to 2 * 2) = lowF y.to 2 * 2 := IntWalk.i64_in _ (by omega)
        have CX := Lib.hid (fun W => frameText_any ⟨1 + lowF kind 2, 1, lowF y.to 2 * 2, Q, y.body⟩ W ⟨⟨by show _ ≤ 1 + lowF kind 2; omega, by show 1 + lowF kind 2 ≤ _; omega⟩, ⟨by show _ ≤ (1 : Int); omega, by show (1 : Int) ≤ _; omega⟩, ⟨by show _ ≤ lowF y.to 2 * 2; omega, by show lowF y.to 2 * 2 ≤ _; omega⟩, ⟨hQ1, hQ2⟩⟩)
        have HUS := Lib.hid (frameF_size ⟨1 + lowF kind 2, 1, lowF y.to 2 * 2, Q, y.body⟩ HBD.out)
        dsimp only [Fr.cells] at CX
        generalize frameF ⟨1 + lowF kind 2, 1, lowF y.to 2 * 2, Q, y.body⟩ = UF at *
        obtain ⟨u0, uc0⟩ := UF
        have CL := Lib.hid (fun x n W hn => low_any x n W hn)
        have KS := Lib.hid (fun W (hb : Below w6.heap.size w6 W) => show Below w6.heap.size w6 W ∧ W.cell? ⟨w.heap.size + 1, 2, none⟩ = some (.int .i64 y.to) ∧ W.cell? ⟨w.heap.size + 1, 3, none⟩ = some (.int .i64 y.seq) ∧ W.cell? ⟨w.heap.size + 1, 4, none⟩ = some (.string y.body) from ⟨hb, (HF6.out.belowS hb).cell 2, (HF6.out.belowS hb).cell 3, (HF6.out.belowS hb).cell 4⟩)
        clear b1 b2 hQ1 hQ2
        go_upto_region 8 with fail
        go_cut [16] (fun s16 wx => s16 = .string u0 ∧ Hid (Below w6.heap.size w6 wx))
        case first =>
          go_region_held3 (fun W => Below w6.heap.size w6 W ∧ W.cell? ⟨w.heap.size + 1, 2, none⟩ = some (.int .i64 y.to) ∧ W.cell? ⟨w.heap.size + 1, 3, none⟩ = some (.int .i64 y.seq) ∧ W.cell? ⟨w.heap.size + 1, 4, none⟩ = some (.string y.body))
            (first
              | (exact KS.out _ ((Below.refl _ _).drew))
              | (exact KS.out _ (And.left (by assumption)))
              | (exact KS.out _ (below_next (And.left (by assumption)) (by assumption))))
            (first
              | (go_at_call 8; refine (CL.out _ _ _ (by omega)).mono ?_; rintro e w' ⟨rfl, rfl⟩)
              | (go_at_call 10; refine (CX.out _).mono ?_; rintro e wf ⟨rfl, hbf⟩))
          all_goals
            have HKP := Lib.hid (And.left (show Below w6.heap.size w6 _ ∧ _ by assumption))
            go_wp2_with fail
            go_meet
            exact ⟨rfl, HKP⟩
        case rest =>
          obtain ⟨rfl, BC⟩ := hcut
          have B7 := Lib.hid (below_next B6.out BC.out)
          clear KS CX hq1 hq2 hQ hl6
          have HT0 := Lib.hid (show t0.size ≤ 4096 from HTS.out)
          have HU0 := Lib.hid (show u0.size ≤ 100000 from HUS.out)
          clear HTS HUS
          go_upto_if 73 with fail
          go_cut [15] (fun s15 wx => ∃ t : ByteArray, s15 = .string t ∧ t.size ≤ 4096 ∧ Hid (Below wc.heap.size wc wx))
          case first =>
            by_cases ht : t0.size = 0
            · have hd : decide ((0 : Int) < (t0.size : Int)) = false := by rw [decide_eq_false_iff_not]; omega
              have hd2 : decide (0 < t0.size) = false := by rw [decide_eq_false_iff_not]; omega
              go_wp2_with fail
              go_meet
              exact ⟨t0, rfl, HT0.out, Lib.hid (Below.refl _ _)⟩
            · have hd : decide ((0 : Int) < (t0.size : Int)) = true := by rw [decide_eq_true_iff]; omega
              have hd2 : decide (0 < t0.size) = true := by rw [decide_eq_true_iff]; omega
              obtain ⟨cp, n, BR, hcp, hnn, hBRs, hBR, hconv⟩ := conv_any (P := Try.prog) wc 9 32 5 t0 Try.underlying9 Try.underlying32 Try.underlying5
              obtain ⟨K, hKl, hKS⟩ := lowN at_ t0.size (by omega)
              have hK' : (K : Int) < (t0.size : Int) := by omega
              have hcell := (mark_cell wc BR 5 n K).trans (hBR _ hKS)
              have hfro := mark_frozen wc BR 5 n K (by omega)
              have hsz4 := HT0.out
              have HBR := Lib.hid hBR
              have HKL := Lib.hid hKl
              clear hBR hKl hBRs hnn
              go_wp2_with fail
              refine (low_any _ _ _ (by omega)).mono ?_
              rintro e w10 ⟨rfl, rfl⟩
              rw [HKL.out]
              go_upto_region 12 with fail
              generalize hW : ((wc.alloc (.cells BR 5 (n, n + 1))).setCell ⟨wc.heap.size, K, none⟩ (.int .u8 (b % 256))).drew = W2
              have hput : ∀ j (hj : j < (putAt t0 K (UInt8.ofNat (b % 256).toNat)).data.toList.length), W2.cell? ((⟨wc.heap.size, 0, none⟩ : Addr).add j) = some (.int .u8 ((putAt t0 K (UInt8.ofNat (b % 256).toNat)).data.toList[j].toNat : Int)) := by
                rw [← hW]
                exact put_cells wc BR 5 n K t0 _ HBR.out hKS _ (u8_mod b)
              have hold : Below wc.heap.size wc W2 := by
                rw [← hW]
                exact (((Below.refl _ _).alloc (Nat.le_refl _) _).setCell (by simp) _).drew
              clear hW hcell hfro hconv
              have hback : (convert 32 9 (.slice (some ⟨wc.heap.size, 0, none⟩) t0.size cp)).run Try.prog W2 = .ok (.string (putAt t0 K (UInt8.ofNat (b % 256).toNat))) W2 := put_back (P := Try.prog) W2 32 5 9 ⟨wc.heap.size, 0, none⟩ cp K t0 _ Try.underlying32 Try.underlying5 Try.underlying9 hput
              have HOLD := Lib.hid hold
              clear hput hold hd hd2
              go_wp2_with fail
              go_meet
              exact ⟨_, rfl, by rw [putAt_size]; exact HT0.out, HOLD⟩
          case rest =>
            obtain ⟨t1, rfl, ht1, BD⟩ := hcut
            have B8 := Lib.hid (below_next B7.out BD.out)
            clear HT0
            go_upto_if 88 with fail
            go_cut [16] (fun s16 wx => ∃ u : ByteArray, s16 = .string u ∧ u.size ≤ 1000000 ∧ Hid (Below wc.heap.size wc wx))
            case first =>
              by_cases hu : u0.size ≤ 4
              · have hd : decide ((4 : Int) < (u0.size : Int)) = false := by rw [decide_eq_false_iff_not]; omega
                have hd2 : decide (4 < u0.size) = false := by rw [decide_eq_false_iff_not]; omega
                go_wp2_with fail
                go_meet
                exact ⟨u0, rfl, by have := HU0.out; omega, Lib.hid (Below.refl _ _)⟩
              · have hd : decide ((4 : Int) < (u0.size : Int)) = true := by rw [decide_eq_true_iff]; omega
                have hd2 : decide (4 < u0.size) = true := by rw [decide_eq_true_iff]; omega
                have hsz4 := HU0.out
                have q1 : IntKind.i64.wrap ((u0.size : Int) - 4) = ((u0.size - 4 : Nat) : Int) := by rw [IntWalk.i64_in _ (by omega)]; omega
                have q2 : wrap64 ((u0.size : Int) - 4) = ((u0.size - 4 : Nat) : Int) := by rw [IntWalk.wrap64_in _ (by omega)]; omega
                have hcut := fun W => cutS0 (P := Try.prog) 9 Try.underlying9 u0 (u0.size - 4) (by omega) W
                obtain ⟨v, hv⟩ : ∃ v, v = u0.extract 0 (u0.size - 4) := ⟨_, rfl⟩
                have hvs : v.size = u0.size - 4 := by rw [hv, ByteArray.size_extract]; omega
                have hv1 : 0 < v.size ∧ v.size ≤ 100000 := by omega
                rw [← hv] at hcut
                have HVS := Lib.hid hvs
                clear hv hvs
                obtain ⟨hv0, hv9⟩ := hv1
                obtain ⟨cp, n, BR, hcp, hnn, hBRs, hBR, hconv⟩ := conv_any (P := Try.prog) wc 9 32 5 v Try.underlying9 Try.underlying32 Try.underlying5
                obtain ⟨K, hKl, hKS⟩ := lowN at_ v.size (by omega)
                have hK' : (K : Int) < (v.size : Int) := by omega
                have hcell := (mark_cell wc BR 5 n K).trans (hBR _ hKS)
                have hfro := mark_frozen wc BR 5 n K (by omega)
                have HBR := Lib.hid hBR
                have HKL := Lib.hid hKl
                clear hBR hKl hBRs hnn
                go_wp2_with fail
                refine (low_any _ _ _ (by omega)).mono ?_
                rintro e w10 ⟨rfl, rfl⟩
                rw [HKL.out]
                go_upto_region 16 with fail
                generalize hW : ((wc.alloc (.cells BR 5 (n, n + 1))).setCell ⟨wc.heap.size, K, none⟩ (.int .u8 (b % 256))).drew = W2
                have hput : ∀ j (hj : j < (putAt v K (UInt8.ofNat (b % 256).toNat)).data.toList.length), W2.cell? ((⟨wc.heap.size, 0, none⟩ : Addr).add j) = some (.int .u8 ((putAt v K (UInt8.ofNat (b % 256).toNat)).data.toList[j].toNat : Int)) := by
                  rw [← hW]
                  exact put_cells wc BR 5 n K v _ HBR.out hKS _ (u8_mod b)
                have hold : Below wc.heap.size wc W2 := by
                  rw [← hW]
                  exact (((Below.refl _ _).alloc (Nat.le_refl _) _).setCell (by simp) _).drew
                have hlw : wc.heap.size < W2.heap.size := by rw [← hW]; simp
                clear hW hcell hfro hconv hcut
                have hps := putAt_size v K (UInt8.ofNat (b % 256).toNat)
                have KB := Lib.hid (fun W (hb : Below W2.heap.size W2 W) => show Below W2.heap.size W2 W ∧ (convert 32 9 (.slice (some ⟨wc.heap.size, 0, none⟩) v.size cp)).run Try.prog W = .ok (.string (putAt v K (UInt8.ofNat (b % 256).toNat))) W from
                  ⟨hb, put_back (P := Try.prog) W 32 5 9 ⟨wc.heap.size, 0, none⟩ cp K v _ Try.underlying32 Try.underlying5 Try.underlying9 (fun j hj => by rw [addr_add]; rw [hb.cell (p := ⟨wc.heap.size, j, none⟩) hlw]; have := hput j hj; rwa [addr_add] at this)⟩)
                generalize putAt v K (UInt8.ofNat (b % 256).toNat) = P at *
                have CS := Lib.hid (fun W => sumtext_any P W (by unfold maxLen; omega))
                have h4 := fourB_len (fnv P.data.toList)
                generalize fourB (fnv P.data.toList) = L at *
                have hcat : ¬ 9223372036854775807 < P.size + L.length := by omega
                have HL4 := Lib.hid (show P.size + L.length ≤ 1000000 by omega)
                have HOLD := Lib.hid hold
                clear hput hold h4 hps hlw hd hd2
                go_region_held3 (fun W => Below W2.heap.size W2 W ∧ (convert 32 9 (.slice (some ⟨wc.heap.size, 0, none⟩) v.size cp)).run Try.prog W = .ok (.string P) W)
                  (first
                    | (exact KB.out _ ((Below.refl _ _).drew))
                    | (exact KB.out _ (And.left (by assumption)))
                    | (exact KB.out _ (below_next (And.left (by assumption)) (by assumption))))
                  ((go_at_call 20; refine (CS.out _).mono ?_; rintro e wf ⟨rfl, hbf⟩))
                all_goals
                  have HKP := Lib.hid (And.left (show Below W2.heap.size W2 _ ∧ _ by assumption))
                  go_wp2_with fail
                  go_meet
                  exact ⟨_, rfl, by rw [ByteArray.size_append]; exact HL4.out, Lib.hid (below_next HOLD.out HKP.out)⟩
            case rest =>
              obtain ⟨u1, rfl, hu1, BE⟩ := hcut
              have B9 := Lib.hid (below_next B8.out BE.out)
              go_wp2_with fail
              go_meet
              exact ⟨t1, u1, rfl, rfl, by omega, hu1, B9⟩
    case rest =>
      obtain ⟨t, u, rfl, rfl, ht, hu, B5⟩ := hcut
      have C1 := Lib.hid (fun W => readNote_any t W)
      have C2 := Lib.hid (fun W => rreadNote_any t W ht)
      have C3 := Lib.hid (fun W => readFrame_any u W hu)
      have C4 := Lib.hid (fun W => rreadFrame_any u W hu)
      generalize readNoteF t = RN at *
      generalize readFrameF u = RF at *
      obtain ⟨⟨rk, rag, rse, rst, rpe, rla, ⟨rvk, rvn, rvs, rvl⟩, rpr, ren⟩, rc⟩ := RN
      obtain ⟨⟨fk, ff, ft, fq, fb⟩, fc⟩ := RF
      dsimp only [Nt.cells, Fr.cells] at C1 C2 C3 C4
      clear hl4 HB HF BF HW HB1 HF1 HB4 HF4 B1 B4 HL HI HAG HSE HY
      go_wp2_with fail
      refine (C1.out _).mono ?_
      rintro e w5 ⟨A1, c1, E1, d1, rfl, hat1, hb5⟩
      have B6 := Lib.hid (below_next B5.out hb5)
      have HA1 := Lib.hid hat1
      have HV1 := Lib.hid (Blk.new w5 #[.int .i64 rk, .string rag, .string rse, .int .i64 rst, .string rpe, .string rla, .int .i64 rvk, .int .i64 rvn, .string rvs, .slice A1 rvl.length c1, .int .i64 rpr, .slice E1 ren.length d1] 41)
      clear hb5 hat1
      go_wp2_with fail
      refine (C2.out _).mono ?_
      rintro e w6 ⟨A2, c2, E2, d2, rfl, hat2, hb6⟩
      have B7 := Lib.hid (below_next (below_allocS B6.out _) hb6)
      have HA2 := Lib.hid hat2
      have HA12 := Lib.hid ((HA1.out.below (below_allocS (Below.refl _ _) (.cells #[.int .i64 rk, .string rag, .string rse, .int .i64 rst, .string rpe, .string rla, .int .i64 rvk, .int .i64 rvn, .string rvs, .slice A1 rvl.length c1, .int .i64 rpr, .slice E1 ren.length d1] 41))).below hb6)
      have HV12 := Lib.hid (HV1.out.belowS hb6)
      have HV2 := Lib.hid (Blk.new w6 #[.int .i64 rk, .string rag, .string rse, .int .i64 rst, .string rpe, .string rla, .int .i64 rvk, .int .i64 rvn, .string rvs, .slice A2 rvl.length c2, .int .i64 rpr, .slice E2 ren.length d2] 41)
      clear hb6 hat2
      go_wp2_with fail
      refine (C3.out _).mono ?_
      rintro e w7 ⟨rfl, hb7⟩
      have B8 := Lib.hid (below_next (below_allocS B7.out _) hb7)
      have HA22 := Lib.hid ((HA2.out.below (below_allocS (Below.refl _ _) (.cells #[.int .i64 rk, .string rag, .string rse, .int .i64 rst, .string rpe, .string rla, .int .i64 rvk, .int .i64 rvn, .string rvs, .slice A2 rvl.length c2, .int .i64 rpr, .slice E2 ren.length d2] 41))).below hb7)
      have HA13 := Lib.hid ((HA12.out.below (below_allocS (Below.refl _ _) (.cells #[.int .i64 rk, .string rag, .string rse, .int .i64 rst, .string rpe, .string rla, .int .i64 rvk, .int .i64 rvn, .string rvs, .slice A2 rvl.length c2, .int .i64 rpr, .slice E2 ren.length d2] 41))).below hb7)
      have HV13 := Lib.hid ((HV12.out.alloc (.cells #[.int .i64 rk, .string rag, .string rse, .int .i64 rst, .string rpe, .string rla, .int .i64 rvk, .int .i64 rvn, .string rvs, .slice A2 rvl.length c2, .int .i64 rpr, .slice E2 ren.length d2] 41)).belowS hb7)
      have HV22 := Lib.hid (HV2.out.belowS hb7)
      have HF3 := Lib.hid (Blk.new w7 #[.int .i64 fk, .int .i64 ff, .int .i64 ft, .int .i64 fq, .string fb] 23)
      clear hb7
      go_wp2_with fail
      refine (C4.out _).mono ?_
      rintro e w8 ⟨rfl, hb8⟩
      have B9 := Lib.hid (below_next (below_allocS B8.out _) hb8)
      have HA23 := Lib.hid ((HA22.out.below (below_allocS (Below.refl _ _) (.cells #[.int .i64 fk, .int .i64 ff, .int .i64 ft, .int .i64 fq, .string fb] 23))).below hb8)
      have HA14 := Lib.hid ((HA13.out.below (below_allocS (Below.refl _ _) (.cells #[.int .i64 fk, .int .i64 ff, .int .i64 ft, .int .i64 fq, .string fb] 23))).below hb8)
      have HV14 := Lib.hid ((HV13.out.alloc (.cells #[.int .i64 fk, .int .i64 ff, .int .i64 ft, .int .i64 fq, .string fb] 23)).belowS hb8)
      have HV23 := Lib.hid ((HV22.out.alloc (.cells #[.int .i64 fk, .int .i64 ff, .int .i64 ft, .int .i64 fq, .string fb] 23)).belowS hb8)
      have HF32 := Lib.hid (HF3.out.belowS hb8)
      clear hb8 C1 C2 C3 C4
      have p0 : w8.cell? ⟨w5.heap.size, 0, none⟩ = some (.int .i64 rk) := HV14.out.cell 0
      have p1 : w8.cell? ⟨w5.heap.size, 1, none⟩ = some (.string rag) := HV14.out.cell 1
      have p2 : w8.cell? ⟨w5.heap.size, 2, none⟩ = some (.string rse) := HV14.out.cell 2
      have p3 : w8.cell? ⟨w5.heap.size, 3, none⟩ = some (.int .i64 rst) := HV14.out.cell 3
      have p4 : w8.cell? ⟨w5.heap.size, 4, none⟩ = some (.string rpe) := HV14.out.cell 4
      have p5 : w8.cell? ⟨w5.heap.size, 5, none⟩ = some (.string rla) := HV14.out.cell 5
      have p6 : w8.cell? ⟨w5.heap.size, 6, none⟩ = some (.int .i64 rvk) := HV14.out.cell 6
      have p7 : w8.cell? ⟨w5.heap.size, 7, none⟩ = some (.int .i64 rvn) := HV14.out.cell 7
      have p8 : w8.cell? ⟨w5.heap.size, 8, none⟩ = some (.string rvs) := HV14.out.cell 8
      have p9 : w8.cell? ⟨w5.heap.size, 9, none⟩ = some (.slice A1 rvl.length c1) := HV14.out.cell 9
      have p10 : w8.cell? ⟨w5.heap.size, 10, none⟩ = some (.int .i64 rpr) := HV14.out.cell 10
      have p11 : w8.cell? ⟨w5.heap.size, 11, none⟩ = some (.slice E1 ren.length d1) := HV14.out.cell 11
      have q0 : w8.cell? ⟨w6.heap.size, 0, none⟩ = some (.int .i64 rk) := HV23.out.cell 0
      have q1 : w8.cell? ⟨w6.heap.size, 1, none⟩ = some (.string rag) := HV23.out.cell 1
      have q2 : w8.cell? ⟨w6.heap.size, 2, none⟩ = some (.string rse) := HV23.out.cell 2
      have q3 : w8.cell? ⟨w6.heap.size, 3, none⟩ = some (.int .i64 rst) := HV23.out.cell 3
      have q4 : w8.cell? ⟨w6.heap.size, 4, none⟩ = some (.string rpe) := HV23.out.cell 4
      have q5 : w8.cell? ⟨w6.heap.size, 5, none⟩ = some (.string rla) := HV23.out.cell 5
      have q6 : w8.cell? ⟨w6.heap.size, 6, none⟩ = some (.int .i64 rvk) := HV23.out.cell 6
      have q7 : w8.cell? ⟨w6.heap.size, 7, none⟩ = some (.int .i64 rvn) := HV23.out.cell 7
      have q8 : w8.cell? ⟨w6.heap.size, 8, none⟩ = some (.string rvs) := HV23.out.cell 8
      have q9 : w8.cell? ⟨w6.heap.size, 9, none⟩ = some (.slice A2 rvl.length c2) := HV23.out.cell 9
      have q10 : w8.cell? ⟨w6.heap.size, 10, none⟩ = some (.int .i64 rpr) := HV23.out.cell 10
      have q11 : w8.cell? ⟨w6.heap.size, 11, none⟩ = some (.slice E2 ren.length d2) := HV23.out.cell 11
      have f0 : w8.cell? ⟨w7.heap.size, 0, none⟩ = some (.int .i64 fk) := HF32.out.cell 0
      have f1 : w8.cell? ⟨w7.heap.size, 1, none⟩ = some (.int .i64 ff) := HF32.out.cell 1
      have f2 : w8.cell? ⟨w7.heap.size, 2, none⟩ = some (.int .i64 ft) := HF32.out.cell 2
      have f3 : w8.cell? ⟨w7.heap.size, 3, none⟩ = some (.int .i64 fq) := HF32.out.cell 3
      have f4 : w8.cell? ⟨w7.heap.size, 4, none⟩ = some (.string fb) := HF32.out.cell 4
      have hl5 := HV14.out.lt
      have hl6 := HV23.out.lt
      have hl7 := HF32.out.lt
      have CS := Lib.hid (fun W (hb : Below w8.heap.size w8 W) => sameNote_any ⟨rk, rag, rse, rst, rpe, rla, ⟨rvk, rvn, rvs, rvl⟩, rpr, ren⟩ ⟨rk, rag, rse, rst, rpe, rla, ⟨rvk, rvn, rvs, rvl⟩, rpr, ren⟩ A1 E1 A2 E2 c1 d1 c2 d2 W (HA14.out.below hb) (HA23.out.below hb))
      dsimp only [Nt.cells] at CS
      go_wp2_with fail
      have BN := below_allocS (Below.refl w8.heap.size w8) (.cells #[.int .i64 fk, .int .i64 ff, .int .i64 ft, .int .i64 fq, .string fb] 23)
      refine (CS.out _ BN).mono ?_
      rintro e w9 ⟨rfl, hb9⟩
      have B10 := Lib.hid (below_next (below_next B9.out BN) hb9)
      have HF33 := Lib.hid ((HF32.out.alloc (.cells #[.int .i64 fk, .int .i64 ff, .int .i64 ft, .int .i64 fq, .string fb] 23)).belowS hb9)
      have HF43 := Lib.hid ((Blk.new w8 #[.int .i64 fk, .int .i64 ff, .int .i64 ft, .int .i64 fq, .string fb] 23).belowS hb9)
      clear hb9 BN hl5 hl6 hl7 CS p0 p1 p2 p3 p4 p5 p6 p7 p8 p9 p10 p11 q0 q1 q2 q3 q4 q5 q6 q7 q8 q9 q10 q11 f0 f1 f2 f3 f4
      have p0 : w9.cell? ⟨w7.heap.size, 0, none⟩ = some (.int .i64 fk) := HF33.out.cell 0
      have p1 : w9.cell? ⟨w7.heap.size, 1, none⟩ = some (.int .i64 ff) := HF33.out.cell 1
      have p2 : w9.cell? ⟨w7.heap.size, 2, none⟩ = some (.int .i64 ft) := HF33.out.cell 2
      have p3 : w9.cell? ⟨w7.heap.size, 3, none⟩ = some (.int .i64 fq) := HF33.out.cell 3
      have p4 : w9.cell? ⟨w7.heap.size, 4, none⟩ = some (.string fb) := HF33.out.cell 4
      have q0 : w9.cell? ⟨w8.heap.size, 0, none⟩ = some (.int .i64 fk) := HF43.out.cell 0
      have q1 : w9.cell? ⟨w8.heap.size, 1, none⟩ = some (.int .i64 ff) := HF43.out.cell 1
      have q2 : w9.cell? ⟨w8.heap.size, 2, none⟩ = some (.int .i64 ft) := HF43.out.cell 2
      have q3 : w9.cell? ⟨w8.heap.size, 3, none⟩ = some (.int .i64 fq) := HF43.out.cell 3
      have q4 : w9.cell? ⟨w8.heap.size, 4, none⟩ = some (.string fb) := HF43.out.cell 4
      have hl5 := HF33.out.lt
      have hl6 := HF43.out.lt
      try rw [decide_eq_true rfl]
      go_wp2_with fail
      go_ret
      exact ⟨by simp, B10.out⟩
end Go.Proofs.Ytfaophiaiflecaa
