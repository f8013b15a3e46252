/- The walk of the law JournalBack. -/
import Derived.Test.YthepacphphiijaaJrFirst
import Derived.Test.YthepacphphiijaaJrAhead
import Derived.Test.YthepacphphiijaaFlip
import Derived.RegionTactic
import Derived.ChangeAlike
namespace Go.Proofs.Ythepacphphiijaa
open Go.RowKit

theorem jsame_n (A B : Option Addr) (l : List In) (n m c d : Nat) (hn : n = l.length) (hm : m = l.length) (w : World) (ha : Rd w A (irow l)) (hb : Rd w B (irow l)) (hl : l.length ≤ 9223372036854775807) :
    Calls Try.prog 13 #[.slice A n c, .slice B m d] w fun e w' => e = .returned (.bool true) ∧ Below w.heap.size w w' := by
  subst hn; subst hm; exact jsame_any A B l c d w ha hb hl
theorem lowN (x : Int) (n : Nat) (h : 1 ≤ n) : ∃ k : Nat, lowF x n = k ∧ k < n := by
  have := lowF_lt x n (by omega)
  exact ⟨(lowF x n).toNat, by omega, by omega⟩
set_option maxRecDepth 100000 in
set_option maxHeartbeats 8000000 in
theorem back_walk (A : Option Addr) (l : List In) (c : Nat) (cut bit : Int) (w : World) (ha : Rd w A (irow l)) (hc : l.length ≤ c) (hcm : c ≤ maxLen)
    (hrg : ∀ x ∈ l, (-9223372036854775808 ≤ x.kind ∧ x.kind ≤ 9223372036854775807) ∧ (-9223372036854775808 ≤ x.frm ∧ x.frm ≤ 9223372036854775807)) :
    Calls Try.prog 4 #[.slice A l.length c, .int .i64 cut, .int .i64 bit] w fun e w' => e = .returned (.bool true) ∧ Below w.heap.size w w' := by
  have HA := Lib.hid ha
  have hl63 : l.length ≤ 9223372036854775807 := by unfold maxLen at hcm; omega
  have HFW := Lib.hid (fun W hb => jfew_any A l c W (HA.out.below hb) hl63)
  have HRG := Lib.hid hrg
  clear ha hrg hcm hl63
  go_enter Try.func4, Try.ntmps4
  go_wp2_with fail
  refine (first41_any w).mono ?_
  rintro e w1 ⟨rfl, hb⟩
  have B1 := Lib.hid hb
  clear hb
  go_wp2_with fail
  refine (HFW.out _ B1.out).mono ?_
  rintro e w2 ⟨rfl, rfl⟩
  rcases hf : fewF l with _ | _
  · go_wp2_with fail
    go_ret
    exact ⟨rfl, B1.out⟩
  obtain ⟨hl50, hbd⟩ := fewF_spec hf
  have hok : ∀ x ∈ l, x.ok := fun x hx => ⟨(HRG.out x hx).1, (HRG.out x hx).2, by have := hbd x hx; omega⟩
  have HOK := Lib.hid hok
  have hSl := recsB_len l hok
  have HRS := Lib.hid (reads_recs l hok)
  have HRP := Lib.hid (reads_prefix l hok)
  have CW := Lib.hid (fun W (hb : Below w.heap.size w W) => jwrite_any A l c W (HA.out.below hb) HOK.out (by omega))
  have hSb : (recsB l).length ≤ 100000000000 := by omega
  clear hf hbd hok hSl
  generalize hS : recsB l = S at *
  have HS := Lib.hid hS
  clear hS
  go_wp2_with fail
  refine (CW.out _ B1.out).mono ?_
  rintro e w3 ⟨rfl, hb⟩
  have B3 := Lib.hid (below_next B1.out hb)
  clear hb
  go_wp2_with fail
  refine (jread_any ⟨S.toArray⟩ w3 (by show S.length ≤ _; omega)).mono ?_
  rintro e w4 ⟨A4, L4, c4, m4, rfl, hR, hle4, hown4, hb⟩
  obtain ⟨hL4, rfl⟩ := HRS.out.same hR.out
  obtain rfl : l = L4 := hL4.symm
  have B4 := Lib.hid (below_next B3.out hb)
  have R4 := Lib.hid (own_rd hown4)
  clear hR hown4 hb
  go_wp2_with fail
  refine (jsame_any A4 A l c4 c w4 R4.out (HA.out.below B4.out) (by omega)).mono ?_
  rintro e w5 ⟨rfl, hb⟩
  have B5 := Lib.hid (below_next B4.out hb)
  clear hb
  go_wp2_with fail
  refine (low_any _ _ _ (by omega)).mono ?_
  rintro e w6 ⟨rfl, rfl⟩
  obtain ⟨k, hkl, hkS⟩ := lowN cut (S.length + 1) (by omega)
  rw [show ((S.length + 1 : Nat) : Int) = (S.length : Int) + 1 by omega] at hkl
  rw [hkl]
  clear hkl
  obtain ⟨j, hjl, hRj, hmk, hnext⟩ := HRP.out k (by omega)
  have hex : ((⟨S.toArray⟩ : ByteArray).extract 0 k).data.toList = S.take k := by rw [ba_extract]; simp
  have CR := Lib.hid (fun W => jread_any ((⟨S.toArray⟩ : ByteArray).extract 0 k) W (by rw [ba_size, hex, List.length_take]; omega))
  rw [hex] at CR
  have HRj := Lib.hid hRj
  have hkS' : k ≤ S.length := by omega
  clear hex hRj
  generalize hM : (recsB (l.take j)).length = M at *
  have HM := Lib.hid hM
  clear hM hkS
  go_wp2_with fail
  refine (CR.out _).mono ?_
  rintro e w7 ⟨A7, L7, c7, m7, rfl, hR, hle7, hown7, hb⟩
  obtain ⟨hL7, rfl⟩ := HRj.out.same hR.out
  have hL7l : L7.length = j := by rw [hL7, List.length_take]; omega
  have B7 := Lib.hid (below_next B5.out hb)
  have R7 := Lib.hid (own_rd hown7)
  have HL7 := Lib.hid hL7
  rw [hL7l] at hle7 ⊢
  clear hR hown7 hb hL7 hL7l
  obtain ⟨i0, hi0, hz0, hz1, hz2⟩ := info_parts infoInput
  have hcut0 := fun W => run_cut0 (P := Try.prog) 27 39 Try.underlying27 i0 hi0 A l.length c j (j : Int) rfl (by omega) W
  have HLj := Lib.hid (show j = (l.take j).length by rw [List.length_take]; omega)
  have CS := Lib.hid (fun W (hb : Below w7.heap.size w7 W) => jsame_n A7 A (l.take j) j j c7 c HLj.out HLj.out W (by rw [← HL7.out]; exact R7.out.below hb) (rd_take (HA.out.below (below_next B7.out hb)) j) (by rw [← HLj.out]; omega))
  have CW2 := Lib.hid (fun W (hb : Below w7.heap.size w7 W) => jwrite_n A (l.take j) j c HLj.out W (rd_take (HA.out.below (below_next B7.out hb)) j) (mem_take HOK.out j) (by rw [← HLj.out]; omega))
  have hMlen : (⟨(recsB (l.take j)).toArray⟩ : ByteArray).size = m7 := HM.out
  have HMlen := Lib.hid hMlen
  have hmlt : ((m7 : Int) != (m7 : Int)) = false := by simp
  clear hMlen
  go_upto_region 11 with fail
  go_cut [97] (fun s97 wx => s97 = .bool false ∧ Hid (Below w7.heap.size w7 wx))
  case first =>
    go_wp2_with fail
    refine (CS.out _ (Below.refl _ _)).mono ?_
    rintro e w8 ⟨rfl, hb8⟩
    have B78 := Lib.hid hb8
    clear hb8
    go_wp2_with fail
    refine (CW2.out _ B78.out).mono ?_
    rintro e w9 ⟨rfl, hb9⟩
    have B79 := Lib.hid (below_next B78.out hb9)
    clear hb9
    generalize recsB (l.take j) = Rj at *
    have hRjl : Rj.length = m7 := HMlen.out
    subst hRjl
    by_cases hjlt : j < l.length
    · have hcut1 := fun W => run_cut0 (P := Try.prog) 27 39 Try.underlying27 i0 hi0 A l.length c (j + 1) ((j : Int) + 1) (by omega) (by omega) W
      have HLj1 := Lib.hid (show j + 1 = (l.take (j + 1)).length by rw [List.length_take]; omega)
      have CW3 := Lib.hid (fun W (hb : Below w7.heap.size w7 W) => jwrite_n A (l.take (j + 1)) (j + 1) c HLj1.out W (rd_take (HA.out.below (below_next B7.out hb)) (j + 1)) (mem_take HOK.out (j + 1)) (by rw [← HLj1.out]; omega))
      have hnk := hnext hjlt
      have hR3 : (recsB (l.take (j + 1))).length ≤ 1000000100000 := by
        have := recsB_len (l.take (j + 1)) (mem_take HOK.out _)
        rw [List.length_take] at this; omega
      clear hnext
      generalize recsB (l.take (j + 1)) = R3 at *
      have hd1 : decide ((R3.length : Int) ≤ (k : Int)) = false := by simp; omega
      have hd2 : decide (R3.length ≤ k) = false := by simp; omega
      go_wp2_with fail
      refine (CW3.out _ B79.out).mono ?_
      rintro e w10 ⟨rfl, hb10⟩
      have B710 := Lib.hid (below_next B79.out hb10)
      clear hb10
      go_wp2_with fail
      go_meet
      exact ⟨by simp; omega, B710.out⟩
    · clear hnext
      go_wp2_with fail
      go_meet
      exact ⟨by simp; omega, B79.out⟩
  case rest =>
    obtain ⟨rfl, BX⟩ := hcut
    have B8 := Lib.hid (below_next B7.out BX.out)
    clear hcut0
    by_cases hS0 : S = []
    · subst hS0
      go_wp2_with fail
      go_ret
      exact ⟨rfl, B8.out⟩
    · have hpos : 0 < S.length := List.length_pos_iff.2 hS0
      clear hS0
      obtain ⟨cp, n, BR, hcp, hnn, hBRs, hBR, hconv⟩ := conv_any (P := Try.prog) wc 9 34 5 ⟨S.toArray⟩ Try.underlying9 Try.underlying34 Try.underlying5
      obtain ⟨K, hKl, hKS⟩ := lowN bit (8 * S.length) (by omega)
      rw [show ((8 * S.length : Nat) : Int) = 8 * (S.length : Int) by omega] at hKl
      have hq : K / 8 < (⟨S.toArray⟩ : ByteArray).size := by show K / 8 < S.length; omega
      have hqS : K / 8 < S.length := hq
      have hq' : (K : Int) / 8 < (S.length : Int) := by omega
      have hcell := (mark_cell wc BR 5 n (K / 8)).trans (hBR _ hq)
      have hfro := mark_frozen wc BR 5 n (K / 8) (by omega)
      have HB := Lib.hid hBR
      have HKL := Lib.hid hKl
      clear hBR hKl hBRs hnn hnext hmk hkS' hmlt hle7 hjl
      have hszS : (⟨S.toArray⟩ : ByteArray).size = S.length := rfl
      rw [hszS] at hcp hconv
      have hcp2 : S.length ≤ cp := hcp
      clear hszS hcp
      go_wp2_with fail
      refine (low_any _ _ _ (by omega)).mono ?_
      rintro e w10 ⟨rfl, rfl⟩
      rw [HKL.out]
      go_wp2_with fail
      go_region
      generalize hW : ((wc.alloc (.cells BR 5 (n, n + 1))).setCell ⟨wc.heap.size, K / 8, none⟩ (.int .u8 (bits BinOp.xor IntKind.u8 (↑(⟨S.toArray⟩ : ByteArray)[K / 8].toNat) (2 ^ (K % 8) % 256)))).drew.drew = W2
      have hflip : ∀ j (hj : j < (flipAt ⟨S.toArray⟩ K).data.toList.length), W2.cell? ((⟨wc.heap.size, 0, none⟩ : Addr).add j) = some (.int .u8 ((flipAt ⟨S.toArray⟩ K).data.toList[j].toNat : Int)) := by
        rw [← hW]
        exact flip_cells wc BR 5 n K ⟨S.toArray⟩ HB.out hq _ (flip_byte _ K)
      have hold : Below wc.heap.size wc W2 := by
        rw [← hW]
        exact (((Below.refl _ _).alloc (Nat.le_refl _) _).setCell (by simp) _).drew.drew
      clear hW
      have hback : (convert 34 9 (.slice (some ⟨wc.heap.size, 0, none⟩) S.length cp)).run Try.prog W2 = .ok (.string (flipAt ⟨S.toArray⟩ K)) W2 := flip_back (P := Try.prog) W2 34 5 9 ⟨wc.heap.size, 0, none⟩ cp K ⟨S.toArray⟩ Try.underlying34 Try.underlying5 Try.underlying9 hflip
      have B10 := Lib.hid (below_next B8.out hold)
      clear hconv hcell hfro hflip hold
      have hfl := flip_list S K hqS
      have hfne := flip_ne S[K / 8] K
      have HSP := Lib.hid (fun d hd c m => @reads_spoilt l HOK.out (K / 8) d (by rw [HS.out]; exact hqS) hd c m)
      have CR9 := Lib.hid (fun W => jread_any (flipAt ⟨S.toArray⟩ K) W (by rw [flipAt_size]; show S.length ≤ _; omega))
      rw [hfl] at CR9
      clear hfl
      go_wp2_with fail
      refine (CR9.out _).mono ?_
      rintro e w11 ⟨A9, L9, c9, m9, rfl, hR, hle9, hown9, hb⟩
      obtain ⟨hj9, hjL, htk, himp⟩ := HSP.out (S[K / 8] ^^^ UInt8.ofNat (2 ^ (K % 8))) (by simp only [HS.out]; exact hfne) L9 m9 (by rw [HS.out]; exact hR.out)
      have B11 := Lib.hid (below_next B10.out hb)
      have R9 := Lib.hid (own_rd hown9)
      clear hR hown9 hb hfne hback
      have CI := Lib.hid (fun W (hb : Below w.heap.size w W) => inLength_any A l c (K / 8) W (HA.out.below hb) HOK.out (by omega) hc (by omega) hj9)
      have CA := Lib.hid (fun W (hb : Below w.heap.size w W) => ahead_any A l c (K / 8) W (HA.out.below hb) HOK.out (by omega) hc)
      rw [show ((K / 8 : Nat) : Int) = (K : Int) / 8 by omega] at CI CA
      have HIMP := Lib.hid himp
      have HTK := Lib.hid htk
      clear himp htk
      have hd8 : (numB (payB l[aheadF l (K / 8)]).length).length ≤ K / 8 - (recsB (l.take (aheadF l (K / 8)))).length ∨ K / 8 - (recsB (l.take (aheadF l (K / 8)))).length < (numB (payB l[aheadF l (K / 8)]).length).length := by omega
      generalize (numB (payB l[aheadF l (K / 8)]).length).length = N at *
      generalize aheadF l (K / 8) = J at *
      have HMJ := Lib.hid (show (recsB (l.take J)).length = (recsB (l.take J)).length from rfl)
      go_wp2_with fail
      refine (CI.out _ B11.out).mono ?_
      rintro e w12 ⟨rfl, hb⟩
      have B12 := Lib.hid (below_next B11.out hb)
      have B1112 := Lib.hid hb
      clear hb
      rcases hd8 with hd8 | hd8
      · have hdd : decide (K / 8 - (recsB (l.take J)).length < N) = false := by simp; omega
        rw [hdd]
        obtain ⟨hL9, hm9⟩ := HIMP.out hd8
        clear hdd hd8
        obtain rfl : J = L9.length := by rw [hL9, List.length_take]; omega
        have HL9 := Lib.hid hL9
        have HM9 := Lib.hid hm9
        clear hL9 hm9
        have hcut9 := fun W => run_cut0 (P := Try.prog) 27 39 Try.underlying27 i0 hi0 A l.length c L9.length (L9.length : Int) rfl (by omega) W
        have HLJ := Lib.hid (show L9.length = (l.take L9.length).length by rw [List.length_take]; omega)
        have CS9 := Lib.hid (fun W (hb : Below w11.heap.size w11 W) => jsame_n A9 A (l.take L9.length) L9.length L9.length c9 c HLJ.out HLJ.out W (by rw [← HL9.out]; exact R9.out.below hb) (rd_take (HA.out.below (below_next B11.out hb)) _) (by rw [← HLJ.out]; omega))
        have CW9 := Lib.hid (fun W (hb : Below w11.heap.size w11 W) => writeInputs_n A (l.take L9.length) L9.length c HLJ.out W (rd_take (HA.out.below (below_next B11.out hb)) _) (mem_take HOK.out _) (by rw [← HLJ.out]; omega))
        go_wp2_with fail
        refine (CA.out _ B12.out).mono ?_
        rintro e w13 ⟨rfl, hb⟩
        have B1113 := Lib.hid (below_next B1112.out hb)
        clear hb
        go_wp2_with fail
        refine (CS9.out _ B1113.out).mono ?_
        rintro e w14 ⟨rfl, hb⟩
        have B1114 := Lib.hid (below_next B1113.out hb)
        clear hb
        go_wp2_with fail
        refine (CW9.out _ B1114.out).mono ?_
        rintro e w15 ⟨rfl, hb⟩
        have B1115 := Lib.hid (below_next B1114.out hb)
        clear hb
        generalize recsB (l.take L9.length) = RJ at *
        obtain rfl : m9 = RJ.length := HM9.out
        go_wp2_with fail
        go_ret
        exact ⟨rfl, below_next B11.out B1115.out⟩
      · have hdd : decide (K / 8 - (recsB (l.take J)).length < N) = true := by simp; omega
        rw [hdd]
        clear hdd hd8
        by_cases heq : L9.length = l.length
        · have b1 : ((L9.length : Int) == (l.length : Int)) = true := by simp; omega
          have b2 : (L9.length == l.length) = true := by simp; exact heq
          clear heq
          go_wp2_with fail
          go_quiet (fail)
          go_wp2_with fail
          go_ret
          exact ⟨rfl, below_drewN B12.out _⟩
        · have b1 : ((L9.length : Int) == (l.length : Int)) = false := by simp; omega
          have b2 : (L9.length == l.length) = false := by simp; exact heq
          clear heq
          have HJL := Lib.hid hjL
          clear hjL
          go_wp2_with fail
          rcases Nat.lt_or_eq_of_le HJL.out with hjlt | hjeq
          · have hcut8 := fun W => run_cut0 (P := Try.prog) 27 39 Try.underlying27 i0 hi0 A l.length c J ((J : Int)) (by omega) (by omega) W
            have hcut9 := fun W => run_cut0 (P := Try.prog) 27 39 Try.underlying27 i0 hi0 A9 L9.length c9 J ((J : Int)) (by omega) (by omega) W
            have HLJ := Lib.hid (show J = (l.take J).length by rw [List.length_take]; omega)
            have CS9 := Lib.hid (fun W (hb : Below w11.heap.size w11 W) => jsame_n A9 A (l.take J) J J c9 c HLJ.out HLJ.out W (by rw [← HTK.out]; exact rd_take (R9.out.below hb) J) (rd_take (HA.out.below (below_next B11.out hb)) _) (by rw [← HLJ.out]; omega))
            have q1 : IntKind.i64.wrap ((K : Int) / 8) = (K : Int) / 8 := IntWalk.i64_in _ (by omega)
            go_region_held3 (fun _ => True) (trivial)
              (first
                | (go_at_call 16; (with_reducible refine (CA.out _ (by first | exact B12.out.drew | exact below_next B11.out HBf)).mono ?_); rintro e wf ⟨rfl, hbf⟩; have HBf : Below w11.heap.size w11 wf := (by first | exact below_next B1112.out (below_of_drew hbf) | exact below_next HBf hbf))
                | (go_at_call 13; (with_reducible refine (CS9.out _ (by exact HBf)).mono ?_); rintro e wf ⟨rfl, hbf⟩; have HBf : Below w11.heap.size w11 wf := below_next HBf hbf))
            all_goals
              go_wp2_with fail
              go_ret
              exact ⟨rfl, below_next B11.out HBf⟩
          · have hnlt : ¬ J < L9.length := by omega
            have hcut8 := fun W => run_cut0 (P := Try.prog) 27 39 Try.underlying27 i0 hi0 A l.length c J ((L9.length : Int)) (by omega) (by omega) W
            have hcut9 := fun W => run_cut0 (P := Try.prog) 27 39 Try.underlying27 i0 hi0 A9 L9.length c9 J ((L9.length : Int)) (by omega) (by omega) W
            have HJE := Lib.hid hjeq
            clear hjeq
            have HLJ := Lib.hid (show J = (l.take J).length by rw [List.length_take]; omega)
            have CS9 := Lib.hid (fun W (hb : Below w11.heap.size w11 W) => jsame_n A9 A (l.take J) J J c9 c HLJ.out HLJ.out W (by rw [← HTK.out]; exact rd_take (R9.out.below hb) J) (rd_take (HA.out.below (below_next B11.out hb)) _) (by rw [← HLJ.out]; omega))
            have q1 : IntKind.i64.wrap ((K : Int) / 8) = (K : Int) / 8 := IntWalk.i64_in _ (by omega)
            go_region_held3 (fun _ => True) (trivial)
              (first
                | (go_at_call 16; (with_reducible refine (CA.out _ (by first | exact B12.out.drew | exact below_next B11.out HBf)).mono ?_); rintro e wf ⟨rfl, hbf⟩; have HBf : Below w11.heap.size w11 wf := (by first | exact below_next B1112.out (below_of_drew hbf) | exact below_next HBf hbf))
                | (go_at_call 13; (with_reducible refine (CS9.out _ (by exact HBf)).mono ?_); rintro e wf ⟨rfl, hbf⟩; have HBf : Below w11.heap.size w11 wf := below_next HBf hbf))
            all_goals
              go_wp2_with fail
              go_ret
              exact ⟨rfl, below_next B11.out HBf⟩
end Go.Proofs.Ythepacphphiijaa
