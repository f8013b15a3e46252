/- Contracts: reparteelaw41.ahead, inLength. -/
import Derived.Test.YthepacphphiijaaJrLaw
namespace Go.Proofs.Ythepacphphiijaa
open Go.RowKit

theorem irow_take (l : List In) (k : Nat) : irow (l.take k) = (irow l).take (k * 3) := by
  induction l generalizing k with
  | nil => simp [irow]
  | cons a t ih =>
    cases k with
    | zero => simp [irow]
    | succ k =>
      have e : irow (a :: t) = icells a ++ irow t := rfl
      have e2 : irow (a :: t.take k) = icells a ++ irow (t.take k) := rfl
      have el : (icells a).length = 3 := rfl
      rw [List.take_succ_cons, e2, e, ih, List.take_append, el, List.take_of_length_le (l := icells a) (by rw [el]; omega)]
      congr 2
      omega
theorem rd_take {w : World} {A : Option Addr} {l : List In} (h : Rd w A (irow l)) (k : Nat) : Rd w A (irow (l.take k)) := by
  rw [irow_take]; exact h.take _
theorem writeInputs_n (A : Option Addr) (l : List In) (n c : Nat) (hn : n = l.length) (w : World) (ha : Rd w A (irow l)) (hok : ∀ x ∈ l, x.ok) (hl : l.length ≤ 1000) :
    Calls Try.prog 17 #[.slice A n c] w fun e w' => e = .returned (.string ⟨(recsB l).toArray⟩) ∧ Below w.heap.size w w' := by
  subst hn; exact writeInputs_any A l c w ha hok hl
theorem jwrite_n (A : Option Addr) (l : List In) (n c : Nat) (hn : n = l.length) (w : World) (ha : Rd w A (irow l)) (hok : ∀ x ∈ l, x.ok) (hl : l.length ≤ 1000) :
    Calls Try.prog 11 #[.slice A n c] w fun e w' => e = .returned (.string ⟨(recsB l).toArray⟩) ∧ Below w.heap.size w w' := by
  subst hn; exact jwrite_any A l c w ha hok hl
theorem recs_mono (l : List In) {a b : Nat} (h : a ≤ b) : (recsB (l.take a)).length ≤ (recsB (l.take b)).length := by
  have e : l.take b = l.take a ++ (l.take b).drop a := by
    conv => lhs; rw [← List.take_append_drop a (l.take b)]
    rw [List.take_take, Nat.min_eq_left h]
  rw [e, recsB_append, List.length_append]
  omega
theorem ahead_unique (l : List In) (p k : Nat) (hk : k ≤ l.length) (h1 : (recsB (l.take k)).length ≤ p) (h2 : k < l.length → p < (recsB (l.take (k + 1))).length) : aheadF l p = k := by
  have hs := aheadF_spec l p
  have hle := aheadF_le l p
  generalize aheadF l p = j at *
  rcases Nat.lt_trichotomy j k with h | h | h
  · have := hs.2 (by omega)
    have := recs_mono l (show j + 1 ≤ k by omega)
    omega
  · exact h
  · have := h2 (by omega)
    have := recs_mono l (show k + 1 ≤ j by omega)
    omega
theorem mem_take {l : List In} (h : ∀ x ∈ l, x.ok) (k : Nat) : ∀ x ∈ l.take k, x.ok := fun x hx => h x (List.mem_of_mem_take hx)
set_option maxRecDepth 100000 in
set_option maxHeartbeats 1600000 in
theorem ahead_any (A : Option Addr) (l : List In) (c p : Nat) (w : World) (ha : Rd w A (irow l)) (hok : ∀ x ∈ l, x.ok) (hl : l.length ≤ 1000) (hc : l.length ≤ c) :
    Calls Try.prog 16 #[.slice A l.length c, .int .i64 p] w fun e w' => e = .returned (.int .i64 (aheadF l p)) ∧ Below w.heap.size w w' := by
  have HA := Lib.hid ha
  have HOK := Lib.hid hok
  obtain ⟨i0, hi0, hz0, hz1, hz2⟩ := info_parts infoInput
  clear ha hok
  go_enter Try.func16, Try.ntmps16
  go_wp2_with fail
  go_loopw [5] (fun i wr => ∃ (k : Nat), k ≤ l.length ∧ i = .int .i64 k ∧ Hid ((recsB (l.take k)).length ≤ p) ∧ Below w.heap.size w wr) (fun i _ => l.length - (intOf i).toNat)
  case atStart => exact ⟨0, by omega, rfl, Lib.hid (by simp [recsB]), Below.refl _ _⟩
  case round =>
    obtain ⟨k, hk, rfl, hH, hbw⟩ := hrel
    by_cases hlt : k < l.length
    · have BW := Lib.hid hbw
      have CW := Lib.hid (fun n hn => writeInputs_n A (l.take (k + 1)) n c hn wr (rd_take (HA.out.below BW.out) _) (mem_take HOK.out _) (by rw [List.length_take]; omega))
      have hle : (recsB (l.take (k + 1))).length ≤ 1000000100000 := by
        have := recsB_len (l.take (k + 1)) (mem_take HOK.out _)
        rw [List.length_take] at this; omega
      have hcut := fun W => run_cut0 (P := Try.prog) 27 39 Try.underlying27 i0 hi0 A l.length c (k + 1) ((k : Int) + 1) (by omega) (by omega) W
      have HL := Lib.hid (show k + 1 = (l.take (k + 1)).length by rw [List.length_take]; omega)
      have HAU := Lib.hid (fun h2 => ahead_unique l p k hk hH.out h2)
      clear hbw
      by_cases hgo : (recsB (l.take (k + 1))).length ≤ p
      · have HG := Lib.hid hgo
        generalize hR : recsB (l.take (k + 1)) = R at *
        have HR := Lib.hid hR
        clear hR
        have hgo2 : decide (((⟨R.toArray⟩ : ByteArray).size : Int) ≤ (p : Int)) = true := by simp; exact hgo
        have hgo3 : decide (((R.length : Nat) : Int) ≤ (p : Int)) = true := by simp; exact hgo
        have hgo4 : decide (R.length ≤ p) = true := by simp; exact hgo
        clear hgo
        go_wp2_with fail
        refine (CW.out _ HL.out).mono ?_
        rintro e w2 ⟨rfl, hb2⟩
        have B2 := Lib.hid (below_next BW.out hb2)
        clear hb2
        go_wp2_with fail
        go_roundw
        case rel => exact ⟨k + 1, by omega, by go_num, Lib.hid (by rw [HR.out]; exact HG.out), B2.out⟩
        case measure => simp [intOf]; omega
      · have HE := Lib.hid (HAU.out (fun _ => by omega))
        generalize hR : recsB (l.take (k + 1)) = R at *
        have HR := Lib.hid hR
        clear hR
        have hgo2 : decide (((⟨R.toArray⟩ : ByteArray).size : Int) ≤ (p : Int)) = false := by simp; show p < R.length; omega
        have hgo4 : decide (R.length ≤ p) = false := by simp; omega
        have hgo3 : decide (((R.length : Nat) : Int) ≤ (p : Int)) = false := by simp; omega
        clear hgo
        go_wp2_with fail
        refine (CW.out _ HL.out).mono ?_
        rintro e w2 ⟨rfl, hb2⟩
        have B2 := Lib.hid (below_next BW.out hb2)
        clear hb2
        go_wp2_with fail
        go_ret
        rw [HE.out]
        exact ⟨rfl, B2.out⟩
    · have HE := Lib.hid (ahead_unique l p k hk hH.out (fun h => absurd h hlt))
      go_wp2_with fail
      go_ret
      rw [HE.out]
      exact ⟨rfl, hbw⟩
theorem numB_pos (n : Int) : 1 ≤ (numB n).length := by unfold numB; exact vb_pos 9 _
theorem payB_pos (x : In) : 0 < (payB x).length := by
  have := numB_pos x.kind
  simp [payB]
  omega
set_option maxRecDepth 100000 in
set_option maxHeartbeats 1600000 in
theorem inLength_any (A : Option Addr) (l : List In) (c p : Nat) (w : World) (ha : Rd w A (irow l)) (hok : ∀ x ∈ l, x.ok) (hl : l.length ≤ 1000) (hc : l.length ≤ c) (hp : p ≤ 1000000000000000) (hj : aheadF l p < l.length) :
    Calls Try.prog 15 #[.slice A l.length c, .int .i64 p] w fun e w' => e = .returned (.bool (decide ((p - (recsB (l.take (aheadF l p))).length < (numB (payB l[aheadF l p]).length).length)))) ∧ Below w.heap.size w w' := by
  have HA := Lib.hid ha
  have HOK := Lib.hid hok
  obtain ⟨i0, hi0, hz0, hz1, hz2⟩ := info_parts infoInput
  have CA := Lib.hid (ahead_any A l c p w ha hok hl hc)
  have hs := (aheadF_spec l p).1
  generalize aheadF l p = j at *
  have hle0 : (recsB (l.take j)).length ≤ 1000000100000 := by
    have := recsB_len (l.take j) (mem_take hok _)
    rw [List.length_take] at this; omega
  have hle1 : (recsB (l.take (j + 1))).length ≤ 1000000100000 := by
    have := recsB_len (l.take (j + 1)) (mem_take hok _)
    rw [List.length_take] at this; omega
  have e4 : (recsB (l.take (j + 1))).length = (recsB (l.take j)).length + (recB l[j]).length := by rw [recsB_snoc l j hj, List.length_append]
  have e5 : (recB l[j]).length = (numB (payB l[j]).length).length + (payB l[j]).length + 4 := by simp [recB, rowB, txt, fourB_len]; omega
  have hpos := payB_pos l[j]
  have hn1 := numB_pos ((payB l[j]).length : Int)
  have hf : ∀ k, k < (numB ((payB l[j]).length : Nat)).length → (numB (((numB ((payB l[j]).length : Nat)).length + (payB l[j]).length - k : Nat) : Int)).length ≠ k := fun k h => length_first _ k h
  have hpl := payB_len (hok l[j] (List.getElem_mem hj))
  generalize (payB l[j]).length = m at *
  have hcut0 := fun W => run_cut0 (P := Try.prog) 27 39 Try.underlying27 i0 hi0 A l.length c j (j : Int) rfl (by omega) W
  have hcut := fun W => run_cut0 (P := Try.prog) 27 39 Try.underlying27 i0 hi0 A l.length c (j + 1) ((j : Int) + 1) (by omega) (by omega) W
  have HL0 := Lib.hid (show j = (l.take j).length by rw [List.length_take]; omega)
  have HL := Lib.hid (show j + 1 = (l.take (j + 1)).length by rw [List.length_take]; omega)
  have CW0 := Lib.hid (fun W (hb : Below w.heap.size w W) => writeInputs_n A (l.take j) j c HL0.out W (rd_take (HA.out.below hb) _) (mem_take hok _) (by rw [List.length_take]; omega))
  have CW := Lib.hid (fun W (hb : Below w.heap.size w W) => writeInputs_n A (l.take (j + 1)) (j + 1) c HL.out W (rd_take (HA.out.below hb) _) (mem_take hok _) (by rw [List.length_take]; omega))
  clear ha hok
  have hRb : (recsB (l.take (j + 1))).length = (recsB (l.take j)).length + ((numB m).length + m + 4) := by omega
  generalize recsB (l.take j) = R0 at *
  generalize recsB (l.take (j + 1)) = R1 at *
  generalize hN : (numB (m : Int)).length = N at *
  clear e4 e5
  have HF := Lib.hid hf
  have HN := Lib.hid hN
  have HRB := Lib.hid hRb
  have hR1 : R0.length + N + m + 4 ≤ R1.length := by omega
  have hR2 : R1.length ≤ R0.length + N + m + 4 := by omega
  clear hf hN hRb
  go_enter Try.func15, Try.ntmps15
  go_wp2_with fail
  refine CA.out.mono ?_
  rintro e w1 ⟨rfl, hb⟩
  have B1 := Lib.hid hb
  clear hb
  go_wp2_with fail
  refine (CW0.out _ B1.out).mono ?_
  rintro e w2 ⟨rfl, hb⟩
  have B2 := Lib.hid (below_next B1.out hb)
  clear hb
  go_wp2_with fail
  refine (CW.out _ B2.out).mono ?_
  rintro e w3 ⟨rfl, hb⟩
  have B3 := Lib.hid (below_next B2.out hb)
  clear hb
  go_wp2_with fail
  obtain ⟨T, hT⟩ : ∃ T, T = N + m := ⟨_, rfl⟩
  rw [show ((R1.length : Int) - (R0.length : Int) - 4) = (T : Int) by omega]
  have hTN : N < T := by omega
  have hTb : T ≤ 1000000100000 := by omega
  have HT := Lib.hid hT
  clear hT hcut hcut0
  go_loopw [8] (fun i wr => ∃ (k : Nat), 1 ≤ k ∧ k ≤ N ∧ i = .int .i64 k ∧ Below w.heap.size w wr) (fun i _ => N - (intOf i).toNat)
  case atStart => exact ⟨1, by omega, by omega, rfl, B3.out⟩
  case round =>
    obtain ⟨k, hk1, hk2, rfl, hbw⟩ := hrel
    have BW := Lib.hid hbw
    clear hbw
    have CN := Lib.hid (fun W => refnum_any ((T : Int) - (k : Int)) W (by omega) (by omega))
    have hkT : (T : Int) - (k : Int) = ((N + m - k : Nat) : Int) := by rw [HT.out]; omega
    by_cases hlt : k < N
    · have hne := HF.out k hlt
      rw [← hkT] at hne
      have hl10 := numB_le ((T : Int) - (k : Int))
      generalize numB ((T : Int) - (k : Int)) = L at *
      have b1 : ((L.length : Int) != (k : Int)) = true := by simp; omega
      have b2 : (L.length != k) = true := by simp; omega
      clear hkT hne
      go_wp2_with fail
      refine (CN.out _).mono ?_
      rintro e w4 ⟨rfl, hb⟩
      have B4 := Lib.hid (below_next BW.out hb)
      clear hb
      go_wp2_with fail
      go_roundw
      case rel => exact ⟨k + 1, by omega, by omega, by go_num, B4.out⟩
      case measure => simp [intOf]; omega
    · obtain rfl : k = N := by omega
      have hne : (numB ((T : Int) - (k : Int))).length = k := by
        rw [hkT, show k + m - k = m by omega]; exact HN.out
      generalize numB ((T : Int) - (k : Int)) = L at *
      have b1 : ((L.length : Int) != (k : Int)) = false := by simp; omega
      have b2 : (L.length != k) = false := by simp; omega
      have hLn := Lib.hid hne
      clear hkT hne
      go_wp2_with fail
      refine (CN.out _).mono ?_
      rintro e w4 ⟨rfl, hb⟩
      have B4 := Lib.hid (below_next BW.out hb)
      clear hb
      go_wp2_with fail
      go_ret
      exact ⟨ret_bool (by simp; omega), B4.out⟩
end Go.Proofs.Ythepacphphiijaa
