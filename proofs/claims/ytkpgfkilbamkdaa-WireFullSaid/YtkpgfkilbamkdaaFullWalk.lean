/- The walk of the law WireFull. -/
import Derived.Test.YtkpgfkilbamkdaaFirst
namespace Go.Proofs.Ytkpgfkilbamkdaa
open Go.RowKit

set_option maxRecDepth 100000 in
set_option maxHeartbeats 2000000 in
theorem full_walk (many : Int) (s : ByteArray) (w : World) :
    Calls Try.prog 5 #[.int .i64 many, .string s] w fun e w' => e = .returned (.bool true) ∧ Below w.heap.size w w' := by
  obtain ⟨n, hn⟩ : ∃ n : Nat, lowF many 100 = n := ⟨(lowF many 100).toNat, by have := lowF_lt many 100 (by omega); omega⟩
  have hn100 : n < 100 := by have := lowF_lt many 100 (by omega); omega
  have HN := Lib.hid hn
  clear hn
  go_enter Try.func5, Try.ntmps5
  go_wp2_with fail
  refine (first_any _).mono ?_
  rintro e w1 ⟨rfl, hb1⟩
  have B1 := Lib.hid hb1
  clear hb1
  go_wp2_with fail
  refine (low_any _ _ _ (by omega)).mono ?_
  rintro e w' ⟨rfl, rfl⟩
  rw [HN.out]
  go_wp2_with fail
  go_loopw [5, 7] (fun v i wr => ∃ (k : Nat) (A : Option Addr) (L : List ByteArray) (c : Nat), k ≤ n ∧ i = .int .i64 k ∧ v = .slice A L.length c ∧ Hid (L = List.replicate (min k 64) s) ∧ L.length ≤ c ∧ Strs wr A L ∧ Below w.heap.size w wr)
    (fun _ i _ => n - (intOf i).toNat)
  case atStart => exact ⟨0, none, [], 0, by omega, rfl, rfl, Lib.hid rfl, Nat.le_refl _, Rd.nil, B1.out⟩
  case round =>
    obtain ⟨k, A, L, c, hk, rfl, rfl, HL, hle, hs, hb⟩ := hrel
    have hl1 : L.length ≤ 64 := by rw [HL.out]; simp; omega
    have S := Lib.hid hs
    have B := Lib.hid hb
    clear hs hb
    by_cases hlt : k < n
    · by_cases h64 : k < 64
      · have hr : putF L s = (List.replicate (min (k + 1) 64) s, true) := by
          unfold putF
          rw [if_neg (by rw [HL.out]; simp; omega), HL.out, ← List.replicate_succ']
          rw [show min k 64 + 1 = min (k + 1) 64 by omega]
        have HR := Lib.hid hr
        clear hr
        have hd : decide ((k : Int) < 64) = true := by simp; omega
        go_wp2_with fail
        have C := put_any A L c s _ S.out (by omega)
        rw [HR.out] at C
        refine C.mono ?_
        clear C
        rintro e w2 ⟨A2, L2, c2, rfl, hL2, hle2, hs2, hb2⟩
        have S2 := Lib.hid hs2
        have B2 := Lib.hid hb2
        clear hs2 hb2
        go_wp2_with fail
        go_roundw
        case rel => exact ⟨k + 1, A2, L2, c2, by omega, by go_num, rfl, hL2, hle2, S2.out, below_next B.out B2.out⟩
        case measure => simp [intOf]; omega
      · have hr : putF L s = (List.replicate (min (k + 1) 64) s, false) := by
          unfold putF
          rw [if_pos (by rw [HL.out]; simp; omega), HL.out]
          rw [show min k 64 = min (k + 1) 64 by omega]
        have HR := Lib.hid hr
        clear hr
        have hd : decide ((k : Int) < 64) = false := by simp; omega
        go_wp2_with fail
        have C := put_any A L c s _ S.out (by omega)
        rw [HR.out] at C
        refine C.mono ?_
        clear C
        rintro e w2 ⟨A2, L2, c2, rfl, hL2, hle2, hs2, hb2⟩
        have S2 := Lib.hid hs2
        have B2 := Lib.hid hb2
        clear hs2 hb2
        go_wp2_with fail
        go_roundw
        case rel => exact ⟨k + 1, A2, L2, c2, by omega, by go_num, rfl, hL2, hle2, S2.out, below_next B.out B2.out⟩
        case measure => simp [intOf]; omega
    · obtain rfl : k = n := by omega
      have hll : L.length = min k 64 := by rw [HL.out]; simp
      have hll1 : L.length ≤ k := by omega
      have S2 := fun W (b : Below wr.heap.size wr W) => S.out.below b
      rcases (show k = 0 ∨ (0 < k ∧ k < 64) ∨ 64 ≤ k by omega) with h0 | ⟨h0, h1⟩ | h0
      · have hD : doubleF L 0 = (L, false) := by unfold doubleF; rw [if_neg (by omega)]
        have hT : takeF L 0 = (L, ⟨#[]⟩, false) := by unfold takeF; rw [if_neg (by omega)]
        have hP : putF L s = (L ++ [s], true) := by unfold putF; rw [if_neg (by omega)]
        have h0' : k ≤ 0 := by omega
        clear h0
        have HD := Lib.hid hD
        have HT := Lib.hid hT
        have HP := Lib.hid hP
        clear hD hT hP hll
        have C := double_any A L c 0 _ S.out (by omega)
        rw [HD.out] at C
        have HC := Lib.hid C
        clear C
        go_wp2_with fail
        refine HC.out.mono ?_
        rintro e w2 ⟨A2, L2, c2, rfl, hL2, hle2, hs2, hb2⟩
        have B2 := Lib.hid hb2
        have hl2 : L2.length ≤ L.length := by rw [hL2.out]; exact Nat.le_refl _
        clear hs2 hb2 HC
        have C := take_any A L c 0 w2 (S2 _ B2.out) hle (by omega)
        rw [HT.out] at C
        have HC := Lib.hid C
        clear C
        go_wp2_with fail
        all_goals
          refine HC.out.mono ?_
          rintro e w3 ⟨A3, L3, c3, rfl, hL3, hle3, hs3, hb3⟩
          have B3 := Lib.hid hb3
          have S3 := Lib.hid hs3
          clear hs3 hb3 HC
          have C := put_any A3 L3 c3 s w3 S3.out (by rw [hL3.out]; show L.length * 16 ≤ _; omega)
          rw [hL3.out, HP.out, ← hL3.out] at C
          have HC := Lib.hid C
          clear C
          have hd : decide ((k : Int) < 64) = true := by simp; omega
          go_wp2_with fail
          refine HC.out.mono ?_
          rintro e w4 ⟨A4, L4, c4, rfl, hL4, hle4, hs4, hb4⟩
          have B4 := Lib.hid hb4
          clear hs4 hb4 HC
          go_wp2_with fail
          go_ret
          exact ⟨rfl, below_next (below_next (below_next B.out B2.out) B3.out) B4.out⟩
      · have hD : doubleF L 0 = (L ++ [L.getD 0 ⟨#[]⟩], true) := by unfold doubleF; rw [if_pos ⟨by omega, by omega⟩]; unfold putF; rw [if_neg (by omega)]; rfl
        have hT : takeF L 0 = (L.drop 1, L.getD 0 ⟨#[]⟩, true) := by unfold takeF; rw [if_pos ⟨by omega, by omega⟩]; rfl
        have hP : putF (L.drop 1) s = (L.drop 1 ++ [s], true) := by unfold putF; rw [if_neg (by simp; omega)]
        have hll2 : k ≤ L.length := by omega
        have HD := Lib.hid hD
        have HT := Lib.hid hT
        have HP := Lib.hid hP
        clear hD hT hP hll
        have C := double_any A L c 0 _ S.out (by omega)
        rw [HD.out] at C
        have HC := Lib.hid C
        clear C
        go_wp2_with fail
        refine HC.out.mono ?_
        rintro e w2 ⟨A2, L2, c2, rfl, hL2, hle2, hs2, hb2⟩
        have B2 := Lib.hid hb2
        have hl2 : L.length + 1 ≤ L2.length := by rw [hL2.out]; simp
        clear hs2 hb2 HC
        have C := take_any A L c 0 w2 (S2 _ B2.out) hle (by omega)
        rw [HT.out] at C
        have HC := Lib.hid C
        clear C
        go_wp2_with fail
        all_goals
          refine HC.out.mono ?_
          rintro e w3 ⟨A3, L3, c3, rfl, hL3, hle3, hs3, hb3⟩
          have B3 := Lib.hid hb3
          have S3 := Lib.hid hs3
          clear hs3 hb3 HC
          have C := put_any A3 L3 c3 s w3 S3.out (by rw [hL3.out]; show (L.drop 1).length * 16 ≤ _; simp; omega)
          rw [hL3.out, HP.out, ← hL3.out] at C
          have HC := Lib.hid C
          clear C
          have hd : decide ((k : Int) < 64) = true := by simp; omega
          go_wp2_with fail
          refine HC.out.mono ?_
          rintro e w4 ⟨A4, L4, c4, rfl, hL4, hle4, hs4, hb4⟩
          have B4 := Lib.hid hb4
          clear hs4 hb4 HC
          go_wp2_with fail
          go_ret
          exact ⟨rfl, below_next (below_next (below_next B.out B2.out) B3.out) B4.out⟩
      · have hD : doubleF L 0 = (L, false) := by unfold doubleF; rw [if_pos ⟨by omega, by omega⟩]; unfold putF; rw [if_pos (by omega)]
        have hT : takeF L 0 = (L.drop 1, L.getD 0 ⟨#[]⟩, true) := by unfold takeF; rw [if_pos ⟨by omega, by omega⟩]; rfl
        have hP : putF (L.drop 1) s = (L.drop 1 ++ [s], true) := by unfold putF; rw [if_neg (by simp; omega)]
        have hll2 : 64 ≤ L.length := by omega
        have HD := Lib.hid hD
        have HT := Lib.hid hT
        have HP := Lib.hid hP
        clear hD hT hP hll
        have C := double_any A L c 0 _ S.out (by omega)
        rw [HD.out] at C
        have HC := Lib.hid C
        clear C
        go_wp2_with fail
        refine HC.out.mono ?_
        rintro e w2 ⟨A2, L2, c2, rfl, hL2, hle2, hs2, hb2⟩
        have B2 := Lib.hid hb2
        have hl2 : L2.length ≤ L.length := by rw [hL2.out]; exact Nat.le_refl _
        have hl3 : L.length ≤ L2.length := by rw [hL2.out]; exact Nat.le_refl _
        clear hs2 hb2 HC
        have C := take_any A L c 0 w2 (S2 _ B2.out) hle (by omega)
        rw [HT.out] at C
        have HC := Lib.hid C
        clear C
        go_wp2_with fail
        all_goals
          refine HC.out.mono ?_
          rintro e w3 ⟨A3, L3, c3, rfl, hL3, hle3, hs3, hb3⟩
          have B3 := Lib.hid hb3
          have S3 := Lib.hid hs3
          clear hs3 hb3 HC
          have C := put_any A3 L3 c3 s w3 S3.out (by rw [hL3.out]; show (L.drop 1).length * 16 ≤ _; simp; omega)
          rw [hL3.out, HP.out, ← hL3.out] at C
          have HC := Lib.hid C
          clear C
          have hd : decide ((k : Int) < 64) = false := by simp; omega
          go_wp2_with fail
          refine HC.out.mono ?_
          rintro e w4 ⟨A4, L4, c4, rfl, hL4, hle4, hs4, hb4⟩
          have B4 := Lib.hid hb4
          clear hs4 hb4 HC
          go_wp2_with fail
          go_ret
          exact ⟨rfl, below_next (below_next (below_next B.out B2.out) B3.out) B4.out⟩
end Go.Proofs.Ytkpgfkilbamkdaa
