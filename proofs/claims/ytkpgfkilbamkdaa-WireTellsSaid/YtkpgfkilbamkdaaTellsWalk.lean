/- The walk of the law WireTells: it returns true and turns nothing that was there. -/
import Derived.Test.YtkpgfkilbamkdaaFirst
namespace Go.Proofs.Ytkpgfkilbamkdaa
open Go.RowKit

theorem putF_len (l : List ByteArray) (s : ByteArray) : (putF l s).1.length ≤ l.length + 1 := by
  unfold putF; split <;> simp
theorem takeF_len (l : List ByteArray) (k : Int) : (takeF l k).1.length ≤ l.length := by
  unfold takeF; split <;> simp; omega
theorem doubleF_len (l : List ByteArray) (k : Int) : (doubleF l k).1.length ≤ l.length + 1 := by
  unfold doubleF
  split
  · exact putF_len _ _
  · simp
theorem spoilF_len (l : List ByteArray) (k bit : Int) : (spoilF l k bit).1.length ≤ l.length + 1 := by
  unfold spoilF; split <;> simp; omega

set_option maxRecDepth 100000 in
set_option maxHeartbeats 2000000 in
theorem tells_walk (A : Option Addr) (l : List ByteArray) (c : Nat) (s : ByteArray) (at_ bit : Int) (w : World) (h : Strs w A l) (hc : l.length ≤ c) (hn : l.length ≤ 9223372036854775807) :
    Calls Try.prog 3 #[.slice A l.length c, .string s, .int .i64 at_, .int .i64 bit] w fun e w' => e = .returned (.bool true) ∧ Below w.heap.size w w' := by
  by_cases hf : fewF l = true ∧ s.size ≤ 200
  · obtain ⟨hf1, hf2⟩ := hf
    obtain ⟨hl80, hsz⟩ := fewF_true hf1
    obtain ⟨i0, hi0, hz0, hz1, hz2⟩ := info_parts infoStr
    have HF := Lib.hid hf1
    have HS := Lib.hid hsz
    clear hf1 hsz
    by_cases h0 : 0 ≤ at_
    · go_enter Try.func3, Try.ntmps3
      go_wp2_with fail
      refine (first_any _).mono ?_
      rintro e w1 ⟨rfl, hb1⟩
      have B1 := Lib.hid hb1
      have S1 := Lib.hid (h.below hb1)
      clear hb1
      go_wp2_with fail
      refine (few_any _ _ _ _ S1.out (by omega)).mono ?_
      rintro e w' ⟨rfl, rfl⟩
      rw [HF.out]
      go_wp2_with fail
      refine (low_any _ _ _ (by omega)).mono ?_
      rintro e w' ⟨rfl, rfl⟩
      generalize lowF at_ (↑l.length + 1) = k
      rcases hP : putF l s with ⟨P1, P2⟩
      rcases hT : takeF l k with ⟨T1, T2, T3⟩
      rcases hD : doubleF l k with ⟨D1, D2⟩
      rcases hQ : spoilF l k bit with ⟨Q1, Q2⟩
      have HP := Lib.hid hP
      have HT := Lib.hid hT
      have HD := Lib.hid hD
      have HQ := Lib.hid hQ
      clear hP hT hD hQ
      go_wp2_with (at_builtin; refine wpList_app _ rfl _ _ _ rfl w1.heap.size 9 i0 _ 1 16 Try.underlying22 hi0 hz0 hz1 hz2 rfl (by omega) (.slice none 0 0) 0 [] rfl (World.ownsRow_nil _ _ _ _) A l.length c (l.map .string) rfl S1.out (by simp) (oneCell_strings l) (by omega) (by unfold maxLen; omega) (Nat.le_refl _) ?_; intro A2 c2 w2 _ hown2 hg2 _)
      have B2 := Lib.hid ((Below.refl w1.heap.size w1).grown hg2 (Nat.le_refl _) (by simp [Value.ownBlock]))
      have S2 := Lib.hid (own_rd hown2)
      have W2 := Lib.hid (S1.out.below B2.out)
      clear hown2 hg2
      have C3 := put_any A l c s w2 W2.out (by omega)
      rw [HP.out] at C3
      refine C3.mono ?_
      clear C3
      rintro e w3 ⟨A3, L3, c3, rfl, hL3, _, hs3, hb3⟩
      have S3 := Lib.hid hs3
      have B3 := Lib.hid hb3
      have W3 := Lib.hid (W2.out.below hb3)
      clear hs3 hb3
      have hn3 := Lib.hid (show L3.length ≤ 9223372036854775807 by have h1 := putF_len l s; rw [HP.out] at h1; rw [hL3.out]; exact Nat.le_trans h1 (by omega))
      go_wp2_with fail
      have C4 := take_any A l c k w3 W3.out hc (by omega)
      rw [HT.out] at C4
      refine C4.mono ?_
      clear C4
      rintro e w4 ⟨A4, L4, c4, rfl, hL4, _, hs4, hb4⟩
      have S4 := Lib.hid hs4
      have B4 := Lib.hid hb4
      have W4 := Lib.hid (W3.out.below hb4)
      clear hs4 hb4
      have hn4 := Lib.hid (show L4.length ≤ 9223372036854775807 by have h1 := takeF_len l k; rw [HT.out] at h1; rw [hL4.out]; exact Nat.le_trans h1 (by omega))
      go_wp2_with fail
      have C5 := double_any A l c k w4 W4.out (by omega)
      rw [HD.out] at C5
      refine C5.mono ?_
      clear C5
      rintro e w5 ⟨A5, L5, c5, rfl, hL5, _, hs5, hb5⟩
      have S5 := Lib.hid hs5
      have B5 := Lib.hid hb5
      have W5 := Lib.hid (W4.out.below hb5)
      clear hs5 hb5
      have hn5 := Lib.hid (show L5.length ≤ 9223372036854775807 by have h1 := doubleF_len l k; rw [HD.out] at h1; rw [hL5.out]; exact Nat.le_trans h1 (by omega))
      go_wp2_with fail
      have C6 := spoil_any A l c k bit w5 W5.out hc (by omega) (fun s hs => Nat.le_trans (HS.out s hs) (by omega))
      rw [HQ.out] at C6
      refine C6.mono ?_
      clear C6
      rintro e w6 ⟨A6, L6, c6, rfl, hL6, _, hs6, hb6⟩
      have S6 := Lib.hid hs6
      have B6 := Lib.hid hb6
      have W6 := Lib.hid (W5.out.below hb6)
      clear hs6 hb6
      have hn6 := Lib.hid (show L6.length ≤ 9223372036854775807 by have h1 := spoilF_len l k bit; rw [HQ.out] at h1; rw [hL6.out]; exact Nat.le_trans h1 (by omega))
      go_wp2_with fail
      have C7 := putR_any A l c s w6 W6.out (by omega)
      rw [HP.out] at C7
      refine C7.mono ?_
      clear C7
      rintro e w7 ⟨A7, L7, c7, rfl, hL7, _, hs7, hb7⟩
      have S7 := Lib.hid hs7
      have B7 := Lib.hid hb7
      have W7 := Lib.hid (W6.out.below hb7)
      clear hs7 hb7
      go_wp2_with fail
      have C8 := takeR_any A l c k w7 W7.out hc (by omega)
      rw [HT.out] at C8
      refine C8.mono ?_
      clear C8
      rintro e w8 ⟨A8, L8, c8, rfl, hL8, _, hs8, hb8⟩
      have S8 := Lib.hid hs8
      have B8 := Lib.hid hb8
      have W8 := Lib.hid (W7.out.below hb8)
      clear hs8 hb8
      go_wp2_with fail
      have C9 := doubleR_any A l c k w8 W8.out (by omega)
      rw [HD.out] at C9
      refine C9.mono ?_
      clear C9
      rintro e w9 ⟨A9, L9, c9, rfl, hL9, _, hs9, hb9⟩
      have S9 := Lib.hid hs9
      have B9 := Lib.hid hb9
      have W9 := Lib.hid (W8.out.below hb9)
      clear hs9 hb9
      go_wp2_with fail
      have C10 := spoilR_any A l c k bit w9 W9.out (by omega) (fun s hs => Nat.le_trans (HS.out s hs) (by omega))
      rw [HQ.out] at C10
      refine C10.mono ?_
      clear C10
      rintro e w10 ⟨A10, L10, c10, rfl, hL10, _, hs10, hb10⟩
      have S10 := Lib.hid hs10
      have B10 := Lib.hid hb10
      have W10 := Lib.hid (W9.out.below hb10)
      clear hs10 hb10
      go_wp2_with fail
      refine (same_b A A2 l l c c2 true _ W10.out (by have := ((((((((S2.out).below B3.out).below B4.out).below B5.out).below B6.out).below B7.out).below B8.out).below B9.out).below B10.out; simpa [Strs] using this) (by omega) (by simp)).mono ?_
      rintro e w11 ⟨rfl, hb11⟩
      have B11 := Lib.hid hb11
      clear hb11
      go_wp2_with fail
      refine (same_b A3 A7 L3 L7 c3 c7 true _ (((((((((S3.out).below B4.out).below B5.out).below B6.out).below B7.out).below B8.out).below B9.out).below B10.out).below B11.out) (((((S7.out).below B8.out).below B9.out).below B10.out).below B11.out) hn3.out (by rw [hL3.out, hL7.out]; simp)).mono ?_
      rintro e w12 ⟨rfl, hb12⟩
      have B12 := Lib.hid hb12
      clear hb12
      go_wp2_with fail
      refine (same_b A4 A8 L4 L8 c4 c8 true _ (((((((((S4.out).below B5.out).below B6.out).below B7.out).below B8.out).below B9.out).below B10.out).below B11.out).below B12.out) (((((S8.out).below B9.out).below B10.out).below B11.out).below B12.out) hn4.out (by rw [hL4.out, hL8.out]; simp)).mono ?_
      rintro e w13 ⟨rfl, hb13⟩
      have B13 := Lib.hid hb13
      clear hb13
      go_wp2_with fail
      refine (same_b A5 A9 L5 L9 c5 c9 true _ (((((((((S5.out).below B6.out).below B7.out).below B8.out).below B9.out).below B10.out).below B11.out).below B12.out).below B13.out) (((((S9.out).below B10.out).below B11.out).below B12.out).below B13.out) hn5.out (by rw [hL5.out, hL9.out]; simp)).mono ?_
      rintro e w14 ⟨rfl, hb14⟩
      have B14 := Lib.hid hb14
      clear hb14
      go_wp2_with fail
      refine (same_b A6 A10 L6 L10 c6 c10 true _ (((((((((S6.out).below B7.out).below B8.out).below B9.out).below B10.out).below B11.out).below B12.out).below B13.out).below B14.out) (((((S10.out).below B11.out).below B12.out).below B13.out).below B14.out) hn6.out (by rw [hL6.out, hL10.out]; simp)).mono ?_
      rintro e w15 ⟨rfl, hb15⟩
      have B15 := Lib.hid hb15
      clear hb15
      go_wp2_with fail
      go_ret
      exact ⟨rfl, below_next (below_next (below_next (below_next (below_next (below_next (below_next (below_next (below_next (below_next (below_next (below_next (below_next (below_next (B1.out) B2.out) B3.out) B4.out) B5.out) B6.out) B7.out) B8.out) B9.out) B10.out) B11.out) B12.out) B13.out) B14.out) B15.out⟩
    · go_enter Try.func3, Try.ntmps3
      go_wp2_with fail
      refine (first_any _).mono ?_
      rintro e w1 ⟨rfl, hb1⟩
      have B1 := Lib.hid hb1
      have S1 := Lib.hid (h.below hb1)
      clear hb1
      go_wp2_with fail
      refine (few_any _ _ _ _ S1.out (by omega)).mono ?_
      rintro e w' ⟨rfl, rfl⟩
      rw [HF.out]
      generalize at_ = k at *
      rcases hP : putF l s with ⟨P1, P2⟩
      rcases hT : takeF l k with ⟨T1, T2, T3⟩
      rcases hD : doubleF l k with ⟨D1, D2⟩
      rcases hQ : spoilF l k bit with ⟨Q1, Q2⟩
      have HP := Lib.hid hP
      have HT := Lib.hid hT
      have HD := Lib.hid hD
      have HQ := Lib.hid hQ
      clear hP hT hD hQ
      go_wp2_with (at_builtin; refine wpList_app _ rfl _ _ _ rfl w1.heap.size 9 i0 _ 1 16 Try.underlying22 hi0 hz0 hz1 hz2 rfl (by omega) (.slice none 0 0) 0 [] rfl (World.ownsRow_nil _ _ _ _) A l.length c (l.map .string) rfl S1.out (by simp) (oneCell_strings l) (by omega) (by unfold maxLen; omega) (Nat.le_refl _) ?_; intro A2 c2 w2 _ hown2 hg2 _)
      have B2 := Lib.hid ((Below.refl w1.heap.size w1).grown hg2 (Nat.le_refl _) (by simp [Value.ownBlock]))
      have S2 := Lib.hid (own_rd hown2)
      have W2 := Lib.hid (S1.out.below B2.out)
      clear hown2 hg2
      have C3 := put_any A l c s w2 W2.out (by omega)
      rw [HP.out] at C3
      refine C3.mono ?_
      clear C3
      rintro e w3 ⟨A3, L3, c3, rfl, hL3, _, hs3, hb3⟩
      have S3 := Lib.hid hs3
      have B3 := Lib.hid hb3
      have W3 := Lib.hid (W2.out.below hb3)
      clear hs3 hb3
      have hn3 := Lib.hid (show L3.length ≤ 9223372036854775807 by have h1 := putF_len l s; rw [HP.out] at h1; rw [hL3.out]; exact Nat.le_trans h1 (by omega))
      go_wp2_with fail
      have C4 := take_any A l c k w3 W3.out hc (by omega)
      rw [HT.out] at C4
      refine C4.mono ?_
      clear C4
      rintro e w4 ⟨A4, L4, c4, rfl, hL4, _, hs4, hb4⟩
      have S4 := Lib.hid hs4
      have B4 := Lib.hid hb4
      have W4 := Lib.hid (W3.out.below hb4)
      clear hs4 hb4
      have hn4 := Lib.hid (show L4.length ≤ 9223372036854775807 by have h1 := takeF_len l k; rw [HT.out] at h1; rw [hL4.out]; exact Nat.le_trans h1 (by omega))
      go_wp2_with fail
      have C5 := double_any A l c k w4 W4.out (by omega)
      rw [HD.out] at C5
      refine C5.mono ?_
      clear C5
      rintro e w5 ⟨A5, L5, c5, rfl, hL5, _, hs5, hb5⟩
      have S5 := Lib.hid hs5
      have B5 := Lib.hid hb5
      have W5 := Lib.hid (W4.out.below hb5)
      clear hs5 hb5
      have hn5 := Lib.hid (show L5.length ≤ 9223372036854775807 by have h1 := doubleF_len l k; rw [HD.out] at h1; rw [hL5.out]; exact Nat.le_trans h1 (by omega))
      go_wp2_with fail
      have C6 := spoil_any A l c k bit w5 W5.out hc (by omega) (fun s hs => Nat.le_trans (HS.out s hs) (by omega))
      rw [HQ.out] at C6
      refine C6.mono ?_
      clear C6
      rintro e w6 ⟨A6, L6, c6, rfl, hL6, _, hs6, hb6⟩
      have S6 := Lib.hid hs6
      have B6 := Lib.hid hb6
      have W6 := Lib.hid (W5.out.below hb6)
      clear hs6 hb6
      have hn6 := Lib.hid (show L6.length ≤ 9223372036854775807 by have h1 := spoilF_len l k bit; rw [HQ.out] at h1; rw [hL6.out]; exact Nat.le_trans h1 (by omega))
      go_wp2_with fail
      have C7 := putR_any A l c s w6 W6.out (by omega)
      rw [HP.out] at C7
      refine C7.mono ?_
      clear C7
      rintro e w7 ⟨A7, L7, c7, rfl, hL7, _, hs7, hb7⟩
      have S7 := Lib.hid hs7
      have B7 := Lib.hid hb7
      have W7 := Lib.hid (W6.out.below hb7)
      clear hs7 hb7
      go_wp2_with fail
      have C8 := takeR_any A l c k w7 W7.out hc (by omega)
      rw [HT.out] at C8
      refine C8.mono ?_
      clear C8
      rintro e w8 ⟨A8, L8, c8, rfl, hL8, _, hs8, hb8⟩
      have S8 := Lib.hid hs8
      have B8 := Lib.hid hb8
      have W8 := Lib.hid (W7.out.below hb8)
      clear hs8 hb8
      go_wp2_with fail
      have C9 := doubleR_any A l c k w8 W8.out (by omega)
      rw [HD.out] at C9
      refine C9.mono ?_
      clear C9
      rintro e w9 ⟨A9, L9, c9, rfl, hL9, _, hs9, hb9⟩
      have S9 := Lib.hid hs9
      have B9 := Lib.hid hb9
      have W9 := Lib.hid (W8.out.below hb9)
      clear hs9 hb9
      go_wp2_with fail
      have C10 := spoilR_any A l c k bit w9 W9.out (by omega) (fun s hs => Nat.le_trans (HS.out s hs) (by omega))
      rw [HQ.out] at C10
      refine C10.mono ?_
      clear C10
      rintro e w10 ⟨A10, L10, c10, rfl, hL10, _, hs10, hb10⟩
      have S10 := Lib.hid hs10
      have B10 := Lib.hid hb10
      have W10 := Lib.hid (W9.out.below hb10)
      clear hs10 hb10
      go_wp2_with fail
      refine (same_b A A2 l l c c2 true _ W10.out (by have := ((((((((S2.out).below B3.out).below B4.out).below B5.out).below B6.out).below B7.out).below B8.out).below B9.out).below B10.out; simpa [Strs] using this) (by omega) (by simp)).mono ?_
      rintro e w11 ⟨rfl, hb11⟩
      have B11 := Lib.hid hb11
      clear hb11
      go_wp2_with fail
      refine (same_b A3 A7 L3 L7 c3 c7 true _ (((((((((S3.out).below B4.out).below B5.out).below B6.out).below B7.out).below B8.out).below B9.out).below B10.out).below B11.out) (((((S7.out).below B8.out).below B9.out).below B10.out).below B11.out) hn3.out (by rw [hL3.out, hL7.out]; simp)).mono ?_
      rintro e w12 ⟨rfl, hb12⟩
      have B12 := Lib.hid hb12
      clear hb12
      go_wp2_with fail
      refine (same_b A4 A8 L4 L8 c4 c8 true _ (((((((((S4.out).below B5.out).below B6.out).below B7.out).below B8.out).below B9.out).below B10.out).below B11.out).below B12.out) (((((S8.out).below B9.out).below B10.out).below B11.out).below B12.out) hn4.out (by rw [hL4.out, hL8.out]; simp)).mono ?_
      rintro e w13 ⟨rfl, hb13⟩
      have B13 := Lib.hid hb13
      clear hb13
      go_wp2_with fail
      refine (same_b A5 A9 L5 L9 c5 c9 true _ (((((((((S5.out).below B6.out).below B7.out).below B8.out).below B9.out).below B10.out).below B11.out).below B12.out).below B13.out) (((((S9.out).below B10.out).below B11.out).below B12.out).below B13.out) hn5.out (by rw [hL5.out, hL9.out]; simp)).mono ?_
      rintro e w14 ⟨rfl, hb14⟩
      have B14 := Lib.hid hb14
      clear hb14
      go_wp2_with fail
      refine (same_b A6 A10 L6 L10 c6 c10 true _ (((((((((S6.out).below B7.out).below B8.out).below B9.out).below B10.out).below B11.out).below B12.out).below B13.out).below B14.out) (((((S10.out).below B11.out).below B12.out).below B13.out).below B14.out) hn6.out (by rw [hL6.out, hL10.out]; simp)).mono ?_
      rintro e w15 ⟨rfl, hb15⟩
      have B15 := Lib.hid hb15
      clear hb15
      go_wp2_with fail
      go_ret
      exact ⟨rfl, below_next (below_next (below_next (below_next (below_next (below_next (below_next (below_next (below_next (below_next (below_next (below_next (below_next (below_next (B1.out) B2.out) B3.out) B4.out) B5.out) B6.out) B7.out) B8.out) B9.out) B10.out) B11.out) B12.out) B13.out) B14.out) B15.out⟩
  · go_enter Try.func3, Try.ntmps3
    go_wp2_with fail
    refine (first_any _).mono ?_
    rintro e w1 ⟨rfl, hb1⟩
    have S1 := Lib.hid (h.below hb1)
    go_wp2_with fail
    refine (few_any _ _ _ _ S1.out (by omega)).mono ?_
    rintro e w' ⟨rfl, rfl⟩
    cases hfl : fewF l
    · go_wp2_with fail
      go_ret
      exact ⟨rfl, hb1⟩
    · have hs : 200 < s.size := by
        rcases Nat.lt_or_ge 200 s.size with h1 | h1
        · exact h1
        · exact absurd ⟨hfl, h1⟩ hf
      clear hf hfl
      go_wp2_with fail
      go_ret
      exact ⟨rfl, hb1⟩
end Go.Proofs.Ytkpgfkilbamkdaa
