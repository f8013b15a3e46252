/- The walk of the law WireBack. -/
import Derived.Test.YtkpgfkilbamkdaaFirst
namespace Go.Proofs.Ytkpgfkilbamkdaa
open Go.RowKit

theorem flip_flip (s : ByteArray) (K : Nat) : flipAt (flipAt s K) K = s := by
  have h : (s.data.modify (K / 8) (fun b => b ^^^ UInt8.ofNat (2 ^ (K % 8)))).modify (K / 8) (fun b => b ^^^ UInt8.ofNat (2 ^ (K % 8))) = s.data := by
    apply Array.ext
    · simp
    · intro i h1 h2
      simp only [Array.getElem_modify]
      split
      · rw [UInt8.xor_assoc, UInt8.xor_self, UInt8.xor_zero]
      · rfl
  unfold flipAt
  rw [h]
theorem flip_ne (s : ByteArray) (K : Nat) (h : K / 8 < s.size) : flipAt s K ≠ s := by
  intro e
  have h1 : (flipAt s K).data = s.data := by rw [e]
  have h2 : (s.data.modify (K / 8) (fun b => b ^^^ UInt8.ofNat (2 ^ (K % 8))))[K / 8]? = s.data[K / 8]? := by
    show (flipAt s K).data[K / 8]? = _
    rw [h1]
  have hl : K / 8 < s.data.size := h
  rw [Array.getElem?_modify, if_pos rfl, Array.getElem?_eq_getElem hl] at h2
  simp only [Option.map_some, Option.some.injEq] at h2
  have hp := pow_lt (K % 8) (by omega)
  have h3 : UInt8.ofNat (2 ^ (K % 8)) = 0 := by
    have : s.data[K / 8] ^^^ (s.data[K / 8] ^^^ UInt8.ofNat (2 ^ (K % 8))) = s.data[K / 8] ^^^ s.data[K / 8] := by rw [h2]
    rw [← UInt8.xor_assoc, UInt8.xor_self, UInt8.zero_xor] at this
    exact this
  have h4 : (UInt8.ofNat (2 ^ (K % 8))).toNat = 0 := by rw [h3]; rfl
  rw [UInt8.toNat_ofNat', Nat.mod_eq_of_lt hp] at h4
  have := Nat.two_pow_pos (K % 8)
  omega
/-- What the law asks of the two lines. -/
structure Turned (L M : List ByteArray) (k : Nat) (fine : Bool) : Prop where
  len : M.length = L.length
  at_ : ∀ i (h : i < L.length) (h' : i < M.length), (L[i] = M[i]) ↔ ¬ (i = k ∧ fine = true)
theorem spoil_twice (L : List ByteArray) (k : Nat) (bit : Int) (hk : k < L.length) (h0 : 0 < L[k].size) :
    ∃ M, spoilF L k bit = (M, true) ∧ spoilF M k bit = (L, true) ∧ Turned L M k true ∧ ∀ B, (∀ s ∈ L, s.size ≤ B) → ∀ s ∈ M, s.size ≤ B := by
  have hg : L.getD (k : Int).toNat ⟨#[]⟩ = L[k] := by simp [hk]
  refine ⟨L.set k (flipAt L[k] (bitNo bit L[k].size)), ?_, ?_, ?_, ?_⟩
  · unfold spoilF
    rw [hg, if_pos ⟨by omega, by omega, h0⟩]
    rw [set_is _ _ _ hk]; rfl
  · have hg2 : (L.set k (flipAt L[k] (bitNo bit L[k].size))).getD (k : Int).toNat ⟨#[]⟩ = flipAt L[k] (bitNo bit L[k].size) := by simp [hk]
    unfold spoilF
    rw [hg2, flipAt_size, if_pos ⟨by omega, by simp; omega, h0⟩, flip_flip]
    have := set_is (L.set k (flipAt L[k] (bitNo bit L[k].size))) k L[k] (by simpa using hk)
    rw [Int.toNat_natCast, ← this, List.set_set, List.set_getElem_self]
  · refine ⟨by simp, fun i h h' => ?_⟩
    rw [List.getElem_set]
    by_cases e : k = i
    · subst e
      rw [if_pos rfl]
      have hb := bitNo_lt bit L[k].size h0
      have := flip_ne L[k] (bitNo bit L[k].size) (by omega)
      simp
      exact fun e => this e.symm
    · rw [if_neg e]
      simp
      exact fun e' => absurd e'.symm e
  · intro B hB s hs
    rcases List.mem_or_eq_of_mem_set hs with h1 | h1
    · exact hB s h1
    · rw [h1, flipAt_size]
      exact hB _ (List.getElem_mem hk)
theorem spoil_none (L : List ByteArray) (k : Nat) (bit : Int) (hk : k < L.length) (h0 : L[k].size = 0) : spoilF L k bit = (L, false) ∧ Turned L L k false := by
  have hg : L.getD (k : Int).toNat ⟨#[]⟩ = L[k] := by simp [hk]
  refine ⟨?_, rfl, fun i h h' => by simp⟩
  unfold spoilF
  rw [hg, if_neg (by omega)]

set_option maxRecDepth 100000 in
set_option maxHeartbeats 2000000 in
theorem back_tail (A : Option Addr) (l : List ByteArray) (c : Nat) (s : ByteArray) (at_ bit : Int) (w : World) (h : Strs w A l) (hc : l.length ≤ c) (hf : fewF l = true) (hs : s.size ≤ 200) (h64 : l.length < 64)
    (k : Nat) (fine : Bool) (M : List ByteArray) (hk : lowF at_ ((l ++ [s]).length : Int) = k) (hkl : k < (l ++ [s]).length) (h1 : spoilF (l ++ [s]) k bit = (M, fine)) (h2 : spoilF M k bit = (l ++ [s], fine)) (hT : Turned (l ++ [s]) M k fine)
    (hfine : (l ++ [s])[k].toList.isEmpty = !fine) (hM : ∀ s ∈ M, s.size ≤ 200) :
    Calls Try.prog 4 #[.slice A l.length c, .string s, .int .i64 at_, .int .i64 bit] w fun e w' => e = .returned (.bool true) ∧ Below w.heap.size w w' := by
  obtain ⟨hl80, hsz⟩ := fewF_true hf
  have hP : putF l s = (l ++ [s], true) := by unfold putF; rw [if_neg (by omega)]
  have hTk : takeF (l ++ [s]) l.length = (l, s, true) := by
    unfold takeF
    rw [if_pos ⟨by omega, by simp; omega⟩]
    simp
  have hszL : ∀ x ∈ l ++ [s], x.size ≤ 1000 := by
    intro x hx
    rcases List.mem_append.1 hx with hx | hx
    · exact Nat.le_trans (hsz x hx) (by omega)
    · simp at hx; subst hx; omega
  have hlenL : (l ++ [s]).length = l.length + 1 := by simp
  generalize hL : l ++ [s] = L at *
  have HF := Lib.hid hf
  have HP := Lib.hid hP
  have HT := Lib.hid hTk
  have HK := Lib.hid hk
  have H1 := Lib.hid h1
  have H2 := Lib.hid h2
  have HTU := Lib.hid hT
  have HFI := Lib.hid hfine
  have HSL := Lib.hid hszL
  have HSM := Lib.hid hM
  have hn1 : L.length ≤ l.length + 1 := by omega
  have hn2 : l.length + 1 ≤ L.length := by omega
  have hd1 : ((L.length : Int) != (l.length : Int) + 1) = false := by simp; omega
  have HL := Lib.hid hL
  clear hf hP hTk hk h1 h2 hT hfine hszL hM hsz hlenL hL
  go_enter Try.func4, Try.ntmps4
  go_wp2_with fail
  refine (first_any _).mono ?_
  rintro e w1 ⟨rfl, hb1⟩
  have B1 := Lib.hid hb1
  have S1 := Lib.hid (h.below hb1)
  clear hb1
  go_wp2_with fail
  refine (few_any _ _ _ _ S1.out (by omega)).mono ?_
  rintro e w' ⟨rfl, rfl⟩
  rw [HF.out]
  go_wp2_with fail
  have C := put_any A l c s w1 S1.out (by omega)
  rw [HP.out] at C
  refine C.mono ?_
  clear C
  rintro e w2 ⟨A2, L2, c2, rfl, hL2, hle2, hs2, hb2⟩
  obtain rfl : L2 = L := hL2.out
  have B2 := Lib.hid hb2
  have S2 := Lib.hid hs2
  clear hs2 hb2
  go_wp2_with fail
  have C := take_any A2 L2 c2 l.length w2 S2.out hle2 (by omega)
  rw [HT.out] at C
  refine C.mono ?_
  clear C
  rintro e w3 ⟨A3, L3, c3, rfl, hL3, hle3, hs3, hb3⟩
  obtain rfl : L3 = l := hL3.out
  have B3 := Lib.hid hb3
  have S3 := Lib.hid hs3
  clear hs3 hb3
  go_wp2_with fail
  refine (same_b A3 A L3 L3 c3 c true _ S3.out ((S1.out.below B2.out).below B3.out) (by omega) (by simp)).mono ?_
  rintro e w4 ⟨rfl, hb4⟩
  have B4 := Lib.hid hb4
  clear hb4
  go_wp2_with fail
  refine (low_any _ _ _ (by omega)).mono ?_
  rintro e w' ⟨rfl, rfl⟩
  rw [HK.out]
  go_wp2_with fail
  have C := spoil_any A2 L2 c2 k bit w4 ((S2.out.below B3.out).below B4.out) hle2 (by omega) HSL.out
  rw [H1.out] at C
  refine C.mono ?_
  clear C
  rintro e w5 ⟨A5, L5, c5, rfl, hL5, hle5, hs5, hb5⟩
  obtain rfl : L5 = M := hL5.out
  have B5 := Lib.hid hb5
  have S5 := Lib.hid hs5
  clear hs5 hb5
  have hlm := HTU.out.len
  have hm1 : L5.length ≤ L2.length := by omega
  have hm2 : L2.length ≤ L5.length := by omega
  have hd2 : ((L5.length : Int) != (L2.length : Int)) = false := by simp; omega
  clear hlm
  go_wp2_with fail
  have C := spoil_any A5 L5 c5 k bit w5 S5.out hle5 (by omega) (fun s hs => Nat.le_trans (HSM.out s hs) (by omega))
  rw [H2.out] at C
  refine C.mono ?_
  clear C
  rintro e w6 ⟨A6, L6, c6, rfl, hL6, hle6, hs6, hb6⟩
  have B6 := Lib.hid hb6
  have S6 := Lib.hid hs6
  clear hs6 hb6
  have S26 := Lib.hid ((((S2.out.below B3.out).below B4.out).below B5.out).below B6.out)
  obtain ⟨b, off, rfl, _, hcs⟩ := S26.out.at_ (i := k) hkl
  have hck := hcs k hkl
  clear hcs
  have hF := HFI.out
  go_wp2_with fail
  refine (same_b A6 (some ⟨b, off, none⟩) L6 L2 c6 c2 true _ S6.out S26.out (by rw [hL6.out]; omega) (by rw [hL6.out]; simp)).mono ?_
  rintro e w7 ⟨rfl, hb7⟩
  have B7 := Lib.hid hb7
  have S27 := Lib.hid (S26.out.below hb7)
  have S57 := Lib.hid ((S5.out.below B6.out).below hb7)
  have BB := Lib.hid (below_next (below_next (below_next (below_next (below_next (below_next B1.out B2.out) B3.out) B4.out) B5.out) B6.out) B7.out)
  clear hb7 hck hF
  go_wp2_with fail
  go_loopw [19] (fun i wr => ∃ (q j : Nat), q ≤ L2.length ∧ i = .int .i64 q ∧ wr = w7.drewN j) (fun i _ => L2.length - (intOf i).toNat)
  case atStart => exact ⟨0, 0, by omega, rfl, rfl⟩
  case round =>
    obtain ⟨q, j, hq, rfl, rfl⟩ := hrel
    by_cases hlt : q < L2.length
    · obtain ⟨b5, o5, hA5, _, hcs5⟩ := S57.out.at_ (i := q) (by omega)
      obtain ⟨b2, o2, hA2, _, hcs2⟩ := S27.out.at_ (i := q) hlt
      have hc5 := hcs5 q (by omega)
      have hc2 := hcs2 q hlt
      have hat := HTU.out.at_ q hlt (by omega)
      injection hA2 with hA2
      injection hA2 with hb2 ho2
      subst hb2 ho2 hA5
      have h5 : q < L5.length := by omega
      clear hcs5 hcs2
      by_cases e : q = k
      · have hbo : (!L2[q].toList == L5[q].toList) = fine := by
          rw [toList_beq]
          cases fine
          · simp at hat ⊢; exact hat
          · simp [e] at hat ⊢; exact hat
        subst e
        clear hat
        go_wp2
        go_quiet (fail)
        go_wp2
        go_roundw
        case rel => exact ⟨q + 1, _, by omega, by go_num, rfl⟩
        case measure => simp [intOf]; omega
      · have hbo : (!L2[q].toList == L5[q].toList) = false := by
          rw [toList_beq]
          simp [e] at hat ⊢
          exact hat
        have hqe : ((q : Int) == (k : Int)) = false := by simp; omega
        clear hat
        go_wp2
        go_quiet (fail)
        go_wp2
        go_roundw
        case rel => exact ⟨q + 1, _, by omega, by go_num, rfl⟩
        case measure => simp [intOf]; omega
    · go_wp2
      go_ret
      exact ⟨rfl, below_drewN BB.out _⟩

theorem isEmpty_of (s : ByteArray) : s.toList.isEmpty = decide (s.size = 0) := by
  rw [ByteArray.toList_eq]
  have h : s.data.toList.length = s.size := Array.length_toList
  cases hq : s.data.toList with
  | nil =>
    rw [hq, List.length_nil] at h
    rw [List.isEmpty_nil]
    symm
    rw [decide_eq_true_iff]
    omega
  | cons a t =>
    rw [hq, List.length_cons] at h
    rw [List.isEmpty_cons]
    symm
    rw [decide_eq_false_iff_not]
    omega
set_option maxRecDepth 100000 in
set_option maxHeartbeats 2000000 in
theorem back_walk (A : Option Addr) (l : List ByteArray) (c : Nat) (s : ByteArray) (at_ bit : Int) (w : World) (h : Strs w A l) (hc : l.length ≤ c) (hn : l.length ≤ 9223372036854775807) :
    Calls Try.prog 4 #[.slice A l.length c, .string s, .int .i64 at_, .int .i64 bit] w fun e w' => e = .returned (.bool true) ∧ Below w.heap.size w w' := by
  by_cases hf : fewF l = true ∧ l.length < 64 ∧ s.size ≤ 200
  · obtain ⟨hf1, hf2, hf3⟩ := hf
    obtain ⟨_, hsz⟩ := fewF_true hf1
    have hlo := lowF_lt at_ ((l ++ [s]).length : Int) (by simp; omega)
    obtain ⟨k, hk⟩ : ∃ k : Nat, lowF at_ ((l ++ [s]).length : Int) = k := ⟨(lowF at_ ((l ++ [s]).length : Int)).toNat, by omega⟩
    have hkl : k < (l ++ [s]).length := by omega
    have hszL : ∀ x ∈ l ++ [s], x.size ≤ 200 := by
      intro x hx
      rcases List.mem_append.1 hx with hx | hx
      · exact hsz x hx
      · simp at hx; subst hx; exact hf3
    by_cases h0 : (l ++ [s])[k].size = 0
    · obtain ⟨h1, h2⟩ := spoil_none (l ++ [s]) k bit hkl h0
      exact back_tail A l c s at_ bit w h hc hf1 hf3 hf2 k false _ hk hkl h1 h1 h2 (by rw [isEmpty_of, h0]; rfl) hszL
    · obtain ⟨M, h1, h2, h3, h4⟩ := spoil_twice (l ++ [s]) k bit hkl (by omega)
      exact back_tail A l c s at_ bit w h hc hf1 hf3 hf2 k true M hk hkl h1 h2 h3 (by rw [isEmpty_of]; simp [h0]) (h4 200 hszL)
  · go_enter Try.func4, Try.ntmps4
    go_wp2_with fail
    refine (first_any _).mono ?_
    rintro e w1 ⟨rfl, hb1⟩
    have S1 := Lib.hid (h.below hb1)
    go_wp2_with fail
    refine (few_any _ _ _ _ S1.out (by omega)).mono ?_
    rintro e w' ⟨rfl, rfl⟩
    cases hfl : fewF l
    · go_wp2_with fail
      go_ret
      exact ⟨rfl, hb1⟩
    · by_cases h64 : l.length < 64
      · have hs : 200 < s.size := by
          rcases Nat.lt_or_ge 200 s.size with h1 | h1
          · exact h1
          · exact absurd ⟨hfl, h64, h1⟩ hf
        clear hf hfl
        go_wp2_with fail
        go_ret
        exact ⟨rfl, hb1⟩
      · clear hf hfl
        go_wp2_with fail
        go_ret
        exact ⟨rfl, hb1⟩
end Go.Proofs.Ytkpgfkilbamkdaa
