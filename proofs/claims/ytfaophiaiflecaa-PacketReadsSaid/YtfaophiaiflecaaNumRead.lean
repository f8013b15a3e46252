/- Contract: object.ReadNumber. -/
import Derived.Test.YtfaophiaiflecaaNum
namespace Go.Proofs.Ytfaophiaiflecaa
open Go.RowKit

def OutN (r : Int × Nat × Bool) (w : World) (e : Ending) (w' : World) : Prop := e = .returned (.tuple #[.int .i64 r.1, .int .i64 r.2.1, .bool r.2.2]) ∧ w = w'
theorem and_127 (c : UInt8) : bits BinOp.and IntKind.u8 (c.toNat : Int) 127 = ((c.toNat % 128 : Nat) : Int) := by
  have hc : c.toNat < 256 := c.toNat_lt
  have h := u8_and_nat c.toNat 127 hc (by omega)
  rw [show ((127 : Nat) : Int) = 127 from rfl] at h
  rw [h, show (127 : Nat) = 2 ^ 7 - 1 from rfl, Nat.and_two_pow_sub_one_eq_mod]
theorem gather (u m : Nat) (c : UInt8) (P : Int) (hP : P = ((2 ^ m : Nat) : Int)) (hu : u < 2 ^ m) (hm : c.toNat % 128 * 2 ^ m < 18446744073709551616) (hm64 : u < 18446744073709551616) :
    bits BinOp.or IntKind.u64 (u : Int) (IntKind.u64.wrap (IntKind.u64.wrap (bits BinOp.and IntKind.u8 (c.toNat : Int) 127) * P)) = ((u + c.toNat % 128 * 2 ^ m : Nat) : Int) := by
  rw [and_127, hP]
  have e1 : IntKind.u64.wrap ((c.toNat % 128 : Nat) : Int) = ((c.toNat % 128 : Nat) : Int) := IntWalk.u64_in _ (by omega)
  rw [e1, ← Int.natCast_mul]
  have hor : u ||| (c.toNat % 128 * 2 ^ m) = u + c.toNat % 128 * 2 ^ m := by
    rw [Nat.mul_comm, Nat.or_comm, ← Nat.two_pow_add_eq_or_of_lt hu, Nat.add_comm]
  generalize c.toNat % 128 * 2 ^ m = x at hm hor
  have e2 : IntKind.u64.wrap ((x : Nat) : Int) = ((x : Nat) : Int) := IntWalk.u64_in _ (by omega)
  rw [e2, u64_or_nat _ _ hm64 hm]
  rw [hor]
theorem fin_core (u : Nat) (h : u < 18446744073709551616) : bits BinOp.xor IntKind.i64 (wrap64 ((u : Int) / 2)) (wrap64 (-wrap64 (bits BinOp.and IntKind.u64 (u : Int) 1))) = uzz u := by
  have ha := u64_and_nat u 1 h (by omega)
  rw [show ((1 : Nat) : Int) = 1 from rfl] at ha
  rw [ha, Nat.and_one_is_mod]
  have e1 : wrap64 ((u : Int) / 2) = ((u / 2 : Nat) : Int) := by
    have : (u : Int) / 2 = ((u / 2 : Nat) : Int) := by omega
    rw [this]
    exact IntWalk.wrap64_in _ (by omega)
  have e2 : wrap64 ((u % 2 : Nat) : Int) = ((u % 2 : Nat) : Int) := IntWalk.wrap64_in _ (by omega)
  have e3 : wrap64 (-((u % 2 : Nat) : Int)) = -((u % 2 : Nat) : Int) := IntWalk.wrap64_in _ (by omega)
  rw [e1, e2, e3]
  have hq : u / 2 < 9223372036854775808 := by omega
  generalize hqq : u / 2 = q at hq
  have hofq : BitVec.ofInt 64 (q : Int) = BitVec.ofNat 64 q := BitVec.ofInt_natCast 64 q
  unfold uzz
  rw [hqq]
  rcases Nat.mod_two_eq_zero_or_one u with h0 | h0
  · rw [h0, if_pos rfl]
    show IntKind.i64.wrap ((BitVec.ofInt 64 (q : Int) ^^^ BitVec.ofInt 64 (-((0 : Nat) : Int))).toNat : Int) = _
    rw [hofq, show BitVec.ofInt 64 (-((0 : Nat) : Int)) = 0#64 from rfl, BitVec.xor_zero, BitVec.toNat_ofNat, Nat.mod_eq_of_lt (by omega)]
    exact IntWalk.i64_in _ (by omega)
  · rw [h0, if_neg (by omega)]
    show IntKind.i64.wrap ((BitVec.ofInt 64 (q : Int) ^^^ BitVec.ofInt 64 (-((1 : Nat) : Int))).toNat : Int) = _
    rw [hofq, show BitVec.ofInt 64 (-((1 : Nat) : Int)) = BitVec.allOnes 64 from rfl, BitVec.xor_allOnes, BitVec.toNat_not, BitVec.toNat_ofNat, Nat.mod_eq_of_lt (by omega), IntKind.wrap_i64]
    omega
theorem drop_cons (s : ByteArray) (k : Nat) (h : k < s.size) : s.data.toList.drop k = s[k] :: s.data.toList.drop (k + 1) := by
  have h' : k < s.data.toList.length := by rw [Array.length_toList]; exact h
  rw [List.drop_eq_getElem_cons h']
  rfl
theorem pow_le (k : Nat) (h : k ≤ 9) : 2 ^ (7 * k) ≤ 9223372036854775808 := by
  have : 2 ^ (7 * k) ≤ 2 ^ 63 := Nat.pow_le_pow_right (by omega) (by omega)
  exact this
set_option maxRecDepth 100000 in
set_option maxHeartbeats 1600000 in
theorem readNumber_any (s : ByteArray) (w : World) (hs : s.size ≤ 9223372036854775807) :
    Calls Try.prog 78 #[.string s] w (OutN (readF s.data.toList) w) := by
  have HSZ := Lib.hid hs
  go_enter Try.func78, Try.ntmps78
  go_wp2
  go_loop [5, 6] (fun x i => ∃ (k u : Nat), k ≤ s.size ∧ k ≤ 10 ∧ i = .int .i64 k ∧ x = .int .u64 u ∧ Hid (u < 2 ^ (7 * k)) ∧ Hid (readFrom 0 0 s.data.toList = readFrom k u (s.data.toList.drop k))) (fun _ i => 10 - (intOf i).toNat)
  case atStart => exact ⟨0, 0, by omega, by omega, rfl, rfl, Lib.hid (by simp), Lib.hid rfl⟩
  case round =>
    obtain ⟨k, u, hk, hk10, rfl, rfl, hu, hrd⟩ := hrel
    by_cases hin : k < s.size ∧ k < 10
    · obtain ⟨h1, h2⟩ := hin
      have hdr := drop_cons s k h1
      have hr := hrd.out
      rw [hdr] at hr
      have hp := pow_le k (by omega)
      have hu64 : u < 18446744073709551616 := by have := hu.out; omega
      generalize hcv : s[k] = c at *
      have hc256 : c.toNat < 256 := c.toNat_lt
      by_cases h9 : k = 9 ∧ 1 < c.toNat
      · obtain ⟨rfl, hc1⟩ := h9
        have hnone : readF s.data.toList = (0, 0, false) := by
          unfold readF
          rw [hr]
          unfold readFrom
          rw [if_neg (by omega), if_pos ⟨rfl, hc1⟩]
        have HN := Lib.hid hnone
        have hcv2 : s[9] = c := hcv
        clear hnone hr hdr hp hu64 hcv
        go_wp2_with fail
        go_ret3
        rw [HN.out]
        exact ⟨rfl, rfl⟩
      · have hmul : c.toNat % 128 * 2 ^ (7 * k) < 18446744073709551616 := by
          by_cases hk9 : k = 9
          · subst hk9
            have : c.toNat ≤ 1 := by omega
            have h3 : c.toNat % 128 ≤ 1 := by omega
            have := Nat.mul_le_mul_right (2 ^ (7 * 9)) h3
            simp at this ⊢
            omega
          · have h3 : c.toNat % 128 ≤ 127 := by omega
            have h4 : 2 ^ (7 * k) ≤ 2 ^ 56 := Nat.pow_le_pow_right (by omega) (by omega)
            have := Nat.mul_le_mul h3 h4
            simp at this ⊢
            omega
        obtain ⟨v, hv⟩ : ∃ v, v = u + c.toNat % 128 * 2 ^ (7 * k) := ⟨_, rfl⟩
        have hv2 : v < 2 ^ (7 * (k + 1)) := by
          rw [hv, show 7 * (k + 1) = 7 * k + 7 by omega, Nat.pow_add]
          have := hu.out
          have h3 : c.toNat % 128 ≤ 127 := by omega
          have := Nat.mul_le_mul_right (2 ^ (7 * k)) h3
          omega
        have hv64 : v < 18446744073709551616 := by
          by_cases hk9 : k = 9
          · subst hk9
            have h3 : c.toNat % 128 ≤ 1 := by omega
            have h4 := Nat.mul_le_mul_right (2 ^ (7 * 9)) h3
            have h5 := hu.out
            simp at h4 h5
            rw [hv]
            simp
            omega
          · have : 2 ^ (7 * (k + 1)) ≤ 2 ^ 63 := Nat.pow_le_pow_right (by omega) (by omega)
            simp at this
            omega
        have eF := fin_core v hv64
        have eG := gather u (7 * k) c (2 ^ (7 * k)) (Int.natCast_pow 2 (7 * k)).symm hu.out hmul hu64
        rw [← hv] at eG
        have HV2 := Lib.hid hv2
        have hstep : readFrom k u (c :: s.data.toList.drop (k + 1)) = if c.toNat < 128 then (if c.toNat = 0 ∧ 0 < k then none else some (v, k + 1)) else readFrom (k + 1) v (s.data.toList.drop (k + 1)) := by
          rw [hv]
          conv => lhs; unfold readFrom
          rw [if_neg (by omega), if_neg h9]
        rw [hstep] at hr
        have HR := Lib.hid hr
        clear hr hstep hv hv2 hv64 hmul hp hu64 hdr hrd
        by_cases hc : c.toNat < 128
        · by_cases hz : c.toNat = 0 ∧ 0 < k
          · have hnone : readF s.data.toList = (0, 0, false) := by
              unfold readF
              rw [HR.out, if_pos hc, if_pos hz]
            have HN := Lib.hid hnone
            clear hnone eF
            obtain ⟨hz1, hz2⟩ := hz
            have hcz : ((c.toNat : Int) == 0) = true := by simp; omega
            by_cases hk9 : k = 9
            · subst hk9
              have hcv2 : s[9] = c := hcv
              rw [show (2 : Int) ^ (7 * 9) = 9223372036854775808 from rfl] at eG
              have hc1 : c.toNat ≤ 1 := by omega
              clear hcv h9 hz1
              go_wp2_with fail
              go_ret3
              rw [HN.out]
              exact ⟨rfl, rfl⟩
            · have hk9' : ((k : Int) == 9) = false := by simp; omega
              clear h9 hk9 hz1
              go_wp2_with fail
              go_ret3
              rw [HN.out]
              exact ⟨rfl, rfl⟩
          · have hsome : readF s.data.toList = (uzz v, ((k + 1 : Nat) : Int).toNat, true) := by
              unfold readF
              rw [HR.out, if_pos hc, if_neg hz]
              rfl
            have HN := Lib.hid hsome
            clear hsome
            by_cases hk9 : k = 9
            · subst hk9
              have hcv2 : s[9] = c := hcv
              have hcz : ((c.toNat : Int) == 0) = false := by simp; omega
              rw [show (2 : Int) ^ (7 * 9) = 9223372036854775808 from rfl] at eG
              have hc1 : c.toNat ≤ 1 := by omega
              clear hcv h9 hz
              go_wp2_with fail
              go_ret3
              rw [HN.out]
              exact ⟨rfl, rfl⟩
            · have hk9' : ((k : Int) == 9) = false := by simp; omega
              by_cases hk0 : k = 0
              · subst hk0
                rw [show (2 : Int) ^ (7 * 0) = 1 from rfl, Int.mul_one] at eG
                clear h9 hk9 hz
                rcases hcz : ((c.toNat : Int) == 0) with _ | _
                all_goals
                  go_wp2_with fail
                  go_ret3
                  rw [HN.out]
                  exact ⟨rfl, rfl⟩
              · have hcz : ((c.toNat : Int) == 0) = false := by simp; omega
                clear h9 hk9 hz
                go_wp2_with fail
                go_ret3
                rw [HN.out]
                exact ⟨rfl, rfl⟩
        · have hk9' : ((k : Int) == 9) = false := by
            have : k ≠ 9 := by rintro rfl; exact h9 ⟨rfl, by omega⟩
            simp; omega
          clear h9 eF
          go_wp2_with fail
          go_round
          case rel => exact ⟨k + 1, v, by omega, by omega, by go_num, rfl, HV2, Lib.hid (by rw [HR.out, if_neg hc])⟩
          case measure => simp [intOf]; omega
    · have hnone : readF s.data.toList = (0, 0, false) := by
        unfold readF
        rw [hrd.out]
        by_cases h10 : k < 10
        · rw [List.drop_of_length_le (by rw [Array.length_toList]; show s.size ≤ k; omega)]
          rfl
        · cases hd : s.data.toList.drop k with
          | nil => rfl
          | cons c r =>
            unfold readFrom
            rw [if_pos (by omega)]
      have HN := Lib.hid hnone
      clear hnone
      by_cases hks : k < s.size
      all_goals
        go_wp2_with fail
        go_ret3
        rw [HN.out]
        exact ⟨rfl, rfl⟩
end Go.Proofs.Ytfaophiaiflecaa
