/- FoldHand: what the facts say of the calls. -/
import Derived.Test.YtbemdcbglpjmiaaGreatDoorHdFA
import Derived.Test.YtbemdcbglpjmiaaGreatDoorHdFB
import Derived.Test.YtbemdcbglpjmiaaGreatDoorHdFC
import Derived.Test.YtbemdcbglpjmiaaGreatDoorHdFD
import Derived.Test.YtbemdcbglpjmiaaGreatDoorHdFE
import Derived.Test.YtbemdcbglpjmiaaGreatDoorHdG
import Derived.Test.YtbemdcbglpjmiaaGreatDoorFqC
namespace Go.Proofs.YtbemdcbglpjmiaaGreatDoor
open Go.RowKit
namespace Kv
open Ev
set_option maxRecDepth 100000
theorem hand_one (k : Nat) (h : k = 2 ∨ k = 3 ∨ k = 6 ∨ k = 7 ∨ k = 8) (c : Nat) : inC c k = inC 0 k ∧ wantC c k = wantC 0 k := by
  rcases h with rfl | rfl | rfl | rfl | rfl <;> exact ⟨rfl, rfl⟩
theorem hand_free {c k : Nat} (h : k = 2 ∨ k = 3 ∨ k = 6 ∨ k = 7 ∨ k = 8) (h0 : handFact 0 k = true) : handFact c k = true := by
  obtain ⟨h1, h2⟩ := hand_one k h c
  unfold handFact at h0 ⊢
  rw [h1, h2]
  exact h0
theorem hand_all (c k : Nat) (hc : c < 4) (hk : k < 9) : handFact c k = true := by
  match k, hk with
  | 2, _ => exact hand_free (by decide) hf0_2
  | 3, _ => exact hand_free (by decide) hf0_3
  | 6, _ => exact hand_free (by decide) hf0_6
  | 7, _ => exact hand_free (by decide) hf0_7
  | 8, _ => exact hand_free (by decide) hf0_8
  | 0, _ => match c, hc with
    | 0, _ => exact hf0_0
    | 1, _ => exact hf1_0
    | 2, _ => exact hf2_0
    | 3, _ => exact hf3_0
    | c + 4, h => exact absurd h (by omega)
  | 1, _ => match c, hc with
    | 0, _ => exact hf0_1
    | 1, _ => exact hf1_1
    | 2, _ => exact hf2_1
    | 3, _ => exact hf3_1
    | c + 4, h => exact absurd h (by omega)
  | 4, _ => match c, hc with
    | 0, _ => exact hf0_4
    | 1, _ => exact hf1_4
    | 2, _ => exact hf2_4
    | 3, _ => exact hf3_4
    | c + 4, h => exact absurd h (by omega)
  | 5, _ => match c, hc with
    | 0, _ => exact hf0_5
    | 1, _ => exact hf1_5
    | 2, _ => exact hf2_5
    | 3, _ => exact hf3_5
    | c + 4, h => exact absurd h (by omega)
  | k + 9, h => exact absurd h (by omega)
theorem digAll_ok (n : Nat) : ∀ x : Nat, digAll n x = true → ∀ i, x ≤ i → i < x + n → digOk i = true := by
  induction n with
  | zero => intro x _ i h1 h2; omega
  | succ n ih =>
    intro x h i h1 h2
    have h : (match digOk x with | true => digAll n (x + 1) | false => false) = true := h
    split at h
    · rename_i h0
      rcases Nat.lt_or_ge x i with h3 | h3
      · exact ih (x + 1) h i (by omega) (by omega)
      · obtain rfl : i = x := by omega
        exact h0
    · cases h
theorem dig_all (x : Nat) (h : x < 1000) : digOk x = true := by
  rcases Nat.lt_or_ge x 200 with h1 | h1
  · exact digAll_ok 200 0 dg0 x (by omega) (by omega)
  rcases Nat.lt_or_ge x 400 with h2 | h2
  · exact digAll_ok 200 200 dg1 x (by omega) (by omega)
  rcases Nat.lt_or_ge x 600 with h3 | h3
  · exact digAll_ok 200 400 dg2 x (by omega) (by omega)
  rcases Nat.lt_or_ge x 800 with h4 | h4
  · exact digAll_ok 200 600 dg3 x (by omega) (by omega)
  · exact digAll_ok 200 800 dg4 x (by omega) (by omega)
theorem rel_at (W : World) (d : Nat) : HR { W with drawn := d } (mStart d) (lst 64 []) W := by
  refine ⟨⟨rfl, rfl, rfl, Nat.le_refl _, fun _ _ => rfl⟩, fun g hg => by simp [mStart, hg], by simp [mStart], Nat.le_refl 64, fun i hi => ?_, fun i r hi hr => ?_, fun i b r hi hr => ?_, fun i j bi bj r q hi hj hr hq _ => ?_⟩
  · have hi : 64 ≤ i := hi
    unfold mStart
    rw [if_neg (by omega), if_neg (by omega)]
  · have : mStart d i = none := by
      unfold mStart
      rw [if_neg (by omega), if_neg (by omega)]
    rw [this] at hr; cases hr
  · have hi : (T.nil : T B).get i = some b := hi
    rw [T.get_nil] at hi; cases hi
  · have hi : (T.nil : T B).get i = some bi := hi
    rw [T.get_nil] at hi; cases hi
/-- A call that the evaluator has run. -/
theorem call_ev {w0 w : World} {m : M} {σ σ' : St} {f : Nat} {fn : Func} {args : List V} {v : V} {vs : Array Value} (hf : Tryz.prog.funcs[f]? = some fn) (hn : (fn.name == "runtime.NumGoroutine") = false) (hb : fn.body.isNone = false)
    (h : evH f args σ = some (v, σ')) (hH : HR w0 m σ w) (hv : All2 (VR m) args vs.toList) :
    Calls Tryz.prog f vs w fun e w' => ∃ m' v', e = .returned v' ∧ Gr m σ w m' σ' w' ∧ HR w0 m' σ' w' ∧ VR m' v v' := by
  rcases evH_ok f args σ v σ' m w vs h hH hv with ⟨_, _, _, _, h5, _⟩ | ⟨_, h6⟩
  · rw [enter_run hf hn hb] at h5
    cases h5
  · exact h6
theorem digits_any (x : Nat) (h : x < 1000) (W : World) : Calls Tryz.prog 15 #[.int .i64 (x : Int)] W fun e w' => (∃ t, e = .returned (.string t) ∧ Ev.bytes t = digF x) ∧ Below W.heap.size W w' := by
  have hd := dig_all x h
  unfold digOk at hd
  split at hd
  · rename_i r hr
    have hv := vSame_eq hd
    refine (call_ev Tryz.func15 (by kernel_rfl) (by kernel_rfl) (v := r.1) (σ' := r.2) hr (rel_at W W.drawn) (vs := #[.int .i64 (x : Int)]) ⟨rfl, trivial⟩).mono ?_
    rintro e w' ⟨m', v', rfl, _, hH, hvr⟩
    rw [hv] at hvr
    obtain ⟨t, rfl, ht⟩ := hvr
    exact ⟨⟨t, rfl, ht⟩, hH.below⟩
  · cases hd
theorem xB_2 {p z : Nat} (hp : p < 9) (hz : z < 10) : xB (p + 9 * z) = z := by
  unfold xB
  rw [Nat.add_mul_div_left _ _ (by decide), Nat.div_eq_of_lt hp, Nat.zero_add, Nat.mod_eq_of_lt hz]
theorem xB_3 {p q z : Nat} (hp : p < 9) (hq : q < 10) : xB (p + 9 * q + 90 * z) = q := by
  unfold xB
  rw [show p + 9 * q + 90 * z = p + 9 * (q + 10 * z) by omega, Nat.add_mul_div_left _ _ (by decide), Nat.div_eq_of_lt hp, Nat.zero_add, Nat.add_mul_mod_self_left, Nat.mod_eq_of_lt hq]
theorem xC_3 {p q z : Nat} (hp : p < 9) (hq : q < 10) (hz : z < 10) : xC (p + 9 * q + 90 * z) = z := by
  unfold xC
  rw [Nat.add_mul_div_left _ _ (by decide), Nat.div_eq_of_lt (by omega), Nat.zero_add, Nat.mod_eq_of_lt hz]
/-- Digits, as letters that are not known. -/
theorem dig_txt (x : Nat) (h : x < 1000) : ∃ c d, c < 4 ∧ ∀ t, Ev.bytes t = digF x → Txt (dig c) d t := by
  have tri : (x = 0 ∨ (1 ≤ x ∧ x ≤ 9)) ∨ (10 ≤ x ∧ x ≤ 99) ∨ 100 ≤ x := by omega
  rcases tri with (rfl | h1) | h2 | h3
  · exact ⟨0, 0, by decide, fun t ht => by unfold Txt; rw [ht]; rfl⟩
  · refine ⟨1, x - 1, by decide, fun t ht => ?_⟩
    have e : Nat.ble x 9 = true := Nat.ble_eq ▸ h1.2
    have e3 : xA (x - 1) = x - 1 := by unfold xA; omega
    unfold Txt
    rw [ht]
    simp only [digF, e, dig, List.map_cons, List.map_nil, Ev.Lf.den, e3, Int.ofNat_eq_natCast, List.cons.injEq, and_true]
    omega
  · refine ⟨2, (x / 10 - 1) + 9 * (x % 10), by decide, fun t ht => ?_⟩
    have e : Nat.ble x 9 = false := by
      cases hq : Nat.ble x 9 with
      | false => rfl
      | true => have := Nat.le_of_ble_eq_true hq; omega
    have e2 : Nat.ble x 99 = true := Nat.ble_eq ▸ h2.2
    have e3 : xA ((x / 10 - 1) + 9 * (x % 10)) = x / 10 - 1 := by unfold xA; omega
    have e4 : xB ((x / 10 - 1) + 9 * (x % 10)) = x % 10 := xB_2 (by omega) (by omega)
    unfold Txt
    rw [ht]
    simp only [digF, e, e2, dig, List.map_cons, List.map_nil, Ev.Lf.den, e3, e4, Int.ofNat_eq_natCast, List.cons.injEq, and_true]
    omega
  · refine ⟨3, (x / 100 - 1) + 9 * (x / 10 % 10) + 90 * (x % 10), by decide, fun t ht => ?_⟩
    have e : Nat.ble x 9 = false := by
      cases hq : Nat.ble x 9 with
      | false => rfl
      | true => have := Nat.le_of_ble_eq_true hq; omega
    have e2 : Nat.ble x 99 = false := by
      cases hq : Nat.ble x 99 with
      | false => rfl
      | true => have := Nat.le_of_ble_eq_true hq; omega
    have e3 : xA ((x / 100 - 1) + 9 * (x / 10 % 10) + 90 * (x % 10)) = x / 100 - 1 := by unfold xA; omega
    have e4 : xB ((x / 100 - 1) + 9 * (x / 10 % 10) + 90 * (x % 10)) = x / 10 % 10 := xB_3 (by omega) (by omega)
    have e5 : xC ((x / 100 - 1) + 9 * (x / 10 % 10) + 90 * (x % 10)) = x % 10 := xC_3 (by omega) (by omega) (by omega)
    unfold Txt
    rw [ht]
    simp only [digF, e, e2, dig, List.map_cons, List.map_nil, Ev.Lf.den, e3, e4, e5, Int.ofNat_eq_natCast, List.cons.injEq, and_true]
    omega
theorem word_txt {a b : ByteArray} {c d : Nat} {t : ByteArray} (h : Txt (dig c) d t) : Txt (word (Ev.bytes a) (Ev.bytes b) c) d (a ++ t ++ b) := by
  unfold Txt word at *
  rw [bytes_append, bytes_append, List.map_append, List.map_append, List.map_append, List.map_append, h, lfs_den, lfs_den, List.append_assoc]
theorem word_vr {a b : ByteArray} {la lb : List Nat} {c d : Nat} {t : ByteArray} (h : Txt (dig c) d t) (ha : Ev.bytes a = la) (hb : Ev.bytes b = lb) : VR (mStart d) (.p (.c (.sst (word la lb c)))) (.string (a ++ t ++ b)) := by
  subst ha hb
  exact ⟨(63, d), by simp [mStart], _, rfl, word_txt h⟩
theorem str_vr {a : ByteArray} {la : List Nat} (d : Nat) (ha : Ev.bytes a = la) : VR (mStart d) (.p (.c (.str la))) (.string a) := ⟨a, rfl, ha⟩
/-- The last line of the law, step by step. -/
theorem hand_four {c k : Nat} (h : handFact c k = true) : ∃ x y z r, evH 19 [.p (.c (inC c k))] (lst 64 []) = some x ∧ evH 18 [x.1] x.2 = some y ∧
    evH 19 [.p (.c (wantC c k))] y.2 = some z ∧ evH 17 [y.1, z.1] z.2 = some r ∧ r.1 = .p (.c (.bool true)) := by
  unfold handFact at h
  split at h
  · rename_i x hx
    split at h
    · rename_i y hy
      split at h
      · rename_i z hz
        split at h
        · rename_i r hr
          exact ⟨x, y, z, r, hx, hy, hz, hr, vSame_eq h⟩
        · cases h
      · cases h
    · cases h
  · cases h
end Kv
end Go.Proofs.YtbemdcbglpjmiaaGreatDoor
