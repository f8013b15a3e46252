/- Numbers as bytes, in plain Lean: the zigzag and the groups of seven bits; reading is the inverse of writing. -/
import Derived.Test.YtfaophiaiflecaaBase
import Derived.Laws.BitsAllLaws
namespace Go.Proofs.Ytfaophiaiflecaa
open Go.RowKit

/-- The zigzag. -/
def zz (n : Int) : Nat := if 0 ≤ n then (2 * n).toNat else (-2 * n - 1).toNat
def uzz (u : Nat) : Int := if u % 2 = 0 then (u / 2 : Nat) else -((u / 2 : Nat) : Int) - 1
theorem uzz_zz (n : Int) : uzz (zz n) = n := by
  unfold zz uzz
  split <;> split <;> omega
theorem zz_lt (n : Int) (h1 : -9223372036854775808 ≤ n) (h2 : n ≤ 9223372036854775807) : zz n < 18446744073709551616 := by
  unfold zz; split <;> omega
/-- The groups of seven bits, the lowest first. -/
def vb : Nat → Nat → List UInt8
  | 0, _ => []
  | f + 1, u => if u < 128 then [UInt8.ofNat u] else UInt8.ofNat (u % 128 + 128) :: vb f (u / 128)
def numB (n : Int) : List UInt8 := vb 10 (zz n)
/-- Reading: how far, and what has been gathered so far. -/
def readFrom (i u : Nat) : List UInt8 → Option (Nat × Nat)
  | [] => none
  | c :: r =>
    if 10 ≤ i then none else if i = 9 ∧ 1 < c.toNat then none
    else if c.toNat < 128 then (if c.toNat = 0 ∧ 0 < i then none else some (u + c.toNat % 128 * 2 ^ (7 * i), i + 1))
    else readFrom (i + 1) (u + c.toNat % 128 * 2 ^ (7 * i)) r
theorem vb_pos (f u : Nat) : 0 < (vb (f + 1) u).length := by
  unfold vb; split <;> simp
theorem vb_len (f u : Nat) : (vb f u).length ≤ f := by
  induction f generalizing u with
  | zero => simp [vb]
  | succ f ih =>
    unfold vb
    split
    · simp
    · simp; exact ih _
theorem vb_mono (f u v : Nat) (h : u ≤ v) : (vb f u).length ≤ (vb f v).length := by
  induction f generalizing u v with
  | zero => simp [vb]
  | succ f ih =>
    unfold vb
    split
    · split <;> simp
    · rw [if_neg (by omega)]
      simp
      exact ih _ _ (Nat.div_le_div_right h)
theorem read_vb (f : Nat) : ∀ (i u a : Nat) (r : List UInt8), i + f = 10 → 0 < f → u < 2 ^ (64 - 7 * i) → (i = 0 ∨ 0 < u) → readFrom i a (vb f u ++ r) = some (a + u * 2 ^ (7 * i), i + (vb f u).length) := by
  induction f with
  | zero => intro i u a r _ h; omega
  | succ f ih =>
    intro i u a r hif _ hu h0
    unfold vb
    by_cases hlt : u < 128
    · rw [if_pos hlt]
      have hc : (UInt8.ofNat u).toNat = u := by rw [UInt8.toNat_ofNat', Nat.mod_eq_of_lt (by omega)]
      show readFrom i a (UInt8.ofNat u :: r) = _
      unfold readFrom
      rw [hc, if_neg (by omega), if_neg, if_pos hlt, if_neg (by omega), Nat.mod_eq_of_lt hlt]
      · rfl
      · rintro ⟨rfl, h1⟩
        simp at hu
        omega
    · rw [if_neg hlt]
      have hc : (UInt8.ofNat (u % 128 + 128)).toNat = u % 128 + 128 := by rw [UInt8.toNat_ofNat', Nat.mod_eq_of_lt (by omega)]
      show readFrom i a (UInt8.ofNat (u % 128 + 128) :: (vb f (u / 128) ++ r)) = _
      have hi9 : i < 9 := by
        rcases Nat.lt_or_ge i 9 with h | h
        · exact h
        · have : i = 9 := by omega
          subst this
          simp at hu
          omega
      have hp : 2 ^ (64 - 7 * i) = 2 ^ (64 - 7 * (i + 1)) * 128 := by
        rw [show (128 : Nat) = 2 ^ 7 from rfl, ← Nat.pow_add]
        congr 1
        omega
      unfold readFrom
      rw [hc, if_neg (by omega), if_neg (by omega), if_neg (by omega)]
      rw [ih (i + 1) (u / 128) _ r (by omega) (by omega) (by rw [hp] at hu; exact Nat.div_lt_of_lt_mul (by rw [Nat.mul_comm]; exact hu)) (.inr (by omega))]
      have he : (u % 128 + 128) % 128 * 2 ^ (7 * i) + u / 128 * 2 ^ (7 * (i + 1)) = u * 2 ^ (7 * i) := by
        rw [show 7 * (i + 1) = 7 + 7 * i by omega, Nat.pow_add, ← Nat.mul_assoc, ← Nat.add_mul]
        congr 1
        omega
      rw [Nat.add_assoc, he, List.length_cons]
      congr 2
      omega
theorem read_cut (f : Nat) : ∀ (i u a : Nat), readFrom i a (vb f u).dropLast = none := by
  induction f with
  | zero => intro i u a; rfl
  | succ f ih =>
    intro i u a
    unfold vb
    by_cases hlt : u < 128
    · rw [if_pos hlt]; rfl
    · rw [if_neg hlt]
      have hc : (UInt8.ofNat (u % 128 + 128)).toNat = u % 128 + 128 := by rw [UInt8.toNat_ofNat', Nat.mod_eq_of_lt (by omega)]
      cases hv : vb f (u / 128) with
      | nil => rfl
      | cons b t =>
        show readFrom i a (UInt8.ofNat (u % 128 + 128) :: (b :: t).dropLast) = none
        unfold readFrom
        rw [hc, ← hv]
        split
        · rfl
        · split
          · rfl
          · rw [if_neg (by omega)]
            exact ih _ _ _
def readF (l : List UInt8) : Int × Nat × Bool := match readFrom 0 0 l with
  | some (u, k) => (uzz u, k, true)
  | none => (0, 0, false)
theorem readF_num (n : Int) (r : List UInt8) (h1 : -9223372036854775808 ≤ n) (h2 : n ≤ 9223372036854775807) : readF (numB n ++ r) = (n, (numB n).length, true) := by
  unfold readF numB
  rw [read_vb 10 0 (zz n) 0 r rfl (by omega) (by have := zz_lt n h1 h2; simpa using this) (.inl rfl)]
  simp [uzz_zz]
theorem readF_cut (n : Int) : readF (numB n).dropLast = (0, 0, false) := by
  unfold readF numB
  rw [read_cut]
end Go.Proofs.Ytfaophiaiflecaa
