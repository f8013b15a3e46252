/- Journals in plain Lean: a byte that is another one behind a record's length ends the reading there. -/
import Derived.Test.YtfaophiaiflecaaPkF
namespace Go.Proofs.Ytfaophiaiflecaa
open Go.RowKit

theorem mul_back (x : Nat) (hx : x < 4294967296) : (x * 16777619 % 4294967296) * 899433627 % 4294967296 = x := by omega
theorem mul_inj (a b : Nat) (ha : a < 4294967296) (hb : b < 4294967296) (h : a * 16777619 % 4294967296 = b * 16777619 % 4294967296) : a = b := by
  have e1 := mul_back a ha
  have e2 := mul_back b hb
  rw [h] at e1
  exact e1.symm.trans e2
theorem fstep_left {a b : Nat} {c : UInt8} (ha : a < 4294967296) (hb : b < 4294967296) (h : fstep a c = fstep b c) : a = b := by
  have hc : c.toNat < 2 ^ 32 := Nat.lt_trans c.toNat_lt (by omega)
  have h1 := mul_inj _ _ (Nat.xor_lt_two_pow (n := 32) ha hc) (Nat.xor_lt_two_pow (n := 32) hb hc) h
  have := congrArg (· ^^^ c.toNat) h1
  simpa [Nat.xor_assoc] using this
theorem fstep_right {a : Nat} {c d : UInt8} (ha : a < 4294967296) (h : fstep a c = fstep a d) : c = d := by
  have hc : c.toNat < 2 ^ 32 := Nat.lt_trans c.toNat_lt (by omega)
  have hd : d.toNat < 2 ^ 32 := Nat.lt_trans d.toNat_lt (by omega)
  have h1 := mul_inj _ _ (Nat.xor_lt_two_pow (n := 32) ha hc) (Nat.xor_lt_two_pow (n := 32) ha hd) h
  have := congrArg (a ^^^ ·) h1
  have h2 : c.toNat = d.toNat := by simpa [← Nat.xor_assoc] using this
  exact UInt8.toNat_inj.1 h2
theorem fold_lt (l : List UInt8) (a : Nat) (ha : a < 4294967296) : l.foldl fstep a < 4294967296 := by
  induction l generalizing a with
  | nil => exact ha
  | cons c t ih => exact ih _ (fstep_lt _ _)
theorem fold_inj (l : List UInt8) {a b : Nat} (ha : a < 4294967296) (hb : b < 4294967296) (h : l.foldl fstep a = l.foldl fstep b) : a = b := by
  induction l generalizing a b with
  | nil => exact h
  | cons c t ih => exact fstep_left ha hb (ih (fstep_lt _ _) (fstep_lt _ _) h)
/-- The sums of two rows of bytes that differ in one byte differ. -/
theorem fnv_set (l : List UInt8) (q : Nat) (hq : q < l.length) (d : UInt8) (h : fnv (l.set q d) = fnv l) : l[q] = d := by
  have e1 : l = l.take q ++ (l[q] :: l.drop (q + 1)) := by simp
  have e2 : l.set q d = l.take q ++ (d :: l.drop (q + 1)) := List.set_eq_take_append_cons_drop.trans (by rw [if_pos hq])
  unfold fnv at h
  rw [e2] at h
  conv at h => rhs; rw [e1]
  rw [List.foldl_append, List.foldl_append, List.foldl_cons, List.foldl_cons] at h
  have := fold_inj _ (fstep_lt _ _) (fstep_lt _ _) h
  exact (fstep_right (fold_lt _ _ (by omega)) this).symm
theorem fourB_inj {a b : Nat} (ha : a < 4294967296) (hb : b < 4294967296) (h : fourB a = fourB b) : a = b := by
  unfold fourB at h
  injection h with h1 h
  injection h with h2 h
  injection h with h3 h
  injection h with h4 _
  have g1 := congrArg UInt8.toNat h1
  have g2 := congrArg UInt8.toNat h2
  have g3 := congrArg UInt8.toNat h3
  have g4 := congrArg UInt8.toNat h4
  simp only [UInt8.toNat_ofNat'] at g1 g2 g3 g4
  omega
theorem stepF_sum {s row : List UInt8} {n : Nat} (h : cutF s = (row, n, true)) (hne : fourB (fnv (s.take n)) ≠ (s.drop n).take 4) : stepF s = none := by
  unfold stepF
  rw [h]
  dsimp only
  rw [if_neg hne]
  split <;> rfl
/-- Behind the length a record with another byte is none. -/
theorem stepF_spoilt (x : In) (h : x.ok) (q : Nat) (d : UInt8) (r : List UInt8) (hq : (numB (payB x).length).length ≤ q) (hl : q < (recB x).length) (hd : (recB x)[q] ≠ d) : stepF ((recB x).set q d ++ r) = none := by
  have hp := payB_len h
  have hr : recB x = rowB x ++ fourB (fnv (rowB x)) := rfl
  have hrl : (rowB x).length = (numB (payB x).length).length + (payB x).length := by simp [rowB, txt]
  have hll : (recB x).length = (rowB x).length + 4 := by rw [hr, List.length_append, fourB_len]
  by_cases hrow : q < (rowB x).length
  · have e1 : (recB x).set q d ++ r = (rowB x).set q d ++ (fourB (fnv (rowB x)) ++ r) := by rw [hr, List.set_append_left _ _ hrow, List.append_assoc]
    have e2 : (rowB x).set q d = txt ((payB x).set (q - (numB (payB x).length).length) d) := by
      unfold rowB txt
      rw [List.set_append_right _ _ hq, List.length_set]
    have hc := cutF_txt ((payB x).set (q - (numB (payB x).length).length) d) (fourB (fnv (rowB x)) ++ r) (by rw [List.length_set]; omega)
    rw [← e2, ← e1] at hc
    refine stepF_sum hc ?_
    rw [e1, List.take_left, List.drop_left, take_app _ _ _ (fourB_len _).symm]
    intro hf
    have := fnv_set _ q hrow d (fourB_inj (fnv_lt _) (fnv_lt _) hf)
    apply hd
    rw [← this]
    simp only [hr]
    rw [List.getElem_append_left hrow]
  · have e1 : (recB x).set q d ++ r = rowB x ++ ((fourB (fnv (rowB x))).set (q - (rowB x).length) d ++ r) := by rw [hr, List.set_append_right _ _ (by omega), List.append_assoc]
    have hc : cutF ((recB x).set q d ++ r) = (payB x, (rowB x).length, true) := by rw [e1]; exact cutF_txt _ _ (by omega)
    refine stepF_sum hc ?_
    rw [e1, List.take_left, List.drop_left, take_app _ _ _ (by rw [List.length_set, fourB_len])]
    intro hf
    have hq4 : q - (rowB x).length < 4 := by omega
    apply hd
    have g := congrArg (fun l : List UInt8 => l[q - (rowB x).length]?) hf
    simp only [List.getElem?_set, fourB_len, hq4] at g
    simp only [hr]
    rw [List.getElem_append_right (by omega)]
    rw [List.getElem?_eq_getElem (by rw [fourB_len]; exact hq4)] at g
    simpa using g
/-- What is read of records behind which other bytes come. -/
theorem reads_ahead (l : List In) (h : ∀ x ∈ l, x.ok) {r : List UInt8} {c : List In} {m : Nat} (hc : Reads (recsB l ++ r) c m) : l.length ≤ c.length ∧ c.take l.length = l ∧ (stepF r = none → c = l ∧ m = (recsB l).length) := by
  obtain ⟨c', m', hr⟩ := Reads.total r
  obtain ⟨rfl, rfl⟩ := (reads_app l h hr).same hc
  refine ⟨by simp, by simp, fun hn => ?_⟩
  cases hr with
  | stop _ => simp
  | more h' _ => rw [hn] at h'; cases h'
/-- How many records lie ahead of the one that has the byte at p. -/
def aheadF : List In → Nat → Nat
  | [], _ => 0
  | x :: t, p => if (recB x).length ≤ p then aheadF t (p - (recB x).length) + 1 else 0
theorem aheadF_le (l : List In) (p : Nat) : aheadF l p ≤ l.length := by
  induction l generalizing p with
  | nil => exact Nat.le_refl _
  | cons x t ih => unfold aheadF; split; · simp; exact ih _
                   · simp
theorem aheadF_spec (l : List In) (p : Nat) : (recsB (l.take (aheadF l p))).length ≤ p ∧ (aheadF l p < l.length → p < (recsB (l.take (aheadF l p + 1))).length) := by
  induction l generalizing p with
  | nil => simp [aheadF, recsB]
  | cons x t ih =>
    unfold aheadF
    by_cases hp : (recB x).length ≤ p
    · rw [if_pos hp]
      obtain ⟨h1, h2⟩ := ih (p - (recB x).length)
      rw [List.take_succ_cons, recsB_cons, List.length_append]
      refine ⟨by omega, fun hl => ?_⟩
      have := h2 (by simpa using hl)
      rw [List.take_succ_cons, recsB_cons, List.length_append]
      omega
    · rw [if_neg hp]
      simp [recsB]
      omega
/-- One byte of written records is another one. -/
theorem reads_spoilt (l : List In) (h : ∀ x ∈ l, x.ok) (p : Nat) (d : UInt8) (hp : p < (recsB l).length) (hd : (recsB l)[p] ≠ d) {c : List In} {m : Nat} (hc : Reads ((recsB l).set p d) c m) :
    ∃ hj : aheadF l p < l.length, aheadF l p ≤ c.length ∧ c.take (aheadF l p) = l.take (aheadF l p) ∧
      ((numB (payB l[aheadF l p]).length).length ≤ p - (recsB (l.take (aheadF l p))).length → c = l.take (aheadF l p) ∧ m = (recsB (l.take (aheadF l p))).length) := by
  have hs := aheadF_spec l p
  have hle := aheadF_le l p
  generalize aheadF l p = j at *
  have hj : j < l.length := by
    rcases Nat.lt_or_ge j l.length with h1 | h1
    · exact h1
    · rw [List.take_of_length_le h1] at hs; omega
  have h2 := hs.2 hj
  have e : l = l.take j ++ (l[j] :: l.drop (j + 1)) := by simp
  have e2 : recsB l = recsB (l.take j) ++ (recB l[j] ++ recsB (l.drop (j + 1))) := by
    conv => lhs; rw [e]
    rw [recsB_append, recsB_cons]
  have e3 : l.take (j + 1) = l.take j ++ [l[j]] := by rw [List.take_succ_eq_append_getElem hj]
  have e4 : (recsB (l.take (j + 1))).length = (recsB (l.take j)).length + (recB l[j]).length := by rw [e3, recsB_append, List.length_append]; simp [recsB]
  have hq : p - (recsB (l.take j)).length < (recB l[j]).length := by omega
  have e5 : (recsB l).set p d = recsB (l.take j) ++ ((recB l[j]).set (p - (recsB (l.take j)).length) d ++ recsB (l.drop (j + 1))) := by
    rw [e2, List.set_append_right _ _ hs.1, List.set_append_left _ _ hq]
  rw [e5] at hc
  have hlt : (l.take j).length = j := by rw [List.length_take]; omega
  obtain ⟨r1, r2, r3⟩ := reads_ahead (l.take j) (fun x hx => h x (List.mem_of_mem_take hx)) hc
  rw [hlt] at r1 r2
  refine ⟨hj, r1, r2, fun hn => r3 (stepF_spoilt l[j] (h _ (List.getElem_mem hj)) _ d _ hn hq ?_)⟩
  intro hx
  apply hd
  rw [← hx]
  simp only [e2]
  rw [List.getElem_append_right (by omega), List.getElem_append_left hq]
/-- The length's own bytes: how many they are is the first number that fits. -/
theorem length_first (m k : Nat) (h2 : k < (numB m).length) : (numB (((numB m).length + m - k : Nat) : Int)).length ≠ k := by
  intro he
  have key : ∀ a b : Nat, a ≤ b → (numB (a : Int)).length ≤ (numB (b : Int)).length := by
    intro a b hab
    unfold numB
    apply vb_mono
    unfold zz
    rw [if_pos (by omega), if_pos (by omega)]
    omega
  have hm := key m ((numB m).length + m - k) (by omega)
  rw [he] at hm
  omega
end Go.Proofs.Ytfaophiaiflecaa
