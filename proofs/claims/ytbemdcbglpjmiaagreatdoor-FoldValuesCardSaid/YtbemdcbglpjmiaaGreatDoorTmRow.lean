/- Rows of structs in memory: where each cell of each of them lies; rows of bools that are written. -/
import Derived.Test.YtbemdcbglpjmiaaGreatDoorTmF
import Derived.Test.YtbemdcbglpjmiaaGreatDoorKb
namespace Go.Proofs.YtbemdcbglpjmiaaGreatDoor
open Go.RowKit

theorem flat_get {α : Type} (f : α → List Value) (k : Nat) (hf : ∀ x, (f x).length = k) : ∀ (l : List α) (q m : Nat) (hq : q < l.length), m < k → (l.flatMap f)[q * k + m]? = (f l[q])[m]?
  | [], q, m, hq, _ => by simp at hq
  | x :: l, 0, m, hq, hm => by
    rw [List.flatMap_cons, Nat.zero_mul, Nat.zero_add, List.getElem?_append_left (by rw [hf]; exact hm)]; rfl
  | x :: l, q + 1, m, hq, hm => by
    have e : (q + 1) * k + m = k + (q * k + m) := by rw [Nat.succ_mul]; omega
    rw [List.flatMap_cons, e, List.getElem?_append_right (by rw [hf]; omega), hf, show k + (q * k + m) - k = q * k + m by omega, flat_get f k hf l q m (by simpa using hq) hm]
    rfl
theorem flat_len {α : Type} (f : α → List Value) (k : Nat) (hf : ∀ x, (f x).length = k) : ∀ (l : List α), (l.flatMap f).length = l.length * k
  | [] => by simp
  | x :: l => by rw [List.flatMap_cons, List.length_append, hf, flat_len f k hf l, List.length_cons, Nat.succ_mul]; omega
/-- The terms l are read from A on. -/
def Tms (w : World) (A : Option Addr) (l : List Tm) : Prop := Rd w A (l.flatMap Tm.cells)
theorem tm_len (t : Tm) : t.cells.length = 6 := rfl
section
variable {w w' : World} {A : Option Addr} {l : List Tm}
/-- One of them. -/
structure TmAt (w : World) (b o : Nat) (t : Tm) : Prop where
  c0 : w.cell? ⟨b, o, none⟩ = some (.int .i64 t.kind)
  c1 : w.cell? ⟨b, o + 1, none⟩ = some (.string t.name)
  c2 : w.cell? ⟨b, o + 2, none⟩ = some (.int .i64 t.n)
  c3 : w.cell? ⟨b, o + 3, none⟩ = some (.string t.text)
  c4 : w.cell? ⟨b, o + 4, none⟩ = some (.int .i64 t.l)
  c5 : w.cell? ⟨b, o + 5, none⟩ = some (.int .i64 t.r)
theorem Tms.at_ (h : Tms w A l) {i : Nat} (hi : i < l.length) :
    ∃ b off t, A = some ⟨b, off, none⟩ ∧ b < w.heap.size ∧ l[i]? = some t ∧ TmAt w b (off + i * 6) t := by
  obtain ⟨b, off, h1, h2, h3⟩ := Rd.at_ h (i := i * 6) (by rw [flat_len _ 6 tm_len]; omega)
  refine ⟨b, off, l[i], h1, h2, List.getElem?_eq_getElem hi, ?_⟩
  have g : ∀ m, m < 6 → ∀ u, (l[i].cells)[m]? = some u → w.cell? ⟨b, off + i * 6 + m, none⟩ = some u := fun m hm u hu => by
    rw [Nat.add_assoc]
    exact h3 _ u ((flat_get Tm.cells 6 tm_len l i m hi hm).trans hu)
  exact ⟨g 0 (by omega) _ rfl, g 1 (by omega) _ rfl, g 2 (by omega) _ rfl, g 3 (by omega) _ rfl, g 4 (by omega) _ rfl, g 5 (by omega) _ rfl⟩
theorem Rd.kb {A : Option Addr} {xs : List Value} {S : Nat → Prop} (h : Rd w A xs) (hk : Kb S w w') (hs : ∀ b o, A = some ⟨b, o, none⟩ → ¬ S b) : Rd w' A xs := fun hn => by
  obtain ⟨b, off, e, hb, hc⟩ := h hn
  refine ⟨b, off, e, Nat.lt_of_lt_of_le hb hk.size, fun i u hu => ?_⟩
  have := hk.block b hb (hs b off e)
  have hq := hc i u hu
  unfold World.cell? at hq ⊢
  rw [this]; exact hq
theorem Tms.below (h : Tms w A l) (hb : Below w.heap.size w w') : Tms w' A l := Rd.below h hb
theorem Tms.kb {S : Nat → Prop} (h : Tms w A l) (hk : Kb S w w') (hs : ∀ b o, A = some ⟨b, o, none⟩ → ¬ S b) : Tms w' A l := Rd.kb h hk hs
end
/-- A row of bools. -/
def bools (n : Nat) (m : Nat → Bool) : Array Value := ((List.range n).map fun j => Value.bool (m j)).toArray
theorem bools_get {n : Nat} {m : Nat → Bool} {i : Nat} (hi : i < n) : (bools n m)[i]? = some (.bool (m i)) := by
  simp [bools, hi]
theorem bools_set {n : Nat} {m : Nat → Bool} {i : Nat} : (bools n m).setIfInBounds i (.bool true) = bools n (fun j => j == i || m j) := by
  apply Array.ext
  · simp [bools]
  · intro k h1 h2
    simp [bools] at h1
    rw [Array.getElem_setIfInBounds (by simpa [bools] using h1)]
    simp [bools]
    by_cases e : i = k
    · subst e; simp
    · have : (k == i) = false := by simp; omega
      rw [decide_eq_false e, this]
theorem bools_false (n : Nat) : bools n (fun _ => false) = Array.replicate n (.bool false) := by
  apply Array.ext
  · simp [bools]
  · intro k h1 h2
    simp [bools]
/-- A row of numbers. -/
def nums (n : Nat) (d : Nat → Nat) : Array Value := ((List.range n).map fun j => Value.int .i64 (d j : Nat)).toArray
theorem nums_get {n : Nat} {m : Nat → Nat} {i : Nat} (hi : i < n) : (nums n m)[i]? = some (.int .i64 (m i : Nat)) := by
  simp [nums, hi]
theorem nums_set {n : Nat} {m : Nat → Nat} {i v : Nat} : (nums n m).setIfInBounds i (.int .i64 (v : Nat)) = nums n (fun j => if j = i then v else m j) := by
  apply Array.ext
  · simp [nums]
  · intro k h1 h2
    simp [nums] at h1
    rw [Array.getElem_setIfInBounds (by simpa [nums] using h1)]
    simp [nums]
    by_cases e : i = k
    · subst e; simp
    · rw [if_neg e, if_neg (Ne.symm e)]
theorem nums_zero (n : Nat) : nums n (fun _ => 0) = Array.replicate n (.int .i64 0) := by
  apply Array.ext
  · simp [nums]
  · intro k h1 h2
    simp [nums]
end Go.Proofs.YtbemdcbglpjmiaaGreatDoor
