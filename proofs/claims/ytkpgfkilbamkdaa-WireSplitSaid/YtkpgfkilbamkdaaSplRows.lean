/- Boxes that hold rows of strings, each row in a block of its own; append inside a fence. No program's text in sight. -/
import Derived.Test.YtkpgfkilbamkdaaBase
import Derived.RangeFuncNested
import Derived.RangeFuncBound
import Derived.RangeFuncBox
import Derived.RangeFuncCalls
import Derived.RangeFuncLeaves
import Derived.Shelf.Abstract
import Derived.WalkKit
import Derived.OwnWalkIn
namespace Go.Proofs.Ytkpgfkilbamkdaa
open Go.RowKit

def blkOf (A : Option Addr) : Option Nat := A.map (·.block)
theorem blkOf_own (A : Option Addr) (n c : Nat) : (Value.slice A n c).ownBlock = blkOf A := by cases A <;> rfl
/-- The blocks of a row of rows: from base on, below n, no two alike. -/
def Sep (base n : Nat) (L : List (Option Nat)) : Prop := (∀ (i b : Nat), L[i]? = some (some b) → base ≤ b ∧ b < n) ∧ ∀ (i j b : Nat), L[i]? = some (some b) → L[j]? = some (some b) → i = j
theorem Sep.ne {base n : Nat} {L : List (Option Nat)} (h : Sep base n L) {i j : Nat} {x y : Option Nat} (hi : L[i]? = some x) (hj : L[j]? = some y) (hij : i ≠ j) : x = none ∨ x ≠ y := by
  cases x with
  | none => exact .inl rfl
  | some b =>
    right
    intro e
    rw [← e] at hj
    exact hij (h.2 i j b hi hj)
theorem Sep.mono {base n n' : Nat} {L : List (Option Nat)} (h : Sep base n L) (hn : n ≤ n') : Sep base n' L := ⟨fun i b hb => ⟨(h.1 i b hb).1, Nat.lt_of_lt_of_le (h.1 i b hb).2 hn⟩, h.2⟩
/-- One row is moved to a new block, or has gone, or stands where it stood. -/
theorem Sep.set {base n n' : Nat} {L : List (Option Nat)} (h : Sep base n L) (hn : n ≤ n') (hb : base ≤ n) (i : Nat) (x : Option Nat) (hx : L[i]? = some x ∨ ∀ b, x = some b → n ≤ b ∧ b < n') : Sep base n' (L.set i x) := by
  have g := h.mono hn
  rcases hx with hx | hx
  · have e : L.set i x = L := by
      refine List.ext_getElem? fun j => ?_
      rw [List.getElem?_set]
      split
      · rename_i e; subst e
        rw [hx]
        split
        · rfl
        · rename_i hl; rw [List.getElem?_eq_none (by omega)] at hx; cases hx
      · rfl
    rw [e]; exact g
  · refine ⟨fun j b hj => ?_, fun j k b hj hk => ?_⟩
    · rw [List.getElem?_set] at hj
      split at hj
      · split at hj
        · injection hj with hj; have := hx b hj; exact ⟨by omega, this.2⟩
        · cases hj
      · exact g.1 j b hj
    · rw [List.getElem?_set] at hj hk
      split at hj
      · rename_i e1
        split at hj
        · injection hj with hj
          have hb1 := hx b hj
          split at hk
          · rename_i e2; rw [← e1, ← e2]
          · have := (h.1 k b hk).2; omega
        · cases hj
      · split at hk
        · split at hk
          · injection hk with hk
            have hb1 := hx b hk
            have := (h.1 j b hj).2; omega
          · cases hk
        · exact g.2 j k b hj hk
section
variable {P : Program} {w : World}
/-- append onto a row of the call's own, inside a fence. -/
theorem wpListIn_app {F : Fence} {k : Nat} {ops : Array Oper} {rest : List Oper} {o : Oper} {a : Act} {Q : Exit → Act → World → Prop} (hgd : o.guard = none) (s x : Operand) (t : TypeId)
    (ho : o.op = .call { callee := .builtin .append, args := #[s, x], argTypes := #[t, t] })
    (base : Nat) (e : TypeId) (i : TypeInfo) (z : Value) (size bytes : Nat) (ht : P.underlying t = some (.slice e)) (hi : P.info? e = some i) (hz : i.zero = some z)
    (hsize : i.size = size) (hby : i.bytes = bytes) (hzs : z.cells.size = size) (hsz : 0 < size)
    (v : Value) (n : Nat) (xs : List Value) (hs : a.eval s = v) (hown : w.ownsRow base e size v n xs)
    (A : Option Addr) (m c : Nat) (news : List Value) (hx : a.eval x = .slice A m c) (hr : Rd w A news) (hl : news.length = m * size) (h1 : ∀ u ∈ news, u.oneCell' = true)
    (hbytes : (n + m) * bytes ≤ 140737488355328) (h63 : n + m ≤ maxLen) (hbase : base ≤ w.heap.size)
    (h : ∀ A' c' w', n + m ≤ c' → w'.ownsRow base e size (.slice A' (n + m) c') (n + m) (xs ++ news) → w.grownBy w' v.ownBlock →
      ((Value.slice A' (n + m) c').ownBlock = v.ownBlock ∨ (Value.slice A' (n + m) c').ownBlock = some w.heap.size) → wpListIn F k P ops Q rest (a.put o.dst (.slice A' (n + m) c')) w') : wpListIn F k P ops Q (o :: rest) a w := by
  refine wpListIn_plain hgd fun K hK' => ?_
  obtain ⟨A', c', w', hrun, hle, h2, h3, h4⟩ := run_app (P := P) w base t o.type e i z size bytes ht hi hz hsize hby hzs hsz v n xs hown A m c news hr hl h1 hbytes h63 hbase
  unfold Oper.wpIn
  refine ⟨?_, ?_⟩
  · simp [Oper.about, ho, resolve, Target.leads, Sem.run_pure]
  · rw [Oper.semAt_plain F _ _ (by rw [ho]; intro c hc'; cases hc')]
    simp [execOp, ho, resolve, invoke, builtin, hs, hx, hrun, Result.andThen]
    exact hK' _ _ (h A' c' w' hle h2 h3 h4)
end
/-- Boxes, the slices that they hold, and what these slices own. -/
structure BxR (w : World) (n₀ : Nat) (bs : List Nat) (vs : List Value) (ls : List (List ByteArray)) : Prop where
  row : ∀ (i b : Nat) (v : Value) (l : List ByteArray), bs[i]? = some b → vs[i]? = some v → ls[i]? = some l → Boxed w b 22 v ∧ w.ownsRow n₀ 9 1 v l.length (l.map .string)
  sep : Sep n₀ w.heap.size (vs.map Value.ownBlock)
  nd : ∀ (i j b : Nat), bs[i]? = some b → bs[j]? = some b → i = j
  lo : ∀ b ∈ bs, n₀ ≤ b
  size : n₀ ≤ w.heap.size
  len : bs.length = vs.length ∧ ls.length = vs.length
section
variable {w w' : World} {n₀ : Nat} {bs : List Nat} {vs : List Value} {ls : List (List ByteArray)}
theorem BxR.get (h : BxR w n₀ bs vs ls) {i : Nat} (hi : i < vs.length) : ∃ b v l, bs[i]? = some b ∧ vs[i]? = some v ∧ ls[i]? = some l :=
  ⟨_, _, _, List.getElem?_eq_getElem (by rw [h.len.1]; exact hi), List.getElem?_eq_getElem hi, List.getElem?_eq_getElem (by rw [h.len.2]; exact hi)⟩
theorem BxR.own_lt (h : BxR w n₀ bs vs ls) {i b : Nat} {v : Value} {l : List ByteArray} (h1 : bs[i]? = some b) (h2 : vs[i]? = some v) (h3 : ls[i]? = some l) : b < w.heap.size := (h.row i b v l h1 h2 h3).1.lt
/-- Whatever turns neither a box nor a row leaves them. -/
theorem BxR.kept {row : Option Nat} (h : BxR w n₀ bs vs ls) (hg : w.grownBy w' row) (hb : ∀ b ∈ bs, some b ≠ row) (hv : ∀ v ∈ vs, v.ownBlock = none ∨ v.ownBlock ≠ row) : BxR w' n₀ bs vs ls :=
  ⟨fun i b v l h1 h2 h3 => ⟨(h.row i b v l h1 h2 h3).1.kept hg (hb b (List.mem_of_getElem? h1)), (h.row i b v l h1 h2 h3).2.kept hg (hv v (List.mem_of_getElem? h2))⟩, h.sep.mono hg.size, h.nd, h.lo, Nat.le_trans h.size hg.size, h.len⟩
theorem grown_belowS (hb : Below w.heap.size w w') (row : Option Nat) : w.grownBy w' row := ⟨hb.os, hb.tape, hb.output, hb.size, fun k hk _ => hb.block k hk⟩
theorem BxR.below (h : BxR w n₀ bs vs ls) (hb : Below w.heap.size w w') : BxR w' n₀ bs vs ls :=
  h.kept (grown_belowS hb none) (by simp) (fun v _ => by cases v.ownBlock <;> simp)
theorem own_cells {base : Nat} {e : TypeId} {size n : Nat} {v : Value} {xs : List Value} (h : w.ownsRow base e size v n xs) {g : Nat} (hg : v.ownBlock = some g) : ∃ cur, w.heap[g]? = some (.cells cur e (0, 0)) := by
  rcases h.2 with ⟨rfl, _⟩ | ⟨k, cap, cur, rfl, _, hh, _⟩
  · cases hg
  · simp [Value.ownBlock] at hg
    subst hg
    exact ⟨cur, hh⟩
/-- Whatever turns what is no cells leaves them. -/
theorem BxR.others {row : Option Nat} (h : BxR w n₀ bs vs ls) (hg : w.grownBy w' row) (hrow : ∀ r, row = some r → ∃ o : Obj, w.heap[r]? = some o ∧ o.isCells = false) : BxR w' n₀ bs vs ls := by
  refine h.kept hg (fun b hb e => ?_) (fun v hv => ?_)
  · obtain ⟨i, hi⟩ := List.getElem?_of_mem hb
    have hl : i < vs.length := by rw [← h.len.1]; exact (List.getElem?_eq_some_iff.1 hi).1
    obtain ⟨b', v, l, h1, h2, h3⟩ := h.get hl
    rw [hi] at h1
    injection h1 with h1
    subst h1
    obtain ⟨o, ho, hc⟩ := hrow b e.symm
    rw [show w.heap[b]? = _ from (h.row i b v l hi h2 h3).1] at ho
    cases ho; cases hc
  · obtain ⟨i, hi⟩ := List.getElem?_of_mem hv
    have hl : i < vs.length := (List.getElem?_eq_some_iff.1 hi).1
    obtain ⟨b', v', l, h1, h2, h3⟩ := h.get hl
    rw [hi] at h2
    injection h2 with h2
    subst h2
    cases ho : v.ownBlock with
    | none => exact .inl rfl
    | some g =>
      right
      intro e
      obtain ⟨cur, hh⟩ := own_cells (h.row i b' v l h1 hi h3).2 ho
      obtain ⟨o, ho2, hc⟩ := hrow g e.symm
      rw [hh] at ho2
      cases ho2; cases hc
/-- That rows lie in boxes speaks of cells alone. -/
theorem bxr_own {β : Type} (n₀ : Nat) (bs : List Nat) (f : β → List (List ByteArray)) : Own (fun s W => ∃ vs, BxR W n₀ bs vs (f s)) := by
  rintro s X Y row ⟨vs, h⟩ hg hrow
  exact ⟨vs, h.others hg hrow⟩
/-- A string is put behind the row in the box number i. -/
theorem BxR.app (h : BxR w n₀ bs vs ls) {i b : Nat} {v v' : Value} {l : List ByteArray} {x : ByteArray} {w1 : World} {tmp : Obj} (h1 : bs[i]? = some b) (h2 : vs[i]? = some v) (h3 : ls[i]? = some l)
    (hown' : w1.ownsRow n₀ 9 1 v' (l.length + 1) (l.map .string ++ [.string x])) (hgrow : (w.alloc tmp).grownBy w1 v.ownBlock) (hat : v'.ownBlock = v.ownBlock ∨ v'.ownBlock = some (w.alloc tmp).heap.size) :
    Boxed w1 b 22 v ∧ BxR (w1.setCell ⟨b, 0, none⟩ v') n₀ bs (vs.set i v') (ls.set i (l ++ [x])) ∧ KeepsOthers w (w1.setCell ⟨b, 0, none⟩ v') ∧ Below n₀ w (w1.setCell ⟨b, 0, none⟩ v') ∧ (∀ (q : Nat) (t : TypeId) (u : Value), t ≠ 9 → q ≠ b → Boxed w q t u → Boxed (w1.setCell ⟨b, 0, none⟩ v') q t u) := by
  obtain ⟨hv, hrow⟩ := h.row i b v l h1 h2 h3
  obtain ⟨a1, a2, a3, a4, a5⟩ := hv.appended (by decide) hrow h.size (h.lo b (List.mem_of_getElem? h1)) hown' hgrow
  have hi : i < vs.length := (List.getElem?_eq_some_iff.1 h2).1
  have hz : w.heap.size < w1.heap.size := by have := hgrow.size; simp at this; omega
  refine ⟨a1, ⟨fun j bj vj lj g1 g2 g3 => ?_, ?_, h.nd, h.lo, ?_, by simpa using h.len⟩, a4, a5, fun q t u ht hq hb => ((hb.alloc tmp).kept hgrow (hb.not_row ht hrow)).kept (grownBy_setCell' w1 b v') (by simp; exact hq)⟩
  · by_cases e : j = i
    · subst e
      rw [h1] at g1
      rw [List.getElem?_set_self hi] at g2
      rw [List.getElem?_set_self (by rw [h.len.2]; exact hi)] at g3
      injection g1 with g1; injection g2 with g2; injection g3 with g3
      subst g1; subst g2; subst g3
      refine ⟨a2, ?_⟩
      have e1 : (l ++ [x]).length = l.length + 1 := by simp
      rw [e1, List.map_append]
      exact a3
    · rw [List.getElem?_set_ne (fun h => e h.symm)] at g2 g3
      obtain ⟨k1, k2⟩ := h.row j bj vj lj g1 g2 g3
      have hne : bj ≠ b := fun e2 => e (h.nd j i b (by rw [g1, e2]) h1)
      have hs : vj.ownBlock = none ∨ vj.ownBlock ≠ v.ownBlock := h.sep.ne (i := j) (j := i) (by rw [List.getElem?_map, g2]; rfl) (by rw [List.getElem?_map, h2]; rfl) e
      have m1 := ((k1.alloc tmp).kept hgrow (k1.not_row (by decide) hrow)).kept (grownBy_setCell' w1 b v') (by simp; exact hne)
      have m2 := ((k2.alloc tmp).kept hgrow hs)
      refine ⟨m1, m2.kept (grownBy_setCell' w1 b v') ?_⟩
      have := a1.not_row (by decide) m2
      exact .inr (fun e2 => this e2.symm)
  · rw [List.map_set]
    refine h.sep.set (by simp; omega) h.size i v'.ownBlock ?_
    rcases hat with hat | hat
    · left; rw [hat, List.getElem?_map, h2]; rfl
    · right
      intro g hg
      rw [hat] at hg
      injection hg with hg
      have hlt := (hown'.lt g (by rw [hat, hg])).2
      simp at hg ⊢
      omega
  · have := h.size; simp; omega
end
end Go.Proofs.Ytkpgfkilbamkdaa
