/- The two sides in a block that is newer than some of their rows. -/
import Derived.Test.YtnjfphfkjapemaaPlayC
import Derived.Test.YtnjfphfkjapemaaCalmLaw
namespace Go.Proofs.Ytnjfphfkjapemaa
open Go.RowKit

/-- The rows of two sides, none of them in the block g. -/
structure PSN (w : World) (base g : Nat) (me other : Sd) (A0 A1 A2 A3 B0 B1 B2 B3 : Option Addr) (c0 c1 c2 c3 d0 d1 d2 d3 : Nat) : Prop where
  p : PSR w base me other A0 A1 A2 A3 B0 B1 B2 B3 c0 c1 c2 c3 d0 d1 d2 d3
  far : ∀ x ∈ [blk0 A0 me.fy.sent, blkOf A1, blkOf A2, blkOf A3, blk0 B0 other.fy.sent, blkOf B1, blkOf B2, blkOf B3], x ≠ some g
  lt : g < w.heap.size
section
variable {w w' : World} {base g : Nat} {me other : Sd} {A0 A1 A2 A3 B0 B1 B2 B3 : Option Addr} {c0 c1 c2 c3 d0 d1 d2 d3 : Nat}
theorem PSN.swap (h : PSN w base g me other A0 A1 A2 A3 B0 B1 B2 B3 c0 c1 c2 c3 d0 d1 d2 d3) : PSN w base g other me B0 B1 B2 B3 A0 A1 A2 A3 d0 d1 d2 d3 c0 c1 c2 c3 :=
  ⟨h.p.swap, fun x hx => h.far x (by simp only [List.mem_cons, List.not_mem_nil, or_false] at hx ⊢; rcases hx with h | h | h | h | h | h | h | h <;> simp [h]), h.lt⟩
theorem PSN.below (h : PSN w base g me other A0 A1 A2 A3 B0 B1 B2 B3 c0 c1 c2 c3 d0 d1 d2 d3) (hb : Below w.heap.size w w') : PSN w' base g me other A0 A1 A2 A3 B0 B1 B2 B3 c0 c1 c2 c3 d0 d1 d2 d3 :=
  ⟨h.p.below hb, h.far, Nat.lt_of_lt_of_le h.lt hb.size⟩
theorem PSN.setg (h : PSN w base g me other A0 A1 A2 A3 B0 B1 B2 B3 c0 c1 c2 c3 d0 d1 d2 d3) {p : Addr} (hg : p.block = g) (u : Value) : PSN (w.setCell p u) base g me other A0 A1 A2 A3 B0 B1 B2 B3 c0 c1 c2 c3 d0 d1 d2 d3 := by
  subst hg
  have f := h.far
  refine ⟨⟨h.p.rm.kept (grown_setCell w p u) (.inr (f _ (by simp))) (.inr (f _ (by simp))) (.inr (f _ (by simp))) (.inr (f _ (by simp))),
    h.p.ro.kept (grown_setCell w p u) (.inr (f _ (by simp))) (.inr (f _ (by simp))) (.inr (f _ (by simp))) (.inr (f _ (by simp))), h.p.sep.mono (by simp), by simpa using h.p.size⟩, h.far, by simpa using h.lt⟩
theorem PSN.fy (h : PSN w base g me other A0 A1 A2 A3 B0 B1 B2 B3 c0 c1 c2 c3 d0 d1 d2 d3) (hb : Below w.heap.size w w') (f : Fy) (A : Option Addr) (c : Nat) (hs : Strs w' A f.sent) (hc : f.sent.length ≤ c) (hf : ∀ ad, A = some ad → w.heap.size ≤ ad.block) :
    PSN w' base g { me with fy := f } other A A1 A2 A3 B0 B1 B2 B3 c c1 c2 c3 d0 d1 d2 d3 := by
  refine ⟨h.p.fy hb f A c hs hc hf, fun x hx => ?_, Nat.lt_of_lt_of_le h.lt hb.size⟩
  rcases List.mem_cons.1 hx with rfl | hx
  · unfold blk0
    split
    · simp
    · cases A with
      | none => simp [blkOf]
      | some ad =>
        have := hf ad rfl
        have := h.lt
        simp [blkOf]; omega
  · exact h.far x (List.mem_cons_of_mem _ hx)
theorem PSN.app2 (h : PSN w base g me other A0 A1 A2 A3 B0 B1 B2 B3 c0 c1 c2 c3 d0 d1 d2 d3) (l : List ByteArray) (A : Option Addr) (c : Nat) (ho : w'.ownsRow base 9 1 (.slice A l.length c) l.length (l.map .string)) (hc : l.length ≤ c)
    (hg : w.grownBy w' (Value.slice A2 me.heard.length c2).ownBlock) (hat : blkOf A = blkOf A2 ∨ blkOf A = some w.heap.size) : PSN w' base g { me with heard := l } other A0 A1 A A3 B0 B1 B2 B3 c0 c1 c c3 d0 d1 d2 d3 := by
  refine ⟨h.p.app2 l A c ho hc hg hat, fun x hx => ?_, Nat.lt_of_lt_of_le h.lt hg.size⟩
  have f := h.far
  simp only [List.mem_cons, List.not_mem_nil, or_false] at hx
  rcases hx with h1 | h1 | h1 | h1 | h1 | h1 | h1 | h1
  · exact f x (by simp [h1])
  · exact f x (by simp [h1])
  · rcases hat with e | e
    · exact f x (by simp [h1, e])
    · rw [h1, e]; intro e2; injection e2 with e2; have := h.lt; omega
  · exact f x (by simp [h1])
  · exact f x (by simp [h1])
  · exact f x (by simp [h1])
  · exact f x (by simp [h1])
  · exact f x (by simp [h1])
/-- Rows that are older than the block g, and have just been copied with it. -/
theorem PSN.start (h : PSR w base me other A0 A1 A2 A3 B0 B1 B2 B3 c0 c1 c2 c3 d0 d1 d2 d3) (o : Obj) : PSN (w.alloc o) base w.heap.size me other A0 A1 A2 A3 B0 B1 B2 B3 c0 c1 c2 c3 d0 d1 d2 d3 := by
  refine ⟨h.below ((Below.refl _ _).alloc (Nat.le_refl _) o), fun x hx e => ?_, by simp⟩
  obtain ⟨i, hi⟩ := List.getElem?_of_mem hx
  rw [e] at hi
  have := (h.sep.1 i _ hi).2
  omega
end
/-- The two sides: me from mo on, the other one from oo on. -/
def CS (w : World) (base g mo oo : Nat) (me other : Sd) : Prop :=
  ∃ A0 A1 A2 A3 B0 B1 B2 B3 c0 c1 c2 c3 d0 d1 d2 d3, Two w g mo oo (sdCells me A0 A1 A2 A3 c0 c1 c2 c3) (sdCells other B0 B1 B2 B3 d0 d1 d2 d3) ∧ PSN w base g me other A0 A1 A2 A3 B0 B1 B2 B3 c0 c1 c2 c3 d0 d1 d2 d3
theorem CS.below {w w' : World} {base g mo oo : Nat} {me other : Sd} (h : CS w base g mo oo me other) (hb : Below w.heap.size w w') : CS w' base g mo oo me other := by
  obtain ⟨A0, A1, A2, A3, B0, B1, B2, B3, c0, c1, c2, c3, d0, d1, d2, d3, h1, h2⟩ := h
  exact ⟨A0, A1, A2, A3, B0, B1, B2, B3, c0, c1, c2, c3, d0, d1, d2, d3, h1.below hb, h2.below hb⟩
theorem CS.swap {w : World} {base g mo oo : Nat} {me other : Sd} (h : CS w base g mo oo me other) : CS w base g oo mo other me := by
  obtain ⟨A0, A1, A2, A3, B0, B1, B2, B3, c0, c1, c2, c3, d0, d1, d2, d3, h1, h2⟩ := h
  exact ⟨B0, B1, B2, B3, A0, A1, A2, A3, d0, d1, d2, d3, c0, c1, c2, c3, h1.swap, h2.swap⟩
end Go.Proofs.Ytnjfphfkjapemaa
