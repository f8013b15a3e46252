/- What a step leaves as it was: all blocks but some. -/
import Derived.Test.YtbemdcbglpjmiaaGreatDoorBlk
namespace Go.Proofs.YtbemdcbglpjmiaaGreatDoor
open Go.RowKit

/-- From w to w' no block has changed but those of S, and new ones. -/
structure Kb (S : Nat → Prop) (w w' : World) : Prop where
  os : w'.os = w.os
  tape : w'.tape = w.tape
  output : w'.output = w.output
  size : w.heap.size ≤ w'.heap.size
  block : ∀ i, i < w.heap.size → ¬ S i → w'.heap[i]? = w.heap[i]?
section
variable {S T : Nat → Prop} {w w' w2 : World}
theorem Kb.refl (S : Nat → Prop) (w : World) : Kb S w w := ⟨rfl, rfl, rfl, Nat.le_refl _, fun _ _ _ => rfl⟩
theorem Kb.trans (h : Kb S w w') (k : Kb S w' w2) : Kb S w w2 :=
  ⟨k.os.trans h.os, k.tape.trans h.tape, k.output.trans h.output, Nat.le_trans h.size k.size, fun i hi hs => (k.block i (Nat.lt_of_lt_of_le hi h.size) hs).trans (h.block i hi hs)⟩
theorem Kb.mono (h : Kb S w w') (hs : ∀ i, i < w.heap.size → S i → T i) : Kb T w w' := ⟨h.os, h.tape, h.output, h.size, fun i hi ht => h.block i hi fun q => ht (hs i hi q)⟩
theorem Kb.andThen (h : Kb S w w') (k : Kb T w' w2) (hs : ∀ i, i < w.heap.size → T i → S i) : Kb S w w2 :=
  ⟨k.os.trans h.os, k.tape.trans h.tape, k.output.trans h.output, Nat.le_trans h.size k.size, fun i hi ht => (k.block i (Nat.lt_of_lt_of_le hi h.size) fun q => ht (hs i hi q)).trans (h.block i hi ht)⟩
theorem Kb.drew (h : Kb S w w') : Kb S w w'.drew := ⟨h.os, h.tape, h.output, h.size, h.block⟩
theorem Kb.drewN (h : Kb S w w') (n : Nat) : Kb S w (w'.drewN n) := ⟨h.os, h.tape, h.output, h.size, h.block⟩
theorem Kb.alloc (h : Kb S w w') (o : Obj) : Kb S w (w'.alloc o) :=
  h.trans ⟨rfl, rfl, rfl, ((Below.refl w'.heap.size w').alloc (Nat.le_refl _) o).size, fun i hi _ => Below.heap_alloc w' o i hi⟩
theorem Kb.set_ (h : Kb S w w') {p : Addr} (hp : w.heap.size ≤ p.block ∨ S p.block) (v : Value) : Kb S w (w'.setCell p v) := by
  have hb := Below.setCell (Below.refl 0 w') (p := p) (Nat.zero_le _) v
  refine ⟨hb.os.trans h.os, hb.tape.trans h.tape, hb.output.trans h.output, Nat.le_trans h.size hb.size, fun i hi hs => ?_⟩
  have hne : i ≠ p.block := by
    rintro rfl
    rcases hp with hp | hp
    · omega
    · exact hs hp
  exact (Below.heap_setCell w' p v i hne).trans (h.block i hi hs)
theorem Kb.below {B : Nat} (h : Kb S w w') (hs : ∀ i, S i → B ≤ i) (hB : B ≤ w.heap.size) : Below B w w' :=
  ⟨h.os, h.tape, h.output, h.size, fun i hi => h.block i (by omega) fun q => by have := hs i q; omega⟩
theorem Kb.of_below (h : Below w.heap.size w w') : Kb S w w' := ⟨h.os, h.tape, h.output, h.size, fun i hi _ => h.block i hi⟩
theorem Kb.of_grown {row : Option Nat} (h : w.grownBy w' row) : Kb (fun i => some i = row) w w' := ⟨h.os, h.tape, h.output, h.size, fun i hi hs => h.block i hi hs⟩
theorem Blk.kb {g : Nat} {cs : Array Value} {t : TypeId} (h : Blk w g cs t) (hk : Kb S w w') (hg : ¬ S g) : Blk w' g cs t := (hk.block g h.lt hg).trans h
theorem own_kb {base : Nat} {e : TypeId} {size : Nat} {v : Value} {n : Nat} {xs : List Value} (h : w.ownsRow base e size v n xs) (hk : Kb S w w') (hs : ∀ g, v.ownBlock = some g → ¬ S g) : w'.ownsRow base e size v n xs := by
  refine ⟨h.1, ?_⟩
  rcases h.2 with h0 | ⟨g, cap, cur, h1, h2, h3, h4⟩
  · exact .inl h0
  · refine .inr ⟨g, cap, cur, h1, h2, (hk.block g ?_ (hs g (by rw [h1]; rfl))).trans h3, h4⟩
    rcases Nat.lt_or_ge g w.heap.size with hq | hq
    · exact hq
    · rw [Array.getElem?_eq_none hq] at h3; cases h3
end
end Go.Proofs.YtbemdcbglpjmiaaGreatDoor
