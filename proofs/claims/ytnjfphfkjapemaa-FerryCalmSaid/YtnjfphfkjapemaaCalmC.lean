/- The frames' own row beside the two sides. -/
import Derived.Test.YtnjfphfkjapemaaCalmMem
import Derived.Deep.RegionLaw
import Derived.Deep.DeepCutAuto
namespace Go.Proofs.Ytnjfphfkjapemaa
open Go.RowKit

/-- The row of frames that is gone through. -/
def FR (w : World) (A : Option Addr) (c : Nat) (L : List Fm) : Prop := ∃ b, w.ownsRow b 26 5 (.slice A L.length c) L.length (frow L)
theorem FR.kept {w w' : World} {A : Option Addr} {c : Nat} {L : List Fm} {row : Option Nat} (h : FR w A c L) (hg : w.grownBy w' row) (hne : blkOf A = none ∨ blkOf A ≠ row) : FR w' A c L := by
  obtain ⟨b, h⟩ := h
  exact ⟨b, h.kept hg (by rw [blkOf_own]; exact hne)⟩
theorem FR.below {w w' : World} {A : Option Addr} {c : Nat} {L : List Fm} (h : FR w A c L) (hb : Below w.heap.size w w') : FR w' A c L := h.kept (grown_below hb none) (ne_none _)
theorem FR.neb {w : World} {A : Option Addr} {c g : Nat} {L : List Fm} {cs : Array Value} {t : TypeId} (h : FR w A c L) (hb : Blk w g cs t) (ht : 26 ≠ t) : blkOf A = none ∨ blkOf A ≠ some g := by
  obtain ⟨b, h⟩ := h
  rcases h.2 with ⟨hv, _⟩ | ⟨k, cap, cur, hv, _, hh, _⟩
  · injection hv with hv; subst hv; exact .inl rfl
  · right
    intro e
    injection hv with hv
    subst hv
    simp [blkOf] at e
    subst e
    unfold Blk at hb
    rw [hb] at hh
    injection hh with hh
    injection hh with _ hh
    exact ht hh.symm
theorem FR.nes {w : World} {A B : Option Addr} {c d base n : Nat} {L : List Fm} {xs : List Value} (h : FR w A c L) (hb : w.ownsRow base 9 1 (.slice B n d) n xs) : blkOf A = none ∨ blkOf A ≠ blkOf B := by
  rcases hb.2 with ⟨hv, _⟩ | ⟨k, cap, cur, hv, _, hh, _⟩
  · injection hv with hv; subst hv; exact ne_none _
  · injection hv with hv
    subst hv
    exact h.neb (g := k) (cs := cur) (t := 9) hh (by decide)
theorem Two.blk {w : World} {g mo oo : Nat} {cm co : List Value} (h : Two w g mo oo cm co) : ∃ cs : Array Value, Blk w g cs 42 := by
  obtain ⟨_, _, _, cs, hb, _⟩ := h
  exact ⟨cs, hb⟩
theorem FR.two {w : World} {A : Option Addr} {c g mo oo : Nat} {L : List Fm} {cm co : List Value} (h : FR w A c L) (ht : Two w g mo oo cm co) : blkOf A = none ∨ blkOf A ≠ some g := by
  obtain ⟨cs, hb⟩ := ht.blk
  exact h.neb hb (by decide)
theorem FR.set {w : World} {A : Option Addr} {c : Nat} {L : List Fm} (h : FR w A c L) {p : Addr} (hne : blkOf A = none ∨ blkOf A ≠ some p.block) (u : Value) : FR (w.setCell p u) A c L := h.kept (grown_setCell w p u) hne
theorem two60 {w : World} {g : Nat} {a b c d e f : Value} {co : List Value} (h : Two w g 0 6 [a, b, c, d, e, f] co) :
    (w.cell? ⟨g, 0, none⟩ = some a ∧ w.cell? ⟨g, 1, none⟩ = some b ∧ w.cell? ⟨g, 2, none⟩ = some c ∧ w.cell? ⟨g, 4, none⟩ = some e) ∧ w.frozen? ⟨g, 0, none⟩ = false ∧ w.frozen? ⟨g, 1, none⟩ = false ∧ w.frozen? ⟨g, 2, none⟩ = false ∧ w.frozen? ⟨g, 4, none⟩ = false := by
  obtain ⟨a0, a1, a2, a3, a4, a5⟩ := two6 h
  obtain ⟨b0, b1, b2, b3, b4, b5⟩ := two6f h
  exact ⟨⟨a0, a1, a2, a4⟩, b0, b1, b2, b4⟩
theorem two66 {w : World} {g : Nat} {a b c d e f : Value} {co : List Value} (h : Two w g 6 0 [a, b, c, d, e, f] co) :
    (w.cell? ⟨g, 6, none⟩ = some a ∧ w.cell? ⟨g, 7, none⟩ = some b ∧ w.cell? ⟨g, 8, none⟩ = some c ∧ w.cell? ⟨g, 10, none⟩ = some e) ∧ w.frozen? ⟨g, 6, none⟩ = false ∧ w.frozen? ⟨g, 7, none⟩ = false ∧ w.frozen? ⟨g, 8, none⟩ = false ∧ w.frozen? ⟨g, 10, none⟩ = false := by
  obtain ⟨a0, a1, a2, a3, a4, a5⟩ := two6 h
  obtain ⟨b0, b1, b2, b3, b4, b5⟩ := two6f h
  exact ⟨⟨a0, a1, a2, a4⟩, b0, b1, b2, b4⟩
end Go.Proofs.Ytnjfphfkjapemaa
