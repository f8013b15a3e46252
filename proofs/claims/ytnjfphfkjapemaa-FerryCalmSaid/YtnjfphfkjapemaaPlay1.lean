/- Rows in pairwise other blocks, and two structs of six cells in one block: what a write leaves of them. No program's text in sight. -/
import Derived.Test.YtnjfphfkjapemaaLink
namespace Go.Proofs.Ytnjfphfkjapemaa
open Go.RowKit

def blkOf (A : Option Addr) : Option Nat := A.map (·.block)
theorem blkOf_own (A : Option Addr) (n c : Nat) : (Value.slice A n c).ownBlock = blkOf A := by cases A <;> rfl
/-- The blocks of a row of rows: from base on, below n, no two alike. -/
def Sep (base n : Nat) (L : List (Option Nat)) : Prop := (∀ (i b : Nat), L[i]? = some (some b) → base ≤ b ∧ b < n) ∧ ∀ (i j b : Nat), L[i]? = some (some b) → L[j]? = some (some b) → i = j
theorem Sep.ne {base n : Nat} {L : List (Option Nat)} (h : Sep base n L) {i j : Nat} {x y : Option Nat} (hi : L[i]? = some x) (hj : L[j]? = some y) (hij : i ≠ j) : x = none ∨ x ≠ y := by
  cases x with
  | none => exact .inl rfl
  | some b =>
    right
    intro e
    rw [← e] at hj
    exact hij (h.2 i j b hi hj)
theorem Sep.mono {base n n' : Nat} {L : List (Option Nat)} (h : Sep base n L) (hn : n ≤ n') : Sep base n' L := ⟨fun i b hb => ⟨(h.1 i b hb).1, Nat.lt_of_lt_of_le (h.1 i b hb).2 hn⟩, h.2⟩
/-- One row is moved to a new block, or has gone, or stands where it stood. -/
theorem Sep.set {base n n' : Nat} {L : List (Option Nat)} (h : Sep base n L) (hn : n ≤ n') (hb : base ≤ n) (i : Nat) (x : Option Nat) (hx : L[i]? = some x ∨ ∀ b, x = some b → n ≤ b ∧ b < n') : Sep base n' (L.set i x) := by
  have g := h.mono hn
  rcases hx with hx | hx
  · have e : L.set i x = L := by
      refine List.ext_getElem? fun j => ?_
      rw [List.getElem?_set]
      split
      · rename_i e; subst e
        rw [hx]
        split
        · rfl
        · rename_i hl; rw [List.getElem?_eq_none (by omega)] at hx; cases hx
      · rfl
    rw [e]; exact g
  · refine ⟨fun j b hj => ?_, fun j k b hj hk => ?_⟩
    · rw [List.getElem?_set] at hj
      split at hj
      · split at hj
        · injection hj with hj; have := hx b hj; exact ⟨by omega, this.2⟩
        · cases hj
      · exact g.1 j b hj
    · rw [List.getElem?_set] at hj hk
      split at hj
      · rename_i e1
        split at hj
        · injection hj with hj
          have hb1 := hx b hj
          split at hk
          · rename_i e2; rw [← e1, ← e2]
          · have := (h.1 k b hk).2; omega
        · cases hj
      · split at hk
        · split at hk
          · injection hk with hk
            have hb1 := hx b hk
            have := (h.1 j b hj).2; omega
          · cases hk
        · exact g.2 j k b hj hk
/-- The block of a row that is read, if it has anything. -/
def blk0 (A : Option Addr) (l : List ByteArray) : Option Nat := if l.length = 0 then none else blkOf A
theorem blk0_lt {w : World} {A : Option Addr} {l : List ByteArray} (h : Strs w A l) {b : Nat} (hb : blk0 A l = some b) : b < w.heap.size := by
  unfold blk0 at hb
  split at hb
  · cases hb
  · obtain ⟨g, off, rfl, hg, _⟩ := h.at_ (i := 0) (by omega)
    simp [blkOf] at hb
    omega
theorem strs_kept {w w' : World} {A : Option Addr} {l : List ByteArray} {row : Option Nat} (h : Strs w A l) (hg : w.grownBy w' row) (hne : blk0 A l = none ∨ blk0 A l ≠ row) : Strs w' A l := fun hn => by
  have hl : ¬ l.length = 0 := fun h0 => hn (by rw [List.eq_nil_of_length_eq_zero h0]; rfl)
  unfold blk0 at hne
  rw [if_neg hl] at hne
  obtain ⟨b, off, e, hb, hc⟩ := h hn
  refine ⟨b, off, e, Nat.lt_of_lt_of_le hb hg.size, fun i u hu => ?_⟩
  rw [World.cell?_of_block (hg.block b hb (by
    rcases hne with h0 | h0
    · rw [e] at h0; cases h0
    · rw [e] at h0; exact h0))]
  exact hc i u hu
/-- The four rows of a side. -/
structure Rows4 (w : World) (base : Nat) (s : Sd) (A0 A1 A2 A3 : Option Addr) (c0 c1 c2 c3 : Nat) : Prop where
  r0 : Strs w A0 s.fy.sent
  r1 : w.ownsRow base 9 1 (.slice A1 s.sent.length c1) s.sent.length (s.sent.map .string)
  r2 : w.ownsRow base 9 1 (.slice A2 s.heard.length c2) s.heard.length (s.heard.map .string)
  r3 : w.ownsRow base 26 5 (.slice A3 s.way.length c3) s.way.length (frow s.way)
  l0 : s.fy.sent.length ≤ c0
  l1 : s.sent.length ≤ c1
  l2 : s.heard.length ≤ c2
  l3 : s.way.length ≤ c3
theorem Rows4.kept {w w' : World} {base : Nat} {s : Sd} {A0 A1 A2 A3 : Option Addr} {c0 c1 c2 c3 : Nat} {row : Option Nat} (h : Rows4 w base s A0 A1 A2 A3 c0 c1 c2 c3) (hg : w.grownBy w' row)
    (h0 : blk0 A0 s.fy.sent = none ∨ blk0 A0 s.fy.sent ≠ row) (h1 : blkOf A1 = none ∨ blkOf A1 ≠ row) (h2 : blkOf A2 = none ∨ blkOf A2 ≠ row) (h3 : blkOf A3 = none ∨ blkOf A3 ≠ row) : Rows4 w' base s A0 A1 A2 A3 c0 c1 c2 c3 :=
  ⟨strs_kept h.r0 hg h0, h.r1.kept hg (by rw [blkOf_own]; exact h1), h.r2.kept hg (by rw [blkOf_own]; exact h2), h.r3.kept hg (by rw [blkOf_own]; exact h3), h.l0, h.l1, h.l2, h.l3⟩
theorem grown_below {w w' : World} (h : Below w.heap.size w w') (row : Option Nat) : w.grownBy w' row := ⟨h.os, h.tape, h.output, h.size, fun k hk _ => h.block k hk⟩
theorem ne_none (x : Option Nat) : x = none ∨ x ≠ none := by cases x <;> simp
theorem Rows4.below {w w' : World} {base : Nat} {s : Sd} {A0 A1 A2 A3 : Option Addr} {c0 c1 c2 c3 : Nat} (h : Rows4 w base s A0 A1 A2 A3 c0 c1 c2 c3) (hb : Below w.heap.size w w') : Rows4 w' base s A0 A1 A2 A3 c0 c1 c2 c3 :=
  h.kept (grown_below hb none) (ne_none _) (ne_none _) (ne_none _) (ne_none _)
theorem grown_setCell (w : World) (p : Addr) (u : Value) : w.grownBy (w.setCell p u) (some p.block) :=
  ⟨by rfl, by rfl, by rfl, by simp, fun k _ hne => Below.heap_setCell w p u k (fun e => hne (by rw [e]))⟩
/-- Two structs of six cells in the block g: one from mo on, the other one from oo on. -/
def Two (w : World) (g mo oo : Nat) (cm co : List Value) : Prop :=
  ((mo = 0 ∧ oo = 6) ∨ (mo = 6 ∧ oo = 0)) ∧ cm.length = 6 ∧ co.length = 6 ∧ ∃ cs : Array Value, Blk w g cs 42 ∧ cs.size = 12 ∧ (∀ j, j < 6 → cs[mo + j]? = cm[j]?) ∧ ∀ j, j < 6 → cs[oo + j]? = co[j]?
section
variable {w w' : World} {g mo oo : Nat} {cm co : List Value}
theorem Two.cell (h : Two w g mo oo cm co) (j : Nat) (hj : j < 6) : w.cell? ⟨g, mo + j, none⟩ = cm[j]? ∧ w.frozen? ⟨g, mo + j, none⟩ = false := by
  obtain ⟨_, _, _, cs, hb, _, h1, _⟩ := h
  exact ⟨(hb.cell _).trans (h1 j hj), hb.frozen _⟩
theorem Two.swap (h : Two w g mo oo cm co) : Two w g oo mo co cm := by
  obtain ⟨h0, l1, l2, cs, hb, hs, h1, h2⟩ := h
  exact ⟨h0.symm.imp (fun h => ⟨h.2, h.1⟩) (fun h => ⟨h.2, h.1⟩), l2, l1, cs, hb, hs, h2, h1⟩
theorem Two.lt (h : Two w g mo oo cm co) : g < w.heap.size := by obtain ⟨_, _, _, cs, hb, _⟩ := h; exact hb.lt
theorem Two.grown {row : Option Nat} (h : Two w g mo oo cm co) (hg : w.grownBy w' row) (hne : some g ≠ row) : Two w' g mo oo cm co := by
  obtain ⟨h0, l1, l2, cs, hb, r⟩ := h
  exact ⟨h0, l1, l2, cs, hb.grown hg hne, r⟩
theorem Two.below (h : Two w g mo oo cm co) (hb : Below w.heap.size w w') : Two w' g mo oo cm co := h.grown (grown_below hb none) (by simp)
theorem Two.set (h : Two w g mo oo cm co) (j : Nat) (hj : j < 6) (u : Value) : Two (w.setCell ⟨g, mo + j, none⟩ u) g mo oo (cm.set j u) co := by
  obtain ⟨h0, l1, l2, cs, hb, hs, h1, h2⟩ := h
  refine ⟨h0, by simpa using l1, l2, cs.setIfInBounds (mo + j) u, hb.set_ _ _, by simpa using hs, fun i hi => ?_, fun i hi => ?_⟩
  · rw [Array.getElem?_setIfInBounds, List.getElem?_set]
    by_cases e : j = i
    · subst e
      rw [if_pos rfl, if_pos (by rcases h0 with h0 | h0 <;> omega), if_pos rfl, if_pos (by omega)]
    · rw [if_neg (by omega), if_neg e]; exact h1 i hi
  · rw [Array.getElem?_setIfInBounds, if_neg (by rcases h0 with h0 | h0 <;> omega)]
    exact h2 i hi
end
theorem two6 {w : World} {g mo oo : Nat} {a b c d e f : Value} {co : List Value} (h : Two w g mo oo [a, b, c, d, e, f] co) :
    w.cell? ⟨g, mo, none⟩ = some a ∧ w.cell? ⟨g, mo + 1, none⟩ = some b ∧ w.cell? ⟨g, mo + 2, none⟩ = some c ∧ w.cell? ⟨g, mo + 3, none⟩ = some d ∧ w.cell? ⟨g, mo + 4, none⟩ = some e ∧ w.cell? ⟨g, mo + 5, none⟩ = some f :=
  ⟨(h.cell 0 (by omega)).1, (h.cell 1 (by omega)).1, (h.cell 2 (by omega)).1, (h.cell 3 (by omega)).1, (h.cell 4 (by omega)).1, (h.cell 5 (by omega)).1⟩
theorem two6f {w : World} {g mo oo : Nat} {cm co : List Value} (h : Two w g mo oo cm co) :
    w.frozen? ⟨g, mo, none⟩ = false ∧ w.frozen? ⟨g, mo + 1, none⟩ = false ∧ w.frozen? ⟨g, mo + 2, none⟩ = false ∧ w.frozen? ⟨g, mo + 3, none⟩ = false ∧ w.frozen? ⟨g, mo + 4, none⟩ = false ∧ w.frozen? ⟨g, mo + 5, none⟩ = false :=
  ⟨(h.cell 0 (by omega)).2, (h.cell 1 (by omega)).2, (h.cell 2 (by omega)).2, (h.cell 3 (by omega)).2, (h.cell 4 (by omega)).2, (h.cell 5 (by omega)).2⟩
/-- The six cells of a side. -/
def sdCells (s : Sd) (A0 A1 A2 A3 : Option Addr) (c0 c1 c2 c3 : Nat) : List Value :=
  [.int .i64 s.fy.base, .slice A0 s.fy.sent.length c0, .int .i64 s.fy.want, .slice A1 s.sent.length c1, .slice A2 s.heard.length c2, .slice A3 s.way.length c3]
theorem Sep.swap {base n : Nat} {a b c d e f g h : Option Nat} (hs : Sep base n [a, b, c, d, e, f, g, h]) : Sep base n [e, f, g, h, a, b, c, d] := by
  have hm : ∀ i x, [e, f, g, h, a, b, c, d][i]? = some x → ∃ k, [a, b, c, d, e, f, g, h][k]? = some x ∧ k = (i + 4) % 8 ∧ i < 8 := by
    intro i x hi
    have hl : i < 8 := (List.getElem?_eq_some_iff.1 hi).1
    refine ⟨(i + 4) % 8, ?_, rfl, hl⟩
    rcases i with _ | _ | _ | _ | _ | _ | _ | _ | i <;> first | exact hi | omega
  refine ⟨fun i x hi => ?_, fun i j x hi hj => ?_⟩
  · obtain ⟨k, hk, _⟩ := hm i _ hi
    exact hs.1 k x hk
  · obtain ⟨k, hk, e1, l1⟩ := hm i _ hi
    obtain ⟨m, hk2, e2, l2⟩ := hm j _ hj
    have := hs.2 k m x hk hk2
    omega
theorem Sep.off {base n g : Nat} {L : List (Option Nat)} (h : Sep base n L) (hg : g < base) {i : Nat} {x : Option Nat} (hi : L[i]? = some x) : x = none ∨ x ≠ some g := by
  cases x with
  | none => exact .inl rfl
  | some b =>
    right
    intro e
    injection e with e
    subst e
    have := (h.1 i b hi).1
    omega
/-- The rows of two sides, each in a block of its own. -/
structure PSR (w : World) (base : Nat) (me other : Sd) (A0 A1 A2 A3 B0 B1 B2 B3 : Option Addr) (c0 c1 c2 c3 d0 d1 d2 d3 : Nat) : Prop where
  rm : Rows4 w base me A0 A1 A2 A3 c0 c1 c2 c3
  ro : Rows4 w base other B0 B1 B2 B3 d0 d1 d2 d3
  sep : Sep base w.heap.size [blk0 A0 me.fy.sent, blkOf A1, blkOf A2, blkOf A3, blk0 B0 other.fy.sent, blkOf B1, blkOf B2, blkOf B3]
  size : base ≤ w.heap.size
section
variable {w w' : World} {base : Nat} {me other : Sd} {A0 A1 A2 A3 B0 B1 B2 B3 : Option Addr} {c0 c1 c2 c3 d0 d1 d2 d3 : Nat}
theorem PSR.swap (h : PSR w base me other A0 A1 A2 A3 B0 B1 B2 B3 c0 c1 c2 c3 d0 d1 d2 d3) : PSR w base other me B0 B1 B2 B3 A0 A1 A2 A3 d0 d1 d2 d3 c0 c1 c2 c3 := ⟨h.ro, h.rm, h.sep.swap, h.size⟩
theorem PSR.below (h : PSR w base me other A0 A1 A2 A3 B0 B1 B2 B3 c0 c1 c2 c3 d0 d1 d2 d3) (hb : Below w.heap.size w w') : PSR w' base me other A0 A1 A2 A3 B0 B1 B2 B3 c0 c1 c2 c3 d0 d1 d2 d3 :=
  ⟨h.rm.below hb, h.ro.below hb, h.sep.mono hb.size, Nat.le_trans h.size hb.size⟩
theorem PSR.setg (h : PSR w base me other A0 A1 A2 A3 B0 B1 B2 B3 c0 c1 c2 c3 d0 d1 d2 d3) {p : Addr} (hg : p.block < base) (u : Value) : PSR (w.setCell p u) base me other A0 A1 A2 A3 B0 B1 B2 B3 c0 c1 c2 c3 d0 d1 d2 d3 :=
  ⟨h.rm.kept (grown_setCell w p u) (h.sep.off hg (i := 0) rfl) (h.sep.off hg (i := 1) rfl) (h.sep.off hg (i := 2) rfl) (h.sep.off hg (i := 3) rfl),
   h.ro.kept (grown_setCell w p u) (h.sep.off hg (i := 4) rfl) (h.sep.off hg (i := 5) rfl) (h.sep.off hg (i := 6) rfl) (h.sep.off hg (i := 7) rfl), h.sep.mono (by simp), by simpa using h.size⟩
/-- The bodies that are kept are others now, in new memory. -/
theorem PSR.fy (h : PSR w base me other A0 A1 A2 A3 B0 B1 B2 B3 c0 c1 c2 c3 d0 d1 d2 d3) (hb : Below w.heap.size w w') (f : Fy) (A : Option Addr) (c : Nat) (hs : Strs w' A f.sent) (hc : f.sent.length ≤ c) (hf : ∀ ad, A = some ad → w.heap.size ≤ ad.block) :
    PSR w' base { me with fy := f } other A A1 A2 A3 B0 B1 B2 B3 c c1 c2 c3 d0 d1 d2 d3 := by
  have g := h.below hb
  refine ⟨⟨hs, g.rm.r1, g.rm.r2, g.rm.r3, hc, g.rm.l1, g.rm.l2, g.rm.l3⟩, g.ro, ?_, g.size⟩
  refine h.sep.set hb.size h.size 0 (blk0 A f.sent) (.inr fun b hbk => ⟨?_, blk0_lt hs hbk⟩)
  unfold blk0 at hbk
  split at hbk
  · cases hbk
  · cases A with
    | none => cases hbk
    | some ad =>
      simp [blkOf] at hbk
      have := hf ad rfl
      omega
/-- A body is put behind what was sent. -/
theorem PSR.app1 (h : PSR w base me other A0 A1 A2 A3 B0 B1 B2 B3 c0 c1 c2 c3 d0 d1 d2 d3) (l : List ByteArray) (A : Option Addr) (c : Nat) (ho : w'.ownsRow base 9 1 (.slice A l.length c) l.length (l.map .string)) (hc : l.length ≤ c)
    (hg : w.grownBy w' (Value.slice A1 me.sent.length c1).ownBlock) (hat : blkOf A = blkOf A1 ∨ blkOf A = some w.heap.size) : PSR w' base { me with sent := l } other A0 A A2 A3 B0 B1 B2 B3 c0 c c2 c3 d0 d1 d2 d3 := by
  rw [blkOf_own] at hg
  have hm := h.ro.kept hg (h.sep.ne (i := 4) (j := 1) rfl rfl (by omega)) (h.sep.ne (i := 5) (j := 1) rfl rfl (by omega)) (h.sep.ne (i := 6) (j := 1) rfl rfl (by omega)) (h.sep.ne (i := 7) (j := 1) rfl rfl (by omega))
  refine ⟨⟨strs_kept h.rm.r0 hg (h.sep.ne (i := 0) (j := 1) rfl rfl (by omega)), ho, h.rm.r2.kept hg (by rw [blkOf_own]; exact h.sep.ne (i := 2) (j := 1) rfl rfl (by omega)), h.rm.r3.kept hg (by rw [blkOf_own]; exact h.sep.ne (i := 3) (j := 1) rfl rfl (by omega)), h.rm.l0, hc, h.rm.l2, h.rm.l3⟩, hm, ?_, Nat.le_trans h.size hg.size⟩
  refine h.sep.set hg.size h.size 1 (blkOf A) (hat.imp (fun e => by rw [e]; rfl) (fun e b hb => ?_))
  have := (ho.lt b (by rw [blkOf_own]; exact hb)).2
  rw [e] at hb
  injection hb with hb
  omega
theorem PSR.app2 (h : PSR w base me other A0 A1 A2 A3 B0 B1 B2 B3 c0 c1 c2 c3 d0 d1 d2 d3) (l : List ByteArray) (A : Option Addr) (c : Nat) (ho : w'.ownsRow base 9 1 (.slice A l.length c) l.length (l.map .string)) (hc : l.length ≤ c)
    (hg : w.grownBy w' (Value.slice A2 me.heard.length c2).ownBlock) (hat : blkOf A = blkOf A2 ∨ blkOf A = some w.heap.size) : PSR w' base { me with heard := l } other A0 A1 A A3 B0 B1 B2 B3 c0 c1 c c3 d0 d1 d2 d3 := by
  rw [blkOf_own] at hg
  have hm := h.ro.kept hg (h.sep.ne (i := 4) (j := 2) rfl rfl (by omega)) (h.sep.ne (i := 5) (j := 2) rfl rfl (by omega)) (h.sep.ne (i := 6) (j := 2) rfl rfl (by omega)) (h.sep.ne (i := 7) (j := 2) rfl rfl (by omega))
  refine ⟨⟨strs_kept h.rm.r0 hg (h.sep.ne (i := 0) (j := 2) rfl rfl (by omega)), h.rm.r1.kept hg (by rw [blkOf_own]; exact h.sep.ne (i := 1) (j := 2) rfl rfl (by omega)), ho, h.rm.r3.kept hg (by rw [blkOf_own]; exact h.sep.ne (i := 3) (j := 2) rfl rfl (by omega)), h.rm.l0, h.rm.l1, hc, h.rm.l3⟩, hm, ?_, Nat.le_trans h.size hg.size⟩
  refine h.sep.set hg.size h.size 2 (blkOf A) (hat.imp (fun e => by rw [e]; rfl) (fun e b hb => ?_))
  have := (ho.lt b (by rw [blkOf_own]; exact hb)).2
  rw [e] at hb
  injection hb with hb
  omega
theorem PSR.app3 (h : PSR w base me other A0 A1 A2 A3 B0 B1 B2 B3 c0 c1 c2 c3 d0 d1 d2 d3) (l : List Fm) (A : Option Addr) (c : Nat) (ho : w'.ownsRow base 26 5 (.slice A l.length c) l.length (frow l)) (hc : l.length ≤ c)
    (hg : w.grownBy w' (Value.slice A3 me.way.length c3).ownBlock) (hat : blkOf A = blkOf A3 ∨ blkOf A = some w.heap.size) : PSR w' base { me with way := l } other A0 A1 A2 A B0 B1 B2 B3 c0 c1 c2 c d0 d1 d2 d3 := by
  rw [blkOf_own] at hg
  have hm := h.ro.kept hg (h.sep.ne (i := 4) (j := 3) rfl rfl (by omega)) (h.sep.ne (i := 5) (j := 3) rfl rfl (by omega)) (h.sep.ne (i := 6) (j := 3) rfl rfl (by omega)) (h.sep.ne (i := 7) (j := 3) rfl rfl (by omega))
  refine ⟨⟨strs_kept h.rm.r0 hg (h.sep.ne (i := 0) (j := 3) rfl rfl (by omega)), h.rm.r1.kept hg (by rw [blkOf_own]; exact h.sep.ne (i := 1) (j := 3) rfl rfl (by omega)), h.rm.r2.kept hg (by rw [blkOf_own]; exact h.sep.ne (i := 2) (j := 3) rfl rfl (by omega)), ho, h.rm.l0, h.rm.l1, h.rm.l2, hc⟩, hm, ?_, Nat.le_trans h.size hg.size⟩
  refine h.sep.set hg.size h.size 3 (blkOf A) (hat.imp (fun e => by rw [e]; rfl) (fun e b hb => ?_))
  have := (ho.lt b (by rw [blkOf_own]; exact hb)).2
  rw [e] at hb
  injection hb with hb
  omega
/-- The frames on the way are others now, in new memory. -/
theorem PSR.way (h : PSR w base me other A0 A1 A2 A3 B0 B1 B2 B3 c0 c1 c2 c3 d0 d1 d2 d3) (hb : Below w.heap.size w w') (l : List Fm) (A : Option Addr) (c : Nat) (ho : w'.ownsRow w.heap.size 26 5 (.slice A l.length c) l.length (frow l)) (hc : l.length ≤ c) :
    PSR w' base { me with way := l } other A0 A1 A2 A B0 B1 B2 B3 c0 c1 c2 c d0 d1 d2 d3 := by
  have g := h.below hb
  refine ⟨⟨g.rm.r0, g.rm.r1, g.rm.r2, own_mono ho h.size, g.rm.l0, g.rm.l1, g.rm.l2, hc⟩, g.ro, ?_, g.size⟩
  exact h.sep.set hb.size h.size 3 (blkOf A) (.inr fun b hbk => ho.lt b (by rw [blkOf_own]; exact hbk))
end
/-- The memory of the two sides: me from mo on. -/
def PS (w : World) (base g mo oo : Nat) (me other : Sd) : Prop :=
  ∃ A0 A1 A2 A3 B0 B1 B2 B3 c0 c1 c2 c3 d0 d1 d2 d3, Two w g mo oo (sdCells me A0 A1 A2 A3 c0 c1 c2 c3) (sdCells other B0 B1 B2 B3 d0 d1 d2 d3) ∧
    PSR w base me other A0 A1 A2 A3 B0 B1 B2 B3 c0 c1 c2 c3 d0 d1 d2 d3 ∧ g < base
theorem PS.below {w w' : World} {base g mo oo : Nat} {me other : Sd} (h : PS w base g mo oo me other) (hb : Below w.heap.size w w') : PS w' base g mo oo me other := by
  obtain ⟨A0, A1, A2, A3, B0, B1, B2, B3, c0, c1, c2, c3, d0, d1, d2, d3, h1, h2, h3⟩ := h
  exact ⟨A0, A1, A2, A3, B0, B1, B2, B3, c0, c1, c2, c3, d0, d1, d2, d3, h1.below hb, h2.below hb, h3⟩
theorem PS.swap {w : World} {base g mo oo : Nat} {me other : Sd} (h : PS w base g mo oo me other) : PS w base g oo mo other me := by
  obtain ⟨A0, A1, A2, A3, B0, B1, B2, B3, c0, c1, c2, c3, d0, d1, d2, d3, h1, h2, h3⟩ := h
  exact ⟨B0, B1, B2, B3, A0, A1, A2, A3, d0, d1, d2, d3, c0, c1, c2, c3, h1.swap, h2.swap, h3⟩
end Go.Proofs.Ytnjfphfkjapemaa
