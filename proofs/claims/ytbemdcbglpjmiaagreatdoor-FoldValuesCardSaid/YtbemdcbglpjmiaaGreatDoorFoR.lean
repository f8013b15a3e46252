/- Contracts: (*fold.tree).lay. Contracts: (*reparteeref30.tree).row. -/
import Derived.Test.YtbemdcbglpjmiaaGreatDoorFoH
import Derived.Test.YtbemdcbglpjmiaaGreatDoorTmMay
import Derived.Test.YtbemdcbglpjmiaaGreatDoorTmTree
namespace Go.Proofs.YtbemdcbglpjmiaaGreatDoor
open Go.RowKit

/-- What a step does that writes to a row of its own alone. -/
structure Lay (w : World) (v : Value) (w' : World) (v' : Value) : Prop where
  kb : Kb (fun i => v.ownBlock = some i) w w'
  at_ : v'.ownBlock = v.ownBlock ∨ ∀ g, v'.ownBlock = some g → w.heap.size ≤ g
theorem Lay.refl (w : World) (v : Value) : Lay w v w v := ⟨Kb.refl _ _, .inl rfl⟩
theorem Lay.trans {w w2 w3 : World} {v v2 v3 : Value} (h : Lay w v w2 v2) (k : Lay w2 v2 w3 v3) : Lay w v w3 v3 := by
  refine ⟨h.kb.andThen k.kb fun i hi q => ?_, ?_⟩
  · rcases h.at_ with h1 | h1
    · exact h1 ▸ q
    · have := h1 _ q; omega
  · rcases k.at_ with k1 | k1
    · rcases h.at_ with h1 | h1
      · exact .inl (k1.trans h1)
      · exact .inr fun g hg => h1 g (k1 ▸ hg)
    · exact .inr fun g hg => Nat.le_trans h.kb.size (k1 g hg)
theorem Lay.alloc {w w2 : World} {v v2 : Value} (h : Lay w v w2 v2) (o : Obj) : Lay w v (w2.alloc o) v2 := ⟨h.kb.alloc o, h.at_⟩
theorem Lay.set_ {w w2 : World} {v v2 : Value} (h : Lay w v w2 v2) {n : Nat} (hn : w.heap.size ≤ n) (i : Nat) (u : Value) : Lay w v (w2.setCell ⟨n, i, none⟩ u) v2 := ⟨h.kb.set_ (p := ⟨n, i, none⟩) (.inl hn) u, h.at_⟩
theorem Lay.blk {w w2 : World} {v v2 : Value} (h : Lay w v w2 v2) {n : Nat} {cs : Array Value} {t : TypeId} (hb : Blk w n cs t) (hn : v.ownBlock ≠ some n) : Blk w2 n cs t ∧ v2.ownBlock ≠ some n :=
  ⟨hb.kb h.kb hn, by
    rcases h.at_ with h1 | h1
    · rw [h1]; exact hn
    · intro q; have := h1 _ q; have := hb.lt; omega⟩
theorem Lay.below {w0 w w2 : World} {v v2 : Value} (h : Lay w v w2 v2) (hb : Below w0.heap.size w0 w) (hv : ∀ g, v.ownBlock = some g → w0.heap.size ≤ g) : Below w0.heap.size w0 w2 :=
  hb.trans (h.kb.below hv hb.size)
theorem Lay.own {w w2 : World} {v v2 : Value} (h : Lay w v w2 v2) {base : Nat} (hb : base ≤ w.heap.size) (hv : ∀ g, v.ownBlock = some g → base ≤ g) : ∀ g, v2.ownBlock = some g → base ≤ g := fun g hg => by
  rcases h.at_ with h1 | h1
  · exact hv g (h1 ▸ hg)
  · exact Nat.le_trans hb (h1 g hg)
/-- Behind an append. -/
theorem Lay.grown {w w2 : World} {v v2 : Value} (h : w.grownBy w2 v.ownBlock) (k : v2.ownBlock = v.ownBlock ∨ v2.ownBlock = some w.heap.size) : Lay w v w2 v2 :=
  ⟨(Kb.of_grown h).mono fun _ _ q => q.symm, k.imp_right fun q g hg => by rw [q] at hg; injection hg with hg; omega⟩
theorem infoTerm : (Tryz.prog.info? 51).map (fun i => (i.zero, i.size, i.bytes)) = some (some (.agg #[.int .i64 0, .string ⟨#[]⟩, .int .i64 0, .string ⟨#[]⟩, .int .i64 0, .int .i64 0]), 6, 64) := by kernel_rfl
abbrev Own (w : World) (base : Nat) (v : Value) (l : List Tm) : Prop := w.ownsRow base 51 6 v l.length (l.flatMap Tm.cells)
theorem Own.ge {w : World} {base : Nat} {v : Value} {l : List Tm} (h : Own w base v l) : ∀ g, v.ownBlock = some g → base ≤ g := fun g hg => (World.ownsRow.lt h g hg).1
theorem Own.not {w : World} {base : Nat} {v : Value} {l : List Tm} (h : Own w base v l) : v.ownBlock ≠ some w.heap.size := fun q => by
  have := (World.ownsRow.lt h _ q).2; omega
theorem Own.set_ {w : World} {base : Nat} {v : Value} {l : List Tm} (h : Own w base v l) {n : Nat} (hn : v.ownBlock ≠ some n) (i : Nat) (u : Value) : Own (w.setCell ⟨n, i, none⟩ u) base v l :=
  own_kb h (Kb.set_ (S := fun j => j = n) (Kb.refl _ _) (p := ⟨n, i, none⟩) (.inr rfl) u) fun _ hg q => hn (q ▸ hg)
def LayPost (w0 : World) (x : Tr) (l : List Tm) (v : Value) (w : World) (e : Ending) (w' : World) : Prop :=
  ∃ v', e = .returned (.tuple #[v', .int .i64 (layF x l).2]) ∧ Lay w v w' v' ∧ Own w' w0.heap.size v' (layF x l).1
theorem lay_end {w0 w w5 w6 : World} {v v4 : Value} {l : List Tm} {k k' : Int} {A' : Option Addr} {c' : Nat} (t : Tm) (x y : Tr) (hl : Lay w v w5 v4) (hk : k = (layF x l).2) (hk' : k' = (layF y (layF x l).1).2)
    (ho : w6.ownsRow w0.heap.size 51 6 (.slice A' ((layF y (layF x l).1).1.length + 1) c') ((layF y (layF x l).1).1.length + 1) ((layF y (layF x l).1).1.flatMap Tm.cells ++ [.int .i64 t.kind, .string t.name, .int .i64 t.n, .string t.text, .int .i64 k, .int .i64 k']))
    (hg : w5.grownBy w6 v4.ownBlock) (hat : (Value.slice A' ((layF y (layF x l).1).1.length + 1) c').ownBlock = v4.ownBlock ∨ (Value.slice A' ((layF y (layF x l).1).1.length + 1) c').ownBlock = some w5.heap.size) :
    LayPost w0 (.node t x y) l v w (.returned (.tuple #[.slice A' ((layF y (layF x l).1).1.length + 1) c', .int .i64 ((layF y (layF x l).1).1.length : Int)])) w6 := by
  subst hk hk'
  refine ⟨_, by rw [layF], hl.trans (Lay.grown hg hat), ?_⟩
  have e : ∀ (L : List Tm) (u : Tm), (L ++ [u]).flatMap Tm.cells = L.flatMap Tm.cells ++ u.cells := fun L u => by simp
  rw [layF]
  unfold Own
  rw [e, List.length_append]
  exact ho
set_option maxRecDepth 100000 in
set_option maxHeartbeats 8000000 in
theorem lay_any (w0 : World) (lo : Nat) : ∀ (x : Tr) (p : Option Addr) (l : List Tm) (v : Value) (w : World), TreeAt w0 lo x p → Below w0.heap.size w0 w → Own w w0.heap.size v l → l.length + x.size ≤ 1000 →
    Calls Tryz.prog 23 #[.pointer p, v] w (LayPost w0 x l v w) := by
  obtain ⟨i0, hi0, hz0, hz1, hz2⟩ := info_parts infoTerm
  intro x
  induction x with
  | nil =>
    intro p l v w h hB hO _
    have h : p = none := h
    subst h
    have HO := Lib.hid hO
    clear hO
    go_enter Tryz.func23, Tryz.ntmps23
    go_wp2_with fail
    go_ret2
    exact ⟨v, rfl, Lay.refl _ _, HO.out⟩
  | node t x y ihx ihy =>
    intro p l v w h hB hO hsz
    obtain ⟨b, pl, pr, rfl, _, hn, hx, hy⟩ := h
    have hb0 := hn.lt
    have hn1 := hn.below hB
    obtain ⟨hlt, c0, c1, c2, c3, c4, c5, c6, c7⟩ := hn1
    rw [Tr.size] at hsz
    have lx := Lib.hid (lay_len x l)
    have hle : (layF y (layF x l).1).1.length + 1 ≤ 1000 := by rw [lay_len y, lay_len x]; omega
    have CX := Lib.hid (fun l v w => ihx pl l v w hx)
    have CY := Lib.hid (fun l v w => ihy pr l v w hy)
    have HN := Lib.hid hn
    have HB := Lib.hid hB
    have HO := Lib.hid hO
    clear ihx ihy hx hy hn hB hO
    obtain ⟨w1, hw1⟩ : ∃ w1, w1 = w.alloc (.cells #[.int .i64 t.kind, .string t.name, .int .i64 t.n, .string t.text, .int .i64 t.l, .int .i64 t.r] 51) := ⟨_, rfl⟩
    have K1 : Hid (Blk w1 w.heap.size #[.int .i64 t.kind, .string t.name, .int .i64 t.n, .string t.text, .int .i64 t.l, .int .i64 t.r] 51) := Lib.hid (by rw [hw1]; exact Blk.new _ _ _)
    have L1 : Hid (Lay w v w1 v) := Lib.hid (by rw [hw1]; exact (Lay.refl w v).alloc _)
    have O1 : Hid (Own w1 w0.heap.size v l) := Lib.hid (by rw [hw1]; exact HO.out.alloc _)
    have N1 : Hid (v.ownBlock ≠ some w.heap.size) := Lib.hid HO.out.not
    have B1 := Lib.hid (L1.out.below HB.out HO.out.ge)
    have hz1' : w.heap.size < w1.heap.size := by rw [hw1]; simp
    have hc6 : w1.cell? ⟨b, 6, none⟩ = some (.pointer pl) := (HN.out.below B1.out).c6
    go_enter Tryz.func23, Tryz.ntmps23
    go_wp2_with fail
    rw [← hw1]
    have HW1 := Lib.hid hw1
    clear hw1
    refine (CX.out l v w1 B1.out O1.out (by omega)).mono ?_
    rintro e w2 ⟨v2, rfl, hl2, ho2⟩
    obtain ⟨hk2, hn2⟩ := hl2.blk K1.out N1.out
    have hz2' : w.heap.size < w2.heap.size := by have := hl2.kb.size; omega
    have f4 : w2.frozen? ⟨w.heap.size, 4, none⟩ = false := hk2.frozen 4
    have k4 : w2.cell? ⟨w.heap.size, 4, none⟩ = some (.int .i64 t.l) := hk2.cell 4
    obtain ⟨k, hk⟩ : ∃ k, k = (layF x l).2 := ⟨_, rfl⟩
    rw [← hk]
    obtain ⟨w3, hw3⟩ : ∃ w3, w3 = w2.setCell ⟨w.heap.size, 4, none⟩ (.int .i64 k) := ⟨_, rfl⟩
    have K3 : Hid (Blk w3 w.heap.size #[.int .i64 t.kind, .string t.name, .int .i64 t.n, .string t.text, .int .i64 k, .int .i64 t.r] 51) := Lib.hid (by rw [hw3]; simpa using hk2.set_ 4 (.int .i64 k))
    have L3 : Hid (Lay w v w3 v2) := Lib.hid (by rw [hw3]; exact (L1.out.trans hl2).set_ (Nat.le_refl _) 4 _)
    have O3 : Hid (Own w3 w0.heap.size v2 (layF x l).1) := Lib.hid (by rw [hw3]; exact ho2.set_ hn2 4 _)
    have N3 := Lib.hid hn2
    have B3 := Lib.hid (L3.out.below HB.out HO.out.ge)
    have hz3' : w.heap.size < w3.heap.size := by rw [hw3]; simpa using hz2'
    have hc7 : w2.cell? ⟨b, 7, none⟩ = some (.pointer pr) := (HN.out.below ((L1.out.trans hl2).below HB.out HO.out.ge)).c7
    have HKE := Lib.hid hk
    clear hl2 ho2 hk2 hn2 hk c0 c1 c2 c3 c4 c5 c6 c7 hc6
    go_wp2_with fail
    rw [← hw3]
    have HW3 := Lib.hid hw3
    clear hw3
    refine (CY.out (layF x l).1 v2 w3 B3.out O3.out (by rw [lx.out]; omega)).mono ?_
    rintro e w4 ⟨v4, rfl, hl4, ho4⟩
    obtain ⟨hk4, hn4⟩ := hl4.blk K3.out N3.out
    have hz4' : w.heap.size < w4.heap.size := by have := hl4.kb.size; omega
    have f5 : w4.frozen? ⟨w.heap.size, 5, none⟩ = false := hk4.frozen 5
    have k5 : w4.cell? ⟨w.heap.size, 5, none⟩ = some (.int .i64 t.r) := hk4.cell 5
    obtain ⟨k', hk'⟩ : ∃ k, k = (layF y (layF x l).1).2 := ⟨_, rfl⟩
    rw [← hk']
    obtain ⟨w5, hw5⟩ : ∃ w5, w5 = w4.setCell ⟨w.heap.size, 5, none⟩ (.int .i64 k') := ⟨_, rfl⟩
    have K5 : Hid (Blk w5 w.heap.size #[.int .i64 t.kind, .string t.name, .int .i64 t.n, .string t.text, .int .i64 k, .int .i64 k'] 51) := Lib.hid (by rw [hw5]; simpa using hk4.set_ 5 (.int .i64 k'))
    have L5 : Hid (Lay w v w5 v4) := Lib.hid (by rw [hw5]; exact (L3.out.trans hl4).set_ (Nat.le_refl _) 5 _)
    have O5 : Hid (Own w5 w0.heap.size v4 (layF y (layF x l).1).1) := Lib.hid (by rw [hw5]; exact ho4.set_ hn4 5 _)
    have B5 := Lib.hid (L5.out.below HB.out HO.out.ge)
    have hz5' : w.heap.size < w5.heap.size := by rw [hw5]; simpa using hz4'
    have HKE' := Lib.hid hk'
    have e0 : w4.cell? ⟨w.heap.size, 0, none⟩ = some (.int .i64 t.kind) := hk4.cell 0
    have e1 : w4.cell? ⟨w.heap.size, 1, none⟩ = some (.string t.name) := hk4.cell 1
    have e2 : w4.cell? ⟨w.heap.size, 2, none⟩ = some (.int .i64 t.n) := hk4.cell 2
    have e3 : w4.cell? ⟨w.heap.size, 3, none⟩ = some (.string t.text) := hk4.cell 3
    have e4 : w4.cell? ⟨w.heap.size, 4, none⟩ = some (.int .i64 k) := hk4.cell 4
    clear hl4 ho4 hk4 hn4 hk' f4 k4
    have HA : Hid (Own ((w4.setCell ⟨w.heap.size, 5, none⟩ (.int .i64 k')).alloc (.cells #[.int .i64 t.kind, .string t.name, .int .i64 t.n, .string t.text, .int .i64 k, .int .i64 k'] 51)) w0.heap.size v4 (layF y (layF x l).1).1) := Lib.hid (by rw [← hw5]; exact O5.out.alloc _)
    have HR := Lib.hid (blk_next (w := w4.setCell ⟨w.heap.size, 5, none⟩ (.int .i64 k')) (n := w4.heap.size) (by simp) #[.int .i64 t.kind, .string t.name, .int .i64 t.n, .string t.text, .int .i64 k, .int .i64 k'] 51).rd
    have HL : Hid (Lay w v ((w4.setCell ⟨w.heap.size, 5, none⟩ (.int .i64 k')).alloc (.cells #[.int .i64 t.kind, .string t.name, .int .i64 t.n, .string t.text, .int .i64 k, .int .i64 k'] 51)) v4) := Lib.hid (by rw [← hw5]; exact L5.out.alloc _)
    have HBS : Hid (w0.heap.size ≤ ((w4.setCell ⟨w.heap.size, 5, none⟩ (.int .i64 k')).alloc (.cells #[.int .i64 t.kind, .string t.name, .int .i64 t.n, .string t.text, .int .i64 k, .int .i64 k'] 51)).heap.size) := Lib.hid (by rw [← hw5]; have := B5.out.size; simp; omega)
    clear hw5
    go_wp2_with (at_builtin; refine wpList_app _ rfl _ _ _ rfl w0.heap.size 51 i0 _ 6 64 Tryz.underlying22 hi0 hz0 hz1 hz2 rfl (by omega) v4 (layF y (layF x l).1).1.length ((layF y (layF x l).1).1.flatMap Tm.cells) rfl HA.out (some ⟨w4.heap.size, 0, none⟩) 1 1 [.int .i64 t.kind, .string t.name, .int .i64 t.n, .string t.text, .int .i64 k, .int .i64 k'] rfl HR.out rfl (by simp [Value.oneCell']) (by omega) (by unfold maxLen; omega) HBS.out ?_; intro A6 c6 w6 hle6 hown6 hg6 hat6; have HE := Lib.hid (lay_end t x y HL.out HKE.out HKE'.out hown6 hg6 hat6); clear hown6 hg6 hat6 hle6)
    go_ret2
    exact HE.out
end Go.Proofs.YtbemdcbglpjmiaaGreatDoor
namespace Go.Proofs.YtbemdcbglpjmiaaGreatDoor
open Go.RowKit

theorem lay_last (x : Tr) (l : List Tm) (h : x ≠ .nil) : (layF x l).2 = ((layF x l).1.length : Int) - 1 := by
  have := lay_root x l h
  have h1 := lay_len x l
  have := size_pos h
  omega
def RowPost (w0 : World) (x : Tr) (l : List Tm) (v : Value) (w : World) (e : Ending) (w' : World) : Prop :=
  ∃ v', e = .returned v' ∧ Lay w v w' v' ∧ Own w' w0.heap.size v' (layF x l).1
theorem row_end {w0 w w5 w6 : World} {v v4 : Value} {l : List Tm} {k k' : Int} {A' : Option Addr} {c' : Nat} (t : Tm) (x y : Tr) (hl : Lay w v w5 v4) (hk : k = (layF x l).2) (hk' : k' = (layF y (layF x l).1).2) {n : Nat} (hn : n = (layF y (layF x l).1).1.length)
    (ho : w6.ownsRow w0.heap.size 51 6 (.slice A' (n + 1) c') (n + 1) ((layF y (layF x l).1).1.flatMap Tm.cells ++ [.int .i64 t.kind, .string t.name, .int .i64 t.n, .string t.text, .int .i64 k, .int .i64 k']))
    (hg : w5.grownBy w6 v4.ownBlock) (hat : (Value.slice A' (n + 1) c').ownBlock = v4.ownBlock ∨ (Value.slice A' (n + 1) c').ownBlock = some w5.heap.size) :
    RowPost w0 (.node t x y) l v w (.returned (.slice A' (n + 1) c')) w6 := by
  subst hk hk' hn
  refine ⟨_, rfl, hl.trans (Lay.grown hg hat), ?_⟩
  have e : ∀ (L : List Tm) (u : Tm), (L ++ [u]).flatMap Tm.cells = L.flatMap Tm.cells ++ u.cells := fun L u => by simp
  rw [layF]
  unfold Own
  rw [e, List.length_append]
  exact ho
/-- Behind a call on an operand, before its place is stored. -/
theorem row_step {w0 w w1 w2 : World} {v v1 v2 : Value} {l L : List Tm} {cs : Array Value} (i : Nat) (u : Value) (hL : Lay w v w1 v1) (hK : Blk w1 w.heap.size cs 51) (hN : v1.ownBlock ≠ some w.heap.size)
    (hl : Lay w1 v1 w2 v2) (ho : Own w2 w0.heap.size v2 L) (hB : Below w0.heap.size w0 w) (hO : Own w w0.heap.size v l) :
    Blk (w2.setCell ⟨w.heap.size, i, none⟩ u) w.heap.size (cs.setIfInBounds i u) 51 ∧ Lay w v (w2.setCell ⟨w.heap.size, i, none⟩ u) v2 ∧ Own (w2.setCell ⟨w.heap.size, i, none⟩ u) w0.heap.size v2 L ∧ v2.ownBlock ≠ some w.heap.size ∧
      Blk w2 w.heap.size cs 51 ∧ w.heap.size < w2.heap.size ∧ Below w0.heap.size w0 w2 ∧ Below w0.heap.size w0 (w2.setCell ⟨w.heap.size, i, none⟩ u) ∧ Lay w v w2 v2 := by
  obtain ⟨hk, hn⟩ := hl.blk hK hN
  have h3 := (hL.trans hl).set_ (Nat.le_refl _) i u
  exact ⟨hk.set_ i u, h3, ho.set_ hn i u, hn, hk, hk.lt, (hL.trans hl).below hB hO.ge, h3.below hB hO.ge, hL.trans hl⟩
set_option maxRecDepth 100000 in
set_option maxHeartbeats 8000000 in
theorem row_any (w0 : World) (lo : Nat) : ∀ (x : Tr) (p : Option Addr) (l : List Tm) (v : Value) (w : World), x ≠ .nil → TreeAt w0 lo x p → Below w0.heap.size w0 w → Own w w0.heap.size v l → l.length + x.size ≤ 1000 →
    Calls Tryz.prog 26 #[.pointer p, v] w (RowPost w0 x l v w) := by
  obtain ⟨i0, hi0, hz0, hz1, hz2⟩ := info_parts infoTerm
  intro x
  induction x with
  | nil => intro p l v w h; exact absurd rfl h
  | node t x y ihx ihy =>
    intro p l v w _ h hB hO hsz
    obtain ⟨b, pl, pr, rfl, _, hn, hx, hy⟩ := h
    have hb0 := hn.lt
    have hn1 := hn.below hB
    obtain ⟨hlt, c0, c1, c2, c3, c4, c5, c6, c7⟩ := hn1
    rw [Tr.size] at hsz
    have lx := Lib.hid (lay_len x l)
    have hle : (layF y (layF x l).1).1.length + 1 ≤ 1000 := by rw [lay_len y, lay_len x]; omega
    have hlx : (layF x l).1.length ≤ 1000 := by rw [lay_len x]; omega
    have CX := Lib.hid (fun l v w h => ihx pl l v w h hx)
    have CY := Lib.hid (fun l v w h => ihy pr l v w h hy)
    have nx := tree_nil hx
    have ny := tree_nil hy
    have HN := Lib.hid hn
    have HB := Lib.hid hB
    have HO := Lib.hid hO
    clear ihx ihy hx hy hn hB hO
    obtain ⟨w1, hw1⟩ : ∃ w1, w1 = w.alloc (.cells #[.int .i64 t.kind, .string t.name, .int .i64 t.n, .string t.text, .int .i64 (-1), .int .i64 (-1)] 51) := ⟨_, rfl⟩
    have K1 : Hid (Blk w1 w.heap.size #[.int .i64 t.kind, .string t.name, .int .i64 t.n, .string t.text, .int .i64 (-1), .int .i64 (-1)] 51) := Lib.hid (by rw [hw1]; exact Blk.new _ _ _)
    have L1 : Hid (Lay w v w1 v) := Lib.hid (by rw [hw1]; exact (Lay.refl w v).alloc _)
    have N1 : Hid (v.ownBlock ≠ some w.heap.size) := Lib.hid HO.out.not
    have O1 : Hid (Own w1 w0.heap.size v l) := Lib.hid (by rw [hw1]; exact HO.out.alloc _)
    have B1 := Lib.hid (L1.out.below HB.out HO.out.ge)
    have hz1' : w.heap.size < w1.heap.size := by rw [hw1]; simp
    go_enter Tryz.func26, Tryz.ntmps26
    rcases nx with ⟨rfl, rfl⟩ | ⟨nx, bx, rfl⟩
    · rcases ny with ⟨rfl, rfl⟩ | ⟨ny, bb, rfl⟩
      · have hle1 : l.length + 1 ≤ 1000 := by omega
        subst hw1
        have HA : Hid (Own ((w.alloc (.cells #[.int .i64 t.kind, .string t.name, .int .i64 t.n, .string t.text, .int .i64 (-1), .int .i64 (-1)] 51)).alloc (.cells #[.int .i64 t.kind, .string t.name, .int .i64 t.n, .string t.text, .int .i64 (-1), .int .i64 (-1)] 51)) w0.heap.size v l) := Lib.hid (O1.out.alloc _)
        have HR := Lib.hid (blk_next (w := w.alloc (.cells #[.int .i64 t.kind, .string t.name, .int .i64 t.n, .string t.text, .int .i64 (-1), .int .i64 (-1)] 51)) (n := w.heap.size + 1) (by simp) #[.int .i64 t.kind, .string t.name, .int .i64 t.n, .string t.text, .int .i64 (-1), .int .i64 (-1)] 51).rd
        have HL : Hid (Lay w v ((w.alloc (.cells #[.int .i64 t.kind, .string t.name, .int .i64 t.n, .string t.text, .int .i64 (-1), .int .i64 (-1)] 51)).alloc (.cells #[.int .i64 t.kind, .string t.name, .int .i64 t.n, .string t.text, .int .i64 (-1), .int .i64 (-1)] 51)) v) := Lib.hid (L1.out.alloc _)
        have HBS : Hid (w0.heap.size ≤ ((w.alloc (.cells #[.int .i64 t.kind, .string t.name, .int .i64 t.n, .string t.text, .int .i64 (-1), .int .i64 (-1)] 51)).alloc (.cells #[.int .i64 t.kind, .string t.name, .int .i64 t.n, .string t.text, .int .i64 (-1), .int .i64 (-1)] 51)).heap.size) := Lib.hid (by have := B1.out.size; simp at this ⊢; omega)
        have HN1 : Hid (l.length = (layF .nil (layF .nil l).1).1.length) := Lib.hid rfl
        go_wp2_with (at_builtin; refine wpList_app _ rfl _ _ _ rfl w0.heap.size 51 i0 _ 6 64 Tryz.underlying22 hi0 hz0 hz1 hz2 rfl (by omega) v l.length (l.flatMap Tm.cells) rfl HA.out (some ⟨w.heap.size + 1, 0, none⟩) 1 1 [.int .i64 t.kind, .string t.name, .int .i64 t.n, .string t.text, .int .i64 (-1), .int .i64 (-1)] rfl HR.out rfl (by simp [Value.oneCell']) (by omega) (by unfold maxLen; omega) HBS.out ?_; intro A6 c6 w6 hle6 hown6 hg6 hat6; have HE := Lib.hid (row_end (l := l) t .nil .nil HL.out rfl rfl HN1.out hown6 hg6 hat6); clear hown6 hg6 hat6 hle6)
        go_ret
        exact HE.out
      · have NY := Lib.hid ny
        clear ny
        have hle2 : (layF y l).1.length + 1 ≤ 1000 := hle
        go_wp2_with fail
        rw [← hw1]
        have HW1 := Lib.hid hw1
        clear hw1
        refine (CY.out l v w1 NY.out B1.out O1.out (by omega)).mono ?_
        rintro e w2 ⟨v2, rfl, hl2, ho2⟩
        obtain ⟨A2, d2, rfl, hd2⟩ := own_shape ho2
        obtain ⟨k3, l3, o3, n3, k2, hz2', b2, b3, l2⟩ := row_step 5 (.int .i64 (((layF y l).1.length : Int) - 1)) L1.out K1.out N1.out hl2 ho2 HB.out HO.out
        have L3 := Lib.hid l3
        have O3 := Lib.hid o3
        have B3 := Lib.hid b3
        have f5 : w2.frozen? ⟨w.heap.size, 5, none⟩ = false := k2.frozen 5
        have e0 : w2.cell? ⟨w.heap.size, 0, none⟩ = some (.int .i64 t.kind) := k2.cell 0
        have e1 : w2.cell? ⟨w.heap.size, 1, none⟩ = some (.string t.name) := k2.cell 1
        have e2 : w2.cell? ⟨w.heap.size, 2, none⟩ = some (.int .i64 t.n) := k2.cell 2
        have e3 : w2.cell? ⟨w.heap.size, 3, none⟩ = some (.string t.text) := k2.cell 3
        have e4 : w2.cell? ⟨w.heap.size, 4, none⟩ = some (.int .i64 (-1)) := k2.cell 4
        have e5 : w2.cell? ⟨w.heap.size, 5, none⟩ = some (.int .i64 (-1)) := k2.cell 5
        have HKY := Lib.hid (lay_last y l NY.out)
        clear k3 l3 o3 n3 k2 b2 b3 l2 hl2 ho2 c0 c1 c2 c3 c4 c5 c6 c7
        have HA : Hid (Own ((w2.setCell ⟨w.heap.size, 5, none⟩ (.int .i64 (((layF y l).1.length : Int) - 1))).alloc (.cells #[.int .i64 t.kind, .string t.name, .int .i64 t.n, .string t.text, .int .i64 (-1), .int .i64 (((layF y l).1.length : Int) - 1)] 51)) w0.heap.size (.slice A2 (layF y l).1.length d2) (layF y l).1) := Lib.hid (O3.out.alloc _)
        have HR := Lib.hid (blk_next (w := w2.setCell ⟨w.heap.size, 5, none⟩ (.int .i64 (((layF y l).1.length : Int) - 1))) (n := w2.heap.size) (by simp) #[.int .i64 t.kind, .string t.name, .int .i64 t.n, .string t.text, .int .i64 (-1), .int .i64 (((layF y l).1.length : Int) - 1)] 51).rd
        have HL : Hid (Lay w v ((w2.setCell ⟨w.heap.size, 5, none⟩ (.int .i64 (((layF y l).1.length : Int) - 1))).alloc (.cells #[.int .i64 t.kind, .string t.name, .int .i64 t.n, .string t.text, .int .i64 (-1), .int .i64 (((layF y l).1.length : Int) - 1)] 51)) (.slice A2 (layF y l).1.length d2)) := Lib.hid (L3.out.alloc _)
        have HBS : Hid (w0.heap.size ≤ ((w2.setCell ⟨w.heap.size, 5, none⟩ (.int .i64 (((layF y l).1.length : Int) - 1))).alloc (.cells #[.int .i64 t.kind, .string t.name, .int .i64 t.n, .string t.text, .int .i64 (-1), .int .i64 (((layF y l).1.length : Int) - 1)] 51)).heap.size) := Lib.hid (by have := B3.out.size; simp at this ⊢; omega)
        have HN1 : Hid ((layF y l).1.length = (layF y (layF .nil l).1).1.length) := Lib.hid rfl
        go_wp2_with (at_builtin; refine wpList_app _ rfl _ _ _ rfl w0.heap.size 51 i0 _ 6 64 Tryz.underlying22 hi0 hz0 hz1 hz2 rfl (by omega) (.slice A2 (layF y l).1.length d2) (layF y l).1.length ((layF y l).1.flatMap Tm.cells) rfl HA.out (some ⟨w2.heap.size, 0, none⟩) 1 1 [.int .i64 t.kind, .string t.name, .int .i64 t.n, .string t.text, .int .i64 (-1), .int .i64 (((layF y l).1.length : Int) - 1)] rfl HR.out rfl (by simp [Value.oneCell']) (by omega) (by unfold maxLen; omega) HBS.out ?_; intro A6 c6 w6 hle6 hown6 hg6 hat6; have HE := Lib.hid (row_end (l := l) t .nil y HL.out rfl HKY.out.symm HN1.out hown6 hg6 hat6); clear hown6 hg6 hat6 hle6)
        go_ret
        exact HE.out
    · have NX := Lib.hid nx
      clear nx
      go_wp2_with fail
      rw [← hw1]
      have HW1 := Lib.hid hw1
      clear hw1
      refine (CX.out l v w1 NX.out B1.out O1.out (by omega)).mono ?_
      rintro e w2 ⟨v2, rfl, hl2, ho2⟩
      obtain ⟨A2, d2, rfl, hd2⟩ := own_shape ho2
      obtain ⟨k3, l3, o3, n3, k2, hz2', b2, b3, l2⟩ := row_step 4 (.int .i64 (((layF x l).1.length : Int) - 1)) L1.out K1.out N1.out hl2 ho2 HB.out HO.out
      have K3 : Hid (Blk (w2.setCell ⟨w.heap.size, 4, none⟩ (.int .i64 (((layF x l).1.length : Int) - 1))) w.heap.size #[.int .i64 t.kind, .string t.name, .int .i64 t.n, .string t.text, .int .i64 (((layF x l).1.length : Int) - 1), .int .i64 (-1)] 51) := Lib.hid (by simpa using k3)
      have L3 := Lib.hid l3
      have O3 := Lib.hid o3
      have N3 := Lib.hid n3
      have B3 := Lib.hid b3
      have HKX := Lib.hid (lay_last x l NX.out)
      have f4 : w2.frozen? ⟨w.heap.size, 4, none⟩ = false := k2.frozen 4
      have hc7 : w2.cell? ⟨b, 7, none⟩ = some (.pointer pr) := (HN.out.below b2).c7
      have e0 : w2.cell? ⟨w.heap.size, 0, none⟩ = some (.int .i64 t.kind) := k2.cell 0
      have e1 : w2.cell? ⟨w.heap.size, 1, none⟩ = some (.string t.name) := k2.cell 1
      have e2 : w2.cell? ⟨w.heap.size, 2, none⟩ = some (.int .i64 t.n) := k2.cell 2
      have e3 : w2.cell? ⟨w.heap.size, 3, none⟩ = some (.string t.text) := k2.cell 3
      have e4 : w2.cell? ⟨w.heap.size, 4, none⟩ = some (.int .i64 (-1)) := k2.cell 4
      have e5 : w2.cell? ⟨w.heap.size, 5, none⟩ = some (.int .i64 (-1)) := k2.cell 5
      clear k3 l3 o3 n3 k2 b2 b3 l2 hl2 ho2 c0 c1 c2 c3 c4 c5 c6 c7
      rcases ny with ⟨rfl, rfl⟩ | ⟨ny, bb, rfl⟩
      · have hle2 : (layF x l).1.length + 1 ≤ 1000 := hle
        have HA : Hid (Own ((w2.setCell ⟨w.heap.size, 4, none⟩ (.int .i64 (((layF x l).1.length : Int) - 1))).alloc (.cells #[.int .i64 t.kind, .string t.name, .int .i64 t.n, .string t.text, .int .i64 (((layF x l).1.length : Int) - 1), .int .i64 (-1)] 51)) w0.heap.size (.slice A2 (layF x l).1.length d2) (layF x l).1) := Lib.hid (O3.out.alloc _)
        have HR := Lib.hid (blk_next (w := w2.setCell ⟨w.heap.size, 4, none⟩ (.int .i64 (((layF x l).1.length : Int) - 1))) (n := w2.heap.size) (by simp) #[.int .i64 t.kind, .string t.name, .int .i64 t.n, .string t.text, .int .i64 (((layF x l).1.length : Int) - 1), .int .i64 (-1)] 51).rd
        have HL : Hid (Lay w v ((w2.setCell ⟨w.heap.size, 4, none⟩ (.int .i64 (((layF x l).1.length : Int) - 1))).alloc (.cells #[.int .i64 t.kind, .string t.name, .int .i64 t.n, .string t.text, .int .i64 (((layF x l).1.length : Int) - 1), .int .i64 (-1)] 51)) (.slice A2 (layF x l).1.length d2)) := Lib.hid (L3.out.alloc _)
        have HBS : Hid (w0.heap.size ≤ ((w2.setCell ⟨w.heap.size, 4, none⟩ (.int .i64 (((layF x l).1.length : Int) - 1))).alloc (.cells #[.int .i64 t.kind, .string t.name, .int .i64 t.n, .string t.text, .int .i64 (((layF x l).1.length : Int) - 1), .int .i64 (-1)] 51)).heap.size) := Lib.hid (by have := B3.out.size; simp at this ⊢; omega)
        have HN1 : Hid ((layF x l).1.length = (layF .nil (layF x l).1).1.length) := Lib.hid rfl
        go_wp2_with (at_builtin; refine wpList_app _ rfl _ _ _ rfl w0.heap.size 51 i0 _ 6 64 Tryz.underlying22 hi0 hz0 hz1 hz2 rfl (by omega) (.slice A2 (layF x l).1.length d2) (layF x l).1.length ((layF x l).1.flatMap Tm.cells) rfl HA.out (some ⟨w2.heap.size, 0, none⟩) 1 1 [.int .i64 t.kind, .string t.name, .int .i64 t.n, .string t.text, .int .i64 (((layF x l).1.length : Int) - 1), .int .i64 (-1)] rfl HR.out rfl (by simp [Value.oneCell']) (by omega) (by unfold maxLen; omega) HBS.out ?_; intro A6 c6 w6 hle6 hown6 hg6 hat6; have HE := Lib.hid (row_end (l := l) t x .nil HL.out HKX.out.symm rfl HN1.out hown6 hg6 hat6); clear hown6 hg6 hat6 hle6)
        go_ret
        exact HE.out
      · have NY := Lib.hid ny
        clear ny
        go_wp2_with fail
        refine (CY.out (layF x l).1 _ _ NY.out B3.out O3.out (by rw [lx.out]; omega)).mono ?_
        rintro e w4 ⟨v4, rfl, hl4, ho4⟩
        obtain ⟨A4, d4, rfl, hd4⟩ := own_shape ho4
        obtain ⟨k5, l5, o5, n5, k4, hz4', b4, b5, l4⟩ := row_step 5 (.int .i64 (((layF y (layF x l).1).1.length : Int) - 1)) L3.out K3.out N3.out hl4 ho4 HB.out HO.out
        have L5 := Lib.hid l5
        have O5 := Lib.hid o5
        have B5 := Lib.hid b5
        have HKY := Lib.hid (lay_last y (layF x l).1 NY.out)
        clear f4 hc7 e0 e1 e2 e3 e4 e5
        have f5 : w4.frozen? ⟨w.heap.size, 5, none⟩ = false := k4.frozen 5
        have e0 : w4.cell? ⟨w.heap.size, 0, none⟩ = some (.int .i64 t.kind) := k4.cell 0
        have e1 : w4.cell? ⟨w.heap.size, 1, none⟩ = some (.string t.name) := k4.cell 1
        have e2 : w4.cell? ⟨w.heap.size, 2, none⟩ = some (.int .i64 t.n) := k4.cell 2
        have e3 : w4.cell? ⟨w.heap.size, 3, none⟩ = some (.string t.text) := k4.cell 3
        have e4 : w4.cell? ⟨w.heap.size, 4, none⟩ = some (.int .i64 (((layF x l).1.length : Int) - 1)) := k4.cell 4
        have e5 : w4.cell? ⟨w.heap.size, 5, none⟩ = some (.int .i64 (-1)) := k4.cell 5
        clear k5 l5 o5 n5 k4 b4 b5 l4 hl4 ho4
        have HA : Hid (Own ((w4.setCell ⟨w.heap.size, 5, none⟩ (.int .i64 (((layF y (layF x l).1).1.length : Int) - 1))).alloc (.cells #[.int .i64 t.kind, .string t.name, .int .i64 t.n, .string t.text, .int .i64 (((layF x l).1.length : Int) - 1), .int .i64 (((layF y (layF x l).1).1.length : Int) - 1)] 51)) w0.heap.size (.slice A4 (layF y (layF x l).1).1.length d4) (layF y (layF x l).1).1) := Lib.hid (O5.out.alloc _)
        have HR := Lib.hid (blk_next (w := w4.setCell ⟨w.heap.size, 5, none⟩ (.int .i64 (((layF y (layF x l).1).1.length : Int) - 1))) (n := w4.heap.size) (by simp) #[.int .i64 t.kind, .string t.name, .int .i64 t.n, .string t.text, .int .i64 (((layF x l).1.length : Int) - 1), .int .i64 (((layF y (layF x l).1).1.length : Int) - 1)] 51).rd
        have HL : Hid (Lay w v ((w4.setCell ⟨w.heap.size, 5, none⟩ (.int .i64 (((layF y (layF x l).1).1.length : Int) - 1))).alloc (.cells #[.int .i64 t.kind, .string t.name, .int .i64 t.n, .string t.text, .int .i64 (((layF x l).1.length : Int) - 1), .int .i64 (((layF y (layF x l).1).1.length : Int) - 1)] 51)) (.slice A4 (layF y (layF x l).1).1.length d4)) := Lib.hid (L5.out.alloc _)
        have HBS : Hid (w0.heap.size ≤ ((w4.setCell ⟨w.heap.size, 5, none⟩ (.int .i64 (((layF y (layF x l).1).1.length : Int) - 1))).alloc (.cells #[.int .i64 t.kind, .string t.name, .int .i64 t.n, .string t.text, .int .i64 (((layF x l).1.length : Int) - 1), .int .i64 (((layF y (layF x l).1).1.length : Int) - 1)] 51)).heap.size) := Lib.hid (by have := B5.out.size; simp at this ⊢; omega)
        go_wp2_with (at_builtin; refine wpList_app _ rfl _ _ _ rfl w0.heap.size 51 i0 _ 6 64 Tryz.underlying22 hi0 hz0 hz1 hz2 rfl (by omega) (.slice A4 (layF y (layF x l).1).1.length d4) (layF y (layF x l).1).1.length ((layF y (layF x l).1).1.flatMap Tm.cells) rfl HA.out (some ⟨w4.heap.size, 0, none⟩) 1 1 [.int .i64 t.kind, .string t.name, .int .i64 t.n, .string t.text, .int .i64 (((layF x l).1.length : Int) - 1), .int .i64 (((layF y (layF x l).1).1.length : Int) - 1)] rfl HR.out rfl (by simp [Value.oneCell']) (by omega) (by unfold maxLen; omega) HBS.out ?_; intro A6 c6 w6 hle6 hown6 hg6 hat6; have HE := Lib.hid (row_end (l := l) t x y HL.out HKX.out.symm HKY.out.symm rfl hown6 hg6 hat6); clear hown6 hg6 hat6 hle6)
        go_ret
        exact HE.out
end Go.Proofs.YtbemdcbglpjmiaaGreatDoor
