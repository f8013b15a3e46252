/- Folding, plain: what an operator answers on values, the literal of a value, the folded tree, the row of a tree; such a row is accepted. Trees in memory; contracts: fold.grow, (*fold.tree).plain, (*fold.tree).literal. -/
import Derived.Test.YtbemdcbglpjmiaaGreatDoorTmF
import Derived.Test.YtbemdcbglpjmiaaGreatDoorTmRow
import Derived.Deep.RegionHeld3
import Derived.Deep.DrawnRows
namespace Go.Proofs.YtbemdcbglpjmiaaGreatDoor
open Go.RowKit

/-- A value. -/
structure Vl where
  kind : Int
  n : Int
  s : ByteArray
  l : List Int
def e0 : ByteArray := ⟨#[]⟩
def bI (b : Bool) : Int := if b then 1 else 0
def tru (b : Bool) : Vl := ⟨2, bI b, e0, []⟩
def numL (n : Int) : Vl := ⟨1, n, e0, []⟩
/-- What a literal tells. -/
def litV (t : Tm) : Vl := if t.kind = 1 then numL t.n else if t.kind = 2 then tru (decide (t.n = 1)) else if t.kind = 3 then ⟨3, 0, t.text, []⟩ else if t.kind = 4 then ⟨4, 0, e0, []⟩ else ⟨0, 0, e0, []⟩
def oneV (k : Int) (a : Vl) : Option Vl :=
  if k = 15 then (if a.kind = 2 then some (tru (decide (a.n = 0))) else none)
  else if a.kind = 3 then some (numL a.s.size) else if a.kind = 4 then some (numL a.l.length) else none
def numV (k a b : Int) : Option Vl :=
  if k = 6 then some (numL (wrap64 (a + b))) else if k = 7 then some (numL (wrap64 (a - b))) else if k = 8 then some (numL (wrap64 (a * b))) else if k = 12 then some (tru (decide (a < b)))
  else if b = 0 then none else if k = 9 then some (numL (wrap64 (a.tdiv b))) else some (numL (a.tmod b))
def twoV (k : Int) (a b : Vl) : Option Vl :=
  if k = 11 then (if a.kind = b.kind ∧ a.kind ≠ 5 then some (tru (decide (a.n = b.n ∧ a.s = b.s ∧ a.l = b.l))) else none)
  else if k = 13 ∨ k = 14 then (if a.kind = 2 ∧ b.kind = 2 then some (tru (decide (a.n + b.n = 2) || decide (k = 14) && decide (a.n + b.n = 1))) else none)
  else if k = 19 then (if a.kind = 3 ∧ b.kind = 3 then (if 24 < a.s.size + b.s.size then none else some ⟨3, 0, a.s ++ b.s, []⟩) else none)
  else if k = 17 then (if a.kind = 4 ∧ b.kind = 1 then (if b.n < 0 ∨ (a.l.length : Int) ≤ b.n then none else some (numL (a.l.getD b.n.toNat 0))) else none)
  else if k = 18 then (if a.kind = 4 ∧ b.kind = 1 then (if 16 ≤ a.l.length then none else some ⟨4, 0, e0, a.l ++ [b.n]⟩) else none)
  else (if a.kind = 1 ∧ b.kind = 1 then numV k a.n b.n else none)
/-- The literal of a value. -/
def writV (v : Vl) : Option Tm :=
  if v.kind = 1 then some ⟨1, e0, v.n, e0, -1, -1⟩ else if v.kind = 2 then some ⟨2, e0, v.n, e0, -1, -1⟩ else if v.kind = 3 then some ⟨3, e0, 0, v.s, -1, -1⟩
  else if v.kind = 4 ∧ v.l = [] then some ⟨4, e0, 0, e0, -1, -1⟩ else none
def isLit (t : Tm) : Bool := decide (1 ≤ t.kind) && decide (t.kind ≤ 5)
def Tr.lit : Tr → Bool
  | .nil => true
  | .node t _ _ => isLit t
/-- What an operator answers on folded operands, as a literal. -/
def opT (t : Tm) : Tr → Tr → Option Tm
  | .nil, _ => none
  | .node a _ _, .nil => if isLit a then (oneV t.kind (litV a)).bind writV else none
  | .node a _ _, .node b _ _ => if isLit a && isLit b then (twoV t.kind (litV a) (litV b)).bind writV else none
def foldN (t : Tm) (x y : Tr) : Tr := match opT t x y with
  | some u => .node u .nil .nil
  | none => .node t x y
def foldF : Tr → Tr
  | .nil => .nil
  | .node t x y => foldN t (foldF x) (foldF y)
/-- A term with other operands. -/
def Tm.at_ (t : Tm) (a b : Int) : Tm := ⟨t.kind, t.name, t.n, t.text, a, b⟩
/-- The row of a tree, behind other terms; its root's place. -/
def layF : Tr → List Tm → List Tm × Int
  | .nil, l => (l, -1)
  | .node t x y, l => ((layF y (layF x l).1).1 ++ [t.at_ (layF x l).2 (layF y (layF x l).1).2], (layF y (layF x l).1).1.length)
theorem lay_len : ∀ (x : Tr) (l : List Tm), (layF x l).1.length = l.length + x.size
  | .nil, l => by simp [layF, Tr.size]
  | .node t x y, l => by
    rw [layF, Tr.size]
    simp only [List.length_append, List.length_singleton]
    rw [lay_len y, lay_len x]
    omega
theorem lay_root (x : Tr) (l : List Tm) (h : x ≠ .nil) : (layF x l).2 = ((l.length + x.size - 1 : Nat) : Int) := by
  cases x with
  | nil => exact absurd rfl h
  | node t x y =>
    rw [layF, Tr.size]
    simp only
    rw [lay_len y, lay_len x]
    omega
theorem lay_prefix : ∀ (x : Tr) (l : List Tm), l <+: (layF x l).1
  | .nil, _ => List.prefix_refl _
  | .node _ x y, l => ((lay_prefix x l).trans (lay_prefix y _)).trans (List.prefix_append _ _)
theorem size_pos {x : Tr} (h : x ≠ .nil) : 1 ≤ x.size := by
  cases x with
  | nil => exact absurd rfl h
  | node => rw [Tr.size]; omega
theorem deep_size : ∀ x : Tr, x.deep ≤ x.size
  | .nil => Nat.le_refl _
  | .node _ x y => by
    have := deep_size x
    have := deep_size y
    rw [Tr.deep, Tr.size]; omega
theorem get_prefix {α : Type} {l m : List α} (h : l <+: m) {i : Nat} {a : α} (ha : l[i]? = some a) : m[i]? = some a := by
  obtain ⟨r, rfl⟩ := h
  have := (List.getElem?_eq_some_iff.1 ha).1
  rw [List.getElem?_append_left this]; exact ha
theorem fld_at (t : Tm) (a b : Int) : fldF (t.at_ a b) = fldF t := rfl
theorem kids0 {L : List Tm} {a : Nat} {u : Tm} (hg : L[a]? = some u) (ha : arF u.kind = 0) (hf : fldF u = true) (hl : u.l = -1) (hr : u.r = -1) : kidsF L a = some [] := by
  unfold kidsF
  rw [hg]
  simp [ha, hf, hl, hr]
theorem kids1 {L : List Tm} {a c : Nat} {u : Tm} (hg : L[a]? = some u) (ha : arF u.kind = 1) (hf : fldF u = true) (hl : u.l = (c : Int)) (hr : u.r = -1) (hc : c < a) : kidsF L a = some [c] := by
  unfold kidsF
  rw [hg]
  simp [ha, hf, hl, hr, hc]
theorem kids2 {L : List Tm} {a c d : Nat} {u : Tm} (hg : L[a]? = some u) (ha : arF u.kind = 2) (hf : fldF u = true) (hl : u.l = (c : Int)) (hr : u.r = (d : Int)) (hc : c < a) (hd : d < a) : kidsF L a = some [c, d] := by
  unfold kidsF
  rw [hg]
  simp [ha, hf, hl, hr, hc, hd]
theorem lay_nodes : ∀ (x : Tr) (l L : List Tm) (f d : Nat), x.Ok → x ≠ .nil → (layF x l).1 <+: L → x.deep ≤ f → d + x.deep ≤ 25 →
    ∃ ns, Tm.nodes (kidsF L) 24 f (l.length + x.size - 1) d = some ns ∧ ns.Nodup ∧ ∀ j ∈ ns, l.length ≤ j ∧ j < l.length + x.size
  | .nil, _, _, _, _, _, h, _, _, _ => absurd rfl h
  | .node t x y, l, L, f, d, hok, _, hp, hf, hd => by
    obtain ⟨h1, h2, hx, hy⟩ := hok
    have hdx := deep_size x
    rw [Tr.deep] at hf hd
    obtain ⟨f, rfl⟩ : ∃ g, f = g + 1 := ⟨f - 1, by omega⟩
    have hroot : l.length + (Tr.node t x y).size - 1 = (layF y (layF x l).1).1.length := by rw [Tr.size, lay_len y, lay_len x]; omega
    have hpy : (layF y (layF x l).1).1 <+: L := (List.prefix_append _ _).trans hp
    have hpx : (layF x l).1 <+: L := (lay_prefix y _).trans hpy
    have hget : L[(layF y (layF x l).1).1.length]? = some (t.at_ (layF x l).2 (layF y (layF x l).1).2) := get_prefix hp (by rw [layF]; simp)
    have hlx := lay_len x l
    have hly := lay_len y (layF x l).1
    rw [Tm.nodes, if_neg (by omega), hroot]
    have ha : arF (t.at_ (layF x l).2 (layF y (layF x l).1).2).kind = arF t.kind := rfl
    rcases h2 with ⟨a0, rfl, rfl⟩ | ⟨a1, hx0, rfl⟩ | ⟨a2, hx0, hy0⟩
    · have hk : kidsF L (layF .nil (layF .nil l).1).1.length = some [] := kids0 hget (ha.trans a0) h1 rfl rfl
      rw [hk]
      refine ⟨[(layF .nil (layF .nil l).1).1.length], rfl, by simp, fun j hj => ?_⟩
      simp at hj
      subst hj
      simp [layF, Tr.size]
    · have rx := lay_root x l hx0
      have sx := size_pos hx0
      have hk : kidsF L (layF .nil (layF x l).1).1.length = some [l.length + x.size - 1] := kids1 hget (ha.trans a1) h1 rx rfl (by simp [layF]; omega)
      rw [hk]
      obtain ⟨ns, g1, g2, g3⟩ := lay_nodes x l L f (d + 1) hx hx0 hpx (by omega) (by omega)
      refine ⟨(layF .nil (layF x l).1).1.length :: ns, by simp [g1], ?_, fun j hj => ?_⟩
      · refine List.nodup_cons.2 ⟨fun hj => ?_, g2⟩
        have := g3 _ hj
        simp [layF] at this
        omega
      · rw [Tr.size]
        rcases List.mem_cons.1 hj with rfl | hj
        · simp [layF, Tr.size]; omega
        · have := g3 _ hj; omega
    · have rx := lay_root x l hx0
      have ry := lay_root y (layF x l).1 hy0
      have sx := size_pos hx0
      have sy := size_pos hy0
      have hk : kidsF L (layF y (layF x l).1).1.length = some [l.length + x.size - 1, (layF x l).1.length + y.size - 1] := kids2 hget (ha.trans a2) h1 rx ry (by omega) (by omega)
      rw [hk]
      obtain ⟨ns, g1, g2, g3⟩ := lay_nodes x l L f (d + 1) hx hx0 hpx (by omega) (by omega)
      obtain ⟨ms, k1, k2, k3⟩ := lay_nodes y (layF x l).1 L f (d + 1) hy hy0 hpy (by omega) (by omega)
      refine ⟨(layF y (layF x l).1).1.length :: (ns ++ ms), by simp [g1, k1], ?_, fun j hj => ?_⟩
      · refine List.nodup_cons.2 ⟨fun hj => ?_, List.nodup_append.2 ⟨g2, k2, fun a ha b hb e => ?_⟩⟩
        · rcases List.mem_append.1 hj with hj | hj
          · have := g3 _ hj; omega
          · have := k3 _ hj; omega
        · have := g3 _ ha; have := k3 _ hb; omega
      · rw [Tr.size]
        rcases List.mem_cons.1 hj with rfl | hj
        · omega
        · rcases List.mem_append.1 hj with hj | hj
          · have := g3 _ hj; omega
          · have := k3 _ hj; omega
/-- The row of a tree is accepted. -/
theorem lay_may {x : Tr} (hok : x.Ok) (hx : x ≠ .nil) (hs : x.size ≤ 160) (hd : x.deep ≤ 24) : tmF (layF x []).1 (layF x []).2 = true := by
  have hr := lay_root x [] hx
  have hl := lay_len x []
  have sp := size_pos hx
  have ds := deep_size x
  simp only [List.length_nil, Nat.zero_add] at hr hl
  obtain ⟨ns, h1, h2, _⟩ := lay_nodes x [] (layF x []).1 (x.size - 1 + 1) 1 hok hx (List.prefix_refl _) (by omega) (by omega)
  unfold tmF
  rw [hr, Bool.and_eq_true, decide_eq_true_iff, Option.isSome_iff_exists]
  refine ⟨⟨by omega, by omega, by omega⟩, _, (Tm.walk_iff _ _ _ _ _).2 ⟨ns, ?_, h2, fun _ _ => rfl, rfl⟩⟩
  simpa using h1
end Go.Proofs.YtbemdcbglpjmiaaGreatDoor
namespace Go.Proofs.YtbemdcbglpjmiaaGreatDoor
open Go.RowKit

theorem below_push {w w' : World} (h : Below w.heap.size w w') (o : Obj) : Below w.heap.size w (w'.alloc o) := h.alloc h.size o
theorem cell_below {w w' : World} {b : Nat} (o : Nat) (hb : b < w.heap.size) (h : Below w.heap.size w w') : w'.cell? ⟨b, o, none⟩ = w.cell? ⟨b, o, none⟩ := by
  unfold World.cell?
  rw [h.block b hb]
/-- A node: a term and two pointers. -/
structure Nd (w : World) (b : Nat) (t : Tm) (p q : Option Addr) : Prop where
  lt : b < w.heap.size
  c0 : w.cell? ⟨b, 0, none⟩ = some (.int .i64 t.kind)
  c1 : w.cell? ⟨b, 1, none⟩ = some (.string t.name)
  c2 : w.cell? ⟨b, 2, none⟩ = some (.int .i64 t.n)
  c3 : w.cell? ⟨b, 3, none⟩ = some (.string t.text)
  c4 : w.cell? ⟨b, 4, none⟩ = some (.int .i64 t.l)
  c5 : w.cell? ⟨b, 5, none⟩ = some (.int .i64 t.r)
  c6 : w.cell? ⟨b, 6, none⟩ = some (.pointer p)
  c7 : w.cell? ⟨b, 7, none⟩ = some (.pointer q)
/-- The tree stands behind p, in blocks from base on. -/
def TreeAt (w : World) (base : Nat) : Tr → Option Addr → Prop
  | .nil, p => p = none
  | .node t x y, p => ∃ b l r, p = some ⟨b, 0, none⟩ ∧ base ≤ b ∧ Nd w b t l r ∧ TreeAt w base x l ∧ TreeAt w base y r
theorem Nd.below {w w' : World} {b : Nat} {t : Tm} {p q : Option Addr} (h : Nd w b t p q) (hb : Below w.heap.size w w') : Nd w' b t p q :=
  ⟨Nat.lt_of_lt_of_le h.lt hb.size, (cell_below 0 h.lt hb).trans h.c0, (cell_below 1 h.lt hb).trans h.c1, (cell_below 2 h.lt hb).trans h.c2, (cell_below 3 h.lt hb).trans h.c3, (cell_below 4 h.lt hb).trans h.c4, (cell_below 5 h.lt hb).trans h.c5,
    (cell_below 6 h.lt hb).trans h.c6, (cell_below 7 h.lt hb).trans h.c7⟩
theorem TreeAt.below {w w' : World} {base : Nat} (hb : Below w.heap.size w w') : ∀ {x : Tr} {p : Option Addr}, TreeAt w base x p → TreeAt w' base x p
  | .nil, _, h => h
  | .node _ _ _, _, ⟨b, l, r, h1, h2, h3, h4, h5⟩ => ⟨b, l, r, h1, h2, h3.below hb, TreeAt.below hb h4, TreeAt.below hb h5⟩
theorem TreeAt.mono {w : World} {base base' : Nat} (hb : base' ≤ base) : ∀ {x : Tr} {p : Option Addr}, TreeAt w base x p → TreeAt w base' x p
  | .nil, _, h => h
  | .node _ _ _, _, ⟨b, l, r, h1, h2, h3, h4, h5⟩ => ⟨b, l, r, h1, by omega, h3, TreeAt.mono hb h4, TreeAt.mono hb h5⟩
theorem cell_kb {S : Nat → Prop} {w w' : World} {b : Nat} (o : Nat) (hb : b < w.heap.size) (h : Kb S w w') (hs : ¬ S b) : w'.cell? ⟨b, o, none⟩ = w.cell? ⟨b, o, none⟩ := by
  unfold World.cell?
  rw [h.block b hb hs]
theorem Nd.kb {S : Nat → Prop} {w w' : World} {b : Nat} {t : Tm} {p q : Option Addr} (h : Nd w b t p q) (hb : Kb S w w') (hs : ¬ S b) : Nd w' b t p q :=
  ⟨Nat.lt_of_lt_of_le h.lt hb.size, (cell_kb 0 h.lt hb hs).trans h.c0, (cell_kb 1 h.lt hb hs).trans h.c1, (cell_kb 2 h.lt hb hs).trans h.c2, (cell_kb 3 h.lt hb hs).trans h.c3, (cell_kb 4 h.lt hb hs).trans h.c4, (cell_kb 5 h.lt hb hs).trans h.c5,
    (cell_kb 6 h.lt hb hs).trans h.c6, (cell_kb 7 h.lt hb hs).trans h.c7⟩
theorem TreeAt.kb {S : Nat → Prop} {w w' : World} {base : Nat} (hb : Kb S w w') (hs : ∀ i, base ≤ i → ¬ S i) : ∀ {x : Tr} {p : Option Addr}, TreeAt w base x p → TreeAt w' base x p
  | .nil, _, h => h
  | .node _ _ _, _, ⟨b, l, r, h1, h2, h3, h4, h5⟩ => ⟨b, l, r, h1, h2, h3.kb hb (hs b h2), TreeAt.kb hb hs h4, TreeAt.kb hb hs h5⟩
/-- The cells of a node. -/
def Tm.node (t : Tm) (p q : Option Addr) : Array Value := #[.int .i64 t.kind, .string t.name, .int .i64 t.n, .string t.text, .int .i64 t.l, .int .i64 t.r, .pointer p, .pointer q]
theorem Nd.of {w : World} {b : Nat} {t : Tm} {p q : Option Addr} {ty : TypeId} (h : Blk w b (t.node p q) ty) : Nd w b t p q :=
  ⟨h.lt, h.cell 0, h.cell 1, h.cell 2, h.cell 3, h.cell 4, h.cell 5, h.cell 6, h.cell 7⟩
theorem TreeAt.new {w : World} {base : Nat} {x y : Tr} {p q : Option Addr} (t : Tm) (ty : TypeId) (hx : TreeAt w base x p) (hy : TreeAt w base y q) (hb : base ≤ w.heap.size) :
    TreeAt (w.alloc (.cells (t.node p q) ty)) base (.node t x y) (some ⟨w.heap.size, 0, none⟩) :=
  ⟨w.heap.size, p, q, rfl, hb, Nd.of (Blk.new w _ _), hx.below ((Below.refl _ w).alloc (Nat.le_refl _) _), hy.below ((Below.refl _ w).alloc (Nat.le_refl _) _)⟩
def GrPost (x : Tr) (w : World) (e : Ending) (w' : World) : Prop :=
  ∃ p, e = .returned (.pointer p) ∧ TreeAt w' w.heap.size x p ∧ Below w.heap.size w w'
set_option maxRecDepth 100000 in
set_option maxHeartbeats 8000000 in
theorem grow_any (l : List Tm) (A : Option Addr) (c : Nat) : ∀ (x : Tr) (k : Int) (w : World), Gr l k x → Tms w A l →
    Calls Tryz.prog 21 #[.slice A l.length c, .int .i64 k] w (GrPost x w) := by
  intro x
  induction x with
  | nil =>
    intro k w hg _
    have hg : k = -1 := hg
    subst hg
    go_enter Tryz.func21, Tryz.ntmps21
    go_wp2_with fail
    go_ret
    exact ⟨none, rfl, rfl, Below.refl _ _⟩
  | node t x y ihx ihy =>
    intro k w hg hT
    obtain ⟨h0, ht, hgx, hgy, _, _⟩ := hg
    obtain ⟨a, rfl⟩ : ∃ a : Nat, k = a := ⟨k.toNat, by omega⟩
    have ht : l[a]? = some t := by simpa using ht
    have hal : a < l.length := (List.getElem?_eq_some_iff.1 ht).1
    have CX := Lib.hid (fun w h => ihx t.l w hgx h)
    have CY := Lib.hid (fun w h => ihy t.r w hgy h)
    have HT := Lib.hid ht
    clear ihx ihy hgx hgy h0 ht
    obtain ⟨b, o, t', rfl, hb, ht', hc⟩ := hT.at_ hal
    obtain rfl : t' = t := Option.some.inj (ht'.symm.trans HT.out)
    obtain ⟨c0, c1, c2, c3, c4, c5⟩ := hc
    clear ht' hb
    have HTM := Lib.hid hT
    clear hT
    obtain ⟨W0, hW0⟩ : ∃ W0, W0 = w.alloc (.cells #[.int .i64 t'.kind, .string t'.name, .int .i64 t'.n, .string t'.text, .int .i64 t'.l, .int .i64 t'.r] 51) := ⟨_, rfl⟩
    have B0 : Hid (Below w.heap.size w W0) := Lib.hid (by rw [hW0]; exact (Below.refl _ w).alloc (Nat.le_refl _) _)
    have K0 : Hid (Blk W0 w.heap.size #[.int .i64 t'.kind, .string t'.name, .int .i64 t'.n, .string t'.text, .int .i64 t'.l, .int .i64 t'.r] 51) := Lib.hid (by rw [hW0]; exact Blk.new _ _ _)
    have keepS : ∀ W, Below W0.heap.size W0 W → Below W0.heap.size W0 W ∧ W.cell? ⟨w.heap.size, 0, none⟩ = some (.int .i64 t'.kind) ∧ W.cell? ⟨w.heap.size, 1, none⟩ = some (.string t'.name) ∧ W.cell? ⟨w.heap.size, 2, none⟩ = some (.int .i64 t'.n) ∧ W.cell? ⟨w.heap.size, 3, none⟩ = some (.string t'.text) ∧ W.cell? ⟨w.heap.size, 4, none⟩ = some (.int .i64 t'.l) ∧ W.cell? ⟨w.heap.size, 5, none⟩ = some (.int .i64 t'.r) := fun W hb =>
      have h := K0.out.belowS hb
      ⟨hb, h.cell 0, h.cell 1, h.cell 2, h.cell 3, h.cell 4, h.cell 5⟩
    have KS := Lib.hid keepS
    clear keepS
    go_enter Tryz.func21, Tryz.ntmps21
    go_wp2_with fail
    rw [← hW0]
    have HW0 := Lib.hid hW0
    clear hW0
    go_region_held3 (fun W => Below W0.heap.size W0 W ∧ W.cell? ⟨w.heap.size, 0, none⟩ = some (.int .i64 t'.kind) ∧ W.cell? ⟨w.heap.size, 1, none⟩ = some (.string t'.name) ∧ W.cell? ⟨w.heap.size, 2, none⟩ = some (.int .i64 t'.n) ∧ W.cell? ⟨w.heap.size, 3, none⟩ = some (.string t'.text) ∧ W.cell? ⟨w.heap.size, 4, none⟩ = some (.int .i64 t'.l) ∧ W.cell? ⟨w.heap.size, 5, none⟩ = some (.int .i64 t'.r))
      (first
        | (exact KS.out _ ((Below.refl _ _).drew))
        | (exact KS.out _ (below_next (And.left (by assumption)) (by assumption)))
        | (exact KS.out _ (below_push (And.left (by assumption)) _)))
      (first
        | (go_at_call 21; (with_reducible refine (CX.out _ ?_).mono ?_); exact HTM.out.below (below_next B0.out (And.left (by assumption))); rintro e w2 ⟨p, rfl, hx, hb2⟩)
        | (go_at_call 21; (with_reducible refine (CY.out _ ?_).mono ?_); exact HTM.out.below (below_next B0.out (And.left (by assumption))); rintro e w3 ⟨q, rfl, hy, hb3⟩))
    all_goals
      have BF := Lib.hid (below_next B0.out (And.left (show Below W0.heap.size W0 _ ∧ _ by assumption)))
      have TF := Lib.hid (TreeAt.new t' 100 ((hx.below hb3).mono (base' := w.heap.size) B0.out.size) (hy.mono (base' := w.heap.size) (Nat.le_trans B0.out.size hb2.size)) (Nat.le_trans B0.out.size (Nat.le_trans hb2.size hb3.size)))
      clear hx hy
      go_wp2_with fail
      go_ret
      exact ⟨_, rfl, TF.out, BF.out⟩
end Go.Proofs.YtbemdcbglpjmiaaGreatDoor
