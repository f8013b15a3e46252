/- Terms, plain: what term.May and reparteeref1.TermMay answer (one function, by the two roads of the law above), and the tree that an accepted root has. -/
import Derived.Test.YtbemdcbglpjmiaaGreatDoorNtName
import Derived.Test.YtbemdcbglpjmiaaGreatDoorTmLaw
namespace Go.Proofs.YtbemdcbglpjmiaaGreatDoor
open Go.RowKit

structure Tm where
  kind : Int
  name : ByteArray
  n : Int
  text : ByteArray
  l : Int
  r : Int
def Tm.cells (t : Tm) : List Value := [.int .i64 t.kind, .string t.name, .int .i64 t.n, .string t.text, .int .i64 t.l, .int .i64 t.r]
/-- How many operands a kind has; -1: it is none. -/
def arF (k : Int) : Int := if k < 0 ∨ 19 < k then -1 else if k ≤ 5 then 0 else if k = 15 ∨ k = 16 then 1 else 2
/-- May the other fields be? -/
def fldF (t : Tm) : Bool :=
  if t.kind = 0 then nameF t.name && decide (t.n = 0) && (t.text.toList == [])
  else if t.kind = 1 then (t.name.toList == []) && (t.text.toList == [])
  else if t.kind = 2 then (t.name.toList == []) && (t.text.toList == []) && (decide (t.n = 0) || decide (t.n = 1))
  else if t.kind = 3 then (t.name.toList == []) && decide (t.n = 0) && decide (t.text.size ≤ 24)
  else (t.name.toList == []) && decide (t.n = 0) && (t.text.toList == [])
/-- The operands of a place that may be. -/
def kidsF (l : List Tm) (a : Nat) : Option (List Nat) :=
  match l[a]? with
  | none => none
  | some t =>
    if arF t.kind < 0 ∨ fldF t = false then none
    else if arF t.kind = 0 then (if t.l = -1 ∧ t.r = -1 then some [] else none)
    else if arF t.kind = 1 then (if 0 ≤ t.l ∧ t.l < a ∧ t.r = -1 then some [t.l.toNat] else none)
    else (if 0 ≤ t.l ∧ t.l < a ∧ 0 ≤ t.r ∧ t.r < a then some [t.l.toNat, t.r.toNat] else none)
theorem kids_lt (l : List Tm) : ∀ a cs, kidsF l a = some cs → ∀ c ∈ cs, c < a := by
  intro a cs h c hc
  unfold kidsF at h
  split at h
  · cases h
  · repeat' split at h
    all_goals first
      | (cases h; done)
      | (cases h; simp at hc; done)
      | (cases h; simp at hc; omega)
/-- Is it a tree? (By the walk.) -/
def tmF (l : List Tm) (root : Int) : Bool :=
  decide (l.length ≤ 160 ∧ 0 ≤ root ∧ root < l.length) && (Tm.walk (kidsF l) 24 (root.toNat + 1) (fun _ => false) root.toNat 1).isSome
/-- By the sweep. -/
theorem tm_sweep (l : List Tm) (root : Int) : tmF l root = (decide (l.length ≤ 160 ∧ 0 ≤ root ∧ root < l.length) && Tm.sweep (kidsF l) 24 (root.toNat + 1) (fun j => if j = root.toNat then 1 else 0)) := by
  unfold tmF
  have := Tm.walk_sweep (M := 24) (kids_lt l) root.toNat (root.toNat + 1) (by omega)
  rw [Bool.eq_iff_iff]
  simp only [Bool.and_eq_true, Option.isSome_iff_exists, this]

inductive Tr where
  | nil
  | node (t : Tm) (x y : Tr)
namespace Tr
def size : Tr → Nat
  | .nil => 0
  | .node _ x y => x.size + y.size + 1
def deep : Tr → Nat
  | .nil => 0
  | .node _ x y => max x.deep y.deep + 1
/-- Its terms: the left operand's, the right one's, its own. -/
def post : Tr → List Tm
  | .nil => []
  | .node t x y => x.post ++ y.post ++ [t]
/-- Each node is of a kind, with so many operands. -/
def Ok : Tr → Prop
  | .nil => True
  | .node t x y => fldF t = true ∧ (arF t.kind = 0 ∧ x = .nil ∧ y = .nil ∨ arF t.kind = 1 ∧ x ≠ .nil ∧ y = .nil ∨ arF t.kind = 2 ∧ x ≠ .nil ∧ y ≠ .nil) ∧ x.Ok ∧ y.Ok
theorem post_len : ∀ x : Tr, x.post.length = x.size
  | .nil => rfl
  | .node t x y => by simp [post, size, post_len x, post_len y]; omega
end Tr
/-- The tree that stands at the place k. -/
def Gr (l : List Tm) : Int → Tr → Prop
  | k, .nil => k = -1
  | k, .node t x y => 0 ≤ k ∧ l[k.toNat]? = some t ∧ Gr l t.l x ∧ Gr l t.r y ∧ t.l < k ∧ t.r < k
theorem gr_nodes {l : List Tm} : ∀ (f : Nat) (a d : Nat) (ns : List Nat), Tm.nodes (kidsF l) 24 f a d = some ns → ∃ x, Gr l a x ∧ x ≠ .nil ∧ x.Ok ∧ x.size = ns.length ∧ x.deep + d ≤ 25
  | 0, a, d, ns, h => by cases h
  | f + 1, a, d, ns, h => by
    rw [Tm.nodes] at h
    split at h
    · cases h
    · rename_i hd
      split at h
      · cases h
      · rename_i cs hk
        simp only [Option.map_eq_some_iff] at h
        obtain ⟨ls, h1, rfl⟩ := h
        unfold kidsF at hk
        split at hk
        · cases hk
        · rename_i t ht
          split at hk
          · cases hk
          · rename_i hf
            have hf' : fldF t = true := by
              cases hq : fldF t with
              | true => rfl
              | false => exact absurd (.inr hq) hf
            split at hk
            · rename_i h0
              split at hk
              · rename_i hlr
                cases hk
                simp at h1
                subst h1
                refine ⟨.node t .nil .nil, ⟨by omega, by simpa using ht, hlr.1, hlr.2, by omega, by omega⟩, by simp, ⟨hf', .inl ⟨h0, rfl, rfl⟩, trivial, trivial⟩, by simp [Tr.size], by simp [Tr.deep]; omega⟩
              · cases hk
            · split at hk
              · rename_i h0
                split at hk
                · rename_i hlr
                  cases hk
                  rw [List.mapM_cons] at h1
                  simp only [bind, Option.bind_eq_some_iff, pure, Option.some.injEq, List.mapM_nil] at h1
                  obtain ⟨n1, g1, ls', rfl, rfl⟩ := h1
                  obtain ⟨x, k1, k2, k3, k4, k5⟩ := gr_nodes f _ _ _ g1
                  rw [show ((t.l.toNat : Nat) : Int) = t.l by omega] at k1
                  refine ⟨.node t x .nil, ⟨by omega, by simpa using ht, k1, hlr.2.2, by omega, by omega⟩, by simp, ⟨hf', .inr (.inl ⟨h0, k2, rfl⟩), k3, trivial⟩, by simp [Tr.size, k4], by simp [Tr.deep]; omega⟩
                · cases hk
              · rename_i hn0 hn1
                split at hk
                · rename_i hlr
                  cases hk
                  rw [List.mapM_cons] at h1
                  simp only [bind, Option.bind_eq_some_iff, pure, Option.some.injEq, List.mapM_cons, List.mapM_nil] at h1
                  obtain ⟨n1, g1, ls1, ⟨n2, g2, ls2, rfl, rfl⟩, rfl⟩ := h1
                  obtain ⟨x, k1, k2, k3, k4, k5⟩ := gr_nodes f _ _ _ g1
                  obtain ⟨y, j1, j2, j3, j4, j5⟩ := gr_nodes f _ _ _ g2
                  rw [show ((t.l.toNat : Nat) : Int) = t.l by omega] at k1
                  rw [show ((t.r.toNat : Nat) : Int) = t.r by omega] at j1
                  have h2 : arF t.kind = 2 := by
                    have hq : ¬ arF t.kind < 0 := fun e => hf (.inl e)
                    unfold arF at hq hn0 hn1 ⊢
                    repeat' split
                    all_goals simp_all
                  refine ⟨.node t x y, ⟨by omega, by simpa using ht, k1, j1, by omega, by omega⟩, by simp, ⟨hf', .inr (.inr ⟨h2, k2, j2⟩), k3, j3⟩, by simp [Tr.size, k4, j4], by simp [Tr.deep]; omega⟩
                · cases hk
/-- The tree of an accepted root. -/
theorem tm_tree {l : List Tm} {root : Int} (h : tmF l root = true) : ∃ x, Gr l root x ∧ x ≠ .nil ∧ x.Ok ∧ x.size ≤ l.length ∧ x.deep ≤ 24 := by
  unfold tmF at h
  rw [Bool.and_eq_true, decide_eq_true_iff, Option.isSome_iff_exists] at h
  obtain ⟨⟨h1, h2, h3⟩, r, hw⟩ := h
  obtain ⟨ns, g1, g2, _⟩ := (Tm.walk_iff _ _ _ _ _).1 hw
  obtain ⟨x, k1, k2, k3, k4, k5⟩ := gr_nodes _ _ _ _ g1
  rw [show ((root.toNat : Nat) : Int) = root by omega] at k1
  refine ⟨x, k1, k2, k3, ?_, by omega⟩
  rw [k4]
  have hle := (Tm.nodes_le (kids_lt l) _ _ _ _ g1).2
  have hsub : ns ⊆ List.range l.length := fun j hj => List.mem_range.2 (by have := hle j hj; omega)
  have := g2.length_le_of_subset hsub
  simpa using this
end Go.Proofs.YtbemdcbglpjmiaaGreatDoor
