/- The instructions of a tree, plain: by a walk that goes on where a name is missing (emit.Term), and by one that stops there (reparteeref30.Pushes). -/
import Derived.Test.YtngfeflemblljaaGreatDoorTmF
namespace Go.Proofs.YtngfeflemblljaaGreatDoor
open Go.RowKit

/-- The place of the first name that is s. -/
def idxF (names : List ByteArray) (s : ByteArray) : Option Nat := names.findIdx? (fun x => x.toList == s.toList)
/-- An instruction's cells. -/
def insC (op a n : Int) (s : ByteArray) : List Value := [.int .i64 op, .int .i64 a, .int .i64 0, .int .i64 n, .string s, .string ⟨#[]⟩, .slice none 0 0, .slice none 0 0, .slice none 0 0]
structure In where
  op : Int
  a : Int
  n : Int
  s : ByteArray
def In.cells (i : In) : List Value := insC i.op i.a i.n i.s
def insF (names : List ByteArray) (regs : List Int) (t : Tm) : Option In :=
  if t.kind = 0 then (idxF names t.name).map fun i => ⟨5, regs.getD i 0, 0, ⟨#[]⟩⟩
  else if t.kind = 1 then some ⟨0, 0, t.n, ⟨#[]⟩⟩
  else if t.kind = 2 then some ⟨1, 0, t.n, ⟨#[]⟩⟩
  else if t.kind = 3 then some ⟨2, 0, 0, t.text⟩
  else if t.kind = 4 then some ⟨3, 0, 0, ⟨#[]⟩⟩
  else if t.kind = 5 then some ⟨4, 0, 0, ⟨#[]⟩⟩
  else some ⟨t.kind, 0, 0, ⟨#[]⟩⟩
section
variable (names : List ByteArray) (regs : List Int)
def emF : Tr → List In × Bool → List In × Bool
  | .nil, s => s
  | .node t x y, s => match insF names regs t with
    | none => ((emF y (emF x s)).1, false)
    | some c => ((emF y (emF x s)).1 ++ [c], (emF y (emF x s)).2)
def psF : Tr → List In → Option (List In)
  | .nil, o => some o
  | .node t x y, o => match psF x o with
    | none => none
    | some o1 => match psF y o1 with
      | none => none
      | some o2 => (insF names regs t).map fun c => o2 ++ [c]
theorem em_false : ∀ (x : Tr) (o : List In), (emF names regs x (o, false)).2 = false
  | .nil, o => rfl
  | .node t x y, o => by
    have h1 := em_false x o
    have h2 := em_false y (emF names regs x (o, false)).1
    have h3 : emF names regs x (o, false) = ((emF names regs x (o, false)).1, false) := Prod.ext rfl h1
    rw [emF]
    cases insF names regs t with
    | none => rfl
    | some c => simp only; rw [h3]; exact h2
/-- Both walks agree. -/
theorem em_ps : ∀ (x : Tr) (o : List In), (∀ o', psF names regs x o = some o' → emF names regs x (o, true) = (o', true)) ∧ (psF names regs x o = none → (emF names regs x (o, true)).2 = false)
  | .nil, o => ⟨fun o' h => (by cases h; rfl), fun h => (by cases h)⟩
  | .node t x y, o => by
    obtain ⟨a1, a2⟩ := em_ps x o
    rw [psF, emF]
    cases hx : psF names regs x o with
    | none =>
      have h1 : emF names regs x (o, true) = ((emF names regs x (o, true)).1, false) := Prod.ext rfl (a2 hx)
      have h2 := em_false names regs y (emF names regs x (o, true)).1
      refine ⟨fun o' h => (by cases h), fun _ => ?_⟩
      cases insF names regs t with
      | none => rfl
      | some c => simp only; rw [h1]; exact h2
    | some o1 =>
      obtain ⟨b1, b2⟩ := em_ps y o1
      rw [a1 o1 hx]
      cases hy : psF names regs y o1 with
      | none =>
        refine ⟨fun o' h => (by simp only at h; rw [hy] at h; cases h), fun _ => ?_⟩
        cases insF names regs t with
        | none => rfl
        | some c => exact b2 hy
      | some o2 =>
        simp only
        rw [hy, b1 o2 hy]
        cases insF names regs t with
        | none => exact ⟨fun o' h => (by cases h), fun _ => rfl⟩
        | some c => exact ⟨fun o' h => (by cases h; rfl), fun h => (by cases h)⟩
theorem em_len : ∀ (x : Tr) (s : List In × Bool), (emF names regs x s).1.length ≤ s.1.length + x.size
  | .nil, s => by simp [emF, Tr.size]
  | .node t x y, s => by
    have h1 := em_len x s
    have h2 := em_len y (emF names regs x s)
    rw [emF, Tr.size]
    cases insF names regs t with
    | none => simp only; omega
    | some c => simp only [List.length_append, List.length_singleton]; omega
theorem ps_len : ∀ (x : Tr) (o o' : List In), psF names regs x o = some o' → o'.length ≤ o.length + x.size
  | .nil, o, o', h => by cases h; simp [Tr.size]
  | .node t x y, o, o', h => by
    rw [psF] at h
    cases h1 : psF names regs x o with
    | none => rw [h1] at h; cases h
    | some o1 =>
      rw [h1] at h
      simp only at h
      cases h2 : psF names regs y o1 with
      | none => rw [h2] at h; cases h
      | some o2 =>
        rw [h2] at h
        simp only [Option.map_eq_some_iff] at h
        obtain ⟨c, _, rfl⟩ := h
        have g1 := ps_len x o o1 h1
        have g2 := ps_len y o1 o2 h2
        rw [Tr.size]
        simp
        omega
end
theorem in_cells (o : List In) : ∀ u ∈ o.flatMap In.cells, u.oneCell' = true := by
  intro u hu
  obtain ⟨i, _, h⟩ := List.mem_flatMap.1 hu
  simp only [In.cells, insC, List.mem_cons, List.not_mem_nil, or_false] at h
  rcases h with rfl | rfl | rfl | rfl | rfl | rfl | rfl | rfl | rfl <;> rfl
theorem in_len (o : List In) : (o.flatMap In.cells).length = o.length * 9 := by
  induction o with
  | nil => rfl
  | cons i o ih => rw [List.flatMap_cons, List.length_append, ih, List.length_cons]; simp [In.cells, insC]; omega
end Go.Proofs.YtngfeflemblljaaGreatDoor
