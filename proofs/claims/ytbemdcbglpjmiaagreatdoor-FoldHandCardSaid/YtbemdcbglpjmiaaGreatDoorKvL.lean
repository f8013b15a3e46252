/- The fast evaluator: its tries are those of EvA. No program in sight. -/
import Derived.Test.YtbemdcbglpjmiaaGreatDoorKvA
namespace Go.Proofs.YtbemdcbglpjmiaaGreatDoor
open Go.RowKit
namespace Kv
open Ev
set_option linter.unusedVariables false

theorem get_eq {α : Type} : ∀ (t : T α) (k : Nat), get t k = t.get k
  | .nil, _ => rfl
  | .node v l r, 0 => rfl
  | .node v l r, k + 1 => by
    have h : get (.node v l r) (k + 1) = Nat.rec (motive := fun _ => Option α) (get l (k / 2)) (fun _ _ => get r (k / 2)) (k % 2) := rfl
    rw [h, T.get]
    rcases Nat.mod_two_eq_zero_or_one k with e | e <;> rw [e]
    · exact get_eq l _
    · exact get_eq r _
theorem set_eq {α : Type} (a : Option α) : ∀ (d : Nat) (t : T α) (k : Nat), set a d t k = T.set d t k a
  | 0, _, _ => rfl
  | d + 1, .nil, 0 => rfl
  | d + 1, .node v l r, 0 => rfl
  | d + 1, .nil, k + 1 => by
    have h : set a (d + 1) .nil (k + 1) = Nat.rec (motive := fun _ => T α) (.node none (set a d .nil (k / 2)) .nil) (fun _ _ => .node none .nil (set a d .nil (k / 2))) (k % 2) := rfl
    rw [h, T.set]
    rcases Nat.mod_two_eq_zero_or_one k with e | e <;> rw [e]
    · exact congrArg (T.node none · .nil) (set_eq a d _ _)
    · exact congrArg (T.node none .nil ·) (set_eq a d _ _)
  | d + 1, .node v l r, k + 1 => by
    have h : set a (d + 1) (.node v l r) (k + 1) = Nat.rec (motive := fun _ => T α) (.node v (set a d l (k / 2)) r) (fun _ _ => .node v l (set a d r (k / 2))) (k % 2) := rfl
    rw [h, T.set]
    rcases Nat.mod_two_eq_zero_or_one k with e | e <;> rw [e]
    · exact congrArg (T.node v · r) (set_eq a d _ _)
    · exact congrArg (T.node v l ·) (set_eq a d _ _)
theorem put_eq {α : Type} (t : T α) (k : Nat) (a : Option α) : put t k a = t.put k a := set_eq a _ t k
theorem fill_eq {α : Type} : ∀ (l : List α) (t : T α) (k : Nat), fill l t k = t.fill k l
  | [], _, _ => rfl
  | a :: l, t, k => by
    have h : fill (a :: l) t k = fill l (put t k (some a)) (k + 1) := rfl
    rw [h, fill_eq l, put_eq, T.fill]
theorem take_eq {α : Type} (t : T α) : ∀ (n k : Nat), take t n k = t.take k n
  | 0, _ => rfl
  | n + 1, k => by
    have h : take t (n + 1) k = Option.rec (motive := fun _ => Option (List α)) none (fun a => consO a (take t n (k + 1))) (get t k) := rfl
    rw [h, T.take, get_eq, take_eq t n]
    cases t.get k with
    | none => rfl
    | some a => cases t.take (k + 1) n <;> rfl
theorem ofList_eq {α : Type} (l : List α) : ofList l = T.ofList l := fill_eq l _ _
theorem pathF_zero (d : Nat) : pathF (d + 1) 0 = .e := rfl
theorem pathF_succ (d k : Nat) : pathF (d + 1) (k + 1) = Nat.rec (motive := fun _ => Path) (.o (pathF d (k / 2))) (fun _ _ => .i (pathF d (k / 2))) (k % 2) := rfl
theorem getP_pathF : ∀ (d k : Nat) (F : Fr), k < d → getP (pathF d k) F = (F.get k).getD .undef
  | 0, _, _, h => by omega
  | d + 1, 0, F, _ => by
    rw [pathF_zero]
    cases F with
    | nil => rfl
    | node v l r => cases v <;> rfl
  | d + 1, k + 1, F, h => by
    have hk : k / 2 < d := by omega
    rw [pathF_succ]
    rcases Nat.mod_two_eq_zero_or_one k with e | e <;> rw [e]
    · cases F with
      | nil => rfl
      | node v l r =>
        rw [T.get, e]
        exact getP_pathF d _ l hk
    · cases F with
      | nil => rfl
      | node v l r =>
        rw [T.get, e]
        exact getP_pathF d _ r hk
theorem putP_pathF (a : V) : ∀ (d k : Nat) (F : Fr), putP a (pathF (d + 1) k) F = T.set (d + 1) F k (some a) ∨ d < k
  | 0, 0, F => .inl (by cases F <;> rfl)
  | 0, k + 1, F => .inr (by omega)
  | d + 1, 0, F => .inl (by cases F <;> rfl)
  | d + 1, k + 1, F => by
    rw [pathF_succ]
    by_cases hd : d + 1 < k + 1
    · exact .inr hd
    refine .inl ?_
    rcases Nat.mod_two_eq_zero_or_one k with e | e <;> rw [e]
    · cases F with
      | nil =>
        have h := (putP_pathF a d (k / 2) .nil).resolve_right (by omega)
        rw [T.set, e]
        exact congrArg (T.node none · .nil) h
      | node v l r =>
        have h := (putP_pathF a d (k / 2) l).resolve_right (by omega)
        rw [T.set, e]
        exact congrArg (T.node v · r) h
    · cases F with
      | nil =>
        have h := (putP_pathF a d (k / 2) .nil).resolve_right (by omega)
        rw [T.set, e]
        exact congrArg (T.node none .nil ·) h
      | node v l r =>
        have h := (putP_pathF a d (k / 2) r).resolve_right (by omega)
        rw [T.set, e]
        exact congrArg (T.node v l ·) h
theorem getP_path (k : Nat) (F : Fr) : getP (path k) F = (F.get k).getD .undef := getP_pathF _ _ _ (by omega)
theorem putP_path (a : V) (k : Nat) (F : Fr) : putP a (path k) F = F.put k (some a) := (putP_pathF a k k F).resolve_right (by omega)
end Kv
end Go.Proofs.YtbemdcbglpjmiaaGreatDoor
