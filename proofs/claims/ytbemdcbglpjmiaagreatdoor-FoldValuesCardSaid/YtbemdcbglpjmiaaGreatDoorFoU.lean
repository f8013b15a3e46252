/- Folding, plain: the folded tree may be and tells the same; folding it again changes nothing; the tree of its row. -/
import Derived.Test.YtbemdcbglpjmiaaGreatDoorFoZ
namespace Go.Proofs.YtbemdcbglpjmiaaGreatDoor
open Go.RowKit

/-- A value is told by the literal that is written for it. -/
def Cn (v : Vl) : Prop := ∀ u, writV v = some u → litV u = v
theorem cn_num (n : Int) : Cn (numL n) := fun u h => by
  unfold writV at h
  simp [numL] at h
  subst h
  rfl
theorem cn_tru (b : Bool) : Cn (tru b) := fun u h => by
  unfold writV at h
  simp [tru] at h
  subst h
  cases b <;> simp [litV, tru, bI]
theorem cn_text (s : ByteArray) : Cn ⟨3, 0, s, []⟩ := fun u h => by
  unfold writV at h
  simp at h
  subst h
  simp [litV]
theorem cn_list (l : List Int) : Cn ⟨4, 0, e0, l⟩ := fun u h => by
  unfold writV at h
  simp at h
  obtain ⟨rfl, rfl⟩ := h
  simp [litV]
theorem numV_cn {k a b : Int} {v : Vl} (h : numV k a b = some v) : Cn v := by
  unfold numV at h
  repeat' split at h
  all_goals first
    | (cases h; done)
    | (cases h; first | exact cn_num _ | exact cn_tru _)
theorem oneV_cn {k : Int} {a v : Vl} (h : oneV k a = some v) : Cn v := by
  unfold oneV at h
  repeat' split at h
  all_goals first
    | (cases h; done)
    | (cases h; first | exact cn_num _ | exact cn_tru _)
theorem twoV_cn {k : Int} {a b v : Vl} (h : twoV k a b = some v) : Cn v := by
  unfold twoV at h
  repeat' split at h
  all_goals first
    | exact numV_cn h
    | (cases h; done)
    | (cases h; exact cn_num _)
    | (cases h; exact cn_tru _)
    | (cases h; exact cn_text _)
    | (cases h; exact cn_list _)
theorem e0_nil : e0.toList = [] := by rw [e0, Go.ByteArray.toList_eq]
theorem writ_ok {v : Vl} {u : Tm} (hv : VlOk v) (h : writV v = some u) : isLit u = true ∧ fldF u = true ∧ arF u.kind = 0 := by
  unfold writV at h
  split at h
  · cases h; exact ⟨rfl, by simp [fldF, e0_nil], rfl⟩
  · split at h
    · rename_i _ h2
      cases h
      refine ⟨rfl, ?_, rfl⟩
      have := hv.b h2
      simpa [fldF, e0_nil] using this
    · split at h
      · rename_i _ _ h3
        cases h
        refine ⟨rfl, ?_, rfl⟩
        have := hv.s h3
        simpa [fldF, e0_nil] using this
      · split at h
        · cases h; exact ⟨rfl, by simp [fldF, e0_nil], rfl⟩
        · cases h
theorem lit_ar {t : Tm} (h : isLit t = true) : arF t.kind = 0 := by
  unfold isLit at h
  simp at h
  unfold arF
  rw [if_neg (by omega), if_pos (by omega)]
theorem lit_vl {t : Tm} (hf : fldF t = true) : VlOk (litV t) := by
  unfold litV
  split
  · exact ok_num _
  · split
    · exact ok_tru _
    · split
      · rename_i _ _ h3
        refine ⟨fun q => by simp at q, fun _ => ?_, by simp⟩
        unfold fldF at hf
        rw [if_neg (by omega), if_neg (by omega), if_neg (by omega), if_pos h3] at hf
        simp at hf
        exact hf.2
      · split
        · exact ⟨fun q => by simp at q, fun _ => show (0 : Nat) ≤ 24 by decide, by simp⟩
        · exact ⟨fun q => by simp at q, fun _ => show (0 : Nat) ≤ 24 by decide, by simp⟩
theorem Tr.Ok.lit {a : Tm} {x y : Tr} (h : (Tr.node a x y).Ok) (hl : isLit a = true) : x = .nil ∧ y = .nil := by
  obtain ⟨_, h2, _, _⟩ := h
  have := lit_ar hl
  rcases h2 with ⟨_, hx, hy⟩ | ⟨h, _⟩ | ⟨h, _⟩
  · exact ⟨hx, hy⟩
  · omega
  · omega
/-- A node over literals. -/
theorem op_cases {t : Tm} {x y : Tr} {u : Tm} (hx : x.Ok) (hy : y.Ok) (h : opT t x y = some u) :
    ∃ a v, x = .node a .nil .nil ∧ isLit a = true ∧ fldF a = true ∧ writV v = some u ∧ Cn v ∧ VlOk v ∧
      (y = .nil ∧ oneV t.kind (litV a) = some v ∨ ∃ b, y = .node b .nil .nil ∧ isLit b = true ∧ fldF b = true ∧ twoV t.kind (litV a) (litV b) = some v) := by
  cases x with
  | nil => simp [opT] at h
  | node a xa ya =>
    cases y with
    | nil =>
      simp only [opT] at h
      split at h
      · rename_i ha
        obtain ⟨rfl, rfl⟩ := hx.lit ha
        cases hv : oneV t.kind (litV a) with
        | none => rw [hv] at h; cases h
        | some v =>
          rw [hv] at h
          exact ⟨a, v, rfl, ha, hx.1, h, oneV_cn hv, oneV_ok hv, .inl ⟨rfl, hv⟩⟩
      · cases h
    | node b xb yb =>
      simp only [opT] at h
      split at h
      · rename_i hab
        simp only [Bool.and_eq_true] at hab
        obtain ⟨ha, hb⟩ := hab
        obtain ⟨rfl, rfl⟩ := hx.lit ha
        obtain ⟨rfl, rfl⟩ := hy.lit hb
        cases hv : twoV t.kind (litV a) (litV b) with
        | none => rw [hv] at h; cases h
        | some v =>
          rw [hv] at h
          exact ⟨a, v, rfl, ha, hx.1, h, twoV_cn hv, twoV_ok hv, .inr ⟨b, rfl, hb, hy.1, hv⟩⟩
      · cases h
theorem foldN_some {t u : Tm} {x y : Tr} (h : opT t x y = some u) : foldN t x y = .node u .nil .nil := by unfold foldN; rw [h]
theorem foldN_none {t : Tm} {x y : Tr} (h : opT t x y = none) : foldN t x y = .node t x y := by unfold foldN; rw [h]
theorem fold_nil : ∀ {x : Tr}, foldF x = .nil ↔ x = .nil
  | .nil => by simp [foldF]
  | .node t x y => by
    rw [foldF]
    constructor
    · intro h
      unfold foldN at h
      split at h <;> cases h
    · intro h; cases h
theorem fold_ok : ∀ {x : Tr}, x.Ok → (foldF x).Ok ∧ (foldF x).size ≤ x.size ∧ (foldF x).deep ≤ x.deep
  | .nil, _ => ⟨trivial, Nat.le_refl _, Nat.le_refl _⟩
  | .node t x y, ⟨h1, h2, hx, hy⟩ => by
    obtain ⟨x1, x2, x3⟩ := fold_ok hx
    obtain ⟨y1, y2, y3⟩ := fold_ok hy
    rw [foldF]
    cases ho : opT t (foldF x) (foldF y) with
    | some u =>
      rw [foldN_some ho]
      obtain ⟨a, v, _, _, _, hw, _, hv, _⟩ := op_cases x1 y1 ho
      obtain ⟨w1, w2, w3⟩ := writ_ok hv hw
      refine ⟨⟨w2, .inl ⟨w3, rfl, rfl⟩, trivial, trivial⟩, ?_, ?_⟩
      · simp only [Tr.size]; omega
      · simp only [Tr.deep]; omega
    | none =>
      rw [foldN_none ho]
      refine ⟨⟨h1, ?_, x1, y1⟩, ?_, ?_⟩
      · rcases h2 with ⟨a, rfl, rfl⟩ | ⟨a, b, rfl⟩ | ⟨a, b, c⟩
        · exact .inl ⟨a, rfl, rfl⟩
        · exact .inr (.inl ⟨a, fun q => b (fold_nil.1 q), rfl⟩)
        · exact .inr (.inr ⟨a, fun q => b (fold_nil.1 q), fun q => c (fold_nil.1 q)⟩)
      · simp only [Tr.size]; omega
      · simp only [Tr.deep]; omega
/-- A folded tree tells the same. -/
theorem fold_ev {lf : Tm → Option Vl} (hl : ∀ t, isLit t = true → fldF t = true → lf t = some (litV t)) : ∀ {x : Tr}, x.Ok → evF lf (foldF x) = evF lf x
  | .nil, _ => rfl
  | .node t x y, ⟨h1, h2, hx, hy⟩ => by
    have ex := fold_ev hl hx
    have ey := fold_ev hl hy
    have x1 := (fold_ok hx).1
    have y1 := (fold_ok hy).1
    rw [foldF]
    cases ho : opT t (foldF x) (foldF y) with
    | none => rw [foldN_none ho, evF, evF, ex, ey]
    | some u =>
      rw [foldN_some ho]
      obtain ⟨a, v, fx, la, fa, hw, hc, hv, hor⟩ := op_cases x1 y1 ho
      obtain ⟨w1, w2, w3⟩ := writ_ok hv hw
      have e1 : evF lf (.node u .nil .nil) = some v := by rw [evF, if_pos w3, hl u w1 w2, hc u hw]
      have e2 : evF lf x = some (litV a) := by rw [← ex, fx, evF, if_pos (lit_ar la), hl a la fa]
      rw [e1, evF]
      have hx0 : x ≠ .nil := fun q => by rw [fold_nil.2 q] at fx; cases fx
      rcases hor with ⟨fy, ho1⟩ | ⟨b, fy, lb, fb, ho2⟩
      · have hy0 := fold_nil.1 fy
        have ha : arF t.kind = 1 := by
          rcases h2 with ⟨_, q, _⟩ | ⟨q, _⟩ | ⟨_, _, q⟩
          · exact absurd q hx0
          · exact q
          · exact absurd hy0 q
        rw [if_neg (by omega), e2]
        simp [ha, ho1]
      · have hy0 : y ≠ .nil := fun q => by rw [fold_nil.2 q] at fy; cases fy
        have ha : arF t.kind = 2 := by
          rcases h2 with ⟨_, q, _⟩ | ⟨_, _, q⟩ | ⟨q, _, _⟩
          · exact absurd q hx0
          · exact absurd q hy0
          · exact q
        have e3 : evF lf y = some (litV b) := by rw [← ey, fy, evF, if_pos (lit_ar lb), hl b lb fb]
        rw [if_neg (by omega), e2, e3]
        simp [ha, ho2]
/-- Nothing of it can be folded. -/
def Fd : Tr → Prop
  | .nil => True
  | .node t x y => opT t x y = none ∧ Fd x ∧ Fd y
theorem fold_fd : ∀ x : Tr, Fd (foldF x)
  | .nil => trivial
  | .node t x y => by
    rw [foldF]
    cases ho : opT t (foldF x) (foldF y) with
    | none => rw [foldN_none ho]; exact ⟨ho, fold_fd x, fold_fd y⟩
    | some u => rw [foldN_some ho]; exact ⟨rfl, trivial, trivial⟩
theorem fd_fold : ∀ {x : Tr}, Fd x → foldF x = x
  | .nil, _ => rfl
  | .node t x y, ⟨h, hx, hy⟩ => by rw [foldF, fd_fold hx, fd_fold hy, foldN_none h]
/-- The place of a tree's root, laid from n on. -/
def rootF : Tr → Nat → Int
  | .nil, _ => -1
  | .node _ x y, n => ((n + x.size + y.size : Nat) : Int)
/-- The tree that stands in its row. -/
def layT : Tr → Nat → Tr
  | .nil, _ => .nil
  | .node t x y, n => .node (t.at_ (rootF x n) (rootF y (n + x.size))) (layT x n) (layT y (n + x.size))
theorem lay_rootF (x : Tr) (l : List Tm) : (layF x l).2 = rootF x l.length := by
  cases x with
  | nil => rfl
  | node t x y =>
    rw [layF, rootF]
    simp only
    rw [lay_len y, lay_len x]
theorem rootF_lt (x : Tr) (n : Nat) : rootF x n < (n + x.size : Nat) := by
  cases x with
  | nil => simp [rootF]; omega
  | node t x y => rw [rootF, Tr.size]; omega
theorem lay_gr : ∀ (x : Tr) (l L : List Tm), (layF x l).1 <+: L → Gr L (layF x l).2 (layT x l.length)
  | .nil, _, _, _ => rfl
  | .node t x y, l, L, h => by
    have hpy : (layF y (layF x l).1).1 <+: L := (List.prefix_append _ _).trans h
    have hpx : (layF x l).1 <+: L := (lay_prefix y _).trans hpy
    have hget : L[(layF y (layF x l).1).1.length]? = some (t.at_ (layF x l).2 (layF y (layF x l).1).2) := get_prefix h (by rw [layF]; simp)
    have gx := lay_gr x l L hpx
    have gy := lay_gr y (layF x l).1 L hpy
    have hlx := lay_len x l
    have hly := lay_len y (layF x l).1
    have rx := lay_rootF x l
    have ry := lay_rootF y (layF x l).1
    have lx := rootF_lt x l.length
    have ly := rootF_lt y (l.length + x.size)
    rw [hlx] at gy ry
    rw [rx] at gx hget
    rw [ry] at gy hget
    rw [layF, layT]
    refine ⟨by simp, by simpa using hget, gx, gy, ?_, ?_⟩
    · show rootF x l.length < _
      simp only; omega
    · show rootF y (l.length + x.size) < _
      simp only; omega
theorem lay_ev {lf : Tm → Option Vl} (hl : ∀ t a b, lf (t.at_ a b) = lf t) : ∀ (x : Tr) (n : Nat), evF lf (layT x n) = evF lf x
  | .nil, _ => rfl
  | .node t x y, n => by
    rw [layT, evF, evF, lay_ev hl x, lay_ev hl y, hl]
    rfl
theorem layT_nil {x : Tr} {n : Nat} : layT x n = .nil ↔ x = .nil := by cases x <;> simp [layT]
theorem layT_ok : ∀ {x : Tr} {n : Nat}, x.Ok → (layT x n).Ok
  | .nil, _, _ => trivial
  | .node t x y, n, ⟨h1, h2, hx, hy⟩ => by
    refine ⟨h1, ?_, layT_ok hx, layT_ok hy⟩
    rcases h2 with ⟨a, rfl, rfl⟩ | ⟨a, b, rfl⟩ | ⟨a, b, c⟩
    · exact .inl ⟨a, rfl, rfl⟩
    · exact .inr (.inl ⟨a, fun q => b (layT_nil.1 q), rfl⟩)
    · exact .inr (.inr ⟨a, fun q => b (layT_nil.1 q), fun q => c (layT_nil.1 q)⟩)
theorem layT_fd : ∀ {x : Tr} {n : Nat}, Fd x → Fd (layT x n)
  | .nil, _, _ => trivial
  | .node t x y, n, ⟨h, hx, hy⟩ => by
    refine ⟨?_, layT_fd hx, layT_fd hy⟩
    rw [← h]
    cases x with
    | nil => rfl
    | node a xa ya => cases y with
      | nil => rfl
      | node b xb yb => rfl
theorem layT_lay : ∀ (x : Tr) (n : Nat) (l : List Tm), layF (layT x n) l = layF x l
  | .nil, _, _ => rfl
  | .node t x y, n, l => by
    rw [layT, layF, layF, layT_lay x, layT_lay y]
    rfl
theorem layT_size : ∀ (x : Tr) (n : Nat), (layT x n).size = x.size ∧ (layT x n).deep = x.deep
  | .nil, _ => ⟨rfl, rfl⟩
  | .node t x y, n => by
    have := layT_size x n
    have := layT_size y (n + x.size)
    simp only [layT, Tr.size, Tr.deep]
    omega
end Go.Proofs.YtbemdcbglpjmiaaGreatDoor
