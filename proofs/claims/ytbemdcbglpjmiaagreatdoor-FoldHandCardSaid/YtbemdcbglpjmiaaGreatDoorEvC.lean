/- An evaluator of closed calls: types, cells and rows. No program in sight. -/
import Derived.Test.YtbemdcbglpjmiaaGreatDoorEvB
namespace Go.Proofs.YtbemdcbglpjmiaaGreatDoor
open Go.RowKit
namespace Ev
set_option linter.unusedVariables false

def ofVal : Value → Option C
  | .int k n => some (.int k n)
  | .bool b => some (.bool b)
  | .string s => some (.str (bytes s))
  | .pointer none => some (.ptr none)
  | .slice none 0 0 => some .nsl
  | .map none => some (.map none)
  | .func (.func f) first cap => match first.toList, cap.toList with
    | [], [] => some (.fn f [])
    | _, _ => none
  | .nilFunc => some .nilfn
  | .nilIface => some .nilif
  | _ => none
def ofVals : List Value → Option (List C)
  | [] => some []
  | v :: l => match ofVal v with
    | none => none
    | some c => match ofVals l with
      | none => none
      | some r => some (c :: r)
def ofV : Value → Option P
  | .agg cs => match ofVals cs.toList with
    | some l => some (.agg l)
    | none => none
  | v => match ofVal v with
    | some c => some (.c c)
    | none => none
theorem ofVal_ok (m : M) {v : Value} {c : C} (h : ofVal v = some c) : CR m c v := by
  unfold ofVal at h
  split at h
  all_goals first
    | (cases h; done)
    | (cases h; first | rfl | exact ⟨_, rfl, rfl⟩)
    | (split at h
       · rename_i h1 h2
         cases h
         rw [show _ = (#[] : Array Value) from Array.toList_inj.1 h1, show _ = (#[] : Array Value) from Array.toList_inj.1 h2]
         exact ⟨#[], rfl, trivial⟩
       · cases h)
theorem ofVals_ok (m : M) : ∀ {l : List Value} {r : List C}, ofVals l = some r → All2 (CR m) r l
  | [], r, h => by cases h; trivial
  | v :: l, r, h => by
    rw [ofVals] at h
    split at h
    · cases h
    · rename_i c hc
      split at h
      · cases h
      · rename_i q hq
        cases h
        exact ⟨ofVal_ok m hc, ofVals_ok m hq⟩
theorem ofV_ok (m : M) {v : Value} {x : P} (h : ofV v = some x) : PR m x v := by
  unfold ofV at h
  split at h
  · split at h
    · rename_i hl; cases h; exact ⟨_, rfl, ofVals_ok m hl⟩
    · cases h
  · split at h
    · rename_i hc; cases h; exact ofVal_ok m hc
    · cases h

/-- The table that the evaluator looks types up in. -/
structure Tab (Pr : Program) (tt : T TypeInfo) : Prop where
  info : ∀ t i, tt.get t = some i → Pr.info? t = some i
section
variable (tt : T TypeInfo)
def under (t : Nat) : Option TypeDesc := match tt.get t with
  | some i => match i.desc with
    | .named _ u => match tt.get u with
      | some j => some j.desc
      | none => none
    | d => some d
  | none => none
def size (t : Nat) : Option Nat := match tt.get t with
  | some i => some i.size
  | none => none
def tbytes (t : Nat) : Option Nat := match tt.get t with
  | some i => some i.bytes
  | none => none
def zero (t : Nat) : Option P := match tt.get t with
  | some i => match i.zero with
    | some v => ofV v
    | none => none
  | none => none
def isAgg (t : Nat) : Option Bool := match under tt t with
  | some (.struct _) => some true
  | some (.array _ _) => some true
  | some _ => some false
  | none => none
end
section
variable {tt : T TypeInfo} {Pr : Program} (hT : Tab Pr tt) {w : World} {m : M}
include hT
theorem under_ok {t : Nat} {d : TypeDesc} (h : under tt t = some d) : Pr.underlying t = some d := by
  unfold under at h
  unfold Program.underlying
  split at h
  · rename_i i hi
    rw [hT.info _ _ hi]
    split at h
    · rename_i n u hd
      split at h
      · rename_i j hj
        injection h with h
        obtain ⟨⟩ := i
        simp only at hd
        subst hd
        simp [hT.info _ _ hj, h]
      · cases h
    · rename_i d' hn
      injection h with h
      obtain ⟨⟩ := i
      simp only at h hn
      subst h
      split
      · rename_i he
        injection he with he
        injection he with he
        subst he
        exact absurd rfl (hn _ _)
      · rename_i he
        injection he with he
        subst he
        rfl
      · rename_i he; cases he
  · cases h
theorem run_under {t : Nat} {d : TypeDesc} (h : under tt t = some d) : (underlying t).run Pr w = .ok d w := run_underlying (under_ok hT h) w
theorem run_size {t n : Nat} (h : size tt t = some n) : (sizeOf t).run Pr w = .ok n w := by
  unfold size at h
  split at h
  · rename_i i hi
    cases h
    simp [sizeOf, typeInfo, hT.info _ _ hi]
  · cases h
theorem run_zero {t : Nat} {x : P} (m : M) (h : zero tt t = some x) : ∃ v, (zeroValue t).run Pr w = .ok v w ∧ PR m x v := by
  unfold zero at h
  split at h
  · rename_i i hi
    split at h
    · rename_i v hv
      exact ⟨v, by simp [zeroValue, typeInfo, hT.info _ _ hi, hv], ofV_ok m h⟩
    · cases h
  · cases h
theorem run_isAgg {t : Nat} {b : Bool} (h : isAgg tt t = some b) : (Go.isAgg t).run Pr w = .ok b w := by
  unfold isAgg at h
  split at h
  · rename_i hu; cases h; simp [Go.isAgg, run_under hT hu]
  · rename_i hu; cases h; simp [Go.isAgg, run_under hT hu]
  · rename_i d hn1 hn2 hu
    cases h
    simp only [Go.isAgg, Sem.run_bind, run_under hT hu, Result.andThen_ok]
    first | done | rfl | simp
  · cases h
end

/-! ### Cells -/
def overA (cur : Array Value) (k : Nat) : List Value → Array Value
  | [] => cur
  | v :: vs => overA (cur.setIfInBounds k v) (k + 1) vs
theorem overA_size : ∀ (vs : List Value) (cur : Array Value) (k : Nat), (overA cur k vs).size = cur.size
  | [], _, _ => rfl
  | v :: vs, cur, k => by rw [overA, overA_size vs]; simp
theorem overA_get : ∀ (vs : List Value) (cur : Array Value) (k j : Nat), k + vs.length ≤ cur.size →
    (overA cur k vs)[j]? = if k ≤ j ∧ j < k + vs.length then vs[j - k]? else cur[j]?
  | [], cur, k, j, h => by simp [overA]; omega
  | v :: vs, cur, k, j, h => by
    simp only [List.length_cons] at h
    rw [overA, overA_get vs _ (k + 1) j (by simp; omega)]
    by_cases h1 : k + 1 ≤ j ∧ j < k + 1 + vs.length
    · rw [if_pos h1, if_pos (by simp; omega)]
      obtain ⟨d, rfl⟩ : ∃ d, j = k + 1 + d := ⟨j - (k + 1), by omega⟩
      rw [show k + 1 + d - (k + 1) = d by omega, show k + 1 + d - k = d + 1 by omega, List.getElem?_cons_succ]
    · rw [if_neg h1]
      by_cases h2 : j = k
      · subst h2; simp [show j < cur.size by omega]
      · rw [if_neg (by simp; omega), Array.getElem?_setIfInBounds_ne (by omega)]
section
variable {Pr : Program} {w : World} {b o : Nat} {cur : Array Value} {t : TypeId} {fr : Nat × Nat}
theorem add_eq (b o k : Nat) : (⟨b, o, none⟩ : Addr).add k = ⟨b, o + k, none⟩ := by
  unfold Addr.add
  split <;> simp_all
theorem cell_at (h : w.heap[b]? = some (.cells cur t fr)) : w.cell? ⟨b, o, none⟩ = cur[o]? := by simp [World.cell?, h]
theorem run_load1 {v : Value} (h : w.heap[b]? = some (.cells cur t fr)) (hv : cur[o]? = some v) : (Go.load ⟨b, o, none⟩).run Pr w = .ok v w := by
  simp [Go.load, Sem.run, cell_at h, hv]
theorem run_loadCellsFrom (h : w.heap[b]? = some (.cells cur t fr)) : ∀ (l : List Value) (i : Nat) (acc : Array Value), (∀ j, j < l.length → cur[o + i + j]? = l[j]?) →
    (loadCellsFrom ⟨b, o, none⟩ i l.length acc).run Pr w = .ok (acc ++ l.toArray) w
  | [], i, acc, _ => by simp [loadCellsFrom]
  | v :: l, i, acc, hl => by
    have h0 : cur[o + i]? = some v := by simpa using hl 0 (by simp)
    rw [List.length_cons, loadCellsFrom, add_eq, Sem.run_bind, run_load1 h h0, Result.andThen_ok,
      run_loadCellsFrom h l (i + 1) _ fun j hj => by simpa [Nat.add_assoc, Nat.add_comm 1] using hl (j + 1) (by simpa using hj)]
    simp
theorem run_loadCells (h : w.heap[b]? = some (.cells cur t fr)) (l : List Value) (hl : ∀ j, j < l.length → cur[o + j]? = l[j]?) :
    (loadCells ⟨b, o, none⟩ l.length).run Pr w = .ok l.toArray w := by
  rw [loadCells, run_loadCellsFrom h l 0 #[] (by simpa using hl)]
  simp
theorem setB_self {ob : Obj} (h : w.heap[b]? = some ob) : setB w b ob = w := by
  have : w.heap.setIfInBounds b ob = w.heap := by
    apply Array.ext_getElem?
    intro i
    by_cases hi : i = b
    · subst hi
      have : i < w.heap.size := by
        rcases Nat.lt_or_ge i w.heap.size with h1 | h1
        · exact h1
        · rw [Array.getElem?_eq_none h1] at h; cases h
      have h2 := (Array.getElem?_eq_some_iff.1 h).2
      simp [this, h2]
    · rw [Array.getElem?_setIfInBounds_ne (Ne.symm hi)]
  simp [setB, this]
theorem setB_setB (o1 o2 : Obj) : setB (setB w b o1) b o2 = setB w b o2 := by simp [setB]
theorem setCell_eq (h : w.heap[b]? = some (.cells cur t fr)) (v : Value) : w.setCell ⟨b, o, none⟩ v = setB w b (.cells (cur.setIfInBounds o v) t fr) := by
  have hb : b < w.heap.size := by
    rcases Nat.lt_or_ge b w.heap.size with h1 | h1
    · exact h1
    · rw [Array.getElem?_eq_none h1] at h; cases h
  have h2 := (Array.getElem?_eq_some_iff.1 h).2
  simp only [World.setCell, setB]
  congr 1
  apply Array.ext_getElem?
  intro i
  rw [Array.getElem?_modify]
  by_cases hi : b = i
  · subst hi; simp [hb, h2]
  · rw [Array.getElem?_setIfInBounds_ne hi, if_neg hi]
theorem run_store1 {v : Value} (h : w.heap[b]? = some (.cells cur t fr)) (ho : o < cur.size) (hf : ¬ (fr.1 ≤ o ∧ o < fr.2)) (h1 : (∀ cs, v ≠ .agg cs) ∧ ∀ cs, v ≠ .tuple cs) :
    (Go.store ⟨b, o, none⟩ v).run Pr w = .ok () (setB w b (.cells (cur.setIfInBounds o v) t fr)) := by
  have hc : w.cell? ⟨b, o, none⟩ = some cur[o] := by rw [cell_at h]; simp [ho]
  have hfr : w.frozen? ⟨b, o, none⟩ = false := by
    simp [World.frozen?, h]
    omega
  unfold Go.store
  rw [← setCell_eq h]
  cases v with
  | agg cs => exact absurd rfl (h1.1 cs)
  | tuple cs => exact absurd rfl (h1.2 cs)
  | _ => simp only [Sem.run, hc, hfr, Bool.false_eq_true, if_false]
theorem run_storeCells : ∀ (vs : List Value) (i : Nat) (w : World) (cur : Array Value), w.heap[b]? = some (.cells cur t fr) → o + i + vs.length ≤ cur.size →
    (∀ j, j < cur.size → ¬ (fr.1 ≤ j ∧ j < fr.2)) → (∀ v ∈ vs, (∀ cs, v ≠ .agg cs) ∧ ∀ cs, v ≠ .tuple cs) →
    (storeCells ⟨b, o, none⟩ vs i).run Pr w = .ok () (setB w b (.cells (overA cur (o + i) vs) t fr))
  | [], i, w, cur, h, _, _, _ => by simp [storeCells, overA, setB_self h]
  | v :: vs, i, w, cur, h, hs, hf, h1 => by
    simp only [List.length_cons] at hs
    have hb : b < w.heap.size := by
      rcases Nat.lt_or_ge b w.heap.size with h1 | h1
      · exact h1
      · rw [Array.getElem?_eq_none h1] at h; cases h
    rw [storeCells, add_eq, Sem.run_bind, run_store1 h (by omega) (hf _ (by omega)) (h1 v (by simp)), Result.andThen_ok,
      run_storeCells vs (i + 1) _ _ (setB_same _ _ hb) (by simp; omega) (by simpa using hf) fun u hu => h1 u (by simp [hu]), setB_setB]
    simp [overA, Nat.add_assoc]
end

def St.cells (σ : St) (b o n : Nat) : Option (List C) := match σ.heap.get b with
  | some (.row _ k cs _) => if o + n ≤ k then cs.take o n else none
  | _ => none
def St.put (σ : St) (b o : Nat) (l : List C) : Option St := match σ.heap.get b with
  | some (.row t n cs u) => if 64 ≤ b ∧ o + l.length ≤ n then some ⟨σ.heap.put b (some (.row t n (cs.fill o l) u)), σ.next⟩ else none
  | _ => none
theorem all2_pick {m : M} {cs : T C} {n : Nat} {cur : Array Value} (h : ∀ j c, j < n → cs.get j = some c → ∃ v, cur[j]? = some v ∧ CR m c v) :
    ∀ (k o : Nat) (l : List C), o + k ≤ n → cs.take o k = some l → ∃ vs : List Value, vs.length = k ∧ (∀ j, j < vs.length → cur[o + j]? = vs[j]?) ∧ All2 (CR m) l vs
  | 0, o, l, _, ht => by cases ht; exact ⟨[], rfl, by simp, trivial⟩
  | k + 1, o, l, hk, ht => by
    rw [T.take] at ht
    split at ht
    · cases ht
    · rename_i a ha
      split at ht
      · cases ht
      · rename_i r hr
        cases ht
        obtain ⟨v, hv, hc⟩ := h o a (by omega) ha
        obtain ⟨vs, h1, h2, h3⟩ := all2_pick h k (o + 1) r (by omega) hr
        refine ⟨v :: vs, by simp [h1], fun j hj => ?_, hc, h3⟩
        cases j with
        | zero => simpa using hv
        | succ j => rw [List.getElem?_cons_succ, ← h2 j (by simpa using hj)]; congr 1; omega
section
variable {Pr : Program} {w0 w : World} {m : M} {σ σ' : St} {b o n : Nat} {l : List C} {r : Nat × Nat}
theorem HR.cells (h : HR w0 m σ w) (hc : σ.cells b o n = some l) (hr : m b = some r) :
    ∃ cur t fr vs, w.heap[r.1]? = some (.cells cur t fr) ∧ vs.length = n ∧ (∀ j, j < vs.length → cur[o + j]? = vs[j]?) ∧ All2 (CR m) l vs := by
  unfold St.cells at hc
  split at hc
  · rename_i t k cs u hb
    split at hc
    · rename_i hk
      obtain ⟨cur, ty, fr, h1, h2, h3, h4, h5⟩ := h.live b _ r hb hr
      obtain ⟨vs, g1, g2, g3⟩ := all2_pick h4 n o l hk hc
      exact ⟨cur, ty, fr, vs, h1, g1, g2, g3⟩
    · cases hc
  · cases hc
theorem HR.loadCells (h : HR w0 m σ w) (hc : σ.cells b o n = some l) (hr : m b = some r) :
    ∃ vs : List Value, (Go.loadCells ⟨r.1, o, none⟩ n).run Pr w = .ok vs.toArray w ∧ All2 (CR m) l vs := by
  obtain ⟨cur, t, fr, vs, h1, rfl, h3, h4⟩ := h.cells hc hr
  exact ⟨vs, run_loadCells h1 vs h3, h4⟩
theorem HR.load1 {x : C} (h : HR w0 m σ w) (hc : σ.cells b o 1 = some [x]) (hr : m b = some r) :
    ∃ v, (Go.load ⟨r.1, o, none⟩).run Pr w = .ok v w ∧ CR m x v := by
  obtain ⟨cur, t, fr, vs, h1, h2, h3, h4⟩ := h.cells hc hr
  match vs, h4 with
  | [v], ⟨h5, _⟩ => exact ⟨v, run_load1 h1 (by simpa using h3 0 (by simp)), h5⟩
theorem HR.put {vs : List Value} (h : HR w0 m σ w) (hp : σ.put b o l = some σ') (hr : m b = some r) (hv : All2 (CR m) l vs) :
    ∃ w', (storeCells ⟨r.1, o, none⟩ vs).run Pr w = .ok () w' ∧ HR w0 m σ' w' ∧ Gr m σ w m σ' w' := by
  unfold St.put at hp
  split at hp
  · rename_i t k cs u hb
    split at hp
    · rename_i hk
      have hk2 := hk.2
      cases hp
      obtain ⟨cur, ty, fr, h1, h2, h3, h4, h5⟩ := h.live b _ r hb hr
      have hlen := hv.length
      have hone : ∀ v ∈ vs, (∀ cs, v ≠ .agg cs) ∧ ∀ cs, v ≠ .tuple cs := by
        intro v hv'
        obtain ⟨i, hi⟩ := List.mem_iff_getElem?.1 hv'
        have : i < l.length := by
          rw [hlen]
          exact (List.getElem?_eq_some_iff.1 hi).1
        obtain ⟨v', h6, h7⟩ := hv.get (List.getElem?_eq_getElem this)
        rw [hi] at h6
        cases h6
        exact CR.one h7
      refine ⟨_, run_storeCells vs 0 w cur h1 (by omega) h2 hone, ?_, Gr.set h _ hb hr _⟩
      refine h.set hk.1 hb hr _ ⟨_, ty, fr, rfl, by rw [overA_size]; exact h2, by rw [overA_size]; exact h3, fun j c hj hc => ?_, by rw [overA_size]; exact h5⟩
      rw [overA_get _ _ _ _ (by omega)]
      rw [T.get_fill] at hc
      by_cases hin : o ≤ j ∧ j < o + l.length
      · rw [if_pos hin] at hc
        rw [if_pos (by omega)]
        exact hv.get hc
      · rw [if_neg hin] at hc
        rw [if_neg (by omega)]
        exact h4 j c hj hc
    · cases hp
  · cases hp
end
end Ev
end Go.Proofs.YtbemdcbglpjmiaaGreatDoor
