/- How terms open that come in. (open_slice_fields began as the guide's text extra-structs.) -/
import Derived.Test.YtbemdcbglpjmiaaGreatDoorOpen
import Derived.Test.YtbemdcbglpjmiaaGreatDoorTmRow
import Derived.Test.YtbemdcbglpjmiaaGreatDoorFoE
import Derived.Lib.SmallJoins
import Derived.Deep.Fields
import Derived.Deep.Slices
import Derived.ChangeSame
namespace Go.Proofs.YtbemdcbglpjmiaaGreatDoor
open Go.Joins Go.ChangeShapes Go.WideShapes Go.RowKit Go.Deep

section
variable {H : Type} {enc : TypeId × Value → H} {P : Program} {w : World} {base : Nat} {spare : Nat → Bool} {held : Bool}
theorem open_slice_fields {t e : TypeId} {fs : Array Field} {fuel : Nat} {cs : List Value} {x : DataW H × List MemPlace} (ht : P.underlying t = some (.slice e)) (he : P.underlying e = some (.struct fs))
    (hone : oneCellFields P fs = true) (hC : P.cellsOf e = fs.size) (h : DataW.trod enc P w base spare held fuel t cs = some x) :
    (cs = [.slice none 0 0] ∧ x = (.nil, [])) ∨
    ∃ (a : Addr) (len cap m : Nat) (D : Nat → DataW H) (Pl : Nat → List MemPlace), cs = [.slice (some a) len cap] ∧ base ≤ a.block ∧ len ≤ cap ∧ cap ≤ maxLen ∧ m = (if spare a.block then cap else len) ∧
      x = (.slice ((List.range len).map D) ((List.range (m - len)).map fun j => D (len + j)), MemPlace.row a (m * fs.size) ++ (List.range m).flatMap Pl) ∧
      ∀ i, i < m → ∃ (ys : List (DataW H × List MemPlace)) (n : Nat), D i = .agg (ys.map (·.1)) ∧ Pl i = ys.flatMap (·.2) ∧ ys.length = fs.size ∧
        ∀ (j : Nat) (f : Field), fs[j]? = some f → ∃ (v : Value) (y : DataW H × List MemPlace), w.cell? (a.add (i * fs.size + j)) = some v ∧ ys[j]? = some y ∧ DataW.trod enc P w base spare held n f.type [v] = some y := by
  rcases open_slice ht h with h0 | ⟨a, len, cap, m, n, D, Pl, hcs, hb, hl, hm, hmm, hx, hi⟩
  · exact .inl h0
  · refine .inr ⟨a, len, cap, m, D, Pl, hcs, hb, hl, hm, hmm, by rw [hC] at hx; exact hx, fun i him => ?_⟩
    obtain ⟨cs', hc, ht'⟩ := hi i him
    rw [hC] at hc
    obtain ⟨ys, n', hn', hy, hlen, hyl, hf⟩ := DataW.trod_struct he ht'
    obtain ⟨_, hcl, hat⟩ := World.cells?_some hc
    simp only [Prod.mk.injEq] at hy
    refine ⟨ys, n', hy.1, hy.2, hyl, fun j f hj => ?_⟩
    obtain ⟨ho, hk⟩ := hone_of hone j f hj
    have hjl : j < fs.size := (Array.getElem?_eq_some_iff.1 hj).1
    have hcell := hat j hjl
    have hv : cs'[j]? = some (cs'[j]'(by omega)) := List.getElem?_eq_getElem (by omega)
    have h1 := hf j f hj
    rw [ho, hk] at h1
    have hone' : (cs'.drop j).take 1 = [cs'[j]'(by omega)] := by
      rw [List.drop_eq_getElem_cons (by omega)]
      rfl
    rw [hone'] at h1
    have hys : ys[j]? = some (ys[j]'(by omega)) := List.getElem?_eq_getElem (by omega)
    refine ⟨_, _, ?_, hys, h1.trans hys⟩
    rw [← Go.Deep.add_add, hcell, hv]

theorem int_view1 {t : TypeId} {v : Value} {fuel : Nat} {x : DataW H × List MemPlace} (ht : P.underlying t = some (.int .i64)) (hf : DataW.trod enc P w base spare held fuel t [v] = some x) :
    ∃ n : Int, v = .int .i64 n ∧ (Lit.int .i64 n).wf = true := by
  obtain ⟨n, h1, _, h3⟩ := DataW.trod_int ht hf
  simp at h1
  exact ⟨n, h1, h3⟩
theorem string_view1 {t : TypeId} {v : Value} {fuel : Nat} {x : DataW H × List MemPlace} (ht : P.underlying t = some .string) (hf : DataW.trod enc P w base spare held fuel t [v] = some x) :
    ∃ s : ByteArray, v = .string s ∧ s.size ≤ maxLen := by
  obtain ⟨s, h1, _, h3⟩ := DataW.trod_string ht hf
  simp at h1
  exact ⟨s, h1, h3⟩
theorem list_of {α : Type} (p : Nat → α → Prop) (n : Nat) (h : ∀ i, i < n → ∃ x, p i x) : ∃ l : List α, l.length = n ∧ ∀ i (hi : i < l.length), p i l[i] := by
  induction n with
  | zero => exact ⟨[], rfl, fun i hi => absurd hi (by simp)⟩
  | succ n ih =>
    obtain ⟨l, hl, hp⟩ := ih fun i hi => h i (by omega)
    obtain ⟨x, hx⟩ := h n (by omega)
    refine ⟨l ++ [x], by simp [hl], fun i hi => ?_⟩
    rcases Nat.lt_or_ge i l.length with h1 | h1
    · rw [List.getElem_append_left h1]; exact hp i h1
    · have : i = n := by simp at hi; omega
      subst this
      rw [List.getElem_append_right h1]
      simp [hl, hx]
theorem rd_tms {a : Addr} {l : List Tm} (h : ∀ i (hi : i < l.length) m (hm : m < 6), w.cell? (a.add (i * 6 + m)) = (l[i].cells)[m]?) : Tms w (some a) l := by
  refine rd_of_cells fun j u hu => ?_
  have hj : j < (l.flatMap Tm.cells).length := (List.getElem?_eq_some_iff.1 hu).1
  rw [flat_len _ 6 tm_len] at hj
  obtain ⟨q, m, rfl, hq, hm⟩ : ∃ q m, j = q * 6 + m ∧ q < l.length ∧ m < 6 := ⟨j / 6, j % 6, by omega, by omega, by omega⟩
  rw [h q hq m hm, ← flat_get Tm.cells 6 tm_len l q m hq hm, hu]
set_option maxRecDepth 100000 in
theorem tms_view {r : Reach} {b0 : Nat} {v : Value} {d : DataW H} {p : List MemPlace} (hv : Value.okWide Tryz.prog w r b0 22 v) (h : DataW.Trod enc Tryz.prog w base spare held 22 v d p) :
    ∃ (A : Option Addr) (l : List Tm) (c : Nat), v = .slice A l.length c ∧ l.length ≤ c ∧ c ≤ maxLen ∧ Tms w A l := by
  obtain ⟨a0, len, cap, rfl⟩ := okWide_slice Tryz.underlying22 hv
  obtain ⟨fuel, hf⟩ := h
  rcases open_slice_fields Tryz.underlying22 Tryz.underlying51 (by kernel_rfl) (by kernel_rfl) hf with ⟨hcs, _⟩ | ⟨x, l, c, m, D, Pl, hcs, _, hl, hm, hmm, _, hi⟩
  · simp [Value.cells] at hcs
    obtain ⟨rfl, rfl, rfl⟩ := hcs
    exact ⟨none, [], 0, rfl, Nat.le_refl _, Nat.zero_le _, Rd.nil⟩
  · simp [Value.cells] at hcs
    obtain ⟨rfl, rfl, rfl⟩ := hcs
    have hle : len ≤ m := by rw [hmm]; split <;> omega
    obtain ⟨L, hL, hp⟩ := list_of (fun i (y : Tm) => ∀ m (hm : m < 6), w.cell? (x.add (i * 6 + m)) = (y.cells)[m]?) len (fun i hil => by
      obtain ⟨ys, n, _, _, _, hg⟩ := hi i (by omega)
      obtain ⟨v0, y0, c0, _, t0⟩ := hg 0 _ rfl
      obtain ⟨v1, y1, c1, _, t1⟩ := hg 1 _ rfl
      obtain ⟨v2, y2, c2, _, t2⟩ := hg 2 _ rfl
      obtain ⟨v3, y3, c3, _, t3⟩ := hg 3 _ rfl
      obtain ⟨v4, y4, c4, _, t4⟩ := hg 4 _ rfl
      obtain ⟨v5, y5, c5, _, t5⟩ := hg 5 _ rfl
      obtain ⟨n0, rfl, _⟩ := int_view1 Tryz.underlying3 t0
      obtain ⟨n1, rfl, _⟩ := string_view1 Tryz.underlying9 t1
      obtain ⟨n2, rfl, _⟩ := int_view1 Tryz.underlying2 t2
      obtain ⟨n3, rfl, _⟩ := string_view1 Tryz.underlying9 t3
      obtain ⟨n4, rfl, _⟩ := int_view1 Tryz.underlying3 t4
      obtain ⟨n5, rfl, _⟩ := int_view1 Tryz.underlying3 t5
      refine ⟨⟨n0, n1, n2, n3, n4, n5⟩, fun m hm => ?_⟩
      match m, hm with
      | 0, _ => exact c0
      | 1, _ => exact c1
      | 2, _ => exact c2
      | 3, _ => exact c3
      | 4, _ => exact c4
      | 5, _ => exact c5)
    subst hL
    exact ⟨some x, L, cap, rfl, hl, hm, rd_tms fun i hi => hp i hi⟩
theorem ints_view {r : Reach} {b0 : Nat} {t e : TypeId} {v : Value} {d : DataW H} {p : List MemPlace} (ht : P.underlying t = some (.slice e)) (he : P.underlying e = some (.int .i64)) (hc : P.cellsOf e = 1)
    (hv : Value.okWide P w r b0 t v) (h : DataW.Trod enc P w base spare held t v d p) :
    ∃ (A : Option Addr) (l : List Int) (c : Nat), v = .slice A l.length c ∧ l.length ≤ c ∧ c ≤ maxLen ∧ Ints w A l := by
  obtain ⟨a0, len, cap, rfl⟩ := okWide_slice ht hv
  obtain ⟨fuel, hf⟩ := h
  rcases open_ints ht he hc hf with ⟨hcs, _⟩ | ⟨x, l, c, ss, hcs, _, hl, hm, hz, _, hcell, hws⟩
  · simp [Value.cells] at hcs
    obtain ⟨rfl, rfl, rfl⟩ := hcs
    exact ⟨none, [], 0, rfl, Nat.le_refl _, Nat.zero_le _, Rd.nil⟩
  · simp [Value.cells] at hcs
    obtain ⟨rfl, rfl, rfl⟩ := hcs
    have hle : len ≤ ss.length := by rw [hz]; split <;> omega
    have hlen : (ss.take len).length = len := by rw [List.length_take, Nat.min_eq_left hle]
    refine ⟨some x, ss.take len, cap, by rw [hlen], by rw [hlen]; exact hl, hm, ?_⟩
    refine rd_of_cells fun i u hu => ?_
    rw [List.getElem?_map] at hu
    have hi : i < len := by
      rcases Nat.lt_or_ge i len with h1 | h1
      · exact h1
      · rw [List.getElem?_eq_none (by omega)] at hu; cases hu
    rw [hcell i (by omega)]
    rw [List.getElem?_take_of_lt hi, List.getElem?_eq_getElem (by omega)] at hu
    rw [← hu, List.getD, List.getElem?_eq_getElem (by omega)]
    rfl
end
end Go.Proofs.YtbemdcbglpjmiaaGreatDoor
