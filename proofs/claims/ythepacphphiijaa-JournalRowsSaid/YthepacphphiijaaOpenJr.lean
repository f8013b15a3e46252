/- How inputs open: one by value, and a slice of them. (open_slice_fields began as the guide's text extra-structs.) -/
import Derived.Test.YthepacphphiijaaOpen
import Derived.Test.YthepacphphiijaaJrW
import Derived.Lib.SmallJoins
import Derived.Deep.Fields
import Derived.Deep.Slices
import Derived.ChangeSame
namespace Go.Proofs.Ythepacphphiijaa
open Go.Joins Go.ChangeShapes Go.WideShapes Go.RowKit Go.Deep

section
variable {H : Type} {enc : TypeId × Value → H} {P : Program} {w : World} {base : Nat} {spare : Nat → Bool} {held : Bool}
theorem open_slice_fields {t e : TypeId} {fs : Array Field} {fuel : Nat} {cs : List Value} {x : DataW H × List MemPlace} (ht : P.underlying t = some (.slice e)) (he : P.underlying e = some (.struct fs))
    (hone : oneCellFields P fs = true) (hC : P.cellsOf e = fs.size) (h : DataW.trod enc P w base spare held fuel t cs = some x) :
    (cs = [.slice none 0 0] ∧ x = (.nil, [])) ∨
    ∃ (a : Addr) (len cap m : Nat) (D : Nat → DataW H) (Pl : Nat → List MemPlace), cs = [.slice (some a) len cap] ∧ base ≤ a.block ∧ len ≤ cap ∧ cap ≤ maxLen ∧ m = (if spare a.block then cap else len) ∧
      x = (.slice ((List.range len).map D) ((List.range (m - len)).map fun j => D (len + j)), MemPlace.row a (m * fs.size) ++ (List.range m).flatMap Pl) ∧
      ∀ i, i < m → ∃ (ys : List (DataW H × List MemPlace)) (n : Nat), D i = .agg (ys.map (·.1)) ∧ Pl i = ys.flatMap (·.2) ∧ ys.length = fs.size ∧
        ∀ (j : Nat) (f : Field), fs[j]? = some f → ∃ (v : Value) (y : DataW H × List MemPlace), w.cell? (a.add (i * fs.size + j)) = some v ∧ ys[j]? = some y ∧ DataW.trod enc P w base spare held n f.type [v] = some y := by
  rcases open_slice ht h with h0 | ⟨a, len, cap, m, n, D, Pl, hcs, hb, hl, hm, hmm, hx, hi⟩
  · exact .inl h0
  · refine .inr ⟨a, len, cap, m, D, Pl, hcs, hb, hl, hm, hmm, by rw [hC] at hx; exact hx, fun i him => ?_⟩
    obtain ⟨cs', hc, ht'⟩ := hi i him
    rw [hC] at hc
    obtain ⟨ys, n', hn', hy, hlen, hyl, hf⟩ := DataW.trod_struct he ht'
    obtain ⟨_, hcl, hat⟩ := World.cells?_some hc
    simp only [Prod.mk.injEq] at hy
    refine ⟨ys, n', hy.1, hy.2, hyl, fun j f hj => ?_⟩
    obtain ⟨ho, hk⟩ := hone_of hone j f hj
    have hjl : j < fs.size := (Array.getElem?_eq_some_iff.1 hj).1
    have hcell := hat j hjl
    have hv : cs'[j]? = some (cs'[j]'(by omega)) := List.getElem?_eq_getElem (by omega)
    have h1 := hf j f hj
    rw [ho, hk] at h1
    have hone' : (cs'.drop j).take 1 = [cs'[j]'(by omega)] := by
      rw [List.drop_eq_getElem_cons (by omega)]
      rfl
    rw [hone'] at h1
    have hys : ys[j]? = some (ys[j]'(by omega)) := List.getElem?_eq_getElem (by omega)
    refine ⟨_, _, ?_, hys, h1.trans hys⟩
    rw [← Go.Deep.add_add, hcell, hv]

theorem int_view1 {t : TypeId} {v : Value} {fuel : Nat} {x : DataW H × List MemPlace} (ht : P.underlying t = some (.int .i64)) (hf : DataW.trod enc P w base spare held fuel t [v] = some x) :
    ∃ n : Int, v = .int .i64 n ∧ (Lit.int .i64 n).wf = true := by
  obtain ⟨n, h1, _, h3⟩ := DataW.trod_int ht hf
  simp at h1
  exact ⟨n, h1, h3⟩
theorem string_view1 {t : TypeId} {v : Value} {fuel : Nat} {x : DataW H × List MemPlace} (ht : P.underlying t = some .string) (hf : DataW.trod enc P w base spare held fuel t [v] = some x) :
    ∃ s : ByteArray, v = .string s ∧ s.size ≤ maxLen := by
  obtain ⟨s, h1, _, h3⟩ := DataW.trod_string ht hf
  simp at h1
  exact ⟨s, h1, h3⟩
theorem list_of {α : Type} (p : Nat → α → Prop) (n : Nat) (h : ∀ i, i < n → ∃ x, p i x) : ∃ l : List α, l.length = n ∧ ∀ i (hi : i < l.length), p i l[i] := by
  induction n with
  | zero => exact ⟨[], rfl, fun i hi => absurd hi (by simp)⟩
  | succ n ih =>
    obtain ⟨l, hl, hp⟩ := ih fun i hi => h i (by omega)
    obtain ⟨x, hx⟩ := h n (by omega)
    refine ⟨l ++ [x], by simp [hl], fun i hi => ?_⟩
    rcases Nat.lt_or_ge i l.length with h1 | h1
    · rw [List.getElem_append_left h1]; exact hp i h1
    · have : i = n := by simp at hi; omega
      subst this
      rw [List.getElem_append_right h1]
      simp [hl, hx]
def In.rng (x : In) : Prop := (-9223372036854775808 ≤ x.kind ∧ x.kind ≤ 9223372036854775807) ∧ (-9223372036854775808 ≤ x.frm ∧ x.frm ≤ 9223372036854775807)
theorem rd_rows {a : Addr} {l : List In} (h : ∀ i (hi : i < l.length), w.cell? (a.add (i * 3 + 0)) = some (.int .i64 l[i].kind) ∧ w.cell? (a.add (i * 3 + 1)) = some (.int .i64 l[i].frm) ∧ w.cell? (a.add (i * 3 + 2)) = some (.string ⟨l[i].body.toArray⟩)) : Rd w (some a) (irow l) := by
  refine rd_of_cells fun j u hu => ?_
  have hj : j < (irow l).length := by
    rcases Nat.lt_or_ge j (irow l).length with h1 | h1
    · exact h1
    · rw [List.getElem?_eq_none h1] at hu; cases hu
  rw [irow_len] at hj
  obtain ⟨q, m, rfl, hq, hm⟩ : ∃ q m, j = q * 3 + m ∧ q < l.length ∧ m < 3 := ⟨j / 3, j % 3, by omega, by omega, by omega⟩
  have hg := irow_get l q m hq hm
  rw [hu] at hg
  injection hg with hg
  obtain ⟨h0, h1, h2⟩ := h q hq
  have hc : m = 0 ∨ m = 1 ∨ m = 2 := by omega
  rcases hc with rfl | rfl | rfl
  · rw [hg]; exact h0
  · rw [hg]; exact h1
  · rw [hg]; exact h2
set_option maxRecDepth 100000 in
theorem inputs_view {r : Reach} {b0 : Nat} {v : Value} {d : DataW H} {p : List MemPlace} (hv : Value.okWide Try.prog w r b0 27 v) (h : DataW.Trod enc Try.prog w base spare held 27 v d p) :
    ∃ (A : Option Addr) (l : List In) (c : Nat), v = .slice A l.length c ∧ l.length ≤ c ∧ c ≤ maxLen ∧ Rd w A (irow l) ∧ ∀ x ∈ l, x.rng := by
  obtain ⟨a0, len, cap, rfl⟩ := okWide_slice Try.underlying27 hv
  obtain ⟨fuel, hf⟩ := h
  rcases open_slice_fields Try.underlying27 Try.underlying39 (by kernel_rfl) (by kernel_rfl) hf with ⟨hcs, _⟩ | ⟨x, l, c, m, D, Pl, hcs, _, hl, hm, hmm, _, hi⟩
  · simp [Value.cells] at hcs
    obtain ⟨rfl, rfl, rfl⟩ := hcs
    exact ⟨none, [], 0, rfl, Nat.le_refl _, Nat.zero_le _, Rd.nil, by simp⟩
  · simp [Value.cells] at hcs
    obtain ⟨rfl, rfl, rfl⟩ := hcs
    have hle : len ≤ m := by rw [hmm]; split <;> omega
    obtain ⟨L, hL, hp⟩ := list_of (fun i (y : In) => y.rng ∧ w.cell? (x.add (i * 3 + 0)) = some (.int .i64 y.kind) ∧ w.cell? (x.add (i * 3 + 1)) = some (.int .i64 y.frm) ∧ w.cell? (x.add (i * 3 + 2)) = some (.string ⟨y.body.toArray⟩)) len (fun i hil => by
      obtain ⟨ys, n, _, _, _, hg⟩ := hi i (by omega)
      obtain ⟨v0, y0, c0, _, t0⟩ := hg 0 _ rfl
      obtain ⟨v1, y1, c1, _, t1⟩ := hg 1 _ rfl
      obtain ⟨v2, y2, c2, _, t2⟩ := hg 2 _ rfl
      obtain ⟨n0, rfl, w0⟩ := int_view1 Try.underlying3 t0
      obtain ⟨n1, rfl, w1⟩ := int_view1 Try.underlying3 t1
      obtain ⟨s, rfl, _⟩ := string_view1 Try.underlying9 t2
      exact ⟨⟨n0, n1, s.data.toList⟩, ⟨wf_range w0, wf_range w1⟩, c0, c1, c2⟩)
    subst hL
    exact ⟨some x, L, cap, rfl, hl, hm, rd_rows fun i hi => (hp i hi).2, fun y hy => by
      obtain ⟨i, hi, rfl⟩ := List.mem_iff_getElem.1 hy
      exact (hp i hi).1⟩
set_option maxRecDepth 100000 in
theorem input_view {r : Reach} {b0 : Nat} {v : Value} {d : DataW H} {p : List MemPlace} (hv : Value.okWide Try.prog w r b0 39 v) (h : DataW.Trod enc Try.prog w base spare held 39 v d p) :
    ∃ x : In, v = .agg #[.int .i64 x.kind, .int .i64 x.frm, .string ⟨x.body.toArray⟩] ∧ x.rng ∧ x.body.length ≤ maxLen := by
  obtain ⟨v0, v1, v2, y0, y1, y2, n, rfl, _, _, h0, h1, h2⟩ := open_agg3 Try.underlying39 (by kernel_rfl) (by kernel_rfl) hv h
  obtain ⟨n0, rfl, w0⟩ := int_view1 Try.underlying3 h0
  obtain ⟨n1, rfl, w1⟩ := int_view1 Try.underlying3 h1
  obtain ⟨s, rfl, hs⟩ := string_view1 Try.underlying9 h2
  exact ⟨⟨n0, n1, s.data.toList⟩, rfl, ⟨wf_range w0, wf_range w1⟩, hs⟩
end
end Go.Proofs.Ythepacphphiijaa
