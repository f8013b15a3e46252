/- How a frame opens, that comes in by value. -/
import Derived.Test.YtfaophiaiflecaaOpen
import Derived.Test.YtfaophiaiflecaaPkFrame
import Derived.Lib.SmallJoins
import Derived.Deep.Fields
namespace Go.Proofs.Ytfaophiaiflecaa
open Go.Joins Go.ChangeShapes Go.WideShapes Go.RowKit Go.Deep

section
variable {H : Type} {enc : TypeId × Value → H} {P : Program} {w : World} {base : Nat} {spare : Nat → Bool} {held : Bool}
theorem int_view1 {t : TypeId} {v : Value} {fuel : Nat} {x : DataW H × List MemPlace} (ht : P.underlying t = some (.int .i64)) (hf : DataW.trod enc P w base spare held fuel t [v] = some x) :
    ∃ n : Int, v = .int .i64 n ∧ (Lit.int .i64 n).wf = true := by
  obtain ⟨n, h1, _, h3⟩ := DataW.trod_int ht hf
  simp at h1
  exact ⟨n, h1, h3⟩
theorem string_view1 {t : TypeId} {v : Value} {fuel : Nat} {x : DataW H × List MemPlace} (ht : P.underlying t = some .string) (hf : DataW.trod enc P w base spare held fuel t [v] = some x) :
    ∃ s : ByteArray, v = .string s ∧ s.size ≤ maxLen := by
  obtain ⟨s, h1, _, h3⟩ := DataW.trod_string ht hf
  simp at h1
  exact ⟨s, h1, h3⟩
theorem agg5_view {r : Reach} {b0 : Nat} {t : TypeId} {f0 f1 f2 f3 f4 : Field} {v : Value} {d : DataW H} {p : List MemPlace} (hs : P.underlying t = some (.struct #[f0, f1, f2, f3, f4])) (hone : oneCellFields P #[f0, f1, f2, f3, f4] = true) (hC : P.cellsOf t = 5)
    (hv : Value.okWide P w r b0 t v) (h : DataW.Trod enc P w base spare held t v d p) :
    ∃ (v0 v1 v2 v3 v4 : Value) (y0 y1 y2 y3 y4 : DataW H × List MemPlace) (n : Nat), v = .agg #[v0, v1, v2, v3, v4] ∧
      DataW.trod enc P w base spare held n f0.type [v0] = some y0 ∧ DataW.trod enc P w base spare held n f1.type [v1] = some y1 ∧ DataW.trod enc P w base spare held n f2.type [v2] = some y2 ∧
      DataW.trod enc P w base spare held n f3.type [v3] = some y3 ∧ DataW.trod enc P w base spare held n f4.type [v4] = some y4 := by
  obtain ⟨cs, rfl, hsz⟩ := okWide_struct hs hv
  obtain ⟨l⟩ := cs
  match l, hsz.trans hC with
  | [c0, c1, c2, c3, c4], _ =>
    obtain ⟨fuel, hf⟩ := h
    obtain ⟨xs, n, _, hx, _, hlen, hg⟩ := DataW.trod_struct hs hf
    obtain ⟨o0, k0⟩ := hone_of hone 0 f0 rfl
    obtain ⟨o1, k1⟩ := hone_of hone 1 f1 rfl
    obtain ⟨o2, k2⟩ := hone_of hone 2 f2 rfl
    obtain ⟨o3, k3⟩ := hone_of hone 3 f3 rfl
    obtain ⟨o4, k4⟩ := hone_of hone 4 f4 rfl
    match xs, hlen with
    | [y0, y1, y2, y3, y4], _ =>
      exact ⟨c0, c1, c2, c3, c4, y0, y1, y2, y3, y4, n, rfl, by simpa [Value.cells, o0, k0] using hg 0 f0 rfl, by simpa [Value.cells, o1, k1] using hg 1 f1 rfl, by simpa [Value.cells, o2, k2] using hg 2 f2 rfl,
        by simpa [Value.cells, o3, k3] using hg 3 f3 rfl, by simpa [Value.cells, o4, k4] using hg 4 f4 rfl⟩
set_option maxRecDepth 100000 in
theorem pkframe_view {r : Reach} {b0 : Nat} {v : Value} {d : DataW H} {p : List MemPlace} (hv : Value.okWide Try.prog w r b0 23 v) (h : DataW.Trod enc Try.prog w base spare held 23 v d p) :
    ∃ x : Fr, v = .agg #[.int .i64 x.kind, .int .i64 x.from_, .int .i64 x.to, .int .i64 x.seq, .string x.body] ∧ x.fits ∧ x.body.size ≤ maxLen := by
  obtain ⟨v0, v1, v2, v3, v4, y0, y1, y2, y3, y4, n, rfl, h0, h1, h2, h3, h4⟩ := agg5_view Try.underlying23 (by kernel_rfl) (by kernel_rfl) hv h
  obtain ⟨k, rfl, w0⟩ := int_view1 Try.underlying3 h0
  obtain ⟨f, rfl, w1⟩ := int_view1 Try.underlying3 h1
  obtain ⟨t, rfl, w2⟩ := int_view1 Try.underlying3 h2
  obtain ⟨q, rfl, w3⟩ := int_view1 Try.underlying3 h3
  obtain ⟨s, rfl, w4⟩ := string_view1 Try.underlying9 h4
  exact ⟨⟨k, f, t, q, s⟩, rfl, ⟨wf_range w0, wf_range w1, wf_range w2, wf_range w3⟩, w4⟩
end
end Go.Proofs.Ytfaophiaiflecaa
