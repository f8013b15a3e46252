/- How the names and their values open, that come in. -/
import Derived.Test.YtbemdcbglpjmiaaGreatDoorOpenFo
import Derived.Test.YtbemdcbglpjmiaaGreatDoorFvA
import Derived.ChangeSlices
import Derived.SizedLaws
namespace Go.Proofs.YtbemdcbglpjmiaaGreatDoor
open Go.Joins Go.ChangeShapes Go.WideShapes Go.ChangeAt Go.RowKit Go.Deep

abbrev I64 (n : Int) : Prop := -9223372036854775808 ≤ n ∧ n ≤ 9223372036854775807
structure VlR (v : Vl) : Prop where
  k : I64 v.kind
  n : I64 v.n
  s : v.s.size ≤ maxLen
  l : v.l.length ≤ maxLen
  i : ∀ x ∈ v.l, I64 x
theorem exists_row {α : Type} {P : Nat → α → Prop} : ∀ (n : Nat), (∀ i, i < n → ∃ x, P i x) → ∃ l : List α, l.length = n ∧ ∀ i x, l[i]? = some x → P i x := by
  intro n
  induction n with
  | zero => exact fun _ => ⟨[], rfl, fun i x h => by simp at h⟩
  | succ n ih =>
    intro h
    obtain ⟨l, h1, h2⟩ := ih fun i hi => h i (by omega)
    obtain ⟨x, hx⟩ := h n (by omega)
    refine ⟨l ++ [x], by simp [h1], fun i y hy => ?_⟩
    by_cases hi : i < l.length
    · rw [List.getElem?_append_left hi] at hy; exact h2 i y hy
    · rw [List.getElem?_append_right (by omega)] at hy
      cases hz : i - l.length with
      | zero => rw [hz] at hy; simp at hy; subst hy; rw [show i = n by omega]; exact hx
      | succ m => rw [hz] at hy; simp at hy
section
variable {H : Type} {enc : TypeId × Value → H} {w : World} {base : Nat} {spare : Nat → Bool} {held : Bool}
set_option maxRecDepth 100000 in
theorem ints_view1 {fuel : Nat} {cs : List Value} {x : DataW H × List MemPlace} (h : DataW.trod enc Tryz.prog w base spare held fuel 29 cs = some x) :
    ∃ (A : Option Addr) (l : List Int) (c : Nat), cs = [.slice A l.length c] ∧ l.length ≤ maxLen ∧ Ints w A l ∧ ∀ n ∈ l, I64 n := by
  rcases open_ints Tryz.underlying29 Tryz.underlying2 (by kernel_rfl) h with ⟨hcs, _⟩ | ⟨x, len, cap, ss, hcs, _, hl, hm, hz, _, hcell, hws⟩
  · exact ⟨none, [], 0, hcs, Nat.zero_le _, Rd.nil, by simp⟩
  · have hle : len ≤ ss.length := by rw [hz]; split <;> omega
    have hlen : (ss.take len).length = len := by rw [List.length_take, Nat.min_eq_left hle]
    refine ⟨some x, ss.take len, cap, by rw [hlen]; exact hcs, by rw [hlen]; omega, ?_, fun s hs => wf_range (hws s (List.mem_of_mem_take hs))⟩
    refine rd_of_cells fun i u hu => ?_
    rw [List.getElem?_map] at hu
    have hi : i < len := by
      rcases Nat.lt_or_ge i len with h1 | h1
      · exact h1
      · rw [List.getElem?_eq_none (by omega)] at hu; cases hu
    rw [hcell i (by omega)]
    rw [List.getElem?_take_of_lt hi, List.getElem?_eq_getElem (by omega)] at hu
    rw [← hu, List.getD, List.getElem?_eq_getElem (by omega)]
    rfl
theorem cof_int : Tryz.prog.cellsOf 3 = 1 := by kernel_rfl
theorem cof_int64 : Tryz.prog.cellsOf 2 = 1 := by kernel_rfl
theorem cof_string : Tryz.prog.cellsOf 9 = 1 := by kernel_rfl
theorem cof_nums : Tryz.prog.cellsOf 29 = 1 := by kernel_rfl
theorem cof_binds : Tryz.prog.cellsOf 28 = 1 := by kernel_rfl
theorem cof_value : Tryz.prog.cellsOf 31 = 4 := by kernel_rfl
theorem cof_bind : Tryz.prog.cellsOf 212 = 5 := by kernel_rfl
theorem fld {P : Program} {fs : Array Field} {cs : List Value} {xs : List (DataW H × List MemPlace)} {m : Nat} (hg : ∀ (i : Nat) (f : Field), fs[i]? = some f → DataW.trod enc P w base spare held m f.type ((cs.drop f.offset).take (P.cellsOf f.type)) = xs[i]?)
    (i : Nat) (ty : TypeId) (off k : Nat) (hf : (fs[i]?).map (fun f => (f.type, f.offset)) = some (ty, off)) (hk : P.cellsOf ty = k) : DataW.trod enc P w base spare held m ty ((cs.drop off).take k) = xs[i]? := by
  rw [Option.map_eq_some_iff] at hf
  obtain ⟨f, h1, h2⟩ := hf
  injection h2 with h2 h3
  subst h2; subst h3; subst hk
  exact hg i f h1
set_option maxRecDepth 100000 in
theorem vl_view1 {fuel : Nat} {cs : List Value} {x : DataW H × List MemPlace} (h : DataW.trod enc Tryz.prog w base spare held fuel 31 cs = some x) :
    ∃ (v : Vl) (A : Option Addr) (c : Nat), cs = [.int .i64 v.kind, .int .i64 v.n, .string v.s, .slice A v.l.length c] ∧ VlR v ∧ Ints w A v.l := by
  obtain ⟨xs, m, _, _, hlen, hxs, hg⟩ := DataW.trod_struct Tryz.underlying31 h
  have hl : cs.length = 4 := hlen.trans cof_value
  have hx4 : xs.length = 4 := hxs
  match cs, hl with
  | [c0, c1, c2, c3], _ =>
    match xs, hx4 with
    | [y0, y1, y2, y3], _ =>
      have g0 : DataW.trod enc Tryz.prog w base spare held m 3 [c0] = some y0 := fld hg 0 _ 0 1 rfl cof_int
      have g1 : DataW.trod enc Tryz.prog w base spare held m 2 [c1] = some y1 := fld hg 1 _ 1 1 rfl cof_int64
      have g2 : DataW.trod enc Tryz.prog w base spare held m 9 [c2] = some y2 := fld hg 2 _ 2 1 rfl cof_string
      have g3 : DataW.trod enc Tryz.prog w base spare held m 29 [c3] = some y3 := fld hg 3 _ 3 1 rfl cof_nums
      obtain ⟨k, rfl, w0⟩ := int_view1 Tryz.underlying3 (v := c0) g0
      obtain ⟨n, rfl, w1⟩ := int_view1 Tryz.underlying2 (v := c1) g1
      obtain ⟨s, rfl, w2⟩ := string_view1 Tryz.underlying9 (v := c2) g2
      obtain ⟨A, l, c, e, w3, w4, w5⟩ := ints_view1 (cs := [c3]) g3
      simp at e
      subst e
      exact ⟨⟨k, n, s, l⟩, A, c, rfl, ⟨wf_range w0, wf_range w1, w2, w3, w5⟩, w4⟩
set_option maxRecDepth 100000 in
theorem bd_view1 {fuel : Nat} {cs : List Value} {x : DataW H × List MemPlace} (h : DataW.trod enc Tryz.prog w base spare held fuel 212 cs = some x) :
    ∃ (b : Bd) (r : Option Addr × Nat), cs = bdCells b r ∧ (b.name.size ≤ maxLen ∧ VlR b.v) ∧ Ints w r.1 b.v.l := by
  obtain ⟨xs, m, _, _, hlen, hxs, hg⟩ := DataW.trod_struct Tryz.underlying212 h
  have hl : cs.length = 5 := hlen.trans cof_bind
  have hx4 : xs.length = 2 := hxs
  match cs, hl with
  | [c0, c1, c2, c3, c4], _ =>
    match xs, hx4 with
    | [y0, y1], _ =>
      have g0 : DataW.trod enc Tryz.prog w base spare held m 9 [c0] = some y0 := fld hg 0 _ 0 1 rfl cof_string
      have g1 : DataW.trod enc Tryz.prog w base spare held m 31 [c1, c2, c3, c4] = some y1 := fld hg 1 _ 1 4 rfl cof_value
      obtain ⟨s, rfl, w0⟩ := string_view1 Tryz.underlying9 (v := c0) g0
      obtain ⟨v, A, c, e, w1, w2⟩ := vl_view1 (cs := [c1, c2, c3, c4]) g1
      simp at e
      obtain ⟨rfl, rfl, rfl, rfl⟩ := e
      exact ⟨⟨s, v⟩, (A, c), rfl, ⟨w0, w1⟩, w2⟩
set_option maxRecDepth 100000 in
theorem env_view1 {fuel : Nat} {cs : List Value} {x : DataW H × List MemPlace} (h : DataW.trod enc Tryz.prog w base spare held fuel 28 cs = some x) :
    ∃ (E : Option Addr) (l : List Bd) (d : Nat), cs = [.slice E l.length d] ∧ l.length ≤ maxLen ∧ Env w E l ∧ ∀ b ∈ l, b.name.size ≤ maxLen ∧ VlR b.v := by
  rcases DataW.trod_slice Tryz.underlying28 h with ⟨hcs, _⟩ | ⟨a, len, cap, elems, rest, n, _, hcs, _, hb, hl, hm, hlen, hel, _, _⟩
  · exact ⟨none, [], 0, hcs, Nat.zero_le _, ⟨[], rfl, Rd.nil, by simp⟩, by simp⟩
  · have each : ∀ i, i < len → ∃ br : Bd × (Option Addr × Nat), (∀ m, m < 5 → w.cell? (a.add (i * 5 + m)) = (bdCells br.1 br.2)[m]?) ∧ (br.1.name.size ≤ maxLen ∧ VlR br.1.v) ∧ Ints w br.2.1 br.1.v.l := by
      intro i hi
      have he := hel i hi
      rw [List.getElem?_eq_getElem (by omega), Option.bind_eq_some_iff, cof_bind] at he
      obtain ⟨cs', hcs', hy⟩ := he
      obtain ⟨b, r, rfl, h1, h2⟩ := bd_view1 hy
      obtain ⟨_, _, h3⟩ := World.cells?_some hcs'
      exact ⟨(b, r), fun m hm => by rw [← h3 m hm, Addr.add_add], h1, h2⟩
    obtain ⟨L, hL, hall⟩ := exists_row len each
    have hlb : (L.map (·.1)).length = len := by simp [hL]
    have hlr : (L.map (·.2)).length = (L.map (·.1)).length := by simp
    refine ⟨some a, L.map (·.1), cap, by rw [hlb]; exact hcs, by rw [hlb]; omega, ⟨L.map (·.2), hlr, ?_, ?_⟩, ?_⟩
    · refine rd_of_cells fun i u hu => ?_
      have hi : i < len * 5 := by
        have h1 := (List.getElem?_eq_some_iff.1 hu).1
        rw [bdRow_len _ _ hlr, hlb] at h1
        exact h1
      have hk : i / 5 < len := by omega
      have hm5 : i % 5 < 5 := by omega
      have ei : i = i / 5 * 5 + i % 5 := by omega
      have hg := bdRow_get (L.map (·.1)) (L.map (·.2)) hlr (i / 5) (i % 5) (by omega) hm5
      rw [← ei, hu] at hg
      have hc := (hall (i / 5) L[i / 5] (List.getElem?_eq_getElem (by omega))).1 (i % 5) hm5
      rw [← ei] at hc
      rw [hc, hg]
      simp
    · intro i b r hi hr
      rw [List.getElem?_map] at hi hr
      cases hq : L[i]? with
      | none => rw [hq] at hi; simp at hi
      | some q =>
        rw [hq] at hi hr
        simp at hi hr
        subst hi; subst hr
        exact (hall i q hq).2.2
    · intro b hb
      obtain ⟨q, hq, rfl⟩ := List.mem_map.1 hb
      obtain ⟨i, hi, e⟩ := List.getElem_of_mem hq
      exact (hall i q (by rw [List.getElem?_eq_getElem hi, e])).2.1
set_option maxRecDepth 100000 in
theorem binds_view {r : Reach} {b0 : Nat} {v : Value} {d : DataW H} {p : List MemPlace} (hv : Value.okWide Tryz.prog w r b0 28 v) (h : DataW.Trod enc Tryz.prog w base spare held 28 v d p) :
    ∃ (A : Option Addr) (l : List Bd) (c : Nat), v = .slice A l.length c ∧ True ∧ l.length ≤ maxLen ∧ Env w A l := by
  obtain ⟨a0, len, cap, rfl⟩ := okWide_slice Tryz.underlying28 hv
  obtain ⟨fuel, hf⟩ := h
  obtain ⟨E, l, c, hcs, hl, he, _⟩ := env_view1 hf
  simp [Value.cells] at hcs
  obtain ⟨rfl, rfl, rfl⟩ := hcs
  exact ⟨_, l, _, rfl, trivial, hl, he⟩
end
end Go.Proofs.YtbemdcbglpjmiaaGreatDoor
