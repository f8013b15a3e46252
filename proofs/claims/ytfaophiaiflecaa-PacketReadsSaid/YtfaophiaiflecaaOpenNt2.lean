/- How a note opens, that comes in by value. How long the texts of a note are, that comes in. -/
import Derived.Test.YtfaophiaiflecaaOpen
import Derived.Test.YtfaophiaiflecaaOpenPk
import Derived.Test.YtfaophiaiflecaaNtB2
import Derived.ChangeSlices
import Derived.SizedLaws
namespace Go.Proofs.Ytfaophiaiflecaa
open Go.Joins Go.ChangeShapes Go.WideShapes Go.ChangeAt Go.RowKit Go.Deep

structure VlR (v : Vl) : Prop where
  k : I64 v.kind
  n : I64 v.n
  s : v.s.size ≤ maxLen
  l : v.l.length ≤ maxLen
  i : ∀ x ∈ v.l, I64 x
structure NtR (x : Nt) : Prop where
  k : I64 x.kind
  seat : I64 x.seat
  proc : I64 x.proc
  ag : x.agent.size ≤ maxLen
  se : x.session.size ≤ maxLen
  pe : x.peer.size ≤ maxLen
  la : x.label.size ≤ maxLen
  v : VlR x.v
  le : x.env.length ≤ maxLen
  env : ∀ b ∈ x.env, b.name.size ≤ maxLen ∧ VlR b.v
structure NtL (w : World) (x : Nt) (A E : Option Addr) : Prop where
  a : Ints w A x.v.l
  e : Env w E x.env
theorem exists_row {α : Type} {P : Nat → α → Prop} : ∀ (n : Nat), (∀ i, i < n → ∃ x, P i x) → ∃ l : List α, l.length = n ∧ ∀ i x, l[i]? = some x → P i x := by
  intro n
  induction n with
  | zero => exact fun _ => ⟨[], rfl, fun i x h => by simp at h⟩
  | succ n ih =>
    intro h
    obtain ⟨l, h1, h2⟩ := ih fun i hi => h i (by omega)
    obtain ⟨x, hx⟩ := h n (by omega)
    refine ⟨l ++ [x], by simp [h1], fun i y hy => ?_⟩
    by_cases hi : i < l.length
    · rw [List.getElem?_append_left hi] at hy; exact h2 i y hy
    · rw [List.getElem?_append_right (by omega)] at hy
      cases hz : i - l.length with
      | zero => rw [hz] at hy; simp at hy; subst hy; rw [show i = n by omega]; exact hx
      | succ m => rw [hz] at hy; simp at hy
section
variable {H : Type} {enc : TypeId × Value → H} {w : World} {base : Nat} {spare : Nat → Bool} {held : Bool}
set_option maxRecDepth 100000 in
theorem ints_view1 {fuel : Nat} {cs : List Value} {x : DataW H × List MemPlace} (h : DataW.trod enc Try.prog w base spare held fuel 34 cs = some x) :
    ∃ (A : Option Addr) (l : List Int) (c : Nat), cs = [.slice A l.length c] ∧ l.length ≤ maxLen ∧ Ints w A l ∧ ∀ n ∈ l, I64 n := by
  rcases open_ints Try.underlying34 Try.underlying2 (by kernel_rfl) h with ⟨hcs, _⟩ | ⟨x, len, cap, ss, hcs, _, hl, hm, hz, _, hcell, hws⟩
  · exact ⟨none, [], 0, hcs, Nat.zero_le _, Rd.nil, by simp⟩
  · have hle : len ≤ ss.length := by rw [hz]; split <;> omega
    have hlen : (ss.take len).length = len := by rw [List.length_take, Nat.min_eq_left hle]
    refine ⟨some x, ss.take len, cap, by rw [hlen]; exact hcs, by rw [hlen]; omega, ?_, fun s hs => wf_range (hws s (List.mem_of_mem_take hs))⟩
    refine rd_of_cells fun i u hu => ?_
    rw [List.getElem?_map] at hu
    have hi : i < len := by
      rcases Nat.lt_or_ge i len with h1 | h1
      · exact h1
      · rw [List.getElem?_eq_none (by omega)] at hu; cases hu
    rw [hcell i (by omega)]
    rw [List.getElem?_take_of_lt hi, List.getElem?_eq_getElem (by omega)] at hu
    rw [← hu, List.getD, List.getElem?_eq_getElem (by omega)]
    rfl
theorem cof_int : Try.prog.cellsOf 3 = 1 := by kernel_rfl
theorem cof_int64 : Try.prog.cellsOf 2 = 1 := by kernel_rfl
theorem cof_string : Try.prog.cellsOf 9 = 1 := by kernel_rfl
theorem cof_nums : Try.prog.cellsOf 34 = 1 := by kernel_rfl
theorem cof_binds : Try.prog.cellsOf 39 = 1 := by kernel_rfl
theorem cof_value : Try.prog.cellsOf 36 = 4 := by kernel_rfl
theorem cof_letter : Try.prog.cellsOf 38 = 5 := by kernel_rfl
theorem cof_bind : Try.prog.cellsOf 62 = 5 := by kernel_rfl
theorem cof_note : Try.prog.cellsOf 41 = 12 := by kernel_rfl
theorem fld {P : Program} {fs : Array Field} {cs : List Value} {xs : List (DataW H × List MemPlace)} {m : Nat} (hg : ∀ (i : Nat) (f : Field), fs[i]? = some f → DataW.trod enc P w base spare held m f.type ((cs.drop f.offset).take (P.cellsOf f.type)) = xs[i]?)
    (i : Nat) (ty : TypeId) (off k : Nat) (hf : (fs[i]?).map (fun f => (f.type, f.offset)) = some (ty, off)) (hk : P.cellsOf ty = k) : DataW.trod enc P w base spare held m ty ((cs.drop off).take k) = xs[i]? := by
  rw [Option.map_eq_some_iff] at hf
  obtain ⟨f, h1, h2⟩ := hf
  injection h2 with h2 h3
  subst h2; subst h3; subst hk
  exact hg i f h1
set_option maxRecDepth 100000 in
theorem vl_view1 {fuel : Nat} {cs : List Value} {x : DataW H × List MemPlace} (h : DataW.trod enc Try.prog w base spare held fuel 36 cs = some x) :
    ∃ (v : Vl) (A : Option Addr) (c : Nat), cs = [.int .i64 v.kind, .int .i64 v.n, .string v.s, .slice A v.l.length c] ∧ VlR v ∧ Ints w A v.l := by
  obtain ⟨xs, m, _, _, hlen, hxs, hg⟩ := DataW.trod_struct Try.underlying36 h
  have hl : cs.length = 4 := hlen.trans cof_value
  have hx4 : xs.length = 4 := hxs
  match cs, hl with
  | [c0, c1, c2, c3], _ =>
    match xs, hx4 with
    | [y0, y1, y2, y3], _ =>
      have g0 : DataW.trod enc Try.prog w base spare held m 3 [c0] = some y0 := fld hg 0 _ 0 1 rfl cof_int
      have g1 : DataW.trod enc Try.prog w base spare held m 2 [c1] = some y1 := fld hg 1 _ 1 1 rfl cof_int64
      have g2 : DataW.trod enc Try.prog w base spare held m 9 [c2] = some y2 := fld hg 2 _ 2 1 rfl cof_string
      have g3 : DataW.trod enc Try.prog w base spare held m 34 [c3] = some y3 := fld hg 3 _ 3 1 rfl cof_nums
      obtain ⟨k, rfl, w0⟩ := int_view1 Try.underlying3 (v := c0) g0
      obtain ⟨n, rfl, w1⟩ := int_view1 Try.underlying2 (v := c1) g1
      obtain ⟨s, rfl, w2⟩ := string_view1 Try.underlying9 (v := c2) g2
      obtain ⟨A, l, c, e, w3, w4, w5⟩ := ints_view1 (cs := [c3]) g3
      simp at e
      subst e
      exact ⟨⟨k, n, s, l⟩, A, c, rfl, ⟨wf_range w0, wf_range w1, w2, w3, w5⟩, w4⟩
set_option maxRecDepth 100000 in
theorem bd_view1 {fuel : Nat} {cs : List Value} {x : DataW H × List MemPlace} (h : DataW.trod enc Try.prog w base spare held fuel 62 cs = some x) :
    ∃ (b : Bd) (r : Option Addr × Nat), cs = bdCells b r ∧ (b.name.size ≤ maxLen ∧ VlR b.v) ∧ Ints w r.1 b.v.l := by
  obtain ⟨xs, m, _, _, hlen, hxs, hg⟩ := DataW.trod_struct Try.underlying62 h
  have hl : cs.length = 5 := hlen.trans cof_bind
  have hx4 : xs.length = 2 := hxs
  match cs, hl with
  | [c0, c1, c2, c3, c4], _ =>
    match xs, hx4 with
    | [y0, y1], _ =>
      have g0 : DataW.trod enc Try.prog w base spare held m 9 [c0] = some y0 := fld hg 0 _ 0 1 rfl cof_string
      have g1 : DataW.trod enc Try.prog w base spare held m 36 [c1, c2, c3, c4] = some y1 := fld hg 1 _ 1 4 rfl cof_value
      obtain ⟨s, rfl, w0⟩ := string_view1 Try.underlying9 (v := c0) g0
      obtain ⟨v, A, c, e, w1, w2⟩ := vl_view1 (cs := [c1, c2, c3, c4]) g1
      simp at e
      obtain ⟨rfl, rfl, rfl, rfl⟩ := e
      exact ⟨⟨s, v⟩, (A, c), rfl, ⟨w0, w1⟩, w2⟩
set_option maxRecDepth 100000 in
theorem env_view1 {fuel : Nat} {cs : List Value} {x : DataW H × List MemPlace} (h : DataW.trod enc Try.prog w base spare held fuel 39 cs = some x) :
    ∃ (E : Option Addr) (l : List Bd) (d : Nat), cs = [.slice E l.length d] ∧ l.length ≤ maxLen ∧ Env w E l ∧ ∀ b ∈ l, b.name.size ≤ maxLen ∧ VlR b.v := by
  rcases DataW.trod_slice Try.underlying39 h with ⟨hcs, _⟩ | ⟨a, len, cap, elems, rest, n, _, hcs, _, hb, hl, hm, hlen, hel, _, _⟩
  · exact ⟨none, [], 0, hcs, Nat.zero_le _, ⟨[], rfl, Rd.nil, by simp⟩, by simp⟩
  · have each : ∀ i, i < len → ∃ br : Bd × (Option Addr × Nat), (∀ m, m < 5 → w.cell? (a.add (i * 5 + m)) = (bdCells br.1 br.2)[m]?) ∧ (br.1.name.size ≤ maxLen ∧ VlR br.1.v) ∧ Ints w br.2.1 br.1.v.l := by
      intro i hi
      have he := hel i hi
      rw [List.getElem?_eq_getElem (by omega), Option.bind_eq_some_iff, cof_bind] at he
      obtain ⟨cs', hcs', hy⟩ := he
      obtain ⟨b, r, rfl, h1, h2⟩ := bd_view1 hy
      obtain ⟨_, _, h3⟩ := World.cells?_some hcs'
      exact ⟨(b, r), fun m hm => by rw [← h3 m hm, Addr.add_add], h1, h2⟩
    obtain ⟨L, hL, hall⟩ := exists_row len each
    have hlb : (L.map (·.1)).length = len := by simp [hL]
    have hlr : (L.map (·.2)).length = (L.map (·.1)).length := by simp
    refine ⟨some a, L.map (·.1), cap, by rw [hlb]; exact hcs, by rw [hlb]; omega, ⟨L.map (·.2), hlr, ?_, ?_⟩, ?_⟩
    · refine rd_of_cells fun i u hu => ?_
      have hi : i < len * 5 := by
        have h1 := (List.getElem?_eq_some_iff.1 hu).1
        rw [bdRow_len _ _ hlr, hlb] at h1
        exact h1
      have hk : i / 5 < len := by omega
      have hm5 : i % 5 < 5 := by omega
      have ei : i = i / 5 * 5 + i % 5 := by omega
      have hg := bdRow_get (L.map (·.1)) (L.map (·.2)) hlr (i / 5) (i % 5) (by omega) hm5
      rw [← ei, hu] at hg
      have hc := (hall (i / 5) L[i / 5] (List.getElem?_eq_getElem (by omega))).1 (i % 5) hm5
      rw [← ei] at hc
      rw [hc, hg]
      simp
    · intro i b r hi hr
      rw [List.getElem?_map] at hi hr
      cases hq : L[i]? with
      | none => rw [hq] at hi; simp at hi
      | some q =>
        rw [hq] at hi hr
        simp at hi hr
        subst hi; subst hr
        exact (hall i q hq).2.2
    · intro b hb
      obtain ⟨q, hq, rfl⟩ := List.mem_map.1 hb
      obtain ⟨i, hi, e⟩ := List.getElem_of_mem hq
      exact (hall i q (by rw [List.getElem?_eq_getElem hi, e])).2.1
set_option maxRecDepth 100000 in
theorem note_view {r : Reach} {b0 : Nat} {v : Value} {d : DataW H} {p : List MemPlace} (hv : Value.okWide Try.prog w r b0 41 v) (h : DataW.Trod enc Try.prog w base spare held 41 v d p) :
    ∃ (x : Nt) (A : Option Addr) (c : Nat) (E : Option Addr) (d : Nat), v = .agg (x.cells A c E d) ∧ NtL w x A E ∧ NtR x := by
  obtain ⟨cs, rfl, hsz⟩ := okWide_struct Try.underlying41 hv
  obtain ⟨cs⟩ := cs
  obtain ⟨fuel, hf⟩ := h
  obtain ⟨xs, m, _, _, hlen, hxs, hg⟩ := DataW.trod_struct Try.underlying41 hf
  have hl : cs.length = 12 := hsz.trans cof_note
  have hx4 : xs.length = 8 := hxs
  match cs, hl with
  | [c0, c1, c2, c3, c4, c5, c6, c7, c8, c9, c10, c11], _ =>
    match xs, hx4 with
    | [y0, y1, y2, y3, y4, y5, y6, y7], _ =>
      have g0 : DataW.trod enc Try.prog w base spare held m 3 [c0] = some y0 := fld hg 0 _ 0 1 rfl cof_int
      have g1 : DataW.trod enc Try.prog w base spare held m 9 [c1] = some y1 := fld hg 1 _ 1 1 rfl cof_string
      have g2 : DataW.trod enc Try.prog w base spare held m 9 [c2] = some y2 := fld hg 2 _ 2 1 rfl cof_string
      have g3 : DataW.trod enc Try.prog w base spare held m 3 [c3] = some y3 := fld hg 3 _ 3 1 rfl cof_int
      have g4 : DataW.trod enc Try.prog w base spare held m 9 [c4] = some y4 := fld hg 4 _ 4 1 rfl cof_string
      have g5 : DataW.trod enc Try.prog w base spare held m 38 [c5, c6, c7, c8, c9] = some y5 := fld hg 5 _ 5 5 rfl cof_letter
      have g6 : DataW.trod enc Try.prog w base spare held m 3 [c10] = some y6 := fld hg 6 _ 10 1 rfl cof_int
      have g7 : DataW.trod enc Try.prog w base spare held m 39 [c11] = some y7 := fld hg 7 _ 11 1 rfl cof_binds
      obtain ⟨k, rfl, w0⟩ := int_view1 Try.underlying3 (v := c0) g0
      obtain ⟨ag, rfl, w1⟩ := string_view1 Try.underlying9 (v := c1) g1
      obtain ⟨se, rfl, w2⟩ := string_view1 Try.underlying9 (v := c2) g2
      obtain ⟨st, rfl, w3⟩ := int_view1 Try.underlying3 (v := c3) g3
      obtain ⟨pe, rfl, w4⟩ := string_view1 Try.underlying9 (v := c4) g4
      obtain ⟨pr, rfl, w6⟩ := int_view1 Try.underlying3 (v := c10) g6
      obtain ⟨E, en, dd, e, w7, w8, w9⟩ := env_view1 (cs := [c11]) g7
      simp at e
      subst e
      obtain ⟨xs5, m5, _, _, hlen5, hxs5, hg5⟩ := DataW.trod_struct Try.underlying38 (cs := [c5, c6, c7, c8, c9]) g5
      have hx5 : xs5.length = 2 := hxs5
      match xs5, hx5 with
      | [z0, z1], _ =>
        have f0 : DataW.trod enc Try.prog w base spare held m5 9 [c5] = some z0 := fld hg5 0 _ 0 1 rfl cof_string
        have f1 : DataW.trod enc Try.prog w base spare held m5 36 [c6, c7, c8, c9] = some z1 := fld hg5 1 _ 1 4 rfl cof_value
        obtain ⟨la, rfl, u0⟩ := string_view1 Try.underlying9 (v := c5) f0
        obtain ⟨vv, A, c, e, u1, u2⟩ := vl_view1 (cs := [c6, c7, c8, c9]) f1
        simp at e
        obtain ⟨rfl, rfl, rfl, rfl⟩ := e
        exact ⟨⟨k, ag, se, st, pe, la, vv, pr, en⟩, A, c, E, dd, rfl, ⟨u2, w8⟩, ⟨wf_range w0, wf_range w3, wf_range w6, w1, w2, w4, u0, u1, w7, w9⟩⟩
end
end Go.Proofs.Ytfaophiaiflecaa
namespace Go.Proofs.Ytfaophiaiflecaa
open Go.Joins Go.ChangeShapes Go.WideShapes Go.ChangeAt Go.RowKit Go.Deep
section
variable {H : Type} {enc : TypeId × Value → H} {w : World} {base : Nat} {spare : Nat → Bool} {held : Bool}
theorem part_sized {P : Program} {t : TypeId} {fs : Array Field} {parts : List (DataW H)} (hu : P.underlying t = some (.struct fs)) (h : ((DataW.agg parts).weights P t).all (· ≤ reachBytes) = true) {j : Nat} {ty : TypeId} {bytes : List UInt8} (ht : (fs.toList.map (·.type))[j]? = some ty) (hd : parts[j]? = some (.lit (.string bytes))) : bytes.length ≤ reachBytes := by
  have e : (DataW.agg parts).weights P t = DataW.weightsEach P (fs.toList.map (·.type)) parts := by simp [DataW.weights, hu]
  rw [e] at h
  exact sized_string h ht hd
set_option maxRecDepth 100000 in
theorem note_sized {ts : List TypeId} {ds : List (DataW H)} (hsz : (DataW.weightsEach Try.prog ts ds).all (· ≤ reachBytes) = true) {j : Nat} {d : DataW H} (ht : ts[j]? = some 41) (hd : ds[j]? = some d) {v : Value} {p : List MemPlace} (h : DataW.Trod enc Try.prog w base spare held 41 v d p) :
    ∀ (x : Nt) (A : Option Addr) (c : Nat) (E : Option Addr) (e : Nat), v = .agg (x.cells A c E e) → x.agent.size ≤ reachBytes ∧ x.session.size ≤ reachBytes := by
  rintro x A c E e rfl
  have hw : (d.weights Try.prog 41).all (· ≤ reachBytes) = true := List.all_eq_true.2 fun n hn => List.all_eq_true.1 hsz _ (DataW.weights_mem_each ht hd n hn)
  obtain ⟨fuel, hf⟩ := h
  obtain ⟨xs, m, _, hx, hlen, hxs, hg⟩ := DataW.trod_struct Try.underlying41 hf
  have hx4 : xs.length = 8 := hxs
  match xs, hx4 with
  | [y0, y1, y2, y3, y4, y5, y6, y7], _ =>
    have g1 : DataW.trod enc Try.prog w base spare held m 9 [.string x.agent] = some y1 := fld hg 1 _ 1 1 rfl cof_string
    have g2 : DataW.trod enc Try.prog w base spare held m 9 [.string x.session] = some y2 := fld hg 2 _ 2 1 rfl cof_string
    obtain ⟨s1, e1, e1', _⟩ := DataW.trod_string Try.underlying9 g1
    obtain ⟨s2, e2, e2', _⟩ := DataW.trod_string Try.underlying9 g2
    simp at e1 e2
    subst e1; subst e2
    injection hx with hx _
    rw [hx] at hw
    have k1 := part_sized Try.underlying41 hw (j := 1) (ty := 9) (bytes := x.agent.data.toList) rfl (by simp [e1'])
    have k2 := part_sized Try.underlying41 hw (j := 2) (ty := 9) (bytes := x.session.data.toList) rfl (by simp [e2'])
    rw [← ba_size] at k1 k2
    exact ⟨k1, k2⟩
end
end Go.Proofs.Ytfaophiaiflecaa
