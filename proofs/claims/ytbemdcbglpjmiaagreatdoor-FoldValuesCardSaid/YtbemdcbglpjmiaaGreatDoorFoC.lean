/- Values; contracts: term.truth, term.numbers, term.apply$1. Contracts: term.leaf at literals; reparteeref1.num, truth, leaf at literals. -/
import Derived.Test.YtbemdcbglpjmiaaGreatDoorFoR
namespace Go.Proofs.YtbemdcbglpjmiaaGreatDoor
open Go.RowKit

/-- The value x, whose list lies behind A. -/
def Vl.val (x : Vl) (A : Option Addr) (c : Nat) : Value := .agg #[.int .i64 x.kind, .int .i64 x.n, .string x.s, .slice A x.l.length c]
def Vl.Ints (w : World) (A : Option Addr) (x : Vl) : Prop := Rd w A (x.l.map (Value.int .i64))
/-- What is handed back says r. -/
def EvIs (r : Option Vl) (w w' : World) (i0 i1 : Int) (s : ByteArray) (A : Option Addr) (m c : Nat) (k : Int) : Prop :=
  match r with
  | some x => i0 = x.kind ∧ i1 = x.n ∧ s = x.s ∧ m = x.l.length ∧ k = 0 ∧ x.Ints w' A ∧ m ≤ c ∧ (x.l ≠ [] → ∀ b o, A = some ⟨b, o, none⟩ → w.heap.size ≤ b)
  | none => i0 = 0 ∧ i1 = 0 ∧ s = e0 ∧ A = none ∧ m = 0 ∧ c = 0 ∧ k ≠ 0
/-- What an evaluation hands back: a value and no error, or the zero value and an error. -/
def EvPost (r : Option Vl) (w : World) (e : Ending) (w' : World) : Prop :=
  ∃ i0 i1 s A m c k, e = .returned (.tuple #[.agg #[.int .i64 i0, .int .i64 i1, .string s, .slice A m c], .int .i64 k]) ∧ Below w.heap.size w w' ∧ EvIs r w w' i0 i1 s A m c k
theorem ev_one {w w' : World} {r : Option Vl} {x : Vl} {v : Value} (hr : r = some x) (hv : v = .tuple #[x.val none 0, .int .i64 0]) (hl : x.l = []) (hb : Below w.heap.size w w') : EvPost r w (.returned v) w' := by
  subst hr hv
  refine ⟨x.kind, x.n, x.s, none, 0, 0, 0, ?_, hb, rfl, rfl, rfl, by rw [hl]; rfl, rfl, by unfold Vl.Ints; rw [hl]; intro h; exact absurd rfl h, Nat.le_refl _, fun h => absurd hl h⟩
  unfold Vl.val
  rw [hl]
  rfl
theorem ev_err {w w' : World} {r : Option Vl} {v : Value} (k : Int) (hr : r = none) (hv : v = .tuple #[.agg #[.int .i64 0, .int .i64 0, .string e0, .slice none 0 0], .int .i64 k]) (hk : k ≠ 0) (hb : Below w.heap.size w w') : EvPost r w (.returned v) w' := by
  subst hr hv
  exact ⟨0, 0, e0, none, 0, 0, k, rfl, hb, rfl, rfl, rfl, rfl, rfl, rfl, hk⟩
theorem ints_kb {S : Nat → Prop} {w w' : World} {x : Vl} {A : Option Addr} (h : x.Ints w A) (hk : Kb S w w') (hs : x.l ≠ [] → ∀ b o, A = some ⟨b, o, none⟩ → ¬ S b) : x.Ints w' A := fun hn => by
  obtain ⟨b, o, e, hb, hc⟩ := h hn
  refine ⟨b, o, e, Nat.lt_of_lt_of_le hb hk.size, fun i u hu => ?_⟩
  have hb2 := hk.block b hb (hs (by rintro h; rw [h] at hn; exact hn rfl) b o e)
  have := hc i u hu
  unfold World.cell? at this ⊢
  rw [hb2]; exact this
theorem EvIs.kb {r : Option Vl} {w0 w1 w w2 : World} {i0 i1 : Int} {s : ByteArray} {A : Option Addr} {m c : Nat} {k : Int} {S : Nat → Prop} (h : EvIs r w0 w1 i0 i1 s A m c k) (hw : w.heap.size ≤ w0.heap.size) (hk : Kb S w1 w2) (hs : ∀ i, w0.heap.size ≤ i → ¬ S i) : EvIs r w w2 i0 i1 s A m c k := by
  cases r with
  | none => exact h
  | some x =>
    obtain ⟨h1, h2, h3, h4, h5, h6, h7, h8⟩ := h
    exact ⟨h1, h2, h3, h4, h5, ints_kb h6 hk fun hl b o e => hs b (h8 hl b o e), h7, fun hl b o e => Nat.le_trans hw (h8 hl b o e)⟩
theorem kb_put {S : Nat → Prop} {w1 w2 : World} (h : Kb S w1 w2) {n : Nat} (hn : S n) (i : Nat) (u : Value) : Kb S w1 (w2.setCell ⟨n, i, none⟩ u) := h.set_ (p := ⟨n, i, none⟩) (.inr hn) u
theorem below_new (w : World) (o : Obj) : Below w.heap.size w (w.alloc o) := (Below.refl _ w).alloc (Nat.le_refl _) o
theorem below_put {w w' : World} (h : Below w.heap.size w w') {n : Nat} (hn : w.heap.size ≤ n) (i : Nat) (u : Value) : Below w.heap.size w (w'.setCell ⟨n, i, none⟩ u) := h.setCell (p := ⟨n, i, none⟩) hn u
theorem below_put4 {w w' : World} (h : Below w.heap.size w w') {n : Nat} (hn : w.heap.size ≤ n) (a b c d : Value) : Below w.heap.size w ((((w'.setCell ⟨n, 0, none⟩ a).setCell ⟨n, 1, none⟩ b).setCell ⟨n, 2, none⟩ c).setCell ⟨n, 3, none⟩ d) :=
  below_put (below_put (below_put (below_put h hn 0 a) hn 1 b) hn 2 c) hn 3 d
/-- A call's result is stored and handed on. -/
theorem ev_pass {r : Option Vl} {w w0 w1 : World} {i0 i1 : Int} {s : ByteArray} {A : Option Addr} {m c : Nat} {k : Int} (hB : Below w.heap.size w w0) (hb : Below w0.heap.size w0 w1) (h : EvIs r w0 w1 i0 i1 s A m c k) {n : Nat} (hn : w.heap.size ≤ n) (h0 : n < w0.heap.size) :
    EvPost r w (.returned (.tuple #[.agg #[.int .i64 i0, .int .i64 i1, .string s, .slice A m c], .int .i64 k])) ((((w1.setCell ⟨n, 0, none⟩ (.int .i64 i0)).setCell ⟨n, 1, none⟩ (.int .i64 i1)).setCell ⟨n, 2, none⟩ (.string s)).setCell ⟨n, 3, none⟩ (.slice A m c)) :=
  ⟨i0, i1, s, A, m, c, k, rfl, below_put4 (below_next hB hb) hn _ _ _ _,
    h.kb hB.size (kb_put (kb_put (kb_put (kb_put (S := fun i => i = n) (Kb.refl _ _) rfl _ _) rfl _ _) rfl _ _) rfl _ _) fun i hi q => by omega⟩
set_option maxRecDepth 100000 in
set_option maxHeartbeats 8000000 in
theorem truth_any (b : Bool) (w : World) : Calls Tryz.prog 121 #[.bool b] w (fun e w' => e = .returned (.agg #[.int .i64 2, .int .i64 (bI b), .string e0, .slice none 0 0]) ∧ Below w.heap.size w w') := by
  cases b
  · go_enter Tryz.func121, Tryz.ntmps121
    go_wp2_with fail
    refine bodyPost_ret (v := .agg #[.int .i64 2, .int .i64 0, .string e0, .slice none 0 0]) (by simp [results, Tryz.results121, go_sem, e0]) rfl ⟨rfl, below_new _ _⟩
  · go_enter Tryz.func121, Tryz.ntmps121
    go_wp2_with fail
    refine bodyPost_ret (v := .agg #[.int .i64 2, .int .i64 1, .string e0, .slice none 0 0]) (by simp [results, Tryz.results121, go_sem, e0]) rfl ⟨rfl, below_new _ _⟩
set_option maxRecDepth 100000 in
set_option maxHeartbeats 8000000 in
theorem wrong_any (w : World) : Calls Tryz.prog 119 #[] w (EvPost none w) := by
  go_enter Tryz.func119, Tryz.ntmps119
  go_wp2_with fail
  refine bodyPost_ret (v := .tuple #[.agg #[.int .i64 0, .int .i64 0, .string e0, .slice none 0 0], .int .i64 402]) (by simp [results, Tryz.results119, go_sem, e0]) rfl (ev_err 402 rfl rfl (by decide) (below_new _ _))
set_option maxRecDepth 100000 in
set_option maxHeartbeats 8000000 in
theorem numbers_any (k a b : Int) (hk : k = 6 ∨ k = 7 ∨ k = 8 ∨ k = 9 ∨ k = 10 ∨ k = 12) (w : World) : Calls Tryz.prog 120 #[.int .i64 k, .int .i64 a, .int .i64 b] w (EvPost (numV k a b) w) := by
  rcases hk with rfl | rfl | rfl | rfl | rfl | rfl
  · go_enter Tryz.func120, Tryz.ntmps120
    go_wp2_with fail
    refine bodyPost_ret (v := .tuple #[(numL (wrap64 (a + b))).val none 0, .int .i64 0]) (by simp [results, Tryz.results120, go_sem, e0, numL, Vl.val]) rfl (ev_one (x := numL (wrap64 (a + b))) (by simp [numV]) rfl rfl (below_push (below_new _ _) _))
  · go_enter Tryz.func120, Tryz.ntmps120
    go_wp2_with fail
    refine bodyPost_ret (v := .tuple #[(numL (wrap64 (a - b))).val none 0, .int .i64 0]) (by simp [results, Tryz.results120, go_sem, e0, numL, Vl.val]) rfl (ev_one (x := numL (wrap64 (a - b))) (by simp [numV]) rfl rfl (below_push (below_new _ _) _))
  · go_enter Tryz.func120, Tryz.ntmps120
    go_wp2_with fail
    refine bodyPost_ret (v := .tuple #[(numL (wrap64 (a * b))).val none 0, .int .i64 0]) (by simp [results, Tryz.results120, go_sem, e0, numL, Vl.val]) rfl (ev_one (x := numL (wrap64 (a * b))) (by simp [numV]) rfl rfl (below_push (below_new _ _) _))
  · by_cases hb : b = 0
    · subst hb
      go_enter Tryz.func120, Tryz.ntmps120
      go_wp2_with fail
      refine bodyPost_ret (v := .tuple #[.agg #[.int .i64 0, .int .i64 0, .string e0, .slice none 0 0], .int .i64 403]) (by simp [results, Tryz.results120, go_sem, e0]) rfl (ev_err 403 (by simp [numV]) rfl (by decide) (below_push (below_new _ _) _))
    · have eb : (b == 0) = false := by simpa using hb
      go_enter Tryz.func120, Tryz.ntmps120
      go_wp2_with fail
      refine bodyPost_ret (v := .tuple #[(numL (wrap64 (a.tdiv b))).val none 0, .int .i64 0]) (by simp [results, Tryz.results120, go_sem, e0, numL, Vl.val]) rfl (ev_one (x := numL (wrap64 (a.tdiv b))) (by simp [numV, hb]) rfl rfl (below_push (below_new _ _) _))
  · by_cases hb : b = 0
    · subst hb
      go_enter Tryz.func120, Tryz.ntmps120
      go_wp2_with fail
      refine bodyPost_ret (v := .tuple #[.agg #[.int .i64 0, .int .i64 0, .string e0, .slice none 0 0], .int .i64 403]) (by simp [results, Tryz.results120, go_sem, e0]) rfl (ev_err 403 (by simp [numV]) rfl (by decide) (below_push (below_new _ _) _))
    · have eb : (b == 0) = false := by simpa using hb
      go_enter Tryz.func120, Tryz.ntmps120
      go_wp2_with fail
      refine bodyPost_ret (v := .tuple #[(numL (a.tmod b)).val none 0, .int .i64 0]) (by simp [results, Tryz.results120, go_sem, e0, numL, Vl.val]) rfl (ev_one (x := numL (a.tmod b)) (by simp [numV, hb]) rfl rfl (below_push (below_new _ _) _))
  · have CT := Lib.hid (fun b w => truth_any b w)
    have B0 : Hid (Below w.heap.size w ((w.alloc (.cells #[.int .i64 0, .int .i64 0, .string e0, .slice none 0 0] 31)).alloc (.cells #[.int .i64 1, .int .i64 0, .string e0, .slice none 0 0] 31))) := Lib.hid (below_push (below_new _ _) _)
    have K0 := Lib.hid (((Blk.new w #[.int .i64 0, .int .i64 0, .string e0, .slice none 0 0] 31).alloc (.cells #[.int .i64 1, .int .i64 0, .string e0, .slice none 0 0] 31)))
    go_enter Tryz.func120, Tryz.ntmps120
    go_wp2_with fail
    refine (CT.out _ _).mono ?_
    rintro e w1 ⟨rfl, hb1⟩
    have K1 := K0.out.belowS hb1
    have f0 : w1.frozen? ⟨w.heap.size, 0, none⟩ = false := K1.frozen 0
    have f1 : w1.frozen? ⟨w.heap.size, 1, none⟩ = false := K1.frozen 1
    have f2 : w1.frozen? ⟨w.heap.size, 2, none⟩ = false := K1.frozen 2
    have f3 : w1.frozen? ⟨w.heap.size, 3, none⟩ = false := K1.frozen 3
    have k0 : w1.cell? ⟨w.heap.size, 0, none⟩ = some (.int .i64 0) := K1.cell 0
    have k1 : w1.cell? ⟨w.heap.size, 1, none⟩ = some (.int .i64 0) := K1.cell 1
    have k2 : w1.cell? ⟨w.heap.size, 2, none⟩ = some (.string e0) := K1.cell 2
    have k3 : w1.cell? ⟨w.heap.size, 3, none⟩ = some (.slice none 0 0) := K1.cell 3
    have hz : w.heap.size < w1.heap.size := by have := hb1.size; simp at this; omega
    have B1 := Lib.hid (below_next B0.out hb1)
    clear hb1 K1
    go_wp2_with fail
    refine bodyPost_ret (v := .tuple #[(tru (decide (a < b))).val none 0, .int .i64 0]) (by simp [results, Tryz.results120, go_sem, e0, tru, Vl.val, k0, k1, k2, k3]) rfl (ev_one (x := tru (decide (a < b))) (by simp [numV]) rfl rfl (below_put4 B1.out (Nat.le_refl _) _ _ _ _))
end Go.Proofs.YtbemdcbglpjmiaaGreatDoor
namespace Go.Proofs.YtbemdcbglpjmiaaGreatDoor
open Go.RowKit

/-- A literal: its kind, and what a Bool's number may be. -/
theorem lit_cases {t : Tm} (h : isLit t = true) : t.kind = 1 ∨ t.kind = 2 ∨ t.kind = 3 ∨ t.kind = 4 ∨ t.kind = 5 := by
  unfold isLit at h
  simp at h
  omega
theorem litV_1 {t : Tm} (h : t.kind = 1) : litV t = numL t.n := by simp [litV, h]
theorem litV_2 {t : Tm} (h : t.kind = 2) : litV t = tru (decide (t.n = 1)) := by simp [litV, h]
theorem litV_3 {t : Tm} (h : t.kind = 3) : litV t = ⟨3, 0, t.text, []⟩ := by simp [litV, h]
theorem litV_4 {t : Tm} (h : t.kind = 4) : litV t = ⟨4, 0, e0, []⟩ := by simp [litV, h]
theorem litV_5 {t : Tm} (h : t.kind = 5) : litV t = ⟨0, 0, e0, []⟩ := by simp [litV, h]
set_option maxRecDepth 100000 in
set_option maxHeartbeats 8000000 in
theorem leaf_lit (k : Int) (nm : ByteArray) (n : Int) (tx : ByteArray) (l r : Int) (h : isLit ⟨k, nm, n, tx, l, r⟩ = true) (h2 : k = 2 → n = 0 ∨ n = 1) (A : Option Addr) (m c : Nat) (w : World) :
    Calls Tryz.prog 72 #[.agg #[.int .i64 k, .string nm, .int .i64 n, .string tx, .int .i64 l, .int .i64 r], .slice A m c] w (EvPost (some (litV ⟨k, nm, n, tx, l, r⟩)) w) := by
  rcases lit_cases h with hk | hk | hk | hk | hk
  · have hk : k = 1 := hk
    subst hk
    clear h h2
    rw [litV_1 rfl]
    go_enter Tryz.func72, Tryz.ntmps72
    go_wp2_with fail
    refine bodyPost_ret (v := .tuple #[(numL n).val none 0, .int .i64 0]) (by simp [results, Tryz.results72, go_sem, e0, numL, Vl.val]) rfl (ev_one (x := numL n) rfl rfl rfl (below_push (below_new _ _) _))
  · have hk : k = 2 := hk
    subst hk
    rw [litV_2 rfl]
    rcases h2 rfl with rfl | rfl
    · clear h h2
      go_enter Tryz.func72, Tryz.ntmps72
      go_wp2_with fail
      refine bodyPost_ret (v := .tuple #[(tru false).val none 0, .int .i64 0]) (by simp [results, Tryz.results72, go_sem, e0, tru, bI, Vl.val]) rfl (ev_one (x := tru false) rfl rfl rfl (below_push (below_new _ _) _))
    · clear h h2
      go_enter Tryz.func72, Tryz.ntmps72
      go_wp2_with fail
      refine bodyPost_ret (v := .tuple #[(tru true).val none 0, .int .i64 0]) (by simp [results, Tryz.results72, go_sem, e0, tru, bI, Vl.val]) rfl (ev_one (x := tru true) rfl rfl rfl (below_push (below_new _ _) _))
  · have hk : k = 3 := hk
    subst hk
    clear h h2
    rw [litV_3 rfl]
    go_enter Tryz.func72, Tryz.ntmps72
    go_wp2_with fail
    refine bodyPost_ret (v := .tuple #[(⟨3, 0, tx, []⟩ : Vl).val none 0, .int .i64 0]) (by simp [results, Tryz.results72, go_sem, Vl.val]) rfl (ev_one (x := ⟨3, 0, tx, []⟩) rfl rfl rfl (below_push (below_new _ _) _))
  · have hk : k = 4 := hk
    subst hk
    clear h h2
    rw [litV_4 rfl]
    go_enter Tryz.func72, Tryz.ntmps72
    go_wp2_with fail
    refine bodyPost_ret (v := .tuple #[(⟨4, 0, e0, []⟩ : Vl).val none 0, .int .i64 0]) (by simp [results, Tryz.results72, go_sem, e0, Vl.val]) rfl (ev_one (x := ⟨4, 0, e0, []⟩) rfl rfl rfl (below_push (below_new _ _) _))
  · have hk : k = 5 := hk
    subst hk
    clear h h2
    rw [litV_5 rfl]
    go_enter Tryz.func72, Tryz.ntmps72
    go_wp2_with fail
    refine bodyPost_ret (v := .tuple #[(⟨0, 0, e0, []⟩ : Vl).val none 0, .int .i64 0]) (by simp [results, Tryz.results72, go_sem, e0, Vl.val]) rfl (ev_one (x := ⟨0, 0, e0, []⟩) rfl rfl rfl (below_push (below_new _ _) _))
set_option maxRecDepth 100000 in
set_option maxHeartbeats 8000000 in
theorem num_any (n : Int) (w : World) : Calls Tryz.prog 76 #[.int .i64 n] w (fun e w' => e = .returned (.agg #[.int .i64 1, .int .i64 n, .string e0, .slice none 0 0]) ∧ Below w.heap.size w w') := by
  go_enter Tryz.func76, Tryz.ntmps76
  go_wp2_with fail
  refine bodyPost_ret (v := .agg #[.int .i64 1, .int .i64 n, .string e0, .slice none 0 0]) (by simp [results, Tryz.results76, go_sem, e0]) rfl ⟨rfl, below_new _ _⟩
set_option maxRecDepth 100000 in
set_option maxHeartbeats 8000000 in
theorem rtruth_any (b : Bool) (w : World) : Calls Tryz.prog 77 #[.bool b] w (fun e w' => e = .returned (.agg #[.int .i64 2, .int .i64 (bI b), .string e0, .slice none 0 0]) ∧ Below w.heap.size w w') := by
  cases b
  · go_enter Tryz.func77, Tryz.ntmps77
    go_wp2_with fail
    refine bodyPost_ret (v := .agg #[.int .i64 2, .int .i64 0, .string e0, .slice none 0 0]) (by simp [results, Tryz.results77, go_sem, e0]) rfl ⟨rfl, below_new _ _⟩
  · go_enter Tryz.func77, Tryz.ntmps77
    go_wp2_with fail
    refine bodyPost_ret (v := .agg #[.int .i64 2, .int .i64 1, .string e0, .slice none 0 0]) (by simp [results, Tryz.results77, go_sem, e0]) rfl ⟨rfl, below_new _ _⟩
end Go.Proofs.YtbemdcbglpjmiaaGreatDoor
