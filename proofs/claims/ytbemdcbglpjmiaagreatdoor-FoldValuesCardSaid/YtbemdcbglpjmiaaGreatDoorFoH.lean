/- Contracts: (*fold.tree).plain, (*fold.tree).literal; reparteeref30.grown, its plain, literal. Contracts: reparteeref30.grown, (*reparteeref30.tree).plain, reparteeref30.literal. -/
import Derived.Test.YtbemdcbglpjmiaaGreatDoorFoT
namespace Go.Proofs.YtbemdcbglpjmiaaGreatDoor
open Go.RowKit

/-- A kind that can refuse. -/
def hard (k : Int) : Bool := decide (k = 9) || (decide (k = 10) || (decide (k = 17) || (decide (k = 18) || decide (k = 19))))
def plainF : Tr → Bool
  | .nil => true
  | .node t x y => !hard t.kind && (plainF x && plainF y)
set_option maxRecDepth 100000 in
set_option maxHeartbeats 8000000 in
theorem lit_any (x : Tr) (base : Nat) (p : Option Addr) (w : World) (h : TreeAt w base x p) :
    Calls Tryz.prog 43 #[.pointer p] w (fun e w' => e = .returned (.bool x.lit) ∧ w' = w) := by
  cases x with
  | nil =>
    have h : p = none := h
    subst h
    go_enter Tryz.func43, Tryz.ntmps43
    go_wp2_with fail
    go_ret
    exact ⟨rfl, rfl⟩
  | node t x y =>
    obtain ⟨b, l, r, rfl, _, hn, _, _⟩ := h
    obtain ⟨hlt, c0, c1, c2, c3, c4, c5, c6, c7⟩ := hn
    by_cases h1 : 1 ≤ t.kind
    · have e1 : decide (1 ≤ t.kind) = true := decide_eq_true h1
      by_cases h5 : t.kind ≤ 5
      · have e5 : decide (t.kind ≤ 5) = true := decide_eq_true h5
        have HE : Hid (Tr.lit (.node t x y) = true) := Lib.hid (by simp [Tr.lit, isLit, h1, h5])
        go_enter Tryz.func43, Tryz.ntmps43
        go_wp2_with fail
        go_ret
        exact ⟨by rw [HE.out]; rfl, rfl⟩
      · have e5 : decide (t.kind ≤ 5) = false := decide_eq_false h5
        have HE : Hid (Tr.lit (.node t x y) = false) := Lib.hid (by simp [Tr.lit, isLit, h5])
        go_enter Tryz.func43, Tryz.ntmps43
        go_wp2_with fail
        go_ret
        exact ⟨by rw [HE.out]; rfl, rfl⟩
    · have e1 : decide (1 ≤ t.kind) = false := decide_eq_false h1
      have HE : Hid (Tr.lit (.node t x y) = false) := Lib.hid (by simp [Tr.lit, isLit, h1])
      go_enter Tryz.func43, Tryz.ntmps43
      go_wp2_with fail
      go_ret
      exact ⟨by rw [HE.out]; rfl, rfl⟩
theorem hard_cases (k : Int) : (hard k = true ∧ (k = 9 ∨ k = 10 ∨ k = 17 ∨ k = 18 ∨ k = 19)) ∨ (hard k = false ∧ (k == 9) = false ∧ (k == 10) = false ∧ (k == 17) = false ∧ (k == 18) = false ∧ (k == 19) = false) := by
  unfold hard
  by_cases h1 : k = 9
  · exact .inl ⟨by simp [h1], .inl h1⟩
  by_cases h2 : k = 10
  · exact .inl ⟨by simp [h2], .inr (.inl h2)⟩
  by_cases h3 : k = 17
  · exact .inl ⟨by simp [h3], .inr (.inr (.inl h3))⟩
  by_cases h4 : k = 18
  · exact .inl ⟨by simp [h4], .inr (.inr (.inr (.inl h4)))⟩
  by_cases h5 : k = 19
  · exact .inl ⟨by simp [h5], .inr (.inr (.inr (.inr h5)))⟩
  exact .inr (by simp [h1, h2, h3, h4, h5])
set_option maxRecDepth 100000 in
set_option maxHeartbeats 8000000 in
theorem plain_any (base : Nat) (w : World) : ∀ (x : Tr) (p : Option Addr), TreeAt w base x p →
    Calls Tryz.prog 27 #[.pointer p] w (fun e w' => e = .returned (.bool (plainF x)) ∧ w' = w) := by
  intro x
  induction x with
  | nil =>
    intro p h
    have h : p = none := h
    subst h
    go_enter Tryz.func27, Tryz.ntmps27
    go_wp2_with fail
    go_ret
    exact ⟨rfl, rfl⟩
  | node t x y ihx ihy =>
    intro p h
    obtain ⟨b, l, r, rfl, _, hn, hx, hy⟩ := h
    obtain ⟨hlt, c0, c1, c2, c3, c4, c5, c6, c7⟩ := hn
    have CX := Lib.hid (ihx _ hx)
    have CY := Lib.hid (ihy _ hy)
    clear ihx ihy hx hy
    rcases hard_cases t.kind with ⟨hh, hk⟩ | ⟨hh, e1, e2, e3, e4, e5⟩
    · have HE : Hid (plainF (.node t x y) = false) := Lib.hid (by simp [plainF, hh])
      clear hh
      rcases hk with hk | hk | hk | hk | hk
      all_goals
        rw [hk] at c0
        clear hk
        go_enter Tryz.func27, Tryz.ntmps27
        go_wp2_with fail
        go_ret
        exact ⟨by rw [HE.out]; rfl, rfl⟩
    · have HE : Hid (plainF (.node t x y) = (plainF x && plainF y)) := Lib.hid (by simp [plainF, hh])
      clear hh
      go_enter Tryz.func27, Tryz.ntmps27
      go_wp2_with fail
      refine CX.out.mono ?_
      rintro e w1 ⟨rfl, rfl⟩
      rcases hpx : plainF x with _ | _
      · have HP := Lib.hid hpx
        clear hpx
        go_wp2_with fail
        go_ret
        exact ⟨by rw [HE.out, HP.out]; rfl, rfl⟩
      · have HP := Lib.hid hpx
        clear hpx
        go_wp2_with fail
        refine CY.out.mono ?_
        rintro e w1 ⟨rfl, rfl⟩
        go_wp2_with fail
        go_ret
        exact ⟨by rw [HE.out, HP.out]; rfl, rfl⟩
end Go.Proofs.YtbemdcbglpjmiaaGreatDoor
namespace Go.Proofs.YtbemdcbglpjmiaaGreatDoor
open Go.RowKit

theorem gr_neg {l : List Tm} {k : Int} {x : Tr} (h : Gr l k x) : (x = .nil ∧ k = -1 ∧ decide (0 ≤ k) = false) ∨ (x ≠ .nil ∧ 0 ≤ k ∧ decide (0 ≤ k) = true) := by
  cases x with
  | nil =>
    have h : k = -1 := h
    subst h
    exact .inl ⟨rfl, rfl, rfl⟩
  | node t x y => exact .inr ⟨by simp, h.1, decide_eq_true h.1⟩
theorem grown_set {w2 : World} {n : Nat} {t : Tm} {ty : TypeId} {p0 q0 : Option Addr} {y : Tr} {r : Option Addr} (i : Nat) (u : Value) (hb : Blk w2 n (t.node p0 q0) ty) (hy : TreeAt w2 (n + 1) y r) :
    Blk (w2.setCell ⟨n, i, none⟩ u) n ((t.node p0 q0).setIfInBounds i u) ty ∧ TreeAt (w2.setCell ⟨n, i, none⟩ u) (n + 1) y r :=
  ⟨hb.set_ i u, hy.kb (S := fun j => j = n) (Kb.set_ (S := fun j => j = n) (Kb.refl _ _) (p := ⟨n, i, none⟩) (.inr rfl) u) (fun j hj hq => by omega)⟩
theorem grown_below {w w2 : World} (h : Below w.heap.size w w2) (i : Nat) (u : Value) : Below w.heap.size w (w2.setCell ⟨w.heap.size, i, none⟩ u) := h.setCell (p := ⟨w.heap.size, i, none⟩) (Nat.le_refl _) u
theorem tm_below {w w2 : World} {b o : Nat} {t : Tm} (h : TmAt w b o t) (hb : b < w.heap.size) (k : Below w.heap.size w w2) : TmAt w2 b o t :=
  ⟨(cell_below _ hb k).trans h.c0, (cell_below _ hb k).trans h.c1, (cell_below _ hb k).trans h.c2, (cell_below _ hb k).trans h.c3, (cell_below _ hb k).trans h.c4, (cell_below _ hb k).trans h.c5⟩
theorem grown_end {w w' : World} {t : Tm} {x y : Tr} {p q : Option Addr} {ty : TypeId} (hB : Below w.heap.size w w') (hk : Blk w' w.heap.size (t.node p q) ty) (hx : TreeAt w' (w.heap.size + 1) x p) (hy : TreeAt w' (w.heap.size + 1) y q) :
    GrPost (.node t x y) w (.returned (.pointer (some ⟨w.heap.size, 0, none⟩))) w' :=
  ⟨_, rfl, ⟨w.heap.size, p, q, rfl, Nat.le_refl _, Nd.of hk, hx.mono (by omega), hy.mono (by omega)⟩, hB⟩
set_option maxRecDepth 100000 in
set_option maxHeartbeats 8000000 in
theorem grown_any (l : List Tm) (A : Option Addr) (c : Nat) : ∀ (x : Tr) (k : Int) (w : World), x ≠ .nil → Gr l k x → Tms w A l →
    Calls Tryz.prog 25 #[.slice A l.length c, .int .i64 k] w (GrPost x w) := by
  intro x
  induction x with
  | nil => intro k w h; exact absurd rfl h
  | node t x y ihx ihy =>
    intro k w _ hg hT
    obtain ⟨h0, ht, hgx, hgy, _, _⟩ := hg
    obtain ⟨a, rfl⟩ : ∃ a : Nat, k = a := ⟨k.toNat, by omega⟩
    have ht : l[a]? = some t := by simpa using ht
    have hal : a < l.length := (List.getElem?_eq_some_iff.1 ht).1
    have CX := Lib.hid (fun w h0 h => ihx t.l w h0 hgx h)
    have CY := Lib.hid (fun w h0 h => ihy t.r w h0 hgy h)
    have HT := Lib.hid ht
    have hnx := gr_neg hgx
    have hny := gr_neg hgy
    clear ihx ihy hgx hgy h0 ht
    obtain ⟨b, o, t', rfl, hb, ht', hc⟩ := hT.at_ hal
    obtain rfl : t' = t := Option.some.inj (ht'.symm.trans HT.out)
    have HC := Lib.hid hc
    have HTM := Lib.hid hT
    obtain ⟨c0, c1, c2, c3, c4, c5⟩ := hc
    clear ht' hT
    have K0 := Lib.hid (Blk.new w (t'.node none none) 106)
    have B0 : Hid (Below w.heap.size w (w.alloc (.cells (t'.node none none) 106))) := Lib.hid ((Below.refl _ w).alloc (Nat.le_refl _) _)
    rcases hnx with ⟨rfl, hl, el⟩ | ⟨nx, hl, el⟩
    · have HL := Lib.hid hl
      clear hl
      rcases hny with ⟨rfl, hr, er⟩ | ⟨ny, hr, er⟩
      · have HR := Lib.hid hr
        clear hr
        go_enter Tryz.func25, Tryz.ntmps25
        go_wp2_with fail
        go_ret
        exact grown_end B0.out K0.out rfl rfl
      · have NY := Lib.hid ny
        clear ny
        go_enter Tryz.func25, Tryz.ntmps25
        go_wp2_with fail
        refine (CY.out _ NY.out (HTM.out.below B0.out)).mono ?_
        rintro e w2 ⟨q, rfl, hy, hb2⟩
        have hz : w.heap.size < w2.heap.size := by have := hb2.size; simp at this; omega
        have K2 := Lib.hid (K0.out.belowS hb2)
        have B2 := Lib.hid (below_next B0.out hb2)
        have HY := Lib.hid (hy.mono (base' := w.heap.size + 1) (by simp))
        have f7 : w2.frozen? ⟨w.heap.size, 7, none⟩ = false := K2.out.frozen 7
        have k7 : w2.cell? ⟨w.heap.size, 7, none⟩ = some (.pointer none) := K2.out.cell 7
        clear hy hb2
        go_wp2_with fail
        go_ret
        obtain ⟨hk, hy⟩ := grown_set 7 (.pointer q) K2.out HY.out
        exact grown_end (grown_below B2.out _ _) hk rfl hy
    · have NX := Lib.hid nx
      clear nx
      go_enter Tryz.func25, Tryz.ntmps25
      go_wp2_with fail
      refine (CX.out _ NX.out (HTM.out.below B0.out)).mono ?_
      rintro e w2 ⟨p, rfl, hx, hb2⟩
      have hz : w.heap.size < w2.heap.size := by have := hb2.size; simp at this; omega
      have K2 := Lib.hid (K0.out.belowS hb2)
      have B2 := Lib.hid (below_next B0.out hb2)
      have HX := Lib.hid (hx.mono (base' := w.heap.size + 1) (by simp))
      have f6 : w2.frozen? ⟨w.heap.size, 6, none⟩ = false := K2.out.frozen 6
      have k6 : w2.cell? ⟨w.heap.size, 6, none⟩ = some (.pointer none) := K2.out.cell 6
      obtain ⟨d0, d1, d2, d3, d4, d5⟩ := tm_below HC.out hb B2.out
      clear hx hb2 c0 c1 c2 c3 c4 c5
      rcases hny with ⟨rfl, hr, er⟩ | ⟨ny, hr, er⟩
      · have HR := Lib.hid hr
        clear hr
        go_wp2_with fail
        go_ret
        obtain ⟨hk, hx⟩ := grown_set 6 (.pointer p) K2.out HX.out
        exact grown_end (grown_below B2.out _ _) hk hx rfl
      · have NY := Lib.hid ny
        clear ny
        obtain ⟨hk, hx⟩ := grown_set 6 (.pointer p) K2.out HX.out
        have K3 : Hid (Blk (w2.setCell ⟨w.heap.size, 6, none⟩ (.pointer p)) w.heap.size (t'.node p none) 106) := Lib.hid hk
        have X3 := Lib.hid hx
        have B3 := Lib.hid (grown_below B2.out 6 (.pointer p))
        clear hk hx
        go_wp2_with fail
        refine (CY.out _ NY.out (HTM.out.below B3.out)).mono ?_
        rintro e w4 ⟨q, rfl, hy, hb4⟩
        have hz4 : w.heap.size < w4.heap.size := by have := hb4.size; simp at this; omega
        have K4 := Lib.hid (K3.out.belowS hb4)
        have B4 := Lib.hid (below_next B3.out hb4)
        have HY := Lib.hid (hy.mono (base' := w.heap.size + 1) (by simp; omega))
        have X4 := Lib.hid (X3.out.below hb4)
        have f7 : w4.frozen? ⟨w.heap.size, 7, none⟩ = false := K4.out.frozen 7
        have k7 : w4.cell? ⟨w.heap.size, 7, none⟩ = some (.pointer none) := K4.out.cell 7
        clear hy hb4 d0 d1 d2 d3 d4 d5 f6 k6
        go_wp2_with fail
        go_ret
        obtain ⟨hk, hy⟩ := grown_set 7 (.pointer q) K4.out HY.out
        exact grown_end (grown_below B4.out _ _) hk (grown_set 7 (.pointer q) K4.out X4.out).2 hy
theorem tree_nil {w : World} {base : Nat} {x : Tr} {p : Option Addr} (h : TreeAt w base x p) : (x = .nil ∧ p = none) ∨ (x ≠ .nil ∧ ∃ b, p = some ⟨b, 0, none⟩) := by
  cases x with
  | nil => exact .inl ⟨rfl, h⟩
  | node t x y => obtain ⟨b, _, _, h, _⟩ := h; exact .inr ⟨by simp, b, h⟩
set_option maxRecDepth 100000 in
set_option maxHeartbeats 8000000 in
theorem rplain_any (base : Nat) (w : World) : ∀ (x : Tr) (p : Option Addr), x ≠ .nil → TreeAt w base x p →
    Calls Tryz.prog 28 #[.pointer p] w (fun e w' => e = .returned (.bool (plainF x)) ∧ w' = w) := by
  intro x
  induction x with
  | nil => intro p h; exact absurd rfl h
  | node t x y ihx ihy =>
    intro p _ h
    obtain ⟨b, l, r, rfl, _, hn, hx, hy⟩ := h
    obtain ⟨hlt, c0, c1, c2, c3, c4, c5, c6, c7⟩ := hn
    have CX := Lib.hid (fun h => ihx _ h hx)
    have CY := Lib.hid (fun h => ihy _ h hy)
    have nx := tree_nil hx
    have ny := tree_nil hy
    clear ihx ihy hx hy
    rcases hard_cases t.kind with ⟨hh, hk⟩ | ⟨hh, e1, e2, e3, e4, e5⟩
    · have HE : Hid (plainF (.node t x y) = false) := Lib.hid (by simp [plainF, hh])
      clear hh nx ny
      rcases hk with hk | hk | hk | hk | hk
      all_goals
        rw [hk] at c0
        clear hk
        go_enter Tryz.func28, Tryz.ntmps28
        go_wp2_with fail
        go_ret
        exact ⟨by rw [HE.out]; rfl, rfl⟩
    · have HE : Hid (plainF (.node t x y) = (plainF x && plainF y)) := Lib.hid (by simp [plainF, hh])
      clear hh
      rcases nx with ⟨rfl, rfl⟩ | ⟨nx, bx, rfl⟩
      · rcases ny with ⟨rfl, rfl⟩ | ⟨ny, bb, rfl⟩
        · go_enter Tryz.func28, Tryz.ntmps28
          go_wp2_with fail
          go_ret
          exact ⟨by rw [HE.out]; rfl, rfl⟩
        · have NY := Lib.hid ny
          clear ny
          go_enter Tryz.func28, Tryz.ntmps28
          go_wp2_with fail
          refine (CY.out NY.out).mono ?_
          rintro e w1 ⟨rfl, rfl⟩
          go_wp2_with fail
          go_ret
          exact ⟨by rw [HE.out]; rfl, rfl⟩
      · have NX := Lib.hid nx
        clear nx
        go_enter Tryz.func28, Tryz.ntmps28
        go_wp2_with fail
        refine (CX.out NX.out).mono ?_
        rintro e w1 ⟨rfl, rfl⟩
        rcases hpx : plainF x with _ | _
        · have HP := Lib.hid hpx
          clear hpx ny
          go_wp2_with fail
          go_ret
          exact ⟨by rw [HE.out, HP.out]; rfl, rfl⟩
        · have HP := Lib.hid hpx
          clear hpx
          rcases ny with ⟨rfl, rfl⟩ | ⟨ny, bb, rfl⟩
          · go_wp2_with fail
            go_ret
            exact ⟨by rw [HE.out, HP.out]; rfl, rfl⟩
          · have NY := Lib.hid ny
            clear ny
            go_wp2_with fail
            refine (CY.out NY.out).mono ?_
            rintro e w1 ⟨rfl, rfl⟩
            go_wp2_with fail
            go_ret
            exact ⟨by rw [HE.out, HP.out]; rfl, rfl⟩
set_option maxRecDepth 100000 in
set_option maxHeartbeats 8000000 in
theorem rlit_any (k : Int) (w : World) : Calls Tryz.prog 46 #[.int .i64 k] w (fun e w' => e = .returned (.bool (decide (1 ≤ k) && decide (k ≤ 5))) ∧ w' = w) := by
  by_cases h1 : 1 ≤ k
  · have e1 : decide (1 ≤ k) = true := decide_eq_true h1
    go_enter Tryz.func46, Tryz.ntmps46
    go_wp2_with fail
    go_ret
    exact ⟨by rw [e1]; rfl, rfl⟩
  · have e1 : decide (1 ≤ k) = false := decide_eq_false h1
    go_enter Tryz.func46, Tryz.ntmps46
    go_wp2_with fail
    go_ret
    exact ⟨rfl, rfl⟩
end Go.Proofs.YtbemdcbglpjmiaaGreatDoor
