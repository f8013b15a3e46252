/- Contracts: (*fold.tree).fold at the nil map. Contracts: fold.Term, fold.Plain. -/
import Derived.Test.YtbemdcbglpjmiaaGreatDoorFpA
import Derived.Test.YtbemdcbglpjmiaaGreatDoorFoO
import Derived.Deep.RegionHeld3
import Derived.Deep.DrawnRows
import Derived.Maps.OwnSet
import Derived.Maps.Keyed
namespace Go.Proofs.YtbemdcbglpjmiaaGreatDoor
open Go.RowKit Go.WideMaps Go.Maps

theorem opT_nil (t : Tm) (y : Tr) : opT t .nil y = none := by cases y <;> rfl
theorem opT_lit {t : Tm} {x y : Tr} (h : x.lit = false ∨ y.lit = false) : opT t x y = none := by
  cases x with
  | nil => exact opT_nil _ _
  | node a xa ya =>
    cases y with
    | nil =>
      rcases h with h | h
      · have h : isLit a = false := h
        simp [opT, h]
      · cases h
    | node b xb yb =>
      rcases h with h | h
      · have h : isLit a = false := h
        simp [opT, h]
      · have h : isLit b = false := h
        simp [opT, h]
theorem look_none (s : ByteArray) (hs : s.size ≤ 1000) (W : World) : (Instr.lookup 101 (.map none) (.string s) true).run Tryz.prog W = .ok (.tuple #[.pointer none, .bool false]) W := by
  simpa using Maps.look_nil (w := W) true (string_keyed Tryz.underlying9) Tryz.underlying101 (show (zeroValue 52).run Tryz.prog W = .ok (.pointer none) W by kernel_rfl) (keyOf_string_mk Tryz.underlying9 (s := s) (by unfold maxLen; omega))
set_option maxRecDepth 100000 in
set_option maxHeartbeats 8000000 in
theorem fold_any : ∀ (x : Tr) (p : Option Addr) (lo : Nat) (w : World), x.Ok → x.size ≤ 200 → TreeAt w lo x p →
    Calls Tryz.prog 22 #[.pointer p, .map none] w (GrPost (foldF x) w) := by
  intro x
  induction x with
  | nil =>
    intro p lo w _ _ h
    have h : p = none := h
    subst h
    go_enter Tryz.func22, Tryz.ntmps22
    go_wp2_with fail
    go_ret
    exact ⟨none, rfl, rfl, Below.refl _ _⟩
  | node t x y ihx ihy =>
    intro p lo w hO hS h
    obtain ⟨b, pl, pr, rfl, _, hn, hx, hy⟩ := h
    obtain ⟨hf, hor, hox, hoy⟩ := hO
    rw [Tr.size] at hS
    have CX := Lib.hid (fun w h => ihx pl lo w hox (by omega) h)
    have CY := Lib.hid (fun w h => ihy pr lo w hoy (by omega) h)
    have HX := Lib.hid hx
    have HY := Lib.hid hy
    have HN := Lib.hid hn
    have hbl := hn.lt
    have FX := Lib.hid (fold_ok hox)
    have FY := Lib.hid (fold_ok hoy)
    have hkey : (t.kind == 0) = true ∧ (∀ W : World, (Instr.lookup 101 (.map none) (.string t.name) true).run Tryz.prog W = .ok (.tuple #[.pointer none, .bool false]) W) ∨ (t.kind == 0) = false := by
      by_cases h0 : t.kind = 0
      · refine .inl ⟨by simpa using h0, look_none t.name ?_⟩
        unfold fldF at hf
        rw [if_pos h0] at hf
        simp only [Bool.and_eq_true, nameF, decide_eq_true_eq] at hf
        omega
      · exact .inr (by simpa using h0)
    have HOR := Lib.hid hor
    have HS := Lib.hid hS
    clear hS
    have HF := Lib.hid hf
    have keepS : ∀ W, Below w.heap.size w W → Below w.heap.size w W ∧ W.cell? ⟨b, 0, none⟩ = some (.int .i64 t.kind) ∧ W.cell? ⟨b, 1, none⟩ = some (.string t.name) ∧ W.cell? ⟨b, 2, none⟩ = some (.int .i64 t.n) ∧ W.cell? ⟨b, 3, none⟩ = some (.string t.text) ∧ W.cell? ⟨b, 4, none⟩ = some (.int .i64 t.l) ∧ W.cell? ⟨b, 5, none⟩ = some (.int .i64 t.r) ∧ W.cell? ⟨b, 6, none⟩ = some (.pointer pl) ∧ W.cell? ⟨b, 7, none⟩ = some (.pointer pr) := fun W hb =>
      have h := HN.out.below hb
      ⟨hb, h.c0, h.c1, h.c2, h.c3, h.c4, h.c5, h.c6, h.c7⟩
    have KS := Lib.hid keepS
    obtain ⟨_, c0, c1, c2, c3, c4, c5, c6, c7⟩ := keepS w (Below.refl _ _)
    have hnx := tree_nil hx
    clear ihx ihy hx hy hn hor hf hox hoy keepS
    rcases hkey with ⟨e0, hlk⟩ | e0
    all_goals
      go_enter Tryz.func22, Tryz.ntmps22
      go_wp2_with fail
      try clear hlk
      go_region_held3 (fun W => Below w.heap.size w W ∧ W.cell? ⟨b, 0, none⟩ = some (.int .i64 t.kind) ∧ W.cell? ⟨b, 1, none⟩ = some (.string t.name) ∧ W.cell? ⟨b, 2, none⟩ = some (.int .i64 t.n) ∧ W.cell? ⟨b, 3, none⟩ = some (.string t.text) ∧ W.cell? ⟨b, 4, none⟩ = some (.int .i64 t.l) ∧ W.cell? ⟨b, 5, none⟩ = some (.int .i64 t.r) ∧ W.cell? ⟨b, 6, none⟩ = some (.pointer pl) ∧ W.cell? ⟨b, 7, none⟩ = some (.pointer pr))
        (first
          | (exact KS.out _ ((Below.refl _ _).drew))
          | (exact KS.out _ (below_next (And.left (by assumption)) (by assumption)))
          | (exact KS.out _ (below_push (And.left (by assumption)) _)))
        (first
          | (go_at_call 22; (with_reducible refine (CX.out _ ?_).mono ?_); exact HX.out.below (And.left (by assumption)); rintro e w2 ⟨p, rfl, hx, hb2⟩)
          | (go_at_call 22; (with_reducible refine (CY.out _ ?_).mono ?_); exact HY.out.below (And.left (by assumption)); rintro e w3 ⟨q, rfl, hy, hb3⟩))
    all_goals
      have hB4 := And.left (show Below w.heap.size w (w3.alloc (.cells (t.node p q) 100)) ∧ _ by assumption)
      have hle2 := hb2.size
      have hle3 := hb3.size
      have hX := (hx.below hb3).mono (base' := w.heap.size) (Nat.le_refl _)
      have hY := hy.mono (base' := w.heap.size) hle2
      obtain ⟨n3, hn3⟩ : ∃ n, n = w3.heap.size := ⟨_, rfl⟩
      have hle : w.heap.size ≤ w3.heap.size := Nat.le_trans hle2 hle3
      obtain ⟨W4, hW4⟩ : ∃ W, W = w3.alloc (.cells #[.int .i64 t.kind, .string t.name, .int .i64 t.n, .string t.text, .int .i64 t.l, .int .i64 t.r, .pointer p, .pointer q] 100) := ⟨_, rfl⟩
      have HB4 : Hid (Below w.heap.size w W4) := Lib.hid (by rw [hW4]; exact hB4)
      have HX4 : Hid (TreeAt W4 w.heap.size (foldF x) p) := Lib.hid (by rw [hW4]; exact hX.below (below_new _ _))
      have HY4 : Hid (TreeAt W4 w.heap.size (foldF y) q) := Lib.hid (by rw [hW4]; exact hY.below (below_new _ _))
      have TF : Hid (TreeAt W4 w.heap.size (.node t (foldF x) (foldF y)) (some ⟨n3, 0, none⟩)) := Lib.hid (by rw [hW4, hn3]; exact TreeAt.new t 100 hX hY hle)
      have K4 : Blk W4 n3 (t.node p q) 100 := by rw [hW4, hn3]; exact Blk.new _ _ _
      have hN4 := HN.out.below HB4.out
      have d6 : W4.cell? ⟨b, 6, none⟩ = some (.pointer pl) := hN4.c6
      have lb4 : b < W4.heap.size := hN4.lt
      have g6 : W4.cell? ⟨n3, 6, none⟩ = some (.pointer p) := K4.cell 6
      have g7 : W4.cell? ⟨n3, 7, none⟩ = some (.pointer q) := K4.cell 7
      have ln4 : n3 < W4.heap.size := K4.lt
      clear hN4 K4 hX hY hB4 hb2 hb3 hx hy hle2 hle3 hle
      rw [← hW4, ← hn3]
      clear hW4 hn3 c0 c1 c2 c3 c4 c5 c6 c7
      rcases hnx with ⟨rfl, rfl⟩ | ⟨nx, bx, rfl⟩
      · go_wp2_with fail
        go_ret
        exact ⟨_, rfl, by rw [foldF, foldN_none (by rw [foldF]; exact opT_nil _ _)]; exact TF.out, HB4.out⟩
      · have NX := Lib.hid nx
        clear nx
        go_wp2_with fail
        refine (lit_any (foldF x) w.heap.size p W4 HX4.out).mono ?_
        rintro e w5 ⟨rfl, rfl⟩
        rcases hl1 : (foldF x).lit with _ | _
        · have HL1 := Lib.hid hl1
          clear hl1
          go_wp2_with fail
          go_ret
          exact ⟨_, rfl, by rw [foldF, foldN_none (opT_lit (.inl HL1.out))]; exact TF.out, HB4.out⟩
        · have HL1 := Lib.hid hl1
          clear hl1
          go_wp2_with fail
          refine (lit_any (foldF y) w.heap.size q w5 HY4.out).mono ?_
          rintro e w6 ⟨rfl, rfl⟩
          rcases hl2 : (foldF y).lit with _ | _
          · have HL2 := Lib.hid hl2
            clear hl2
            go_wp2_with fail
            go_ret
            exact ⟨_, rfl, by rw [foldF, foldN_none (opT_lit (.inr HL2.out))]; exact TF.out, HB4.out⟩
          · have HL2 := Lib.hid hl2
            clear hl2
            have hok : (Tr.node t (foldF x) (foldF y)).Ok := ⟨HF.out, by
              rcases HOR.out with ⟨a, q1, q2⟩ | ⟨a, q1, q2⟩ | ⟨a, q1, q2⟩
              · exact absurd q1 NX.out
              · exact .inr (.inl ⟨a, fun h => q1 (fold_nil.1 h), fold_nil.2 q2⟩)
              · exact .inr (.inr ⟨a, fun h => q1 (fold_nil.1 h), fun h => q2 (fold_nil.1 h)⟩), FX.out.1, FY.out.1⟩
            obtain ⟨r, hr, hev⟩ := eval_node t (foldF x) (foldF y) hok (fun h => NX.out (fold_nil.1 h)) HL1.out HL2.out
            have HR := Lib.hid hr
            have HEV := Lib.hid hev
            have CL := Lib.hid (lay_any w6 w.heap.size (.node t (foldF x) (foldF y)) (some ⟨n3, 0, none⟩) [] (.slice none 0 0) w6 TF.out (Below.refl _ _) (World.ownsRow_nil _ _ _ _) (by rw [Tr.size]; have := HS.out; have := FX.out.2.1; have := FY.out.2.1; simp; omega))
            clear hr hev hok
            go_wp2_with fail
            refine CL.out.mono ?_
            rintro e w7 ⟨v7, rfl, hl7, ho7⟩
            obtain ⟨A7, c7, rfl, hc7⟩ := own_shape ho7
            have HB7 := Lib.hid (below_next HB4.out (hl7.below (Below.refl _ _) (fun g hg => by cases hg)))
            have HT7 := Lib.hid (own_rd ho7)
            have TF7 := Lib.hid (TF.out.below (hl7.below (Below.refl _ _) (fun g hg => by cases hg)))
            have CE := Lib.hid (HEV.out A7 c7 w7 HT7.out).1
            clear hl7 ho7 hc7
            go_wp2_with fail
            refine CE.out.mono ?_
            rintro e w8 ⟨i0, i1, s, Q, m', c', k, rfl, hb8, hi⟩
            have HB8 := Lib.hid (below_next HB7.out hb8)
            have TF8 := Lib.hid (TF7.out.below hb8)
            clear hb8
            rcases hre : r with _ | v
            · rw [hre] at hi
              obtain ⟨rfl, rfl, rfl, rfl, rfl, rfl, hk⟩ := hi
              have ek : (k == 0) = false := by simpa using hk
              have HRE := Lib.hid hre
              clear hre hk
              go_wp2_with fail
              go_ret
              exact ⟨_, rfl, by rw [foldF, foldN_none (by rw [HR.out, HRE.out]; rfl)]; exact TF8.out.below (below_new _ _), below_push HB8.out _⟩
            · rw [hre] at hi
              obtain ⟨rfl, rfl, rfl, rfl, rfl, hia, hmc, hfr⟩ := hi
              have HRE := Lib.hid hre
              clear hre hia hmc hfr
              have HB9 := Lib.hid (below_push HB8.out (.cells (vlC v.kind v.n v.s Q v.l.length c') 31))
              have TF9 := Lib.hid (TF8.out.below (below_new w8 (.cells (vlC v.kind v.n v.s Q v.l.length c') 31)))
              have CO := Lib.hid (of_any v Q c' (w8.alloc (.cells (vlC v.kind v.n v.s Q v.l.length c') 31)))
              have HOP : Hid (opT t (foldF x) (foldF y) = writV v) := Lib.hid (by rw [HR.out, HRE.out]; rfl)
              clear HR HRE HEV CE CL
              go_wp2_with fail
              refine CO.out.mono ?_
              intro e w9 hof
              obtain ⟨hb9, hof⟩ := hof
              have HB10 := Lib.hid (below_next HB9.out hb9)
              have TF10 := Lib.hid (TF9.out.below hb9)
              have hsz := HB9.out.size
              clear hb9
              rcases hwv : writV v with _ | u
              · rw [hwv] at hof
                have hof : e = .returned (.pointer none) := hof
                subst hof
                have HWV := Lib.hid hwv
                clear hwv
                go_wp2_with fail
                go_ret
                exact ⟨_, rfl, by rw [foldF, foldN_none (HOP.out.trans HWV.out)]; exact TF10.out, HB10.out⟩
              · rw [hwv] at hof
                obtain ⟨p9, rfl, hp9⟩ := hof
                have HP9 := Lib.hid (hp9.mono hsz)
                obtain ⟨b9, l9, r9, rfl, _⟩ := hp9
                have HWV := Lib.hid hwv
                clear hwv
                go_wp2_with fail
                go_ret
                exact ⟨_, rfl, by rw [foldF, foldN_some (HOP.out.trans HWV.out)]; exact HP9.out, HB10.out⟩
end Go.Proofs.YtbemdcbglpjmiaaGreatDoor
namespace Go.Proofs.YtbemdcbglpjmiaaGreatDoor
open Go.RowKit

/-- What a folding hands back: the row of x, its root's place. -/
def TermPost (x : Tr) (w : World) (e : Ending) (w' : World) : Prop :=
  ∃ A c, e = .returned (.tuple #[.slice A (layF x []).1.length c, .int .i64 (layF x []).2]) ∧ Tms w' A (layF x []).1 ∧ Below w.heap.size w w'
set_option maxRecDepth 100000 in
set_option maxHeartbeats 8000000 in
theorem fTerm_no (l : List Tm) (A : Option Addr) (c : Nat) (root : Int) (w : World) (hT : Tms w A l) (hl : l.length ≤ 1000000) (hm : tmF l root = false) :
    Calls Tryz.prog 7 #[.slice A l.length c, .int .i64 root] w (TermPost .nil w) := by
  have CM := Lib.hid (may_any l A c root w hT hl)
  have HM := Lib.hid hm
  clear hm
  go_enter Tryz.func7, Tryz.ntmps7
  go_wp2_with fail
  refine CM.out.mono ?_
  rintro e w1 ⟨rfl, hb1⟩
  rw [HM.out]
  have HB1 := Lib.hid hb1
  clear hb1
  go_wp2_with fail
  go_ret2
  exact ⟨none, 0, rfl, Rd.nil, HB1.out⟩
set_option maxRecDepth 100000 in
set_option maxHeartbeats 8000000 in
theorem fTerm_yes (l : List Tm) (A : Option Addr) (c : Nat) (root : Int) (w : World) (hT : Tms w A l) (hl : l.length ≤ 1000000) (hm : tmF l root = true) (x : Tr) (hx : Gr l root x) (hO : x.Ok) (hs : x.size ≤ 200) :
    Calls Tryz.prog 7 #[.slice A l.length c, .int .i64 root] w (TermPost (foldF x) w) := by
  have CM := Lib.hid (may_any l A c root w hT hl)
  have CG := Lib.hid (fun W h => grow_any l A c x root W hx h)
  have CF := Lib.hid (fun p lo W h => fold_any x p lo W hO hs h)
  have FX := Lib.hid (fold_ok hO)
  have HS := Lib.hid hs
  have HM := Lib.hid hm
  have HT := Lib.hid hT
  clear hm hT hx hO hs
  go_enter Tryz.func7, Tryz.ntmps7
  go_wp2_with fail
  refine CM.out.mono ?_
  rintro e w1 ⟨rfl, hb1⟩
  rw [HM.out]
  have HB1 := Lib.hid hb1
  clear hb1
  go_wp2_with fail
  refine (CG.out w1 (HT.out.below HB1.out)).mono ?_
  rintro e w2 ⟨p, rfl, hp, hb2⟩
  have HB2 := Lib.hid (below_next HB1.out hb2)
  have HP := Lib.hid hp
  clear hb2 hp
  go_wp2_with fail
  refine (CF.out p _ w2 HP.out).mono ?_
  rintro e w3 ⟨q, rfl, hq, hb3⟩
  have HB3 := Lib.hid (below_next HB2.out hb3)
  have CL := Lib.hid (lay_any w3 _ (foldF x) q [] (.slice none 0 0) w3 hq (Below.refl _ _) (World.ownsRow_nil _ _ _ _) (by have := HS.out; have := FX.out.2.1; simp; omega))
  clear hb3 hq
  go_wp2_with fail
  refine CL.out.mono ?_
  rintro e w4 ⟨v4, rfl, hl4, ho4⟩
  obtain ⟨A4, c4, rfl, hc4⟩ := own_shape ho4
  have HB4 := Lib.hid (below_next HB3.out (hl4.below (Below.refl _ _) (fun g hg => by cases hg)))
  have HT4 := Lib.hid (own_rd ho4)
  clear hl4 ho4 hc4
  go_wp2_with fail
  go_ret2
  exact ⟨A4, c4, rfl, HT4.out, HB4.out⟩
set_option maxRecDepth 100000 in
set_option maxHeartbeats 8000000 in
theorem fPlain_no (l : List Tm) (A : Option Addr) (c : Nat) (root : Int) (w : World) (hT : Tms w A l) (hl : l.length ≤ 1000000) (hm : tmF l root = false) :
    Calls Tryz.prog 10 #[.slice A l.length c, .int .i64 root] w (fun e w' => e = .returned (.bool false) ∧ Below w.heap.size w w') := by
  have CM := Lib.hid (may_any l A c root w hT hl)
  have HM := Lib.hid hm
  clear hm
  go_enter Tryz.func10, Tryz.ntmps10
  go_wp2_with fail
  refine CM.out.mono ?_
  rintro e w1 ⟨rfl, hb1⟩
  rw [HM.out]
  have HB1 := Lib.hid hb1
  clear hb1
  go_wp2_with fail
  go_ret
  exact ⟨rfl, HB1.out⟩
set_option maxRecDepth 100000 in
set_option maxHeartbeats 8000000 in
theorem fPlain_yes (l : List Tm) (A : Option Addr) (c : Nat) (root : Int) (w : World) (hT : Tms w A l) (hl : l.length ≤ 1000000) (hm : tmF l root = true) (x : Tr) (hx : Gr l root x) :
    Calls Tryz.prog 10 #[.slice A l.length c, .int .i64 root] w (fun e w' => e = .returned (.bool (plainF x)) ∧ Below w.heap.size w w') := by
  have CM := Lib.hid (may_any l A c root w hT hl)
  have CG := Lib.hid (fun W h => grow_any l A c x root W hx h)
  have CP := Lib.hid (fun b p W h => plain_any b W x p h)
  have HM := Lib.hid hm
  have HT := Lib.hid hT
  clear hm hT hx
  go_enter Tryz.func10, Tryz.ntmps10
  go_wp2_with fail
  refine CM.out.mono ?_
  rintro e w1 ⟨rfl, hb1⟩
  rw [HM.out]
  have HB1 := Lib.hid hb1
  clear hb1
  go_wp2_with fail
  refine (CG.out w1 (HT.out.below HB1.out)).mono ?_
  rintro e w2 ⟨p, rfl, hp, hb2⟩
  have HB2 := Lib.hid (below_next HB1.out hb2)
  have HP := Lib.hid hp
  clear hb2 hp
  go_wp2_with fail
  refine (CP.out _ p w2 HP.out).mono ?_
  rintro e w3 ⟨rfl, rfl⟩
  go_wp2_with fail
  go_ret
  exact ⟨rfl, HB2.out⟩
end Go.Proofs.YtbemdcbglpjmiaaGreatDoor
