/- Contracts: reparteeref30.folded at no names. Contracts: reparteeref30.Term, Plain; reparteeref15.SameTerms of equal rows. -/
import Derived.Test.YtbemdcbglpjmiaaGreatDoorFpC
import Derived.Test.YtbemdcbglpjmiaaGreatDoorFoH
import Derived.BigQuiet
namespace Go.Proofs.YtbemdcbglpjmiaaGreatDoor
open Go.RowKit

theorem rf_tree {w : World} {lo : Nat} {x : Tr} {p : Option Addr} (h : TreeAt w lo x p) (hx : x ≠ .nil) : ∃ b t, p = some ⟨b, 0, none⟩ ∧ lo ≤ b ∧ b < w.heap.size ∧ w.cell? ⟨b, 0, none⟩ = some (.int .i64 t.kind) ∧ x.lit = isLit t ∧ ∃ u v, x = .node t u v := by
  cases x with
  | nil => exact absurd rfl hx
  | node t u v =>
    obtain ⟨b, l, r, h1, h2, h3, _⟩ := h
    exact ⟨b, t, h1, h2, h3.lt, h3.c0, rfl, u, v, rfl⟩
theorem tree_one {w' : World} {n base : Nat} {u : Tm} {ty : TypeId} (hn : w'.heap.size = n) (hb : base ≤ w'.heap.size) : TreeAt (w'.alloc (.cells (u.node none none) ty)) base (.node u .nil .nil) (some ⟨n, 0, none⟩) := by
  subst hn
  exact TreeAt.new (x := .nil) (y := .nil) (p := none) (q := none) u ty rfl rfl hb
set_option maxRecDepth 100000 in
set_option maxHeartbeats 8000000 in
theorem rfold_any : ∀ (x : Tr) (p : Option Addr) (lo : Nat) (w : World), x ≠ .nil → x.Ok → x.size ≤ 200 → TreeAt w lo x p →
    Calls Tryz.prog 24 #[.pointer p, .slice none 0 0] w (GrPost (foldF x) w) := by
  intro x
  induction x with
  | nil => intro p lo w h; exact absurd rfl h
  | node t x y ihx ihy =>
    intro p lo w _ hO hS h
    obtain ⟨b, pl, pr, rfl, _, hn, hx, hy⟩ := h
    obtain ⟨hf, hor, hox, hoy⟩ := hO
    rw [Tr.size] at hS
    have CX := Lib.hid (fun w h0 h => ihx pl lo w h0 hox (by omega) h)
    have CY := Lib.hid (fun w h0 h => ihy pr lo w h0 hoy (by omega) h)
    have HX := Lib.hid hx
    have HY := Lib.hid hy
    have HN := Lib.hid hn
    have hbl := hn.lt
    have FX := Lib.hid (fold_ok hox)
    have FY := Lib.hid (fold_ok hoy)
    have HOR := Lib.hid hor
    have HF := Lib.hid hf
    have HS := Lib.hid hS
    clear hS
    have keepS : ∀ W, Below w.heap.size w W → Below w.heap.size w W ∧ W.cell? ⟨b, 0, none⟩ = some (.int .i64 t.kind) ∧ W.cell? ⟨b, 1, none⟩ = some (.string t.name) ∧ W.cell? ⟨b, 2, none⟩ = some (.int .i64 t.n) ∧ W.cell? ⟨b, 3, none⟩ = some (.string t.text) ∧ W.cell? ⟨b, 4, none⟩ = some (.int .i64 t.l) ∧ W.cell? ⟨b, 5, none⟩ = some (.int .i64 t.r) ∧ W.cell? ⟨b, 6, none⟩ = some (.pointer pl) ∧ W.cell? ⟨b, 7, none⟩ = some (.pointer pr) := fun W hb =>
      have h := HN.out.below hb
      ⟨hb, h.c0, h.c1, h.c2, h.c3, h.c4, h.c5, h.c6, h.c7⟩
    have KS := Lib.hid keepS
    obtain ⟨_, c0, c1, c2, c3, c4, c5, c6, c7⟩ := keepS w (Below.refl _ _)
    have hnx := tree_nil hx
    have hny := tree_nil hy
    clear ihx ihy hx hy hn hor hf hox hoy keepS
    rcases hnx with ⟨rfl, rfl⟩ | ⟨nx, bx, rfl⟩
    · have hy0 : y = .nil := by
        rcases HOR.out with ⟨_, _, q⟩ | ⟨_, q, _⟩ | ⟨_, q, _⟩
        · exact q
        · exact absurd rfl q
        · exact absurd rfl q
      subst hy0
      clear hny
      go_enter Tryz.func24, Tryz.ntmps24
      go_wp2_with fail
      refine wp_loop_rounds 1 ?_
      rw [rounds_succ]
      go_wp2_with fail
      go_ret
      exact ⟨_, rfl, by rw [foldF, show foldF .nil = .nil from rfl, foldN_none (opT_nil _ _)]; exact TreeAt.new (p := none) (q := none) t 106 rfl rfl (Nat.le_refl _), below_new _ _⟩
    · have NX := Lib.hid nx
      have NX' := Lib.hid (fun h => nx (fold_nil.1 h))
      clear nx
      go_enter Tryz.func24, Tryz.ntmps24
      go_wp2_with fail
      go_region_held3 (fun W => Below w.heap.size w W ∧ W.cell? ⟨b, 0, none⟩ = some (.int .i64 t.kind) ∧ W.cell? ⟨b, 1, none⟩ = some (.string t.name) ∧ W.cell? ⟨b, 2, none⟩ = some (.int .i64 t.n) ∧ W.cell? ⟨b, 3, none⟩ = some (.string t.text) ∧ W.cell? ⟨b, 4, none⟩ = some (.int .i64 t.l) ∧ W.cell? ⟨b, 5, none⟩ = some (.int .i64 t.r) ∧ W.cell? ⟨b, 6, none⟩ = some (.pointer (some ⟨bx, 0, none⟩)) ∧ W.cell? ⟨b, 7, none⟩ = some (.pointer pr))
        (first
          | (exact KS.out _ ((Below.refl _ _).drew))
          | (exact KS.out _ (below_next (And.left (by assumption)) (by assumption)))
          | (exact KS.out _ (below_push (And.left (by assumption)) _)))
        ((go_at_call 24; (with_reducible refine (CX.out _ NX.out ?_).mono ?_); exact HX.out.below (And.left (by assumption)); rintro e w2 ⟨p, rfl, hx, hb2⟩))
      all_goals
        have hB4 := And.left (show Below w.heap.size w (w2.alloc (.cells (t.node p none) 106)) ∧ _ by assumption)
        have hx2 := hx.mono (base' := w.heap.size) (Nat.le_refl _)
        have HX2 := Lib.hid hx2
        have hle2 : w.heap.size ≤ w2.heap.size := hb2.size
        have HLE2 := Lib.hid hle2
        obtain ⟨n3, hn3⟩ : ∃ n, n = w2.heap.size := ⟨_, rfl⟩
        obtain ⟨W4, hW4⟩ : ∃ W, W = w2.alloc (.cells #[.int .i64 t.kind, .string t.name, .int .i64 t.n, .string t.text, .int .i64 t.l, .int .i64 t.r, .pointer p, .pointer none] 106) := ⟨_, rfl⟩
        have HB24 : Hid (Below w2.heap.size w2 W4) := Lib.hid (by rw [hW4]; exact below_new _ _)
        have HB4 : Hid (Below w.heap.size w W4) := Lib.hid (by rw [hW4]; exact hB4)
        have HN3 : Hid (n3 = w2.heap.size) := Lib.hid hn3
        have TF : Hid (TreeAt W4 w.heap.size (.node t (foldF x) .nil) (some ⟨n3, 0, none⟩)) := Lib.hid (by rw [hW4, hn3]; exact TreeAt.new (y := .nil) (q := none) t 106 hx2 rfl hle2)
        have K4 : Hid (Blk W4 n3 (t.node p none) 106) := Lib.hid (by rw [hW4, hn3]; exact Blk.new _ _ _)
        have hN4 := HN.out.below HB4.out
        have d7 : W4.cell? ⟨b, 7, none⟩ = some (.pointer pr) := hN4.c7
        have lb4 : b < W4.heap.size := hN4.lt
        have g6 : W4.cell? ⟨n3, 6, none⟩ = some (.pointer p) := K4.out.cell 6
        have g7 : W4.cell? ⟨n3, 7, none⟩ = some (.pointer none) := K4.out.cell 7
        have ln4 : n3 < W4.heap.size := K4.out.lt
        obtain ⟨px, tx, rfl, _, hpx, hkx, hlx, hsx⟩ := rf_tree (HX2.out.below HB24.out) NX'.out
        have HLX := Lib.hid hlx
        clear hN4 hB4 hb2 hx hx2 hle2 hlx hsx
        rw [← hW4, ← hn3]
        clear hW4 hn3 c0 c1 c2 c3 c4 c5 c6 c7
        go_wp2_with fail
        refine (rlit_any tx.kind W4).mono ?_
        rintro e w5 ⟨rfl, rfl⟩
        have HB24 := HB24
        rw [show (decide (1 ≤ tx.kind) && decide (tx.kind ≤ 5)) = (foldF x).lit from HLX.out.symm]
        rcases hny with ⟨rfl, rfl⟩ | ⟨ny, by_, rfl⟩
        · rcases hl1 : (foldF x).lit with _ | _
          · have HL1 := Lib.hid hl1
            clear hl1
            go_wp2_with fail
            go_ret
            exact ⟨_, rfl, by rw [foldF, show foldF .nil = .nil from rfl, foldN_none (opT_lit (.inl HL1.out))]; exact TF.out, HB4.out⟩
          · have HL1 := Lib.hid hl1
            clear hl1
            obtain ⟨r, hr, hev⟩ := eval_node t (foldF x) .nil ⟨HF.out, by
              rcases HOR.out with ⟨_, q1, _⟩ | ⟨a, q1, q2⟩ | ⟨_, _, q2⟩
              · exact absurd (by rw [q1]; rfl) NX'.out
              · exact .inr (.inl ⟨a, NX'.out, rfl⟩)
              · exact absurd rfl q2, FX.out.1, trivial⟩ NX'.out HL1.out rfl
            have HR := Lib.hid hr
            have HEV := Lib.hid hev
            have CL := Lib.hid (row_any w5 w.heap.size (.node t (foldF x) .nil) (some ⟨n3, 0, none⟩) [] (.slice none 0 0) w5 (by simp) TF.out (Below.refl _ _) (World.ownsRow_nil _ _ _ _) (by rw [Tr.size]; have := HS.out; have := FX.out.2.1; have := FY.out.2.1; simp; omega))
            have HLL := Lib.hid (lay_last (.node t (foldF x) .nil) [] (by simp))
            clear hr hev
            go_wp2_with fail
            refine CL.out.mono ?_
            rintro e w7 ⟨v7, rfl, hl7, ho7⟩
            obtain ⟨A7, c7', rfl, hc7⟩ := own_shape ho7
            have HB7 := Lib.hid (below_next HB4.out (hl7.below (Below.refl _ _) (fun g hg => by cases hg)))
            have HT7 := Lib.hid (own_rd ho7)
            have TF7 := Lib.hid (TF.out.below (hl7.below (Below.refl _ _) (fun g hg => by cases hg)))
            have ce := (HEV.out A7 c7' w7 HT7.out).2
            rw [HLL.out] at ce
            have hlen := lay_len (.node t (foldF x) .nil) []
            obtain ⟨L, hL⟩ : ∃ L, L = (layF (.node t (foldF x) .nil) []).1 := ⟨_, rfl⟩
            rw [← hL] at ce hlen ⊢
            have hL1000 : L.length ≤ 1000 := by rw [hlen, Tr.size]; have := HS.out; have := FX.out.2.1; have := FY.out.2.1; simp [Tr.size]; omega
            have CE := Lib.hid ce
            clear hl7 ho7 hc7 ce hL hlen
            go_wp2_with fail
            refine CE.out.mono ?_
            rintro e w8 ⟨i0, i1, s, Q, m', c', k, rfl, hb8, hi⟩
            have HB8 := Lib.hid (below_next HB7.out hb8)
            have TF8 := Lib.hid (TF7.out.below hb8)
            clear hb8
            rcases hre : r with _ | v
            · rw [hre] at hi
              obtain ⟨rfl, rfl, rfl, rfl, rfl, rfl, hk⟩ := hi
              have ek : (k != 0) = true := by simpa using hk
              have HRE := Lib.hid hre
              have CO := Lib.hid (written_any ⟨0, 0, e0, []⟩ none 0 (w8.alloc (.cells zeroC 31)))
              have HB9 := Lib.hid (below_push HB8.out (.cells zeroC 31))
              have TF9 := Lib.hid (TF8.out.below (below_new w8 (.cells zeroC 31)))
              clear hre hk
              go_wp2_with fail
              refine CO.out.mono ?_
              rintro e w9 ⟨hb9, he⟩
              have he : e = .returned (.tuple #[.agg #[.int .i64 0, .string e0, .int .i64 0, .string e0, .int .i64 (-1), .int .i64 (-1)], .bool false]) := he
              subst he
              have HB10 := Lib.hid (below_next HB9.out hb9)
              have TF10 := Lib.hid (TF9.out.below hb9)
              clear hb9
              go_wp2_with fail
              go_ret
              exact ⟨_, rfl, by rw [foldF, show foldF .nil = .nil from rfl, foldN_none (by rw [HR.out, HRE.out]; rfl)]; exact TF10.out.below (below_new _ _), below_push HB10.out _⟩
            · rw [hre] at hi
              obtain ⟨rfl, rfl, rfl, rfl, rfl, hia, hmc, hfr⟩ := hi
              have HRE := Lib.hid hre
              have CO := Lib.hid (written_any v Q c' (w8.alloc (.cells (vlC v.kind v.n v.s Q v.l.length c') 31)))
              have HB9 := Lib.hid (below_push HB8.out (.cells (vlC v.kind v.n v.s Q v.l.length c') 31))
              have TF9 := Lib.hid (TF8.out.below (below_new w8 (.cells (vlC v.kind v.n v.s Q v.l.length c') 31)))
              have HOP : Hid (opT t (foldF x) .nil = writV v) := Lib.hid (by rw [HR.out, HRE.out]; rfl)
              clear hre hia hmc hfr HR HRE HEV CE CL
              go_wp2_with fail
              refine CO.out.mono ?_
              rintro e w9 ⟨hb9, he⟩
              have HB10 := Lib.hid (below_next HB9.out hb9)
              have TF10 := Lib.hid (TF9.out.below hb9)
              clear hb9
              rcases hwv : writV v with _ | u
              · rw [hwv] at he
                have he : e = .returned (.tuple #[.agg #[.int .i64 0, .string e0, .int .i64 0, .string e0, .int .i64 (-1), .int .i64 (-1)], .bool false]) := he
                subst he
                have HWV := Lib.hid hwv
                clear hwv
                go_wp2_with fail
                go_ret
                exact ⟨_, rfl, by rw [foldF, show foldF .nil = .nil from rfl, foldN_none (HOP.out.trans HWV.out)]; exact TF10.out.below (below_new _ _), below_push HB10.out _⟩
              · rw [hwv] at he
                have he : e = .returned (.tuple #[.agg #[.int .i64 u.kind, .string u.name, .int .i64 u.n, .string u.text, .int .i64 u.l, .int .i64 u.r], .bool true]) := he
                subst he
                have HWV := Lib.hid hwv
                clear hwv
                go_wp2_with fail
                go_ret
                exact ⟨_, rfl, by
                  rw [foldF, show foldF .nil = .nil from rfl, foldN_some (HOP.out.trans HWV.out)]
                  exact tree_one (by simp) (below_push HB10.out _).size, below_push (below_push HB10.out _) _⟩
        · have NY := Lib.hid ny
          have NY' := Lib.hid (fun h => ny (fold_nil.1 h))
          clear ny
          have CYY := Lib.hid (fun W hb => CY.out W NY.out (HY.out.below hb))
          have hgen : ∀ (bb : Bool), (foldF x).lit = bb → True := fun _ _ => trivial
          clear hgen
          go_wp2_with fail
          refine (CYY.out w5 HB4.out).mono ?_
          rintro e w6 ⟨q, rfl, hy6, hb6⟩
          have K6 := K4.out.belowS hb6
          have hlt6 : n3 < w5.heap.size := K4.out.lt
          have hy7 : TreeAt (w6.setCell ⟨n3, 7, none⟩ (.pointer q)) w5.heap.size (foldF y) q := hy6.kb (S := fun j => j = n3) (Kb.set_ (S := fun j => j = n3) (Kb.refl _ _) (p := ⟨n3, 7, none⟩) (.inr rfl) _) (fun j hj hq => by omega)
          obtain ⟨py, ty, rfl, hpl, hpy, hky, hly, _⟩ := rf_tree hy6 NY'.out
          have hnp : n3 < py := by omega
          have hb27 : Below w2.heap.size w2 (w6.setCell ⟨n3, 7, none⟩ (.pointer (some ⟨py, 0, none⟩))) := below_put (below_next HB24.out hb6) (by rw [HN3.out]; exact Nat.le_refl _) 7 _
          have hb47 : Below w.heap.size w (w6.setCell ⟨n3, 7, none⟩ (.pointer (some ⟨py, 0, none⟩))) := below_put (below_next HB4.out hb6) (by rw [HN3.out]; exact HLE2.out) 7 _
          have K7 : Blk (w6.setCell ⟨n3, 7, none⟩ (.pointer (some ⟨py, 0, none⟩))) n3 (t.node (some ⟨px, 0, none⟩) (some ⟨py, 0, none⟩)) 106 := K6.set_ 7 _
          obtain ⟨W7, hW7⟩ : ∃ W, W = w6.setCell ⟨n3, 7, none⟩ (.pointer (some ⟨py, 0, none⟩)) := ⟨_, rfl⟩
          rw [← hW7] at hy7 hb27 hb47 K7
          have HB7 := Lib.hid hb47
          have TF7 : Hid (TreeAt W7 w.heap.size (.node t (foldF x) (foldF y)) (some ⟨n3, 0, none⟩)) := Lib.hid ⟨n3, _, _, rfl, by rw [HN3.out]; exact HLE2.out, Nd.of K7, HX2.out.below hb27, hy7.mono HB4.out.size⟩
          have f7 : w6.frozen? ⟨n3, 7, none⟩ = false := K6.frozen 7
          have g7' : w6.cell? ⟨n3, 7, none⟩ = some (.pointer none) := K6.cell 7
          have ln6 : n3 < w6.heap.size := K6.lt
          have r7 : W7.cell? ⟨n3, 7, none⟩ = some (.pointer (some ⟨py, 0, none⟩)) := K7.cell 7
          have ln7 : n3 < W7.heap.size := K7.lt
          have HLY := Lib.hid hly
          have HW7 := Lib.hid hW7
          clear hy7 hb27 hb47 K7 K6 hy6 hb6 hW7 hly hkx hpx g6 g7 d7 lb4 hlt6 ln4 hpl
          rcases hl1 : (foldF x).lit with _ | _
          · have HL1 := Lib.hid hl1
            clear hl1
            go_wp2_with fail
            rw [← HW7.out]
            go_ret
            exact ⟨_, rfl, by rw [foldF, foldN_none (opT_lit (.inl HL1.out))]; exact TF7.out, HB7.out⟩
          · have HL1 := Lib.hid hl1
            clear hl1
            go_wp2_with fail
            rw [← HW7.out]
            refine (rlit_any ty.kind W7).mono ?_
            rintro e w6' ⟨rfl, hw6'⟩
            subst hw6'
            rw [show (decide (1 ≤ ty.kind) && decide (ty.kind ≤ 5)) = (foldF y).lit from HLY.out.symm]
            clear f7 g7' ln6 hky hpy hnp
            rcases hl2 : (foldF y).lit with _ | _
            · have HL2 := Lib.hid hl2
              clear hl2
              go_wp2_with fail
              go_ret
              exact ⟨_, rfl, by rw [foldF, foldN_none (opT_lit (.inr HL2.out))]; exact TF7.out, HB7.out⟩
            · have HL2 := Lib.hid hl2
              clear hl2
              obtain ⟨r, hr, hev⟩ := eval_node t (foldF x) (foldF y) ⟨HF.out, by
                rcases HOR.out with ⟨_, q1, _⟩ | ⟨_, _, q2⟩ | ⟨a, _, _⟩
                · exact absurd (by rw [q1]; rfl) NX'.out
                · exact absurd q2 NY.out
                · exact .inr (.inr ⟨a, NX'.out, NY'.out⟩), FX.out.1, FY.out.1⟩ NX'.out HL1.out HL2.out
              have HR := Lib.hid hr
              have HEV := Lib.hid hev
              have CL := Lib.hid (row_any w6' w.heap.size (.node t (foldF x) (foldF y)) (some ⟨n3, 0, none⟩) [] (.slice none 0 0) w6' (by simp) TF7.out (Below.refl _ _) (World.ownsRow_nil _ _ _ _) (by rw [Tr.size]; have := HS.out; have := FX.out.2.1; have := FY.out.2.1; simp; omega))
              have HLL := Lib.hid (lay_last (.node t (foldF x) (foldF y)) [] (by simp))
              clear hr hev
              go_wp2_with fail
              refine CL.out.mono ?_
              rintro e w7 ⟨v7, rfl, hl7, ho7⟩
              obtain ⟨A7, c7', rfl, hc7⟩ := own_shape ho7
              have HB7' := Lib.hid (below_next HB7.out (hl7.below (Below.refl _ _) (fun g hg => by cases hg)))
              have HT7 := Lib.hid (own_rd ho7)
              have TF7' := Lib.hid (TF7.out.below (hl7.below (Below.refl _ _) (fun g hg => by cases hg)))
              have ce := (HEV.out A7 c7' w7 HT7.out).2
              rw [HLL.out] at ce
              have hlen := lay_len (.node t (foldF x) (foldF y)) []
              obtain ⟨L, hL⟩ : ∃ L, L = (layF (.node t (foldF x) (foldF y)) []).1 := ⟨_, rfl⟩
              rw [← hL] at ce hlen ⊢
              have hL1000 : L.length ≤ 1000 := by rw [hlen, Tr.size]; have := HS.out; have := FX.out.2.1; have := FY.out.2.1; simp; omega
              have CE := Lib.hid ce
              clear hl7 ho7 hc7 ce hL hlen
              go_wp2_with fail
              refine CE.out.mono ?_
              rintro e w8 ⟨i0, i1, s, Q, m', c', k, rfl, hb8, hi⟩
              have HB8 := Lib.hid (below_next HB7'.out hb8)
              have TF8 := Lib.hid (TF7'.out.below hb8)
              clear hb8
              rcases hre : r with _ | v
              · rw [hre] at hi
                obtain ⟨rfl, rfl, rfl, rfl, rfl, rfl, hk⟩ := hi
                have ek : (k != 0) = true := by simpa using hk
                have HRE := Lib.hid hre
                have CO := Lib.hid (written_any ⟨0, 0, e0, []⟩ none 0 (w8.alloc (.cells zeroC 31)))
                have HB9 := Lib.hid (below_push HB8.out (.cells zeroC 31))
                have TF9 := Lib.hid (TF8.out.below (below_new w8 (.cells zeroC 31)))
                clear hre hk
                go_wp2_with fail
                refine CO.out.mono ?_
                rintro e w9 ⟨hb9, he⟩
                have he : e = .returned (.tuple #[.agg #[.int .i64 0, .string e0, .int .i64 0, .string e0, .int .i64 (-1), .int .i64 (-1)], .bool false]) := he
                subst he
                have HB10 := Lib.hid (below_next HB9.out hb9)
                have TF10 := Lib.hid (TF9.out.below hb9)
                clear hb9
                go_wp2_with fail
                go_ret
                exact ⟨_, rfl, by rw [foldF, foldN_none (by rw [HR.out, HRE.out]; rfl)]; exact TF10.out.below (below_new _ _), below_push HB10.out _⟩
              · rw [hre] at hi
                obtain ⟨rfl, rfl, rfl, rfl, rfl, hia, hmc, hfr⟩ := hi
                have HRE := Lib.hid hre
                have CO := Lib.hid (written_any v Q c' (w8.alloc (.cells (vlC v.kind v.n v.s Q v.l.length c') 31)))
                have HB9 := Lib.hid (below_push HB8.out (.cells (vlC v.kind v.n v.s Q v.l.length c') 31))
                have TF9 := Lib.hid (TF8.out.below (below_new w8 (.cells (vlC v.kind v.n v.s Q v.l.length c') 31)))
                have HOP : Hid (opT t (foldF x) (foldF y) = writV v) := Lib.hid (by rw [HR.out, HRE.out]; rfl)
                clear hre hia hmc hfr HR HRE HEV CE CL
                go_wp2_with fail
                refine CO.out.mono ?_
                rintro e w9 ⟨hb9, he⟩
                have HB10 := Lib.hid (below_next HB9.out hb9)
                have TF10 := Lib.hid (TF9.out.below hb9)
                clear hb9
                rcases hwv : writV v with _ | u
                · rw [hwv] at he
                  have he : e = .returned (.tuple #[.agg #[.int .i64 0, .string e0, .int .i64 0, .string e0, .int .i64 (-1), .int .i64 (-1)], .bool false]) := he
                  subst he
                  have HWV := Lib.hid hwv
                  clear hwv
                  go_wp2_with fail
                  go_ret
                  exact ⟨_, rfl, by rw [foldF, foldN_none (HOP.out.trans HWV.out)]; exact TF10.out.below (below_new _ _), below_push HB10.out _⟩
                · rw [hwv] at he
                  have he : e = .returned (.tuple #[.agg #[.int .i64 u.kind, .string u.name, .int .i64 u.n, .string u.text, .int .i64 u.l, .int .i64 u.r], .bool true]) := he
                  subst he
                  have HWV := Lib.hid hwv
                  clear hwv
                  go_wp2_with fail
                  go_ret
                  exact ⟨_, rfl, by
                    rw [foldF, foldN_some (HOP.out.trans HWV.out)]
                    exact tree_one (by simp) (below_push HB10.out _).size, below_push (below_push HB10.out _) _⟩
end Go.Proofs.YtbemdcbglpjmiaaGreatDoor
namespace Go.Proofs.YtbemdcbglpjmiaaGreatDoor
open Go.RowKit

set_option maxRecDepth 100000 in
set_option maxHeartbeats 8000000 in
theorem rTerm_no (l : List Tm) (A : Option Addr) (c : Nat) (root : Int) (w : World) (hT : Tms w A l) (hl : l.length ≤ 1000000) (hm : tmF l root = false) :
    Calls Tryz.prog 8 #[.slice A l.length c, .int .i64 root] w (TermPost .nil w) := by
  have CM := Lib.hid (tmay_any l A c root w hT hl)
  have HM := Lib.hid hm
  clear hm
  go_enter Tryz.func8, Tryz.ntmps8
  go_wp2_with fail
  refine CM.out.mono ?_
  rintro e w1 ⟨rfl, hb1⟩
  rw [HM.out]
  have HB1 := Lib.hid hb1
  clear hb1
  go_wp2_with fail
  go_ret2
  exact ⟨none, 0, rfl, Rd.nil, HB1.out⟩
set_option maxRecDepth 100000 in
set_option maxHeartbeats 8000000 in
theorem rTerm_yes (l : List Tm) (A : Option Addr) (c : Nat) (root : Int) (w : World) (hT : Tms w A l) (hl : l.length ≤ 1000000) (hm : tmF l root = true) (x : Tr) (hx0 : x ≠ .nil) (hx : Gr l root x) (hO : x.Ok) (hs : x.size ≤ 200) :
    Calls Tryz.prog 8 #[.slice A l.length c, .int .i64 root] w (TermPost (foldF x) w) := by
  have CM := Lib.hid (tmay_any l A c root w hT hl)
  have CG := Lib.hid (fun W h => grown_any l A c x root W hx0 hx h)
  have CF := Lib.hid (fun p lo W h => rfold_any x p lo W hx0 hO hs h)
  have FX := Lib.hid (fold_ok hO)
  have HS := Lib.hid hs
  have HM := Lib.hid hm
  have HT := Lib.hid hT
  have HX0 := Lib.hid hx0
  have HLL := Lib.hid (lay_last (foldF x) [] (fun h => hx0 (fold_nil.1 h)))
  clear hm hT hx hO hs hx0
  go_enter Tryz.func8, Tryz.ntmps8
  go_wp2_with fail
  refine CM.out.mono ?_
  rintro e w1 ⟨rfl, hb1⟩
  rw [HM.out]
  have HB1 := Lib.hid hb1
  clear hb1
  go_wp2_with fail
  refine (CG.out w1 (HT.out.below HB1.out)).mono ?_
  rintro e w2 ⟨p, rfl, hp, hb2⟩
  have HB2 := Lib.hid (below_next HB1.out hb2)
  have HP := Lib.hid hp
  clear hb2 hp
  go_wp2_with fail
  refine (CF.out p _ w2 HP.out).mono ?_
  rintro e w3 ⟨q, rfl, hq, hb3⟩
  have HB3 := Lib.hid (below_next HB2.out hb3)
  have CL := Lib.hid (row_any w3 _ (foldF x) q [] (.slice none 0 0) w3 (fun h => HX0.out (fold_nil.1 h)) hq (Below.refl _ _) (World.ownsRow_nil _ _ _ _) (by have := HS.out; have := FX.out.2.1; simp; omega))
  clear hb3 hq
  go_wp2_with fail
  refine CL.out.mono ?_
  rintro e w4 ⟨v4, rfl, hl4, ho4⟩
  obtain ⟨A4, c4, rfl, hc4⟩ := own_shape ho4
  have HB4 := Lib.hid (below_next HB3.out (hl4.below (Below.refl _ _) (fun g hg => by cases hg)))
  have HT4 := Lib.hid (own_rd ho4)
  have hlen := lay_len (foldF x) []
  have hlast := HLL.out
  obtain ⟨L, hL⟩ : ∃ L, L = (layF (foldF x) []).1 := ⟨_, rfl⟩
  rw [← hL] at hlen hlast ⊢
  have hL1000 : L.length ≤ 1000 := by rw [hlen]; have := HS.out; have := FX.out.2.1; simp; omega
  have HL := Lib.hid hL
  have HLAST := Lib.hid hlast
  clear hl4 ho4 hc4 hL hlen hlast
  go_wp2_with fail
  go_ret2
  exact ⟨A4, c4, by rw [HLAST.out, HL.out]; rfl, HT4.out, HB4.out⟩
set_option maxRecDepth 100000 in
set_option maxHeartbeats 8000000 in
theorem rPlain_no (l : List Tm) (A : Option Addr) (c : Nat) (root : Int) (w : World) (hT : Tms w A l) (hl : l.length ≤ 1000000) (hm : tmF l root = false) :
    Calls Tryz.prog 11 #[.slice A l.length c, .int .i64 root] w (fun e w' => e = .returned (.bool false) ∧ Below w.heap.size w w') := by
  have CM := Lib.hid (tmay_any l A c root w hT hl)
  have HM := Lib.hid hm
  clear hm
  go_enter Tryz.func11, Tryz.ntmps11
  go_wp2_with fail
  refine CM.out.mono ?_
  rintro e w1 ⟨rfl, hb1⟩
  rw [HM.out]
  have HB1 := Lib.hid hb1
  clear hb1
  go_wp2_with fail
  go_ret
  exact ⟨rfl, HB1.out⟩
set_option maxRecDepth 100000 in
set_option maxHeartbeats 8000000 in
theorem rPlain_yes (l : List Tm) (A : Option Addr) (c : Nat) (root : Int) (w : World) (hT : Tms w A l) (hl : l.length ≤ 1000000) (hm : tmF l root = true) (x : Tr) (hx0 : x ≠ .nil) (hx : Gr l root x) :
    Calls Tryz.prog 11 #[.slice A l.length c, .int .i64 root] w (fun e w' => e = .returned (.bool (plainF x)) ∧ Below w.heap.size w w') := by
  have CM := Lib.hid (tmay_any l A c root w hT hl)
  have CG := Lib.hid (fun W h => grown_any l A c x root W hx0 hx h)
  have CP := Lib.hid (fun b p W h => rplain_any b W x p hx0 h)
  have HM := Lib.hid hm
  have HT := Lib.hid hT
  clear hm hT hx hx0
  go_enter Tryz.func11, Tryz.ntmps11
  go_wp2_with fail
  refine CM.out.mono ?_
  rintro e w1 ⟨rfl, hb1⟩
  rw [HM.out]
  have HB1 := Lib.hid hb1
  clear hb1
  go_wp2_with fail
  refine (CG.out w1 (HT.out.below HB1.out)).mono ?_
  rintro e w2 ⟨p, rfl, hp, hb2⟩
  have HB2 := Lib.hid (below_next HB1.out hb2)
  have HP := Lib.hid hp
  clear hb2 hp
  go_wp2_with fail
  refine (CP.out _ p w2 HP.out).mono ?_
  rintro e w3 ⟨rfl, rfl⟩
  go_wp2_with fail
  go_ret
  exact ⟨rfl, HB2.out⟩
set_option maxRecDepth 100000 in
set_option maxHeartbeats 8000000 in
theorem sameTerms_eq (l : List Tm) (A B : Option Addr) (c d : Nat) (w : World) (ha : Tms w A l) (hb : Tms w B l) (hl : l.length ≤ 1000000) :
    Calls Tryz.prog 9 #[.slice A l.length c, .slice B l.length d] w fun e w' => e = .returned (.bool true) ∧ Below w.heap.size w w' := by
  have HA := Lib.hid ha
  have HB := Lib.hid hb
  clear ha hb
  go_enter Tryz.func9, Tryz.ntmps9
  go_wp2_with fail
  go_loopw [5] (fun i wr => ∃ k : Nat, k ≤ l.length ∧ i = .int .i64 k ∧ Hid (Below w.heap.size w wr)) (fun i _ => l.length - (intOf i).toNat)
  case atStart => exact ⟨0, by omega, rfl, Lib.hid (Below.refl _ _)⟩
  case round =>
    obtain ⟨k, hk, rfl, HBW⟩ := hrel
    by_cases hlt : k < l.length
    · obtain ⟨b1, o1, t, rfl, hb1, ht, h1⟩ := Tms.at_ (Tms.below HA.out HBW.out) hlt
      obtain ⟨b2, o2, t', rfl, hb2, ht', h2⟩ := Tms.at_ (Tms.below HB.out HBW.out) hlt
      obtain rfl : t' = t := Option.some.inj (ht'.symm.trans ht)
      obtain ⟨p0, p1, p2, p3, p4, p5⟩ := h1
      obtain ⟨q0, q1, q2, q3, q4, q5⟩ := h2
      clear ht ht'
      go_wp2_with fail
      go_quiet (fail)
      have HBW2 := Lib.hid (below_drewN HBW.out nq)
      clear p0 p1 p2 p3 p4 p5 q0 q1 q2 q3 q4 q5
      go_wp2_with fail
      go_roundw
      case rel => exact ⟨k + 1, by omega, by go_num, HBW2⟩
      case measure => simp [intOf]; omega
    · go_wp2_with fail
      go_ret
      exact ⟨rfl, HBW.out⟩
end Go.Proofs.YtbemdcbglpjmiaaGreatDoor
