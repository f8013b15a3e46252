/- Contracts: packet.same$1, slices.EqualFunc at variables, reparteeref20.SameEnv. Contracts: reparteeref20.SameMail, packet.same, reparteeref36.SameNote. -/
import Derived.Test.YtfaophiaiflecaaNtEnv
namespace Go.Proofs.Ytfaophiaiflecaa
open Go.RowKit

abbrev bdArg (b : Bd) (A : Option Addr) (c : Nat) : Value := .agg #[.string b.name, .int .i64 b.v.kind, .int .i64 b.v.n, .string b.v.s, .slice A b.v.l.length c]
theorem bd_ext {a b : Bd} : a = b ↔ a.name = b.name ∧ a.v = b.v := by cases a; cases b; simp
set_option maxRecDepth 100000 in
set_option maxHeartbeats 1600000 in
theorem same1_any (a b : Bd) (A B : Option Addr) (c d : Nat) (w : World) (ha : Ints w A a.v.l) (hb : Ints w B b.v.l) (hl : a.v.l.length ≤ 1000000000) :
    Calls Try.prog 65 #[bdArg a A c, bdArg b B d] w fun e w' => e = .returned (.bool (decide (a = b))) ∧ Below w.heap.size w w' := by
  have BF := Lib.hid (below_allocS (below_allocS (Below.refl _ _) (.cells #[.string a.name, .int .i64 a.v.kind, .int .i64 a.v.n, .string a.v.s, .slice A a.v.l.length c] 62)) (.cells #[.string b.name, .int .i64 b.v.kind, .int .i64 b.v.n, .string b.v.s, .slice B b.v.l.length d] 62) : Below w.heap.size w _)
  have CS := Lib.hid (dsame_any a.v b.v A B c d _ (Rd.below ha BF.out) (Rd.below hb BF.out) hl)
  clear ha hb
  obtain ⟨n1, v1⟩ := a
  obtain ⟨n2, v2⟩ := b
  dsimp only at *
  by_cases hn : n1 = n2
  · subst hn
    go_enter Try.func65, Try.ntmps65
    go_wp2_with fail
    refine CS.out.mono ?_
    rintro e w1 ⟨rfl, hb1⟩
    have B1 := Lib.hid (below_next BF.out hb1)
    clear hb1
    go_wp2_with fail
    go_ret
    exact ⟨ret_bool (by simp), B1.out⟩
  · have hss := str_ne hn
    go_enter Try.func65, Try.ntmps65
    go_wp2
    go_ret
    exact ⟨ret_bool (by simp; intro h; exact absurd h hn), below_allocS (below_allocS (Below.refl _ _) _) _⟩
theorem take_stepB {l m : List Bd} {k : Nat} (h : l.take k = m.take k) (hl : k < l.length) (hm : k < m.length) (e : l[k] = m[k]) : l.take (k + 1) = m.take (k + 1) := by
  rw [List.take_succ_eq_append_getElem hl, List.take_succ_eq_append_getElem hm, h, e]
set_option maxRecDepth 100000 in
set_option maxHeartbeats 3200000 in
theorem equalB_any (A B : Option Addr) (l m : List Bd) (c d : Nat) (w : World) (ha : Env w A l) (hb : Env w B m) (hl : l.length ≤ 1000000000) (hv : ∀ b ∈ l, b.v.l.length ≤ 1000000000) :
    Calls Try.prog 64 #[.slice A l.length c, .slice B m.length d, .func (.func 65) #[] #[]] w fun e w' => e = .returned (.bool (decide (l = m))) ∧ Below w.heap.size w w' := by
  by_cases hlm : l.length = m.length
  · rw [← hlm]
    have HL := Lib.hid hlm
    have HA := Lib.hid (And.intro ha hb)
    have HV := Lib.hid hv
    clear hlm ha hb hv
    go_enter Try.func64, Try.ntmps64
    go_wp2_with fail
    go_loopw [17] (fun i wr => ∃ k : Nat, k ≤ l.length ∧ i = .int .i64 k ∧ Hid (l.take k = m.take k) ∧ Hid (Below w.heap.size w wr)) (fun i _ => l.length - (intOf i).toNat)
    case atStart => exact ⟨0, by omega, rfl, Lib.hid (by simp), Lib.hid (Below.refl _ _)⟩
    case round =>
      obtain ⟨k, hk, rfl, hq, hB⟩ := hrel
      by_cases hlt : k < l.length
      · have hltm : k < m.length := by rw [← HL.out]; exact hlt
        obtain ⟨F, hF⟩ := env_at (HA.out.1.below hB.out)
        obtain ⟨G, hG⟩ := env_at (HA.out.2.below hB.out)
        obtain ⟨ab, ao, rfl, hab, hia, hca⟩ := hF k hlt
        obtain ⟨bb, bo, rfl, hbb, hib, hcb⟩ := hG k hltm
        obtain ⟨c0, c1, c2, c3, c4⟩ := hca k hlt
        obtain ⟨d0, d1, d2, d3, d4⟩ := hcb k hltm
        have HVK := Lib.hid (HV.out l[k] (List.getElem_mem hlt))
        have HST := Lib.hid (fun (e : l[k] = m[k]) => take_stepB hq.out hlt hltm e)
        have HNE := Lib.hid (fun (e : ¬ l[k] = m[k]) => show ¬ l = m from fun h => e (by subst h; rfl))
        clear hca hcb hF hG hq
        generalize l[k] = a at *
        generalize m[k] = b at *
        generalize (F k).1 = vA at *
        generalize (F k).2 = vc at *
        generalize (G k).1 = vB at *
        generalize (G k).2 = vd at *
        have BX := Lib.hid (below_allocS (below_allocS (Below.refl _ _) (.cells #[.string a.name, .int .i64 a.v.kind, .int .i64 a.v.n, .string a.v.s, .slice vA a.v.l.length vc] 62)) (.cells #[.string b.name, .int .i64 b.v.kind, .int .i64 b.v.n, .string b.v.s, .slice vB b.v.l.length vd] 62) : Below wr.heap.size wr _)
        have CS := Lib.hid (same1_any a b vA vB vc vd _ (Rd.below hia BX.out) (Rd.below hib BX.out) HVK.out)
        have e0 := (World.cell?_alloc_lt wr (.cells #[.string a.name, .int .i64 a.v.kind, .int .i64 a.v.n, .string a.v.s, .slice vA a.v.l.length vc] 62) ⟨bb, bo + k * 5, none⟩ hbb).trans d0
        have e1 := (World.cell?_alloc_lt wr (.cells #[.string a.name, .int .i64 a.v.kind, .int .i64 a.v.n, .string a.v.s, .slice vA a.v.l.length vc] 62) ⟨bb, bo + k * 5 + 1, none⟩ hbb).trans d1
        have e2 := (World.cell?_alloc_lt wr (.cells #[.string a.name, .int .i64 a.v.kind, .int .i64 a.v.n, .string a.v.s, .slice vA a.v.l.length vc] 62) ⟨bb, bo + k * 5 + 2, none⟩ hbb).trans d2
        have e3 := (World.cell?_alloc_lt wr (.cells #[.string a.name, .int .i64 a.v.kind, .int .i64 a.v.n, .string a.v.s, .slice vA a.v.l.length vc] 62) ⟨bb, bo + k * 5 + 3, none⟩ hbb).trans d3
        have e4 := (World.cell?_alloc_lt wr (.cells #[.string a.name, .int .i64 a.v.kind, .int .i64 a.v.n, .string a.v.s, .slice vA a.v.l.length vc] 62) ⟨bb, bo + k * 5 + 4, none⟩ hbb).trans d4
        clear hia hib d0 d1 d2 d3 d4
        by_cases he : a = b
        · rw [decide_eq_true he] at CS
          have HQ := Lib.hid (HST.out he)
          clear he HST HNE
          go_wp2_with fail
          refine CS.out.mono ?_
          rintro e w1 ⟨rfl, hb1⟩
          have B1 := Lib.hid (below_next hB.out (below_next BX.out hb1))
          clear hb1
          go_wp2_with fail
          go_roundw
          case rel => exact ⟨k + 1, by omega, by go_num, HQ, B1⟩
          case measure => simp [intOf]; omega
        · rw [decide_eq_false he] at CS
          have HN := Lib.hid (HNE.out he)
          clear he HST HNE
          go_wp2_with fail
          refine CS.out.mono ?_
          rintro e w1 ⟨rfl, hb1⟩
          have B1 := Lib.hid (below_next hB.out (below_next BX.out hb1))
          clear hb1
          go_wp2_with fail
          go_ret
          exact ⟨ret_bool (by simp [HN.out]), B1.out⟩
      · have hr : l = m := by have h := hq.out; rw [List.take_of_length_le (by omega), List.take_of_length_le (by have := HL.out; omega)] at h; exact h
        have HR := Lib.hid hr
        clear hq hr
        go_wp2_with fail
        go_ret
        exact ⟨ret_bool (by simp [HR.out]), hB.out⟩
  · have hzz : ((l.length : Int) == (m.length : Int)) = false := by simp; omega
    have hzn : (l.length == m.length) = false := by simp; exact hlm
    go_enter Try.func64, Try.ntmps64
    go_wp2_with fail
    go_ret
    exact ⟨ret_bool (by simp; intro h; exact hlm (by rw [h])), Below.refl _ _⟩
set_option maxRecDepth 100000 in
set_option maxHeartbeats 3200000 in
theorem sameEnv_any (A B : Option Addr) (l m : List Bd) (c d : Nat) (w : World) (ha : Env w A l) (hb : Env w B m) (hl : l.length ≤ 1000000000) (hv : ∀ b ∈ l, b.v.l.length ≤ 1000000000) :
    Calls Try.prog 46 #[.slice A l.length c, .slice B m.length d] w fun e w' => e = .returned (.bool (decide (l = m))) ∧ Below w.heap.size w w' := by
  by_cases hlm : l.length = m.length
  · rw [← hlm]
    have HL := Lib.hid hlm
    have HA := Lib.hid (And.intro ha hb)
    have HV := Lib.hid hv
    clear hlm ha hb hv
    go_enter Try.func46, Try.ntmps46
    go_wp2_with fail
    go_loopw [5] (fun i wr => ∃ k : Nat, k ≤ l.length ∧ i = .int .i64 k ∧ Hid (l.take k = m.take k) ∧ Hid (Below w.heap.size w wr)) (fun i _ => l.length - (intOf i).toNat)
    case atStart => exact ⟨0, by omega, rfl, Lib.hid (by simp), Lib.hid (Below.refl _ _)⟩
    case round =>
      obtain ⟨k, hk, rfl, hq, hB⟩ := hrel
      by_cases hlt : k < l.length
      · have hltm : k < m.length := by rw [← HL.out]; exact hlt
        obtain ⟨F, hF⟩ := env_at (HA.out.1.below hB.out)
        obtain ⟨G, hG⟩ := env_at (HA.out.2.below hB.out)
        obtain ⟨ab, ao, rfl, hab, hia, hca⟩ := hF k hlt
        obtain ⟨bb, bo, rfl, hbb, hib, hcb⟩ := hG k hltm
        have HC := Lib.hid (hca k hlt)
        have HD := Lib.hid (hcb k hltm)
        have HVK := Lib.hid (HV.out l[k] (List.getElem_mem hlt))
        have HST := Lib.hid (fun (e : l[k] = m[k]) => take_stepB hq.out hlt hltm e)
        have HNE := Lib.hid (fun (e : ¬ l[k] = m[k]) => show ¬ l = m from fun h => e (by subst h; rfl))
        clear hca hcb hF hG hq
        generalize l[k] = a at *
        generalize m[k] = b at *
        generalize (F k).1 = vA at *
        generalize (F k).2 = vc at *
        generalize (G k).1 = vB at *
        generalize (G k).2 = vd at *
        have HAB := Lib.hid hab
        have HBB := Lib.hid hbb
        have KS := Lib.hid (fun W (hb : Below wr.heap.size wr W) => show Below wr.heap.size wr W ∧ W.cell? ⟨ab, ao + k * 5, none⟩ = some (.string a.name) ∧ W.cell? ⟨ab, ao + k * 5 + 1, none⟩ = some (.int .i64 a.v.kind) ∧ W.cell? ⟨ab, ao + k * 5 + 2, none⟩ = some (.int .i64 a.v.n) ∧ W.cell? ⟨ab, ao + k * 5 + 3, none⟩ = some (.string a.v.s) ∧ W.cell? ⟨ab, ao + k * 5 + 4, none⟩ = some (.slice vA a.v.l.length vc) ∧ W.cell? ⟨bb, bo + k * 5, none⟩ = some (.string b.name) ∧ W.cell? ⟨bb, bo + k * 5 + 1, none⟩ = some (.int .i64 b.v.kind) ∧ W.cell? ⟨bb, bo + k * 5 + 2, none⟩ = some (.int .i64 b.v.n) ∧ W.cell? ⟨bb, bo + k * 5 + 3, none⟩ = some (.string b.v.s) ∧ W.cell? ⟨bb, bo + k * 5 + 4, none⟩ = some (.slice vB b.v.l.length vd) from ⟨hb, (hb.cell (p := ⟨ab, ao + k * 5, none⟩) HAB.out).trans HC.out.1, (hb.cell (p := ⟨ab, ao + k * 5 + 1, none⟩) HAB.out).trans HC.out.2.1, (hb.cell (p := ⟨ab, ao + k * 5 + 2, none⟩) HAB.out).trans HC.out.2.2.1, (hb.cell (p := ⟨ab, ao + k * 5 + 3, none⟩) HAB.out).trans HC.out.2.2.2.1, (hb.cell (p := ⟨ab, ao + k * 5 + 4, none⟩) HAB.out).trans HC.out.2.2.2.2, (hb.cell (p := ⟨bb, bo + k * 5, none⟩) HBB.out).trans HD.out.1, (hb.cell (p := ⟨bb, bo + k * 5 + 1, none⟩) HBB.out).trans HD.out.2.1, (hb.cell (p := ⟨bb, bo + k * 5 + 2, none⟩) HBB.out).trans HD.out.2.2.1, (hb.cell (p := ⟨bb, bo + k * 5 + 3, none⟩) HBB.out).trans HD.out.2.2.2.1, (hb.cell (p := ⟨bb, bo + k * 5 + 4, none⟩) HBB.out).trans HD.out.2.2.2.2⟩)
        have CV := Lib.hid (fun W (hb : Below wr.heap.size wr W) => sameValue_any a.v b.v vA vB vc vd W (Rd.below hia hb) (Rd.below hib hb) HVK.out)
        clear hia hib HC HD
        by_cases hn : a.name = b.name
        · by_cases he : a.v = b.v
          · rw [decide_eq_true he] at CV
            have HQ := Lib.hid (HST.out (bd_ext.2 ⟨hn, he⟩))
            have hnn : (a.name.toList == b.name.toList) = true := by rw [hn]; simp
            clear hn he HST HNE
            go_upto_region 6 with fail
            refine wp_region_noPanic ?_
            refine wp_region_held_drew (S := fun W => Below wr.heap.size wr W ∧ W.cell? ⟨ab, ao + k * 5, none⟩ = some (.string a.name) ∧ W.cell? ⟨ab, ao + k * 5 + 1, none⟩ = some (.int .i64 a.v.kind) ∧ W.cell? ⟨ab, ao + k * 5 + 2, none⟩ = some (.int .i64 a.v.n) ∧ W.cell? ⟨ab, ao + k * 5 + 3, none⟩ = some (.string a.v.s) ∧ W.cell? ⟨ab, ao + k * 5 + 4, none⟩ = some (.slice vA a.v.l.length vc) ∧ W.cell? ⟨bb, bo + k * 5, none⟩ = some (.string b.name) ∧ W.cell? ⟨bb, bo + k * 5 + 1, none⟩ = some (.int .i64 b.v.kind) ∧ W.cell? ⟨bb, bo + k * 5 + 2, none⟩ = some (.int .i64 b.v.n) ∧ W.cell? ⟨bb, bo + k * 5 + 3, none⟩ = some (.string b.v.s) ∧ W.cell? ⟨bb, bo + k * 5 + 4, none⟩ = some (.slice vB b.v.l.length vd)) (by kernel_rfl) (KS.out _ ((Below.refl _ _).drew)) (fun hHeld => ?_)
            refine held_take (v := ?v1) 0 rfl (by kernel_rfl) (by kernel_rfl) (by kernel_rfl) (fun _ _ _ h => h) (by rfl) ?hy1 (by assumption) ?rest1
            case hy1 => (intro w hSw; (try dsimp only at hSw); go_simp; try with_reducible rfl)
            simp only [Act.put, List.setIfInBounds_toArray, List.set_cons_zero, List.set_cons_succ]
            refine held_take (v := ?v2) 1 rfl (by kernel_rfl) (by kernel_rfl) (by kernel_rfl) (fun _ _ _ h => h) (by rfl) ?hy2 (by assumption) ?rest2
            case hy2 => (intro w hSw; (try dsimp only at hSw); go_simp; try with_reducible rfl)
            simp only [Act.put, List.setIfInBounds_toArray, List.set_cons_zero, List.set_cons_succ]
            refine held_take (v := ?v3) 2 rfl (by kernel_rfl) (by kernel_rfl) (by kernel_rfl) (fun _ _ _ h => h) (by rfl) ?hy3 (by assumption) ?rest3
            case hy3 => (intro w hSw; (try dsimp only at hSw); go_simp; try with_reducible rfl)
            simp only [Act.put, List.setIfInBounds_toArray, List.set_cons_zero, List.set_cons_succ]
            refine held_take (v := ?v4) 3 rfl (by kernel_rfl) (by kernel_rfl) (by kernel_rfl) (fun _ _ _ h => h) (by rfl) ?hy4 (by assumption) ?rest4
            case hy4 => (intro w hSw; (try dsimp only at hSw); go_simp; try with_reducible rfl)
            simp only [Act.put, List.setIfInBounds_toArray, List.set_cons_zero, List.set_cons_succ]
            refine held_take (v := ?v5) 4 rfl (by kernel_rfl) (by kernel_rfl) (by kernel_rfl) (fun _ _ _ h => h) (by rfl) ?hy5 (by assumption) ?rest5
            case hy5 => (intro w hSw; (try dsimp only at hSw); go_simp; try with_reducible rfl)
            simp only [Act.put, List.setIfInBounds_toArray, List.set_cons_zero, List.set_cons_succ]
            refine held_take (v := ?v6) 5 rfl (by kernel_rfl) (by kernel_rfl) (by kernel_rfl) (fun _ _ _ h => h) (by rfl) ?hy6 (by assumption) ?rest6
            case hy6 => (intro w hSw; (try dsimp only at hSw); go_simp; try with_reducible rfl)
            simp only [Act.put, List.setIfInBounds_toArray, List.set_cons_zero, List.set_cons_succ]
            refine held_take (v := ?v7) 6 rfl (by kernel_rfl) (by kernel_rfl) (by kernel_rfl) (fun _ _ _ h => h) (by rfl) ?hy7 (by assumption) ?rest7
            case hy7 => (intro w hSw; (try dsimp only at hSw); go_simp; try with_reducible rfl)
            simp only [Act.put, List.setIfInBounds_toArray, List.set_cons_zero, List.set_cons_succ]
            refine held_take (v := ?v8) 7 rfl (by kernel_rfl) (by kernel_rfl) (by kernel_rfl) (fun _ _ _ h => h) (by rfl) ?hy8 (by assumption) ?rest8
            case hy8 => (intro w hSw; (try dsimp only at hSw); go_simp; try with_reducible rfl)
            simp only [Act.put, List.setIfInBounds_toArray, List.set_cons_zero, List.set_cons_succ]
            refine held_take (v := ?v9) 8 rfl (by kernel_rfl) (by kernel_rfl) (by kernel_rfl) (fun _ _ _ h => h) (by rfl) ?hy9 (by assumption) ?rest9
            case hy9 => (intro w hSw; (try dsimp only at hSw); go_simp; try with_reducible rfl)
            simp only [Act.put, List.setIfInBounds_toArray, List.set_cons_zero, List.set_cons_succ]
            refine held_take (v := ?v10) 9 rfl (by kernel_rfl) (by kernel_rfl) (by kernel_rfl) (fun _ _ _ h => h) (by rfl) ?hy10 (by assumption) ?rest10
            case hy10 => (intro w hSw; (try dsimp only at hSw); go_simp; try with_reducible rfl)
            simp only [Act.put, List.setIfInBounds_toArray, List.set_cons_zero, List.set_cons_succ]
            refine held_take (v := ?v11) 10 rfl (by kernel_rfl) (by kernel_rfl) (by kernel_rfl) (fun _ _ _ h => h) (by rfl) ?hy11 (by assumption) ?rest11
            case hy11 => (intro w hSw; (try dsimp only at hSw); go_simp; try with_reducible rfl)
            simp only [Act.put, List.setIfInBounds_toArray, List.set_cons_zero, List.set_cons_succ]
            refine held_take (v := ?v12) 11 rfl (by kernel_rfl) (by kernel_rfl) (by kernel_rfl) (fun _ _ _ h => h) (by rfl) ?hy12 (by assumption) ?rest12
            case hy12 => (intro w hSw; (try dsimp only at hSw); go_simp; try with_reducible rfl)
            simp only [Act.put, List.setIfInBounds_toArray, List.set_cons_zero, List.set_cons_succ]
            refine held_take (v := ?v13) 12 rfl (by kernel_rfl) (by kernel_rfl) (by kernel_rfl) (fun _ _ _ h => h) (by rfl) ?hy13 (by assumption) ?rest13
            case hy13 => (intro w hSw; (try dsimp only at hSw); go_simp; try with_reducible rfl)
            simp only [Act.put, List.setIfInBounds_toArray, List.set_cons_zero, List.set_cons_succ]
            refine held_take (v := ?v14) 13 rfl (by kernel_rfl) (by kernel_rfl) (by kernel_rfl) (fun _ _ _ h => h) (by rfl) ?hy14 (by assumption) ?rest14
            case hy14 => (intro w hSw; (try dsimp only at hSw); go_simp; try with_reducible rfl)
            simp only [Act.put, List.setIfInBounds_toArray, List.set_cons_zero, List.set_cons_succ]
            refine held_take (v := ?v15) 14 rfl (by kernel_rfl) (by kernel_rfl) (by kernel_rfl) (fun _ _ _ h => h) (by rfl) ?hy15 (by assumption) ?rest15
            case hy15 => (intro w hSw; (try dsimp only at hSw); go_simp; try with_reducible rfl)
            simp only [Act.put, List.setIfInBounds_toArray, List.set_cons_zero, List.set_cons_succ]
            refine held_take (v := ?v16) 15 rfl (by kernel_rfl) (by kernel_rfl) (by kernel_rfl) (fun _ _ _ h => h) (by rfl) ?hy16 (by assumption) ?rest16
            case hy16 => (intro w hSw; (try dsimp only at hSw); go_simp; try with_reducible rfl)
            simp only [Act.put, List.setIfInBounds_toArray, List.set_cons_zero, List.set_cons_succ]
            refine held_take (v := ?v17) 16 rfl (by kernel_rfl) (by kernel_rfl) (by kernel_rfl) (fun _ _ _ h => h) (by rfl) ?hy17 (by assumption) ?rest17
            case hy17 => (intro w hSw; (try dsimp only at hSw); go_simp; try with_reducible rfl)
            simp only [Act.put, List.setIfInBounds_toArray, List.set_cons_zero, List.set_cons_succ]
            refine held_take (v := ?v18) 17 rfl (by kernel_rfl) (by kernel_rfl) (by kernel_rfl) (fun _ _ _ h => h) (by rfl) ?hy18 (by assumption) ?rest18
            case hy18 => (intro w hSw; (try dsimp only at hSw); go_simp; try with_reducible rfl)
            simp only [Act.put, List.setIfInBounds_toArray, List.set_cons_zero, List.set_cons_succ]
            refine held_take (v := ?v19) 18 rfl (by kernel_rfl) (by kernel_rfl) (by kernel_rfl) (fun _ _ _ h => h) (by rfl) ?hy19 (by assumption) ?rest19
            case hy19 => (intro w hSw; (try dsimp only at hSw); go_simp; try with_reducible rfl)
            simp only [Act.put, List.setIfInBounds_toArray, List.set_cons_zero, List.set_cons_succ]
            refine held_take (v := ?v20) 19 rfl (by kernel_rfl) (by kernel_rfl) (by kernel_rfl) (fun _ _ _ h => h) (by rfl) ?hy20 (by assumption) ?rest20
            case hy20 => (intro w hSw; (try dsimp only at hSw); go_simp; try with_reducible rfl)
            simp only [Act.put, List.setIfInBounds_toArray, List.set_cons_zero, List.set_cons_succ]
            refine held_take (v := ?v21) 20 rfl (by kernel_rfl) (by kernel_rfl) (by kernel_rfl) (fun _ _ _ h => h) (by rfl) ?hy21 (by assumption) ?rest21
            case hy21 => (intro w hSw; (try dsimp only at hSw); go_simp; try with_reducible rfl)
            simp only [Act.put, List.setIfInBounds_toArray, List.set_cons_zero, List.set_cons_succ]
            refine held_take (v := ?v22) 21 rfl (by kernel_rfl) (by kernel_rfl) (by kernel_rfl) (fun _ _ _ h => h) (by rfl) ?hy22 (by assumption) ?rest22
            case hy22 => (intro w hSw; (try dsimp only at hSw); go_simp; try with_reducible rfl)
            simp only [Act.put, List.setIfInBounds_toArray, List.set_cons_zero, List.set_cons_succ]
            refine held_call 22 rfl (by kernel_rfl) (by rfl) (fun K hK => ?_)
            go_simp
            go_at_call 70
            refine (CV.out _ (And.left (by assumption))).mono ?_
            rintro e wf ⟨rfl, hbf⟩
            go_simp
            have hHeld := KS.out _ (below_next (And.left (by assumption)) hbf)
            refine hK _ _ (by assumption) ?_
            clear hK K
            try simp only [Act.put, List.setIfInBounds_toArray, List.set_cons_zero, List.set_cons_succ]
            refine held_take (v := ?v24) 23 rfl (by kernel_rfl) (by kernel_rfl) (by kernel_rfl) (fun _ _ _ h => h) (by rfl) ?hy24 (by assumption) ?rest24
            case hy24 => (intro w hSw; (try dsimp only at hSw); go_simp; try with_reducible rfl)
            simp only [Act.put, List.setIfInBounds_toArray, List.set_cons_zero, List.set_cons_succ]
            refine held_take (v := ?v25) 24 rfl (by kernel_rfl) (by kernel_rfl) (by kernel_rfl) (fun _ _ _ h => h) (by rfl) ?hy25 (by assumption) ?rest25
            case hy25 => (intro w hSw; (try dsimp only at hSw); go_simp; try with_reducible rfl)
            simp only [Act.put, List.setIfInBounds_toArray, List.set_cons_zero, List.set_cons_succ]
            refine wpAnyH_done (by kernel_rfl) ?_ _
            refine NoPanic.normal ?_
            go_wp2_with fail
            go_roundw
            case rel => exact ⟨k + 1, by omega, by go_num, HQ, Lib.hid (below_next hB.out (And.left (by assumption)))⟩
            case measure => simp [intOf]; omega
          · rw [decide_eq_false he] at CV
            have HN := Lib.hid (HNE.out (fun h => he (bd_ext.1 h).2))
            have hnn : (a.name.toList == b.name.toList) = true := by rw [hn]; simp
            clear hn he HST HNE
            go_upto_region 6 with fail
            refine wp_region_noPanic ?_
            refine wp_region_held_drew (S := fun W => Below wr.heap.size wr W ∧ W.cell? ⟨ab, ao + k * 5, none⟩ = some (.string a.name) ∧ W.cell? ⟨ab, ao + k * 5 + 1, none⟩ = some (.int .i64 a.v.kind) ∧ W.cell? ⟨ab, ao + k * 5 + 2, none⟩ = some (.int .i64 a.v.n) ∧ W.cell? ⟨ab, ao + k * 5 + 3, none⟩ = some (.string a.v.s) ∧ W.cell? ⟨ab, ao + k * 5 + 4, none⟩ = some (.slice vA a.v.l.length vc) ∧ W.cell? ⟨bb, bo + k * 5, none⟩ = some (.string b.name) ∧ W.cell? ⟨bb, bo + k * 5 + 1, none⟩ = some (.int .i64 b.v.kind) ∧ W.cell? ⟨bb, bo + k * 5 + 2, none⟩ = some (.int .i64 b.v.n) ∧ W.cell? ⟨bb, bo + k * 5 + 3, none⟩ = some (.string b.v.s) ∧ W.cell? ⟨bb, bo + k * 5 + 4, none⟩ = some (.slice vB b.v.l.length vd)) (by kernel_rfl) (KS.out _ ((Below.refl _ _).drew)) (fun hHeld => ?_)
            refine held_take (v := ?v26) 0 rfl (by kernel_rfl) (by kernel_rfl) (by kernel_rfl) (fun _ _ _ h => h) (by rfl) ?hy26 (by assumption) ?rest26
            case hy26 => (intro w hSw; (try dsimp only at hSw); go_simp; try with_reducible rfl)
            simp only [Act.put, List.setIfInBounds_toArray, List.set_cons_zero, List.set_cons_succ]
            refine held_take (v := ?v27) 1 rfl (by kernel_rfl) (by kernel_rfl) (by kernel_rfl) (fun _ _ _ h => h) (by rfl) ?hy27 (by assumption) ?rest27
            case hy27 => (intro w hSw; (try dsimp only at hSw); go_simp; try with_reducible rfl)
            simp only [Act.put, List.setIfInBounds_toArray, List.set_cons_zero, List.set_cons_succ]
            refine held_take (v := ?v28) 2 rfl (by kernel_rfl) (by kernel_rfl) (by kernel_rfl) (fun _ _ _ h => h) (by rfl) ?hy28 (by assumption) ?rest28
            case hy28 => (intro w hSw; (try dsimp only at hSw); go_simp; try with_reducible rfl)
            simp only [Act.put, List.setIfInBounds_toArray, List.set_cons_zero, List.set_cons_succ]
            refine held_take (v := ?v29) 3 rfl (by kernel_rfl) (by kernel_rfl) (by kernel_rfl) (fun _ _ _ h => h) (by rfl) ?hy29 (by assumption) ?rest29
            case hy29 => (intro w hSw; (try dsimp only at hSw); go_simp; try with_reducible rfl)
            simp only [Act.put, List.setIfInBounds_toArray, List.set_cons_zero, List.set_cons_succ]
            refine held_take (v := ?v30) 4 rfl (by kernel_rfl) (by kernel_rfl) (by kernel_rfl) (fun _ _ _ h => h) (by rfl) ?hy30 (by assumption) ?rest30
            case hy30 => (intro w hSw; (try dsimp only at hSw); go_simp; try with_reducible rfl)
            simp only [Act.put, List.setIfInBounds_toArray, List.set_cons_zero, List.set_cons_succ]
            refine held_take (v := ?v31) 5 rfl (by kernel_rfl) (by kernel_rfl) (by kernel_rfl) (fun _ _ _ h => h) (by rfl) ?hy31 (by assumption) ?rest31
            case hy31 => (intro w hSw; (try dsimp only at hSw); go_simp; try with_reducible rfl)
            simp only [Act.put, List.setIfInBounds_toArray, List.set_cons_zero, List.set_cons_succ]
            refine held_take (v := ?v32) 6 rfl (by kernel_rfl) (by kernel_rfl) (by kernel_rfl) (fun _ _ _ h => h) (by rfl) ?hy32 (by assumption) ?rest32
            case hy32 => (intro w hSw; (try dsimp only at hSw); go_simp; try with_reducible rfl)
            simp only [Act.put, List.setIfInBounds_toArray, List.set_cons_zero, List.set_cons_succ]
            refine held_take (v := ?v33) 7 rfl (by kernel_rfl) (by kernel_rfl) (by kernel_rfl) (fun _ _ _ h => h) (by rfl) ?hy33 (by assumption) ?rest33
            case hy33 => (intro w hSw; (try dsimp only at hSw); go_simp; try with_reducible rfl)
            simp only [Act.put, List.setIfInBounds_toArray, List.set_cons_zero, List.set_cons_succ]
            refine held_take (v := ?v34) 8 rfl (by kernel_rfl) (by kernel_rfl) (by kernel_rfl) (fun _ _ _ h => h) (by rfl) ?hy34 (by assumption) ?rest34
            case hy34 => (intro w hSw; (try dsimp only at hSw); go_simp; try with_reducible rfl)
            simp only [Act.put, List.setIfInBounds_toArray, List.set_cons_zero, List.set_cons_succ]
            refine held_take (v := ?v35) 9 rfl (by kernel_rfl) (by kernel_rfl) (by kernel_rfl) (fun _ _ _ h => h) (by rfl) ?hy35 (by assumption) ?rest35
            case hy35 => (intro w hSw; (try dsimp only at hSw); go_simp; try with_reducible rfl)
            simp only [Act.put, List.setIfInBounds_toArray, List.set_cons_zero, List.set_cons_succ]
            refine held_take (v := ?v36) 10 rfl (by kernel_rfl) (by kernel_rfl) (by kernel_rfl) (fun _ _ _ h => h) (by rfl) ?hy36 (by assumption) ?rest36
            case hy36 => (intro w hSw; (try dsimp only at hSw); go_simp; try with_reducible rfl)
            simp only [Act.put, List.setIfInBounds_toArray, List.set_cons_zero, List.set_cons_succ]
            refine held_take (v := ?v37) 11 rfl (by kernel_rfl) (by kernel_rfl) (by kernel_rfl) (fun _ _ _ h => h) (by rfl) ?hy37 (by assumption) ?rest37
            case hy37 => (intro w hSw; (try dsimp only at hSw); go_simp; try with_reducible rfl)
            simp only [Act.put, List.setIfInBounds_toArray, List.set_cons_zero, List.set_cons_succ]
            refine held_take (v := ?v38) 12 rfl (by kernel_rfl) (by kernel_rfl) (by kernel_rfl) (fun _ _ _ h => h) (by rfl) ?hy38 (by assumption) ?rest38
            case hy38 => (intro w hSw; (try dsimp only at hSw); go_simp; try with_reducible rfl)
            simp only [Act.put, List.setIfInBounds_toArray, List.set_cons_zero, List.set_cons_succ]
            refine held_take (v := ?v39) 13 rfl (by kernel_rfl) (by kernel_rfl) (by kernel_rfl) (fun _ _ _ h => h) (by rfl) ?hy39 (by assumption) ?rest39
            case hy39 => (intro w hSw; (try dsimp only at hSw); go_simp; try with_reducible rfl)
            simp only [Act.put, List.setIfInBounds_toArray, List.set_cons_zero, List.set_cons_succ]
            refine held_take (v := ?v40) 14 rfl (by kernel_rfl) (by kernel_rfl) (by kernel_rfl) (fun _ _ _ h => h) (by rfl) ?hy40 (by assumption) ?rest40
            case hy40 => (intro w hSw; (try dsimp only at hSw); go_simp; try with_reducible rfl)
            simp only [Act.put, List.setIfInBounds_toArray, List.set_cons_zero, List.set_cons_succ]
            refine held_take (v := ?v41) 15 rfl (by kernel_rfl) (by kernel_rfl) (by kernel_rfl) (fun _ _ _ h => h) (by rfl) ?hy41 (by assumption) ?rest41
            case hy41 => (intro w hSw; (try dsimp only at hSw); go_simp; try with_reducible rfl)
            simp only [Act.put, List.setIfInBounds_toArray, List.set_cons_zero, List.set_cons_succ]
            refine held_take (v := ?v42) 16 rfl (by kernel_rfl) (by kernel_rfl) (by kernel_rfl) (fun _ _ _ h => h) (by rfl) ?hy42 (by assumption) ?rest42
            case hy42 => (intro w hSw; (try dsimp only at hSw); go_simp; try with_reducible rfl)
            simp only [Act.put, List.setIfInBounds_toArray, List.set_cons_zero, List.set_cons_succ]
            refine held_take (v := ?v43) 17 rfl (by kernel_rfl) (by kernel_rfl) (by kernel_rfl) (fun _ _ _ h => h) (by rfl) ?hy43 (by assumption) ?rest43
            case hy43 => (intro w hSw; (try dsimp only at hSw); go_simp; try with_reducible rfl)
            simp only [Act.put, List.setIfInBounds_toArray, List.set_cons_zero, List.set_cons_succ]
            refine held_take (v := ?v44) 18 rfl (by kernel_rfl) (by kernel_rfl) (by kernel_rfl) (fun _ _ _ h => h) (by rfl) ?hy44 (by assumption) ?rest44
            case hy44 => (intro w hSw; (try dsimp only at hSw); go_simp; try with_reducible rfl)
            simp only [Act.put, List.setIfInBounds_toArray, List.set_cons_zero, List.set_cons_succ]
            refine held_take (v := ?v45) 19 rfl (by kernel_rfl) (by kernel_rfl) (by kernel_rfl) (fun _ _ _ h => h) (by rfl) ?hy45 (by assumption) ?rest45
            case hy45 => (intro w hSw; (try dsimp only at hSw); go_simp; try with_reducible rfl)
            simp only [Act.put, List.setIfInBounds_toArray, List.set_cons_zero, List.set_cons_succ]
            refine held_take (v := ?v46) 20 rfl (by kernel_rfl) (by kernel_rfl) (by kernel_rfl) (fun _ _ _ h => h) (by rfl) ?hy46 (by assumption) ?rest46
            case hy46 => (intro w hSw; (try dsimp only at hSw); go_simp; try with_reducible rfl)
            simp only [Act.put, List.setIfInBounds_toArray, List.set_cons_zero, List.set_cons_succ]
            refine held_take (v := ?v47) 21 rfl (by kernel_rfl) (by kernel_rfl) (by kernel_rfl) (fun _ _ _ h => h) (by rfl) ?hy47 (by assumption) ?rest47
            case hy47 => (intro w hSw; (try dsimp only at hSw); go_simp; try with_reducible rfl)
            simp only [Act.put, List.setIfInBounds_toArray, List.set_cons_zero, List.set_cons_succ]
            refine held_call 22 rfl (by kernel_rfl) (by rfl) (fun K hK => ?_)
            go_simp
            go_at_call 70
            refine (CV.out _ (And.left (by assumption))).mono ?_
            rintro e wf ⟨rfl, hbf⟩
            go_simp
            have hHeld := KS.out _ (below_next (And.left (by assumption)) hbf)
            refine hK _ _ (by assumption) ?_
            clear hK K
            try simp only [Act.put, List.setIfInBounds_toArray, List.set_cons_zero, List.set_cons_succ]
            refine held_take (v := ?v49) 23 rfl (by kernel_rfl) (by kernel_rfl) (by kernel_rfl) (fun _ _ _ h => h) (by rfl) ?hy49 (by assumption) ?rest49
            case hy49 => (intro w hSw; (try dsimp only at hSw); go_simp; try with_reducible rfl)
            simp only [Act.put, List.setIfInBounds_toArray, List.set_cons_zero, List.set_cons_succ]
            refine held_take (v := ?v50) 24 rfl (by kernel_rfl) (by kernel_rfl) (by kernel_rfl) (fun _ _ _ h => h) (by rfl) ?hy50 (by assumption) ?rest50
            case hy50 => (intro w hSw; (try dsimp only at hSw); go_simp; try with_reducible rfl)
            simp only [Act.put, List.setIfInBounds_toArray, List.set_cons_zero, List.set_cons_succ]
            refine wpAnyH_done (by kernel_rfl) ?_ _
            refine NoPanic.normal ?_
            go_wp2_with fail
            go_ret
            exact ⟨ret_bool (by simp [HN.out]), below_next hB.out (And.left (by assumption))⟩
        · have hnn := str_ne hn
          have HN := Lib.hid (HNE.out (fun h => hn (bd_ext.1 h).1))
          clear hn HST HNE CV
          go_upto_region 6 with fail
          refine wp_region_noPanic ?_
          refine wp_region_held_drew (S := fun W => Below wr.heap.size wr W ∧ W.cell? ⟨ab, ao + k * 5, none⟩ = some (.string a.name) ∧ W.cell? ⟨ab, ao + k * 5 + 1, none⟩ = some (.int .i64 a.v.kind) ∧ W.cell? ⟨ab, ao + k * 5 + 2, none⟩ = some (.int .i64 a.v.n) ∧ W.cell? ⟨ab, ao + k * 5 + 3, none⟩ = some (.string a.v.s) ∧ W.cell? ⟨ab, ao + k * 5 + 4, none⟩ = some (.slice vA a.v.l.length vc) ∧ W.cell? ⟨bb, bo + k * 5, none⟩ = some (.string b.name) ∧ W.cell? ⟨bb, bo + k * 5 + 1, none⟩ = some (.int .i64 b.v.kind) ∧ W.cell? ⟨bb, bo + k * 5 + 2, none⟩ = some (.int .i64 b.v.n) ∧ W.cell? ⟨bb, bo + k * 5 + 3, none⟩ = some (.string b.v.s) ∧ W.cell? ⟨bb, bo + k * 5 + 4, none⟩ = some (.slice vB b.v.l.length vd)) (by kernel_rfl) (KS.out _ ((Below.refl _ _).drew)) (fun hHeld => ?_)
          refine held_take (v := ?v51) 0 rfl (by kernel_rfl) (by kernel_rfl) (by kernel_rfl) (fun _ _ _ h => h) (by rfl) ?hy51 (by assumption) ?rest51
          case hy51 => (intro w hSw; (try dsimp only at hSw); go_simp; try with_reducible rfl)
          simp only [Act.put, List.setIfInBounds_toArray, List.set_cons_zero, List.set_cons_succ]
          refine held_take (v := ?v52) 1 rfl (by kernel_rfl) (by kernel_rfl) (by kernel_rfl) (fun _ _ _ h => h) (by rfl) ?hy52 (by assumption) ?rest52
          case hy52 => (intro w hSw; (try dsimp only at hSw); go_simp; try with_reducible rfl)
          simp only [Act.put, List.setIfInBounds_toArray, List.set_cons_zero, List.set_cons_succ]
          refine held_take (v := ?v53) 2 rfl (by kernel_rfl) (by kernel_rfl) (by kernel_rfl) (fun _ _ _ h => h) (by rfl) ?hy53 (by assumption) ?rest53
          case hy53 => (intro w hSw; (try dsimp only at hSw); go_simp; try with_reducible rfl)
          simp only [Act.put, List.setIfInBounds_toArray, List.set_cons_zero, List.set_cons_succ]
          refine held_take (v := ?v54) 3 rfl (by kernel_rfl) (by kernel_rfl) (by kernel_rfl) (fun _ _ _ h => h) (by rfl) ?hy54 (by assumption) ?rest54
          case hy54 => (intro w hSw; (try dsimp only at hSw); go_simp; try with_reducible rfl)
          simp only [Act.put, List.setIfInBounds_toArray, List.set_cons_zero, List.set_cons_succ]
          refine held_take (v := ?v55) 4 rfl (by kernel_rfl) (by kernel_rfl) (by kernel_rfl) (fun _ _ _ h => h) (by rfl) ?hy55 (by assumption) ?rest55
          case hy55 => (intro w hSw; (try dsimp only at hSw); go_simp; try with_reducible rfl)
          simp only [Act.put, List.setIfInBounds_toArray, List.set_cons_zero, List.set_cons_succ]
          refine held_take (v := ?v56) 5 rfl (by kernel_rfl) (by kernel_rfl) (by kernel_rfl) (fun _ _ _ h => h) (by rfl) ?hy56 (by assumption) ?rest56
          case hy56 => (intro w hSw; (try dsimp only at hSw); go_simp; try with_reducible rfl)
          simp only [Act.put, List.setIfInBounds_toArray, List.set_cons_zero, List.set_cons_succ]
          refine held_take (v := ?v57) 6 rfl (by kernel_rfl) (by kernel_rfl) (by kernel_rfl) (fun _ _ _ h => h) (by rfl) ?hy57 (by assumption) ?rest57
          case hy57 => (intro w hSw; (try dsimp only at hSw); go_simp; try with_reducible rfl)
          simp only [Act.put, List.setIfInBounds_toArray, List.set_cons_zero, List.set_cons_succ]
          refine held_take (v := ?v58) 7 rfl (by kernel_rfl) (by kernel_rfl) (by kernel_rfl) (fun _ _ _ h => h) (by rfl) ?hy58 (by assumption) ?rest58
          case hy58 => (intro w hSw; (try dsimp only at hSw); go_simp; try with_reducible rfl)
          simp only [Act.put, List.setIfInBounds_toArray, List.set_cons_zero, List.set_cons_succ]
          refine held_take (v := ?v59) 8 rfl (by kernel_rfl) (by kernel_rfl) (by kernel_rfl) (fun _ _ _ h => h) (by rfl) ?hy59 (by assumption) ?rest59
          case hy59 => (intro w hSw; (try dsimp only at hSw); go_simp; try with_reducible rfl)
          simp only [Act.put, List.setIfInBounds_toArray, List.set_cons_zero, List.set_cons_succ]
          refine held_take (v := ?v60) 9 rfl (by kernel_rfl) (by kernel_rfl) (by kernel_rfl) (fun _ _ _ h => h) (by rfl) ?hy60 (by assumption) ?rest60
          case hy60 => (intro w hSw; (try dsimp only at hSw); go_simp; try with_reducible rfl)
          simp only [Act.put, List.setIfInBounds_toArray, List.set_cons_zero, List.set_cons_succ]
          refine held_take (v := ?v61) 10 rfl (by kernel_rfl) (by kernel_rfl) (by kernel_rfl) (fun _ _ _ h => h) (by rfl) ?hy61 (by assumption) ?rest61
          case hy61 => (intro w hSw; (try dsimp only at hSw); go_simp; try with_reducible rfl)
          simp only [Act.put, List.setIfInBounds_toArray, List.set_cons_zero, List.set_cons_succ]
          refine held_take (v := ?v62) 11 rfl (by kernel_rfl) (by kernel_rfl) (by kernel_rfl) (fun _ _ _ h => h) (by rfl) ?hy62 (by assumption) ?rest62
          case hy62 => (intro w hSw; (try dsimp only at hSw); go_simp; try with_reducible rfl)
          simp only [Act.put, List.setIfInBounds_toArray, List.set_cons_zero, List.set_cons_succ]
          refine held_skip 12 rfl (by kernel_rfl) (by kernel_rfl) (by kernel_rfl) (fun _ _ _ h => h) (by rfl) (by assumption) ?_
          simp only [Act.put, List.setIfInBounds_toArray, List.set_cons_zero, List.set_cons_succ]
          refine held_skip 13 rfl (by kernel_rfl) (by kernel_rfl) (by kernel_rfl) (fun _ _ _ h => h) (by rfl) (by assumption) ?_
          simp only [Act.put, List.setIfInBounds_toArray, List.set_cons_zero, List.set_cons_succ]
          refine held_skip 14 rfl (by kernel_rfl) (by kernel_rfl) (by kernel_rfl) (fun _ _ _ h => h) (by rfl) (by assumption) ?_
          simp only [Act.put, List.setIfInBounds_toArray, List.set_cons_zero, List.set_cons_succ]
          refine held_skip 15 rfl (by kernel_rfl) (by kernel_rfl) (by kernel_rfl) (fun _ _ _ h => h) (by rfl) (by assumption) ?_
          simp only [Act.put, List.setIfInBounds_toArray, List.set_cons_zero, List.set_cons_succ]
          refine held_skip 16 rfl (by kernel_rfl) (by kernel_rfl) (by kernel_rfl) (fun _ _ _ h => h) (by rfl) (by assumption) ?_
          simp only [Act.put, List.setIfInBounds_toArray, List.set_cons_zero, List.set_cons_succ]
          refine held_skip 17 rfl (by kernel_rfl) (by kernel_rfl) (by kernel_rfl) (fun _ _ _ h => h) (by rfl) (by assumption) ?_
          simp only [Act.put, List.setIfInBounds_toArray, List.set_cons_zero, List.set_cons_succ]
          refine held_skip 18 rfl (by kernel_rfl) (by kernel_rfl) (by kernel_rfl) (fun _ _ _ h => h) (by rfl) (by assumption) ?_
          simp only [Act.put, List.setIfInBounds_toArray, List.set_cons_zero, List.set_cons_succ]
          refine held_skip 19 rfl (by kernel_rfl) (by kernel_rfl) (by kernel_rfl) (fun _ _ _ h => h) (by rfl) (by assumption) ?_
          simp only [Act.put, List.setIfInBounds_toArray, List.set_cons_zero, List.set_cons_succ]
          refine held_skip 20 rfl (by kernel_rfl) (by kernel_rfl) (by kernel_rfl) (fun _ _ _ h => h) (by rfl) (by assumption) ?_
          simp only [Act.put, List.setIfInBounds_toArray, List.set_cons_zero, List.set_cons_succ]
          refine held_skip 21 rfl (by kernel_rfl) (by kernel_rfl) (by kernel_rfl) (fun _ _ _ h => h) (by rfl) (by assumption) ?_
          simp only [Act.put, List.setIfInBounds_toArray, List.set_cons_zero, List.set_cons_succ]
          refine held_skip 22 rfl (by kernel_rfl) (by kernel_rfl) (by kernel_rfl) (fun _ _ _ h => h) (by rfl) (by assumption) ?_
          simp only [Act.put, List.setIfInBounds_toArray, List.set_cons_zero, List.set_cons_succ]
          refine held_skip 23 rfl (by kernel_rfl) (by kernel_rfl) (by kernel_rfl) (fun _ _ _ h => h) (by rfl) (by assumption) ?_
          simp only [Act.put, List.setIfInBounds_toArray, List.set_cons_zero, List.set_cons_succ]
          refine held_take (v := ?v75) 24 rfl (by kernel_rfl) (by kernel_rfl) (by kernel_rfl) (fun _ _ _ h => h) (by rfl) ?hy75 (by assumption) ?rest75
          case hy75 => (intro w hSw; (try dsimp only at hSw); go_simp; try with_reducible rfl)
          simp only [Act.put, List.setIfInBounds_toArray, List.set_cons_zero, List.set_cons_succ]
          refine wpAnyH_done (by kernel_rfl) ?_ _
          refine NoPanic.normal ?_
          go_wp2_with fail
          go_ret
          exact ⟨ret_bool (by simp [HN.out]), below_next hB.out (And.left (by assumption))⟩
      · have hr : l = m := by have h := hq.out; rw [List.take_of_length_le (by omega), List.take_of_length_le (by have := HL.out; omega)] at h; exact h
        have HR := Lib.hid hr
        clear hq hr
        go_wp2_with fail
        go_ret
        exact ⟨ret_bool (by simp [HR.out]), hB.out⟩
  · have hzz : ((l.length : Int) == (m.length : Int)) = false := by simp; omega
    have hzn : (l.length == m.length) = false := by simp; exact hlm
    go_enter Try.func46, Try.ntmps46
    go_wp2_with fail
    go_ret
    exact ⟨ret_bool (by simp; intro h; exact hlm (by rw [h])), Below.refl _ _⟩
end Go.Proofs.Ytfaophiaiflecaa
namespace Go.Proofs.Ytfaophiaiflecaa
open Go.RowKit

/-- A note. -/
structure Nt where
  kind : Int
  agent : ByteArray
  session : ByteArray
  seat : Int
  peer : ByteArray
  label : ByteArray
  v : Vl
  proc : Int
  env : List Bd
deriving DecidableEq
def Nt.cells (x : Nt) (A : Option Addr) (c : Nat) (E : Option Addr) (d : Nat) : Array Value := #[.int .i64 x.kind, .string x.agent, .string x.session, .int .i64 x.seat, .string x.peer, .string x.label, .int .i64 x.v.kind, .int .i64 x.v.n, .string x.v.s, .slice A x.v.l.length c, .int .i64 x.proc, .slice E x.env.length d]
/-- Its lists lie there, and are not too long. -/
structure NtAt (w : World) (x : Nt) (A E : Option Addr) : Prop where
  a : Ints w A x.v.l
  e : Env w E x.env
  la : x.v.l.length ≤ 1000000000
  le : x.env.length ≤ 1000000000
  lb : ∀ b ∈ x.env, b.v.l.length ≤ 1000000000
theorem NtAt.below {w w' : World} {x : Nt} {A E : Option Addr} (h : NtAt w x A E) (hb : Below w.heap.size w w') : NtAt w' x A E := ⟨Rd.below h.a hb, h.e.below hb, h.la, h.le, h.lb⟩
theorem Env.one {w : World} {A : Option Addr} {c g : Nat} {b : Bd} {t : TypeId} (hb : Blk w g #[.string b.name, .int .i64 b.v.kind, .int .i64 b.v.n, .string b.v.s, .slice A b.v.l.length c] t) (h : Ints w A b.v.l) : Env w (some ⟨g, 0, none⟩) [b] := by
  refine ⟨[(A, c)], rfl, hb.rd, fun i b' r h1 h2 => ?_⟩
  cases i with
  | zero => cases h1; cases h2; exact h
  | succ i => simp at h1
set_option maxRecDepth 100000 in
set_option maxHeartbeats 3200000 in
theorem sameMail_any (A B : Option Addr) (l m : List Bd) (c d : Nat) (w : World) (ha : Env w A l) (hb : Env w B m) (hl : l.length ≤ 1000000000) (hv : ∀ b ∈ l, b.v.l.length ≤ 1000000000) :
    Calls Try.prog 45 #[.slice A l.length c, .slice B m.length d] w fun e w' => e = .returned (.bool (decide (l = m))) ∧ Below w.heap.size w w' := by
  by_cases hlm : l.length = m.length
  · rw [← hlm]
    have HL := Lib.hid hlm
    have HA := Lib.hid (And.intro ha hb)
    have HV := Lib.hid hv
    clear hlm ha hb hv
    go_enter Try.func45, Try.ntmps45
    go_wp2_with fail
    go_loopw [5] (fun i wr => ∃ k : Nat, k ≤ l.length ∧ i = .int .i64 k ∧ Hid (l.take k = m.take k) ∧ Hid (Below w.heap.size w wr)) (fun i _ => l.length - (intOf i).toNat)
    case atStart => exact ⟨0, by omega, rfl, Lib.hid (by simp), Lib.hid (Below.refl _ _)⟩
    case round =>
      obtain ⟨k, hk, rfl, hq, hB⟩ := hrel
      by_cases hlt : k < l.length
      · have hltm : k < m.length := by rw [← HL.out]; exact hlt
        obtain ⟨F, hF⟩ := env_at (HA.out.1.below hB.out)
        obtain ⟨G, hG⟩ := env_at (HA.out.2.below hB.out)
        obtain ⟨ab, ao, rfl, hab, hia, hca⟩ := hF k hlt
        obtain ⟨bb, bo, rfl, hbb, hib, hcb⟩ := hG k hltm
        have HC := Lib.hid (hca k hlt)
        have HD := Lib.hid (hcb k hltm)
        have HVK := Lib.hid (HV.out l[k] (List.getElem_mem hlt))
        have HST := Lib.hid (fun (e : l[k] = m[k]) => take_stepB hq.out hlt hltm e)
        have HNE := Lib.hid (fun (e : ¬ l[k] = m[k]) => show ¬ l = m from fun h => e (by subst h; rfl))
        clear hca hcb hF hG hq
        generalize l[k] = a at *
        generalize m[k] = b at *
        generalize (F k).1 = vA at *
        generalize (F k).2 = vc at *
        generalize (G k).1 = vB at *
        generalize (G k).2 = vd at *
        have HAB := Lib.hid hab
        have HBB := Lib.hid hbb
        have KS := Lib.hid (fun W (hb : Below wr.heap.size wr W) => show Below wr.heap.size wr W ∧ W.cell? ⟨ab, ao + k * 5, none⟩ = some (.string a.name) ∧ W.cell? ⟨ab, ao + k * 5 + 1, none⟩ = some (.int .i64 a.v.kind) ∧ W.cell? ⟨ab, ao + k * 5 + 2, none⟩ = some (.int .i64 a.v.n) ∧ W.cell? ⟨ab, ao + k * 5 + 3, none⟩ = some (.string a.v.s) ∧ W.cell? ⟨ab, ao + k * 5 + 4, none⟩ = some (.slice vA a.v.l.length vc) ∧ W.cell? ⟨bb, bo + k * 5, none⟩ = some (.string b.name) ∧ W.cell? ⟨bb, bo + k * 5 + 1, none⟩ = some (.int .i64 b.v.kind) ∧ W.cell? ⟨bb, bo + k * 5 + 2, none⟩ = some (.int .i64 b.v.n) ∧ W.cell? ⟨bb, bo + k * 5 + 3, none⟩ = some (.string b.v.s) ∧ W.cell? ⟨bb, bo + k * 5 + 4, none⟩ = some (.slice vB b.v.l.length vd) from ⟨hb, (hb.cell (p := ⟨ab, ao + k * 5, none⟩) HAB.out).trans HC.out.1, (hb.cell (p := ⟨ab, ao + k * 5 + 1, none⟩) HAB.out).trans HC.out.2.1, (hb.cell (p := ⟨ab, ao + k * 5 + 2, none⟩) HAB.out).trans HC.out.2.2.1, (hb.cell (p := ⟨ab, ao + k * 5 + 3, none⟩) HAB.out).trans HC.out.2.2.2.1, (hb.cell (p := ⟨ab, ao + k * 5 + 4, none⟩) HAB.out).trans HC.out.2.2.2.2, (hb.cell (p := ⟨bb, bo + k * 5, none⟩) HBB.out).trans HD.out.1, (hb.cell (p := ⟨bb, bo + k * 5 + 1, none⟩) HBB.out).trans HD.out.2.1, (hb.cell (p := ⟨bb, bo + k * 5 + 2, none⟩) HBB.out).trans HD.out.2.2.1, (hb.cell (p := ⟨bb, bo + k * 5 + 3, none⟩) HBB.out).trans HD.out.2.2.2.1, (hb.cell (p := ⟨bb, bo + k * 5 + 4, none⟩) HBB.out).trans HD.out.2.2.2.2⟩)
        have CV := Lib.hid (fun W (hb : Below wr.heap.size wr W) => sameValue_any a.v b.v vA vB vc vd W (Rd.below hia hb) (Rd.below hib hb) HVK.out)
        clear hia hib HC HD
        by_cases hn : a.name = b.name
        · by_cases he : a.v = b.v
          · rw [decide_eq_true he] at CV
            have HQ := Lib.hid (HST.out (bd_ext.2 ⟨hn, he⟩))
            have hnn : (a.name.toList == b.name.toList) = true := by rw [hn]; simp
            clear hn he HST HNE
            go_upto_region 6 with fail
            refine wp_region_noPanic ?_
            refine wp_region_held_drew (S := fun W => Below wr.heap.size wr W ∧ W.cell? ⟨ab, ao + k * 5, none⟩ = some (.string a.name) ∧ W.cell? ⟨ab, ao + k * 5 + 1, none⟩ = some (.int .i64 a.v.kind) ∧ W.cell? ⟨ab, ao + k * 5 + 2, none⟩ = some (.int .i64 a.v.n) ∧ W.cell? ⟨ab, ao + k * 5 + 3, none⟩ = some (.string a.v.s) ∧ W.cell? ⟨ab, ao + k * 5 + 4, none⟩ = some (.slice vA a.v.l.length vc) ∧ W.cell? ⟨bb, bo + k * 5, none⟩ = some (.string b.name) ∧ W.cell? ⟨bb, bo + k * 5 + 1, none⟩ = some (.int .i64 b.v.kind) ∧ W.cell? ⟨bb, bo + k * 5 + 2, none⟩ = some (.int .i64 b.v.n) ∧ W.cell? ⟨bb, bo + k * 5 + 3, none⟩ = some (.string b.v.s) ∧ W.cell? ⟨bb, bo + k * 5 + 4, none⟩ = some (.slice vB b.v.l.length vd)) (by kernel_rfl) (KS.out _ ((Below.refl _ _).drew)) (fun hHeld => ?_)
            refine held_take (v := ?v1) 0 rfl (by kernel_rfl) (by kernel_rfl) (by kernel_rfl) (fun _ _ _ h => h) (by rfl) ?hy1 (by assumption) ?rest1
            case hy1 => (intro w hSw; (try dsimp only at hSw); go_simp; try with_reducible rfl)
            simp only [Act.put, List.setIfInBounds_toArray, List.set_cons_zero, List.set_cons_succ]
            refine held_take (v := ?v2) 1 rfl (by kernel_rfl) (by kernel_rfl) (by kernel_rfl) (fun _ _ _ h => h) (by rfl) ?hy2 (by assumption) ?rest2
            case hy2 => (intro w hSw; (try dsimp only at hSw); go_simp; try with_reducible rfl)
            simp only [Act.put, List.setIfInBounds_toArray, List.set_cons_zero, List.set_cons_succ]
            refine held_take (v := ?v3) 2 rfl (by kernel_rfl) (by kernel_rfl) (by kernel_rfl) (fun _ _ _ h => h) (by rfl) ?hy3 (by assumption) ?rest3
            case hy3 => (intro w hSw; (try dsimp only at hSw); go_simp; try with_reducible rfl)
            simp only [Act.put, List.setIfInBounds_toArray, List.set_cons_zero, List.set_cons_succ]
            refine held_take (v := ?v4) 3 rfl (by kernel_rfl) (by kernel_rfl) (by kernel_rfl) (fun _ _ _ h => h) (by rfl) ?hy4 (by assumption) ?rest4
            case hy4 => (intro w hSw; (try dsimp only at hSw); go_simp; try with_reducible rfl)
            simp only [Act.put, List.setIfInBounds_toArray, List.set_cons_zero, List.set_cons_succ]
            refine held_take (v := ?v5) 4 rfl (by kernel_rfl) (by kernel_rfl) (by kernel_rfl) (fun _ _ _ h => h) (by rfl) ?hy5 (by assumption) ?rest5
            case hy5 => (intro w hSw; (try dsimp only at hSw); go_simp; try with_reducible rfl)
            simp only [Act.put, List.setIfInBounds_toArray, List.set_cons_zero, List.set_cons_succ]
            refine held_take (v := ?v6) 5 rfl (by kernel_rfl) (by kernel_rfl) (by kernel_rfl) (fun _ _ _ h => h) (by rfl) ?hy6 (by assumption) ?rest6
            case hy6 => (intro w hSw; (try dsimp only at hSw); go_simp; try with_reducible rfl)
            simp only [Act.put, List.setIfInBounds_toArray, List.set_cons_zero, List.set_cons_succ]
            refine held_take (v := ?v7) 6 rfl (by kernel_rfl) (by kernel_rfl) (by kernel_rfl) (fun _ _ _ h => h) (by rfl) ?hy7 (by assumption) ?rest7
            case hy7 => (intro w hSw; (try dsimp only at hSw); go_simp; try with_reducible rfl)
            simp only [Act.put, List.setIfInBounds_toArray, List.set_cons_zero, List.set_cons_succ]
            refine held_take (v := ?v8) 7 rfl (by kernel_rfl) (by kernel_rfl) (by kernel_rfl) (fun _ _ _ h => h) (by rfl) ?hy8 (by assumption) ?rest8
            case hy8 => (intro w hSw; (try dsimp only at hSw); go_simp; try with_reducible rfl)
            simp only [Act.put, List.setIfInBounds_toArray, List.set_cons_zero, List.set_cons_succ]
            refine held_take (v := ?v9) 8 rfl (by kernel_rfl) (by kernel_rfl) (by kernel_rfl) (fun _ _ _ h => h) (by rfl) ?hy9 (by assumption) ?rest9
            case hy9 => (intro w hSw; (try dsimp only at hSw); go_simp; try with_reducible rfl)
            simp only [Act.put, List.setIfInBounds_toArray, List.set_cons_zero, List.set_cons_succ]
            refine held_take (v := ?v10) 9 rfl (by kernel_rfl) (by kernel_rfl) (by kernel_rfl) (fun _ _ _ h => h) (by rfl) ?hy10 (by assumption) ?rest10
            case hy10 => (intro w hSw; (try dsimp only at hSw); go_simp; try with_reducible rfl)
            simp only [Act.put, List.setIfInBounds_toArray, List.set_cons_zero, List.set_cons_succ]
            refine held_take (v := ?v11) 10 rfl (by kernel_rfl) (by kernel_rfl) (by kernel_rfl) (fun _ _ _ h => h) (by rfl) ?hy11 (by assumption) ?rest11
            case hy11 => (intro w hSw; (try dsimp only at hSw); go_simp; try with_reducible rfl)
            simp only [Act.put, List.setIfInBounds_toArray, List.set_cons_zero, List.set_cons_succ]
            refine held_take (v := ?v12) 11 rfl (by kernel_rfl) (by kernel_rfl) (by kernel_rfl) (fun _ _ _ h => h) (by rfl) ?hy12 (by assumption) ?rest12
            case hy12 => (intro w hSw; (try dsimp only at hSw); go_simp; try with_reducible rfl)
            simp only [Act.put, List.setIfInBounds_toArray, List.set_cons_zero, List.set_cons_succ]
            refine held_take (v := ?v13) 12 rfl (by kernel_rfl) (by kernel_rfl) (by kernel_rfl) (fun _ _ _ h => h) (by rfl) ?hy13 (by assumption) ?rest13
            case hy13 => (intro w hSw; (try dsimp only at hSw); go_simp; try with_reducible rfl)
            simp only [Act.put, List.setIfInBounds_toArray, List.set_cons_zero, List.set_cons_succ]
            refine held_take (v := ?v14) 13 rfl (by kernel_rfl) (by kernel_rfl) (by kernel_rfl) (fun _ _ _ h => h) (by rfl) ?hy14 (by assumption) ?rest14
            case hy14 => (intro w hSw; (try dsimp only at hSw); go_simp; try with_reducible rfl)
            simp only [Act.put, List.setIfInBounds_toArray, List.set_cons_zero, List.set_cons_succ]
            refine held_take (v := ?v15) 14 rfl (by kernel_rfl) (by kernel_rfl) (by kernel_rfl) (fun _ _ _ h => h) (by rfl) ?hy15 (by assumption) ?rest15
            case hy15 => (intro w hSw; (try dsimp only at hSw); go_simp; try with_reducible rfl)
            simp only [Act.put, List.setIfInBounds_toArray, List.set_cons_zero, List.set_cons_succ]
            refine held_take (v := ?v16) 15 rfl (by kernel_rfl) (by kernel_rfl) (by kernel_rfl) (fun _ _ _ h => h) (by rfl) ?hy16 (by assumption) ?rest16
            case hy16 => (intro w hSw; (try dsimp only at hSw); go_simp; try with_reducible rfl)
            simp only [Act.put, List.setIfInBounds_toArray, List.set_cons_zero, List.set_cons_succ]
            refine held_take (v := ?v17) 16 rfl (by kernel_rfl) (by kernel_rfl) (by kernel_rfl) (fun _ _ _ h => h) (by rfl) ?hy17 (by assumption) ?rest17
            case hy17 => (intro w hSw; (try dsimp only at hSw); go_simp; try with_reducible rfl)
            simp only [Act.put, List.setIfInBounds_toArray, List.set_cons_zero, List.set_cons_succ]
            refine held_take (v := ?v18) 17 rfl (by kernel_rfl) (by kernel_rfl) (by kernel_rfl) (fun _ _ _ h => h) (by rfl) ?hy18 (by assumption) ?rest18
            case hy18 => (intro w hSw; (try dsimp only at hSw); go_simp; try with_reducible rfl)
            simp only [Act.put, List.setIfInBounds_toArray, List.set_cons_zero, List.set_cons_succ]
            refine held_take (v := ?v19) 18 rfl (by kernel_rfl) (by kernel_rfl) (by kernel_rfl) (fun _ _ _ h => h) (by rfl) ?hy19 (by assumption) ?rest19
            case hy19 => (intro w hSw; (try dsimp only at hSw); go_simp; try with_reducible rfl)
            simp only [Act.put, List.setIfInBounds_toArray, List.set_cons_zero, List.set_cons_succ]
            refine held_take (v := ?v20) 19 rfl (by kernel_rfl) (by kernel_rfl) (by kernel_rfl) (fun _ _ _ h => h) (by rfl) ?hy20 (by assumption) ?rest20
            case hy20 => (intro w hSw; (try dsimp only at hSw); go_simp; try with_reducible rfl)
            simp only [Act.put, List.setIfInBounds_toArray, List.set_cons_zero, List.set_cons_succ]
            refine held_take (v := ?v21) 20 rfl (by kernel_rfl) (by kernel_rfl) (by kernel_rfl) (fun _ _ _ h => h) (by rfl) ?hy21 (by assumption) ?rest21
            case hy21 => (intro w hSw; (try dsimp only at hSw); go_simp; try with_reducible rfl)
            simp only [Act.put, List.setIfInBounds_toArray, List.set_cons_zero, List.set_cons_succ]
            refine held_take (v := ?v22) 21 rfl (by kernel_rfl) (by kernel_rfl) (by kernel_rfl) (fun _ _ _ h => h) (by rfl) ?hy22 (by assumption) ?rest22
            case hy22 => (intro w hSw; (try dsimp only at hSw); go_simp; try with_reducible rfl)
            simp only [Act.put, List.setIfInBounds_toArray, List.set_cons_zero, List.set_cons_succ]
            refine held_call 22 rfl (by kernel_rfl) (by rfl) (fun K hK => ?_)
            go_simp
            go_at_call 70
            refine (CV.out _ (And.left (by assumption))).mono ?_
            rintro e wf ⟨rfl, hbf⟩
            go_simp
            have hHeld := KS.out _ (below_next (And.left (by assumption)) hbf)
            refine hK _ _ (by assumption) ?_
            clear hK K
            try simp only [Act.put, List.setIfInBounds_toArray, List.set_cons_zero, List.set_cons_succ]
            refine held_take (v := ?v24) 23 rfl (by kernel_rfl) (by kernel_rfl) (by kernel_rfl) (fun _ _ _ h => h) (by rfl) ?hy24 (by assumption) ?rest24
            case hy24 => (intro w hSw; (try dsimp only at hSw); go_simp; try with_reducible rfl)
            simp only [Act.put, List.setIfInBounds_toArray, List.set_cons_zero, List.set_cons_succ]
            refine held_take (v := ?v25) 24 rfl (by kernel_rfl) (by kernel_rfl) (by kernel_rfl) (fun _ _ _ h => h) (by rfl) ?hy25 (by assumption) ?rest25
            case hy25 => (intro w hSw; (try dsimp only at hSw); go_simp; try with_reducible rfl)
            simp only [Act.put, List.setIfInBounds_toArray, List.set_cons_zero, List.set_cons_succ]
            refine wpAnyH_done (by kernel_rfl) ?_ _
            refine NoPanic.normal ?_
            go_wp2_with fail
            go_roundw
            case rel => exact ⟨k + 1, by omega, by go_num, HQ, Lib.hid (below_next hB.out (And.left (by assumption)))⟩
            case measure => simp [intOf]; omega
          · rw [decide_eq_false he] at CV
            have HN := Lib.hid (HNE.out (fun h => he (bd_ext.1 h).2))
            have hnn : (a.name.toList == b.name.toList) = true := by rw [hn]; simp
            clear hn he HST HNE
            go_upto_region 6 with fail
            refine wp_region_noPanic ?_
            refine wp_region_held_drew (S := fun W => Below wr.heap.size wr W ∧ W.cell? ⟨ab, ao + k * 5, none⟩ = some (.string a.name) ∧ W.cell? ⟨ab, ao + k * 5 + 1, none⟩ = some (.int .i64 a.v.kind) ∧ W.cell? ⟨ab, ao + k * 5 + 2, none⟩ = some (.int .i64 a.v.n) ∧ W.cell? ⟨ab, ao + k * 5 + 3, none⟩ = some (.string a.v.s) ∧ W.cell? ⟨ab, ao + k * 5 + 4, none⟩ = some (.slice vA a.v.l.length vc) ∧ W.cell? ⟨bb, bo + k * 5, none⟩ = some (.string b.name) ∧ W.cell? ⟨bb, bo + k * 5 + 1, none⟩ = some (.int .i64 b.v.kind) ∧ W.cell? ⟨bb, bo + k * 5 + 2, none⟩ = some (.int .i64 b.v.n) ∧ W.cell? ⟨bb, bo + k * 5 + 3, none⟩ = some (.string b.v.s) ∧ W.cell? ⟨bb, bo + k * 5 + 4, none⟩ = some (.slice vB b.v.l.length vd)) (by kernel_rfl) (KS.out _ ((Below.refl _ _).drew)) (fun hHeld => ?_)
            refine held_take (v := ?v26) 0 rfl (by kernel_rfl) (by kernel_rfl) (by kernel_rfl) (fun _ _ _ h => h) (by rfl) ?hy26 (by assumption) ?rest26
            case hy26 => (intro w hSw; (try dsimp only at hSw); go_simp; try with_reducible rfl)
            simp only [Act.put, List.setIfInBounds_toArray, List.set_cons_zero, List.set_cons_succ]
            refine held_take (v := ?v27) 1 rfl (by kernel_rfl) (by kernel_rfl) (by kernel_rfl) (fun _ _ _ h => h) (by rfl) ?hy27 (by assumption) ?rest27
            case hy27 => (intro w hSw; (try dsimp only at hSw); go_simp; try with_reducible rfl)
            simp only [Act.put, List.setIfInBounds_toArray, List.set_cons_zero, List.set_cons_succ]
            refine held_take (v := ?v28) 2 rfl (by kernel_rfl) (by kernel_rfl) (by kernel_rfl) (fun _ _ _ h => h) (by rfl) ?hy28 (by assumption) ?rest28
            case hy28 => (intro w hSw; (try dsimp only at hSw); go_simp; try with_reducible rfl)
            simp only [Act.put, List.setIfInBounds_toArray, List.set_cons_zero, List.set_cons_succ]
            refine held_take (v := ?v29) 3 rfl (by kernel_rfl) (by kernel_rfl) (by kernel_rfl) (fun _ _ _ h => h) (by rfl) ?hy29 (by assumption) ?rest29
            case hy29 => (intro w hSw; (try dsimp only at hSw); go_simp; try with_reducible rfl)
            simp only [Act.put, List.setIfInBounds_toArray, List.set_cons_zero, List.set_cons_succ]
            refine held_take (v := ?v30) 4 rfl (by kernel_rfl) (by kernel_rfl) (by kernel_rfl) (fun _ _ _ h => h) (by rfl) ?hy30 (by assumption) ?rest30
            case hy30 => (intro w hSw; (try dsimp only at hSw); go_simp; try with_reducible rfl)
            simp only [Act.put, List.setIfInBounds_toArray, List.set_cons_zero, List.set_cons_succ]
            refine held_take (v := ?v31) 5 rfl (by kernel_rfl) (by kernel_rfl) (by kernel_rfl) (fun _ _ _ h => h) (by rfl) ?hy31 (by assumption) ?rest31
            case hy31 => (intro w hSw; (try dsimp only at hSw); go_simp; try with_reducible rfl)
            simp only [Act.put, List.setIfInBounds_toArray, List.set_cons_zero, List.set_cons_succ]
            refine held_take (v := ?v32) 6 rfl (by kernel_rfl) (by kernel_rfl) (by kernel_rfl) (fun _ _ _ h => h) (by rfl) ?hy32 (by assumption) ?rest32
            case hy32 => (intro w hSw; (try dsimp only at hSw); go_simp; try with_reducible rfl)
            simp only [Act.put, List.setIfInBounds_toArray, List.set_cons_zero, List.set_cons_succ]
            refine held_take (v := ?v33) 7 rfl (by kernel_rfl) (by kernel_rfl) (by kernel_rfl) (fun _ _ _ h => h) (by rfl) ?hy33 (by assumption) ?rest33
            case hy33 => (intro w hSw; (try dsimp only at hSw); go_simp; try with_reducible rfl)
            simp only [Act.put, List.setIfInBounds_toArray, List.set_cons_zero, List.set_cons_succ]
            refine held_take (v := ?v34) 8 rfl (by kernel_rfl) (by kernel_rfl) (by kernel_rfl) (fun _ _ _ h => h) (by rfl) ?hy34 (by assumption) ?rest34
            case hy34 => (intro w hSw; (try dsimp only at hSw); go_simp; try with_reducible rfl)
            simp only [Act.put, List.setIfInBounds_toArray, List.set_cons_zero, List.set_cons_succ]
            refine held_take (v := ?v35) 9 rfl (by kernel_rfl) (by kernel_rfl) (by kernel_rfl) (fun _ _ _ h => h) (by rfl) ?hy35 (by assumption) ?rest35
            case hy35 => (intro w hSw; (try dsimp only at hSw); go_simp; try with_reducible rfl)
            simp only [Act.put, List.setIfInBounds_toArray, List.set_cons_zero, List.set_cons_succ]
            refine held_take (v := ?v36) 10 rfl (by kernel_rfl) (by kernel_rfl) (by kernel_rfl) (fun _ _ _ h => h) (by rfl) ?hy36 (by assumption) ?rest36
            case hy36 => (intro w hSw; (try dsimp only at hSw); go_simp; try with_reducible rfl)
            simp only [Act.put, List.setIfInBounds_toArray, List.set_cons_zero, List.set_cons_succ]
            refine held_take (v := ?v37) 11 rfl (by kernel_rfl) (by kernel_rfl) (by kernel_rfl) (fun _ _ _ h => h) (by rfl) ?hy37 (by assumption) ?rest37
            case hy37 => (intro w hSw; (try dsimp only at hSw); go_simp; try with_reducible rfl)
            simp only [Act.put, List.setIfInBounds_toArray, List.set_cons_zero, List.set_cons_succ]
            refine held_take (v := ?v38) 12 rfl (by kernel_rfl) (by kernel_rfl) (by kernel_rfl) (fun _ _ _ h => h) (by rfl) ?hy38 (by assumption) ?rest38
            case hy38 => (intro w hSw; (try dsimp only at hSw); go_simp; try with_reducible rfl)
            simp only [Act.put, List.setIfInBounds_toArray, List.set_cons_zero, List.set_cons_succ]
            refine held_take (v := ?v39) 13 rfl (by kernel_rfl) (by kernel_rfl) (by kernel_rfl) (fun _ _ _ h => h) (by rfl) ?hy39 (by assumption) ?rest39
            case hy39 => (intro w hSw; (try dsimp only at hSw); go_simp; try with_reducible rfl)
            simp only [Act.put, List.setIfInBounds_toArray, List.set_cons_zero, List.set_cons_succ]
            refine held_take (v := ?v40) 14 rfl (by kernel_rfl) (by kernel_rfl) (by kernel_rfl) (fun _ _ _ h => h) (by rfl) ?hy40 (by assumption) ?rest40
            case hy40 => (intro w hSw; (try dsimp only at hSw); go_simp; try with_reducible rfl)
            simp only [Act.put, List.setIfInBounds_toArray, List.set_cons_zero, List.set_cons_succ]
            refine held_take (v := ?v41) 15 rfl (by kernel_rfl) (by kernel_rfl) (by kernel_rfl) (fun _ _ _ h => h) (by rfl) ?hy41 (by assumption) ?rest41
            case hy41 => (intro w hSw; (try dsimp only at hSw); go_simp; try with_reducible rfl)
            simp only [Act.put, List.setIfInBounds_toArray, List.set_cons_zero, List.set_cons_succ]
            refine held_take (v := ?v42) 16 rfl (by kernel_rfl) (by kernel_rfl) (by kernel_rfl) (fun _ _ _ h => h) (by rfl) ?hy42 (by assumption) ?rest42
            case hy42 => (intro w hSw; (try dsimp only at hSw); go_simp; try with_reducible rfl)
            simp only [Act.put, List.setIfInBounds_toArray, List.set_cons_zero, List.set_cons_succ]
            refine held_take (v := ?v43) 17 rfl (by kernel_rfl) (by kernel_rfl) (by kernel_rfl) (fun _ _ _ h => h) (by rfl) ?hy43 (by assumption) ?rest43
            case hy43 => (intro w hSw; (try dsimp only at hSw); go_simp; try with_reducible rfl)
            simp only [Act.put, List.setIfInBounds_toArray, List.set_cons_zero, List.set_cons_succ]
            refine held_take (v := ?v44) 18 rfl (by kernel_rfl) (by kernel_rfl) (by kernel_rfl) (fun _ _ _ h => h) (by rfl) ?hy44 (by assumption) ?rest44
            case hy44 => (intro w hSw; (try dsimp only at hSw); go_simp; try with_reducible rfl)
            simp only [Act.put, List.setIfInBounds_toArray, List.set_cons_zero, List.set_cons_succ]
            refine held_take (v := ?v45) 19 rfl (by kernel_rfl) (by kernel_rfl) (by kernel_rfl) (fun _ _ _ h => h) (by rfl) ?hy45 (by assumption) ?rest45
            case hy45 => (intro w hSw; (try dsimp only at hSw); go_simp; try with_reducible rfl)
            simp only [Act.put, List.setIfInBounds_toArray, List.set_cons_zero, List.set_cons_succ]
            refine held_take (v := ?v46) 20 rfl (by kernel_rfl) (by kernel_rfl) (by kernel_rfl) (fun _ _ _ h => h) (by rfl) ?hy46 (by assumption) ?rest46
            case hy46 => (intro w hSw; (try dsimp only at hSw); go_simp; try with_reducible rfl)
            simp only [Act.put, List.setIfInBounds_toArray, List.set_cons_zero, List.set_cons_succ]
            refine held_take (v := ?v47) 21 rfl (by kernel_rfl) (by kernel_rfl) (by kernel_rfl) (fun _ _ _ h => h) (by rfl) ?hy47 (by assumption) ?rest47
            case hy47 => (intro w hSw; (try dsimp only at hSw); go_simp; try with_reducible rfl)
            simp only [Act.put, List.setIfInBounds_toArray, List.set_cons_zero, List.set_cons_succ]
            refine held_call 22 rfl (by kernel_rfl) (by rfl) (fun K hK => ?_)
            go_simp
            go_at_call 70
            refine (CV.out _ (And.left (by assumption))).mono ?_
            rintro e wf ⟨rfl, hbf⟩
            go_simp
            have hHeld := KS.out _ (below_next (And.left (by assumption)) hbf)
            refine hK _ _ (by assumption) ?_
            clear hK K
            try simp only [Act.put, List.setIfInBounds_toArray, List.set_cons_zero, List.set_cons_succ]
            refine held_take (v := ?v49) 23 rfl (by kernel_rfl) (by kernel_rfl) (by kernel_rfl) (fun _ _ _ h => h) (by rfl) ?hy49 (by assumption) ?rest49
            case hy49 => (intro w hSw; (try dsimp only at hSw); go_simp; try with_reducible rfl)
            simp only [Act.put, List.setIfInBounds_toArray, List.set_cons_zero, List.set_cons_succ]
            refine held_take (v := ?v50) 24 rfl (by kernel_rfl) (by kernel_rfl) (by kernel_rfl) (fun _ _ _ h => h) (by rfl) ?hy50 (by assumption) ?rest50
            case hy50 => (intro w hSw; (try dsimp only at hSw); go_simp; try with_reducible rfl)
            simp only [Act.put, List.setIfInBounds_toArray, List.set_cons_zero, List.set_cons_succ]
            refine wpAnyH_done (by kernel_rfl) ?_ _
            refine NoPanic.normal ?_
            go_wp2_with fail
            go_ret
            exact ⟨ret_bool (by simp [HN.out]), below_next hB.out (And.left (by assumption))⟩
        · have hnn := str_ne hn
          have HN := Lib.hid (HNE.out (fun h => hn (bd_ext.1 h).1))
          clear hn HST HNE CV
          go_upto_region 6 with fail
          refine wp_region_noPanic ?_
          refine wp_region_held_drew (S := fun W => Below wr.heap.size wr W ∧ W.cell? ⟨ab, ao + k * 5, none⟩ = some (.string a.name) ∧ W.cell? ⟨ab, ao + k * 5 + 1, none⟩ = some (.int .i64 a.v.kind) ∧ W.cell? ⟨ab, ao + k * 5 + 2, none⟩ = some (.int .i64 a.v.n) ∧ W.cell? ⟨ab, ao + k * 5 + 3, none⟩ = some (.string a.v.s) ∧ W.cell? ⟨ab, ao + k * 5 + 4, none⟩ = some (.slice vA a.v.l.length vc) ∧ W.cell? ⟨bb, bo + k * 5, none⟩ = some (.string b.name) ∧ W.cell? ⟨bb, bo + k * 5 + 1, none⟩ = some (.int .i64 b.v.kind) ∧ W.cell? ⟨bb, bo + k * 5 + 2, none⟩ = some (.int .i64 b.v.n) ∧ W.cell? ⟨bb, bo + k * 5 + 3, none⟩ = some (.string b.v.s) ∧ W.cell? ⟨bb, bo + k * 5 + 4, none⟩ = some (.slice vB b.v.l.length vd)) (by kernel_rfl) (KS.out _ ((Below.refl _ _).drew)) (fun hHeld => ?_)
          refine held_take (v := ?v51) 0 rfl (by kernel_rfl) (by kernel_rfl) (by kernel_rfl) (fun _ _ _ h => h) (by rfl) ?hy51 (by assumption) ?rest51
          case hy51 => (intro w hSw; (try dsimp only at hSw); go_simp; try with_reducible rfl)
          simp only [Act.put, List.setIfInBounds_toArray, List.set_cons_zero, List.set_cons_succ]
          refine held_take (v := ?v52) 1 rfl (by kernel_rfl) (by kernel_rfl) (by kernel_rfl) (fun _ _ _ h => h) (by rfl) ?hy52 (by assumption) ?rest52
          case hy52 => (intro w hSw; (try dsimp only at hSw); go_simp; try with_reducible rfl)
          simp only [Act.put, List.setIfInBounds_toArray, List.set_cons_zero, List.set_cons_succ]
          refine held_take (v := ?v53) 2 rfl (by kernel_rfl) (by kernel_rfl) (by kernel_rfl) (fun _ _ _ h => h) (by rfl) ?hy53 (by assumption) ?rest53
          case hy53 => (intro w hSw; (try dsimp only at hSw); go_simp; try with_reducible rfl)
          simp only [Act.put, List.setIfInBounds_toArray, List.set_cons_zero, List.set_cons_succ]
          refine held_take (v := ?v54) 3 rfl (by kernel_rfl) (by kernel_rfl) (by kernel_rfl) (fun _ _ _ h => h) (by rfl) ?hy54 (by assumption) ?rest54
          case hy54 => (intro w hSw; (try dsimp only at hSw); go_simp; try with_reducible rfl)
          simp only [Act.put, List.setIfInBounds_toArray, List.set_cons_zero, List.set_cons_succ]
          refine held_take (v := ?v55) 4 rfl (by kernel_rfl) (by kernel_rfl) (by kernel_rfl) (fun _ _ _ h => h) (by rfl) ?hy55 (by assumption) ?rest55
          case hy55 => (intro w hSw; (try dsimp only at hSw); go_simp; try with_reducible rfl)
          simp only [Act.put, List.setIfInBounds_toArray, List.set_cons_zero, List.set_cons_succ]
          refine held_take (v := ?v56) 5 rfl (by kernel_rfl) (by kernel_rfl) (by kernel_rfl) (fun _ _ _ h => h) (by rfl) ?hy56 (by assumption) ?rest56
          case hy56 => (intro w hSw; (try dsimp only at hSw); go_simp; try with_reducible rfl)
          simp only [Act.put, List.setIfInBounds_toArray, List.set_cons_zero, List.set_cons_succ]
          refine held_take (v := ?v57) 6 rfl (by kernel_rfl) (by kernel_rfl) (by kernel_rfl) (fun _ _ _ h => h) (by rfl) ?hy57 (by assumption) ?rest57
          case hy57 => (intro w hSw; (try dsimp only at hSw); go_simp; try with_reducible rfl)
          simp only [Act.put, List.setIfInBounds_toArray, List.set_cons_zero, List.set_cons_succ]
          refine held_take (v := ?v58) 7 rfl (by kernel_rfl) (by kernel_rfl) (by kernel_rfl) (fun _ _ _ h => h) (by rfl) ?hy58 (by assumption) ?rest58
          case hy58 => (intro w hSw; (try dsimp only at hSw); go_simp; try with_reducible rfl)
          simp only [Act.put, List.setIfInBounds_toArray, List.set_cons_zero, List.set_cons_succ]
          refine held_take (v := ?v59) 8 rfl (by kernel_rfl) (by kernel_rfl) (by kernel_rfl) (fun _ _ _ h => h) (by rfl) ?hy59 (by assumption) ?rest59
          case hy59 => (intro w hSw; (try dsimp only at hSw); go_simp; try with_reducible rfl)
          simp only [Act.put, List.setIfInBounds_toArray, List.set_cons_zero, List.set_cons_succ]
          refine held_take (v := ?v60) 9 rfl (by kernel_rfl) (by kernel_rfl) (by kernel_rfl) (fun _ _ _ h => h) (by rfl) ?hy60 (by assumption) ?rest60
          case hy60 => (intro w hSw; (try dsimp only at hSw); go_simp; try with_reducible rfl)
          simp only [Act.put, List.setIfInBounds_toArray, List.set_cons_zero, List.set_cons_succ]
          refine held_take (v := ?v61) 10 rfl (by kernel_rfl) (by kernel_rfl) (by kernel_rfl) (fun _ _ _ h => h) (by rfl) ?hy61 (by assumption) ?rest61
          case hy61 => (intro w hSw; (try dsimp only at hSw); go_simp; try with_reducible rfl)
          simp only [Act.put, List.setIfInBounds_toArray, List.set_cons_zero, List.set_cons_succ]
          refine held_take (v := ?v62) 11 rfl (by kernel_rfl) (by kernel_rfl) (by kernel_rfl) (fun _ _ _ h => h) (by rfl) ?hy62 (by assumption) ?rest62
          case hy62 => (intro w hSw; (try dsimp only at hSw); go_simp; try with_reducible rfl)
          simp only [Act.put, List.setIfInBounds_toArray, List.set_cons_zero, List.set_cons_succ]
          refine held_skip 12 rfl (by kernel_rfl) (by kernel_rfl) (by kernel_rfl) (fun _ _ _ h => h) (by rfl) (by assumption) ?_
          simp only [Act.put, List.setIfInBounds_toArray, List.set_cons_zero, List.set_cons_succ]
          refine held_skip 13 rfl (by kernel_rfl) (by kernel_rfl) (by kernel_rfl) (fun _ _ _ h => h) (by rfl) (by assumption) ?_
          simp only [Act.put, List.setIfInBounds_toArray, List.set_cons_zero, List.set_cons_succ]
          refine held_skip 14 rfl (by kernel_rfl) (by kernel_rfl) (by kernel_rfl) (fun _ _ _ h => h) (by rfl) (by assumption) ?_
          simp only [Act.put, List.setIfInBounds_toArray, List.set_cons_zero, List.set_cons_succ]
          refine held_skip 15 rfl (by kernel_rfl) (by kernel_rfl) (by kernel_rfl) (fun _ _ _ h => h) (by rfl) (by assumption) ?_
          simp only [Act.put, List.setIfInBounds_toArray, List.set_cons_zero, List.set_cons_succ]
          refine held_skip 16 rfl (by kernel_rfl) (by kernel_rfl) (by kernel_rfl) (fun _ _ _ h => h) (by rfl) (by assumption) ?_
          simp only [Act.put, List.setIfInBounds_toArray, List.set_cons_zero, List.set_cons_succ]
          refine held_skip 17 rfl (by kernel_rfl) (by kernel_rfl) (by kernel_rfl) (fun _ _ _ h => h) (by rfl) (by assumption) ?_
          simp only [Act.put, List.setIfInBounds_toArray, List.set_cons_zero, List.set_cons_succ]
          refine held_skip 18 rfl (by kernel_rfl) (by kernel_rfl) (by kernel_rfl) (fun _ _ _ h => h) (by rfl) (by assumption) ?_
          simp only [Act.put, List.setIfInBounds_toArray, List.set_cons_zero, List.set_cons_succ]
          refine held_skip 19 rfl (by kernel_rfl) (by kernel_rfl) (by kernel_rfl) (fun _ _ _ h => h) (by rfl) (by assumption) ?_
          simp only [Act.put, List.setIfInBounds_toArray, List.set_cons_zero, List.set_cons_succ]
          refine held_skip 20 rfl (by kernel_rfl) (by kernel_rfl) (by kernel_rfl) (fun _ _ _ h => h) (by rfl) (by assumption) ?_
          simp only [Act.put, List.setIfInBounds_toArray, List.set_cons_zero, List.set_cons_succ]
          refine held_skip 21 rfl (by kernel_rfl) (by kernel_rfl) (by kernel_rfl) (fun _ _ _ h => h) (by rfl) (by assumption) ?_
          simp only [Act.put, List.setIfInBounds_toArray, List.set_cons_zero, List.set_cons_succ]
          refine held_skip 22 rfl (by kernel_rfl) (by kernel_rfl) (by kernel_rfl) (fun _ _ _ h => h) (by rfl) (by assumption) ?_
          simp only [Act.put, List.setIfInBounds_toArray, List.set_cons_zero, List.set_cons_succ]
          refine held_skip 23 rfl (by kernel_rfl) (by kernel_rfl) (by kernel_rfl) (fun _ _ _ h => h) (by rfl) (by assumption) ?_
          simp only [Act.put, List.setIfInBounds_toArray, List.set_cons_zero, List.set_cons_succ]
          refine held_take (v := ?v75) 24 rfl (by kernel_rfl) (by kernel_rfl) (by kernel_rfl) (fun _ _ _ h => h) (by rfl) ?hy75 (by assumption) ?rest75
          case hy75 => (intro w hSw; (try dsimp only at hSw); go_simp; try with_reducible rfl)
          simp only [Act.put, List.setIfInBounds_toArray, List.set_cons_zero, List.set_cons_succ]
          refine wpAnyH_done (by kernel_rfl) ?_ _
          refine NoPanic.normal ?_
          go_wp2_with fail
          go_ret
          exact ⟨ret_bool (by simp [HN.out]), below_next hB.out (And.left (by assumption))⟩
      · have hr : l = m := by have h := hq.out; rw [List.take_of_length_le (by omega), List.take_of_length_le (by have := HL.out; omega)] at h; exact h
        have HR := Lib.hid hr
        clear hq hr
        go_wp2_with fail
        go_ret
        exact ⟨ret_bool (by simp [HR.out]), hB.out⟩
  · have hzz : ((l.length : Int) == (m.length : Int)) = false := by simp; omega
    have hzn : (l.length == m.length) = false := by simp; exact hlm
    go_enter Try.func45, Try.ntmps45
    go_wp2_with fail
    go_ret
    exact ⟨ret_bool (by simp; intro h; exact hlm (by rw [h])), Below.refl _ _⟩
set_option maxRecDepth 100000 in
set_option maxHeartbeats 8000000 in
theorem psame_any (x y : Nt) (A E B G : Option Addr) (c d m n : Nat) (w : World) (hx : NtAt w x A E) (hy : NtAt w y B G) :
    Calls Try.prog 38 #[.agg (x.cells A c E d), .agg (y.cells B m G n)] w fun e w' => e = .returned (.bool (decide (x = y))) ∧ Below w.heap.size w w' := by
  have HX := Lib.hid hx
  have HY := Lib.hid hy
  have BF := Lib.hid (below_allocS (below_allocS (Below.refl _ _) (.cells (x.cells A c E d) 41)) (.cells (y.cells B m G n) 41) : Below w.heap.size w _)
  have HA := Lib.hid ((Blk.new w (x.cells A c E d) 41).alloc (.cells (y.cells B m G n) 41))
  have HB := Lib.hid (show Blk ((w.alloc (.cells (x.cells A c E d) 41)).alloc (.cells (y.cells B m G n) 41)) (w.heap.size + 1) (y.cells B m G n) 41 by
    have h := Blk.new (w.alloc (.cells (x.cells A c E d) 41)) (y.cells B m G n) 41
    rwa [World.size_alloc] at h)
  clear hx hy
  obtain ⟨kind1, agent1, session1, seat1, peer1, label1, v1, proc1, env1⟩ := x
  obtain ⟨kind2, agent2, session2, seat2, peer2, label2, v2, proc2, env2⟩ := y
  simp only [Nt.cells] at *
  by_cases h_kind : kind1 = kind2
  rotate_left
  · have q_kind : (kind1 == kind2) = false := by simp; exact h_kind
    go_enter Try.func38, Try.ntmps38
    go_wp2_with fail
    go_ret
    exact ⟨ret_bool ((decide_eq_false (fun h => h_kind (congrArg Nt.kind h))).symm), BF.out⟩
  subst h_kind
  by_cases h_agent : agent1 = agent2
  rotate_left
  · have q_agent : (agent1.toList == agent2.toList) = false := str_ne h_agent
    go_enter Try.func38, Try.ntmps38
    go_wp2_with fail
    go_ret
    exact ⟨ret_bool ((decide_eq_false (fun h => h_agent (congrArg Nt.agent h))).symm), BF.out⟩
  subst h_agent
  by_cases h_session : session1 = session2
  rotate_left
  · have q_session : (session1.toList == session2.toList) = false := str_ne h_session
    go_enter Try.func38, Try.ntmps38
    go_wp2_with fail
    go_ret
    exact ⟨ret_bool ((decide_eq_false (fun h => h_session (congrArg Nt.session h))).symm), BF.out⟩
  subst h_session
  by_cases h_seat : seat1 = seat2
  rotate_left
  · have q_seat : (seat1 == seat2) = false := by simp; exact h_seat
    go_enter Try.func38, Try.ntmps38
    go_wp2_with fail
    go_ret
    exact ⟨ret_bool ((decide_eq_false (fun h => h_seat (congrArg Nt.seat h))).symm), BF.out⟩
  subst h_seat
  by_cases h_peer : peer1 = peer2
  rotate_left
  · have q_peer : (peer1.toList == peer2.toList) = false := str_ne h_peer
    go_enter Try.func38, Try.ntmps38
    go_wp2_with fail
    go_ret
    exact ⟨ret_bool ((decide_eq_false (fun h => h_peer (congrArg Nt.peer h))).symm), BF.out⟩
  subst h_peer
  by_cases h_label : label1 = label2
  rotate_left
  · have q_label : (label1.toList == label2.toList) = false := str_ne h_label
    go_enter Try.func38, Try.ntmps38
    go_wp2_with fail
    go_ret
    exact ⟨ret_bool ((decide_eq_false (fun h => h_label (congrArg Nt.label h))).symm), BF.out⟩
  subst h_label
  have CS := Lib.hid (dsame_any v1 v2 A B c m _ (Rd.below HX.out.a BF.out) (Rd.below HY.out.a BF.out) HX.out.la)
  have CE := Lib.hid (fun W (hb : Below w.heap.size w W) => equalB_any E G env1 env2 d n W (HX.out.e.below hb) (HY.out.e.below hb) HX.out.le HX.out.lb)
  go_enter Try.func38, Try.ntmps38
  go_wp2_with fail
  refine CS.out.mono ?_
  rintro e w1 ⟨rfl, hb1⟩
  have B1 := Lib.hid (below_next BF.out hb1)
  have x10 : w1.cell? ⟨w.heap.size, 10, none⟩ = some (.int .i64 proc1) := (HA.out.belowS hb1).cell 10
  have x11 : w1.cell? ⟨w.heap.size, 11, none⟩ = some (.slice E env1.length d) := (HA.out.belowS hb1).cell 11
  have y10 : w1.cell? ⟨w.heap.size + 1, 10, none⟩ = some (.int .i64 proc2) := (HB.out.belowS hb1).cell 10
  have y11 : w1.cell? ⟨w.heap.size + 1, 11, none⟩ = some (.slice G env2.length n) := (HB.out.belowS hb1).cell 11
  clear hb1 CS
  by_cases h_v : v1 = v2
  rotate_left
  · rw [decide_eq_false h_v]
    go_wp2_with fail
    go_ret
    exact ⟨ret_bool ((decide_eq_false (fun h => h_v (congrArg Nt.v h))).symm), B1.out⟩
  rw [decide_eq_true h_v]
  by_cases h_proc : proc1 = proc2
  rotate_left
  · have q_proc : (proc1 == proc2) = false := by simp; exact h_proc
    go_wp2_with fail
    go_ret
    exact ⟨ret_bool ((decide_eq_false (fun h => h_proc (congrArg Nt.proc h))).symm), B1.out⟩
  subst h_proc
  have HV := Lib.hid h_v
  clear h_v
  go_wp2_with fail
  refine (CE.out _ B1.out).mono ?_
  rintro e w2 ⟨rfl, hb2⟩
  have B2 := Lib.hid (below_next B1.out hb2)
  clear hb2 x10 x11 y10 y11 CE
  go_wp2_with fail
  go_ret
  exact ⟨ret_bool (by have := HV.out; simp [this]), B2.out⟩
end Go.Proofs.Ytfaophiaiflecaa
