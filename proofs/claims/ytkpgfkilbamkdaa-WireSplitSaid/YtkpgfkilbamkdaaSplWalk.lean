/- Contract: reparteelaw39.WireSplit returns true. -/
import Derived.Test.YtkpgfkilbamkdaaSplNil
import Derived.Test.YtkpgfkilbamkdaaFirst
import Derived.Deep.DeepCutAuto
import Derived.BigQuiet
import Derived.Test.YtkpgfkilbamkdaaBlk
namespace Go.Proofs.Ytkpgfkilbamkdaa
open Go.RowKit

theorem boxed_below {w w' : World} {q : Nat} {t : TypeId} {u : Value} (h : Boxed w q t u) (hb : Below w.heap.size w w') : Boxed w' q t u := (hb.block q h.lt).trans h
theorem same_true (A B : Option Addr) (l : List ByteArray) (c d : Nat) (w : World) (ha : Strs w A l) (hb : Strs w B l) (hl : l.length ≤ 9223372036854775807) :
    Calls Try.prog 18 #[.slice A l.length c, .slice B l.length d] w fun e w' => e = .returned (.bool true) ∧ ∃ k, w' = w.drewN k :=
  (same_any A B l l c d w ha hb hl).mono fun e w' h => ⟨by rw [h.1]; simp, h.2⟩
theorem filter_at (p : ByteArray → Bool) (l : List ByteArray) (j : Nat) (h : j < l.length) (hp : p l[j] = true) :
    (l.take (j + 1)).filter p = (l.take j).filter p ++ [l[j]] ∧ (l.filter p)[((l.take j).filter p).length]? = some l[j] ∧ ((l.take j).filter p).length < (l.filter p).length := by
  have e1 : (l.take (j + 1)).filter p = (l.take j).filter p ++ [l[j]] := by rw [List.take_succ_eq_append_getElem h, List.filter_append]; simp [hp]
  have e2 : l.filter p = (l.take j).filter p ++ (l[j] :: (l.drop (j + 1)).filter p) := by
    conv => lhs; rw [← List.take_append_drop j l]
    rw [List.filter_append, List.drop_eq_getElem_cons h, List.filter_cons, if_pos hp]
  refine ⟨e1, ?_, ?_⟩
  · rw [e2, List.getElem?_append_right (Nat.le_refl _), Nat.sub_self]; rfl
  · rw [e2, List.length_append, List.length_cons]; omega
theorem filter_not (p : ByteArray → Bool) (l : List ByteArray) (j : Nat) (h : j < l.length) (hp : p l[j] = false) : (l.take (j + 1)).filter p = (l.take j).filter p := by
  rw [List.take_succ_eq_append_getElem h, List.filter_append]; simp [hp]
set_option maxRecDepth 100000 in
set_option maxHeartbeats 8000000 in
theorem split_walk (A : Option Addr) (l : List ByteArray) (c : Nat) (x : Int) (w : World) (h : Strs w A l) (hn : l.length ≤ 9223372036854775807) :
    Calls Try.prog 6 #[.slice A l.length c, .int .u8 x] w fun e w' => e = .returned (.bool true) ∧ Below w.heap.size w w' := by
  have HA := Lib.hid (fun W (hb : Below w.heap.size w W) => h.below hb)
  have HB0 := Lib.hid (Boxed.new w 5 (.int .u8 x))
  have BF := Lib.hid ((Below.refl _ w).alloc (Nat.le_refl _) (.cells #[.int .u8 x] 5))
  clear h
  go_enter Try.func6, Try.ntmps6
  go_wp2_with fail
  refine (first_any _).mono ?_
  rintro e w1 ⟨rfl, hb1⟩
  have B1 := Lib.hid (below_next BF.out hb1)
  have G1 := Lib.hid (show Boxed w1 w.heap.size 5 (.int .u8 x) from (hb1.block w.heap.size (by simp)).trans HB0.out)
  clear hb1
  go_wp2_with fail
  refine (few_any _ _ _ _ (HA.out _ B1.out) hn).mono ?_
  rintro e w' ⟨rfl, rfl⟩
  rcases hf : fewF l with _ | _
  · go_wp2_with fail
    go_ret
    exact ⟨rfl, B1.out⟩
  · obtain ⟨hl80, _⟩ := fewF_true hf
    have hgl := G1.out.lt
    clear hf
    have CS := Lib.hid (split_any x A l c (w1.alloc (.cells #[.slice none 0 0] 22)) w1.heap.size w1.heap.size w.heap.size ((StrsBelow.of (HA.out _ B1.out)).below ((Below.refl _ _).alloc (Nat.le_refl _) _)) (by omega) (Boxed.new _ _ _) (Nat.le_refl _) (by simp) hgl (G1.out.alloc _).cell)
    go_wp2_with fail
    refine CS.out.mono ?_
    rintro e w3 ⟨vy, vn, va, rfl, hR, hb3⟩
    obtain ⟨Ay, cy, rfl, _⟩ := own_shape (hR.row 0 _ _ _ rfl rfl rfl).2
    obtain ⟨An, cn, rfl, _⟩ := own_shape (hR.row 1 _ _ _ rfl rfl rfl).2
    obtain ⟨Aa, ca, rfl, _⟩ := own_shape (hR.row 2 _ _ _ rfl rfl rfl).2
    have HBa := Lib.hid (hR.row 2 _ _ _ rfl rfl rfl).1
    have RY := Lib.hid (own_rd (hR.row 0 _ _ _ rfl rfl rfl).2)
    have RN := Lib.hid (own_rd (hR.row 1 _ _ _ rfl rfl rfl).2)
    have RA := Lib.hid (own_rd (hR.row 2 _ _ _ rfl rfl rfl).2)
    have B2 := Lib.hid (B1.out.trans ((((Below.refl w1.heap.size w1).alloc (Nat.le_refl _) (.cells #[.slice none 0 0] 22)).trans hb3).mono B1.out.size))
    have G3 := Lib.hid (show Boxed w3 w.heap.size 5 (.int .u8 x) from (hb3.block _ hgl).trans (G1.out.alloc _))
    clear hR hb3 CS
    have CN := Lib.hid (split_nil A l c w3 w3.heap.size (StrsBelow.of (HA.out _ B2.out)) (by omega) (Nat.le_refl _))
    go_wp2_with fail
    refine CN.out.mono ?_
    rintro e w4 ⟨vy', vn', rfl, hR, hb4⟩
    obtain ⟨Ay', cy', rfl, _⟩ := own_shape (hR.row 0 _ _ _ rfl rfl rfl).2
    obtain ⟨An', cn', rfl, _⟩ := own_shape (hR.row 1 _ _ _ rfl rfl rfl).2
    have RL := Lib.hid (own_rd (hR.row 1 _ _ _ rfl rfl rfl).2)
    have B4 := Lib.hid (below_next B2.out hb4)
    have cg := (boxed_below G3.out hb4).cell
    have cBa := (boxed_below HBa.out hb4).cell
    have RY4 := Lib.hid (show Strs w4 Ay (l.filter (pickF x)) from RY.out.below hb4)
    have RN4 := Lib.hid (show Strs w4 An (l.filter (fun s => !pickF x s)) from RN.out.below hb4)
    have RA4 := Lib.hid (show Strs w4 Aa l from RA.out.below hb4)
    have RL4 := Lib.hid (show Strs w4 An' l from RL.out)
    have HBG := Lib.hid (show w.heap.size < w4.heap.size ∧ w1.heap.size < w4.heap.size from ⟨(boxed_below G3.out hb4).lt, (boxed_below HBa.out hb4).lt⟩)
    clear hR hb4 CN RY RN RA RL HBa G3 B2 B1 G1 HB0 BF hgl
    obtain ⟨ly, hly⟩ : ∃ q, q = l.filter (pickF x) := ⟨_, rfl⟩
    obtain ⟨ln, hln⟩ : ∃ q, q = l.filter (fun s => !pickF x s) := ⟨_, rfl⟩
    have hlyl : ly.length ≤ 80 := by rw [hly]; exact Nat.le_trans (List.length_filter_le _ _) hl80
    have hlnl : ln.length ≤ 80 := by rw [hln]; exact Nat.le_trans (List.length_filter_le _ _) hl80
    rw [← hly] at RY4 ⊢
    rw [← hln] at RN4 ⊢
    have HLY := Lib.hid hly
    have HLN := Lib.hid hln
    clear hly hln
    generalize hba : w1.heap.size = ba at *
    clear hba
    go_wp2_with fail
    go_loopw [10, 11, 12] (fun s10 s11 s12 wr => ∃ (j i k : Nat), j ≤ l.length ∧ s12 = .int .i64 j ∧ s10 = .int .i64 i ∧ s11 = .int .i64 k ∧ i ≤ 80 ∧ k ≤ 80 ∧ Hid (i = ((l.take j).filter (pickF x)).length) ∧ Hid (k = ((l.take j).filter (fun s => !pickF x s)).length) ∧ Hid (Below w4.heap.size w4 wr)) (fun _ _ s12 _ => l.length - (intOf s12).toNat)
    case atStart => exact ⟨0, 0, 0, by omega, rfl, rfl, rfl, by omega, by omega, Lib.hid rfl, Lib.hid rfl, Lib.hid (Below.refl _ _)⟩
    case round =>
      obtain ⟨j, i, k, hj, rfl, rfl, rfl, hi80, hk80, hi, hk, hB⟩ := hrel
      have cg' := (hB.out.cell (p := ⟨w.heap.size, 0, none⟩) HBG.out.1).trans cg
      by_cases hlt : j < l.length
      · obtain ⟨b, off, rfl, hb, hcs⟩ := (show Strs wr A l from HA.out wr (below_next B4.out hB.out)).at_ hlt
        have c0 := hcs j hlt
        have hlen := hlt
        rcases hp : pickF x l[j] with _ | _
        · obtain ⟨e1, e2, e3⟩ := filter_at (fun s => !pickF x s) l j hlt (by simp [hp])
          have e4 := filter_not (pickF x) l j hlt hp
          rw [← HLN.out, ← hk.out] at e2 e3
          obtain ⟨bn, on, rfl, hbn, hcn⟩ := RN4.out.at_ e3
          have cn0 := (hB.out.cell (p := ⟨bn, on + k, none⟩) hbn).trans (hcn k e3)
          have e5 : ln[k] = l[j] := by
            rw [List.getElem?_eq_getElem e3] at e2
            injection e2
          rw [e5] at cn0
          have HI := Lib.hid (show i = ((l.take (j + 1)).filter (pickF x)).length by rw [e4]; exact hi.out)
          have HK := Lib.hid (show k + 1 = ((l.take (j + 1)).filter (fun s => !pickF x s)).length by rw [e1, List.length_append, ← hk.out]; rfl)
          have hps := hp
          have HPN := Lib.hid (pick_nil x l[j])
          clear e1 e2 e4 e5 hcs hcn hi hk
          have hkk : k + 1 ≤ 80 := by omega
          generalize l[j] = s at *
          have hd1 : decide ((ln.length : Int) ≤ (k : Int)) = false := decide_eq_false (by omega)
          have hd2 : decide (ln.length ≤ k) = false := decide_eq_false (by omega)
          by_cases hs : 0 < s.size
          · have hpa := pick_at x s hs
            rw [hps] at hpa
            have hpd : decide ((s[0].toNat : Int) < x) = false := hpa.symm
            have d1 : decide ((0 : Int) < (s.size : Int)) = true := decide_eq_true (by omega)
            have d2 : decide (0 < s.size) = true := decide_eq_true hs
            clear hpa hps hp
            go_wp2_with fail
            go_quiet (fail)
            go_wp2_with fail
            go_quiet (fail)
            go_wp2_with fail
            exact ⟨⟨j + 1, i, k + 1, by omega, by go_num, rfl, by go_num, hi80, hkk, HI, HK, Lib.hid (below_drewN hB.out _)⟩, by simp [intOf]; omega⟩
          · have d1 : decide ((0 : Int) < (s.size : Int)) = false := decide_eq_false (by omega)
            have d2 : decide (0 < s.size) = false := decide_eq_false hs
            clear hps hp
            go_wp2_with fail
            go_quiet (fail)
            go_wp2_with fail
            go_quiet (fail)
            go_wp2_with fail
            exact ⟨⟨j + 1, i, k + 1, by omega, by go_num, rfl, by go_num, hi80, hkk, HI, HK, Lib.hid (below_drewN hB.out _)⟩, by simp [intOf]; omega⟩
        · obtain ⟨e1, e2, e3⟩ := filter_at (pickF x) l j hlt hp
          have e4 := filter_not (fun s => !pickF x s) l j hlt (by simp [hp])
          rw [← HLY.out, ← hi.out] at e2 e3
          obtain ⟨bn, on, rfl, hbn, hcn⟩ := RY4.out.at_ e3
          have cn0 := (hB.out.cell (p := ⟨bn, on + i, none⟩) hbn).trans (hcn i e3)
          have e5 : ly[i] = l[j] := by
            rw [List.getElem?_eq_getElem e3] at e2
            injection e2
          rw [e5] at cn0
          have HI := Lib.hid (show i + 1 = ((l.take (j + 1)).filter (pickF x)).length by rw [e1, List.length_append, ← hi.out]; rfl)
          have HK := Lib.hid (show k = ((l.take (j + 1)).filter (fun s => !pickF x s)).length by rw [e4]; exact hk.out)
          have hps := hp
          have hkk : i + 1 ≤ 80 := by omega
          have HPN := Lib.hid (pick_nil x l[j])
          clear e1 e2 e4 e5 hcs hcn hi hk
          generalize l[j] = s at *
          have hd1 : decide ((ly.length : Int) ≤ (i : Int)) = false := decide_eq_false (by omega)
          have hd2 : decide (ly.length ≤ i) = false := decide_eq_false (by omega)
          have hs : 0 < s.size := by
            rcases Nat.eq_zero_or_pos s.size with h0 | h0
            · rw [HPN.out h0] at hps; cases hps
            · exact h0
          have hpa := pick_at x s hs
          rw [hps] at hpa
          have hpd : decide ((s[0].toNat : Int) < x) = true := hpa.symm
          have d1 : decide ((0 : Int) < (s.size : Int)) = true := decide_eq_true (by omega)
          have d2 : decide (0 < s.size) = true := decide_eq_true hs
          clear hpa hps hp
          go_wp2_with fail
          go_quiet (fail)
          go_wp2_with fail
          go_quiet (fail)
          go_wp2_with fail
          exact ⟨⟨j + 1, i + 1, k, by omega, by go_num, by go_num, rfl, hkk, hk80, HI, HK, Lib.hid (below_drewN hB.out _)⟩, by simp [intOf]; omega⟩
      · have hje : j = l.length := by omega
        subst hje
        have hi2 : i = ly.length := by rw [hi.out, List.take_length, HLY.out]
        have hk2 : k = ln.length := by rw [hk.out, List.take_length, HLN.out]
        subst hi2; subst hk2
        have cb' := (hB.out.cell (p := ⟨ba, 0, none⟩) HBG.out.2).trans cBa
        have CA := Lib.hid (fun W (hb : Below wr.heap.size wr W) => same_true Aa A l ca c W (RA4.out.below (below_next hB.out hb)) (HA.out W (below_next (below_next B4.out hB.out) hb)) hn)
        have CL := Lib.hid (fun W (hb : Below wr.heap.size wr W) => same_true An' A l cn' c W (RL4.out.below (below_next hB.out hb)) (HA.out W (below_next (below_next B4.out hB.out) hb)) hn)
        clear hi hk
        go_wp2_with fail
        refine (CA.out _ (Below.refl _ _)).mono ?_
        rintro e w5 ⟨rfl, q, rfl⟩
        go_wp2_with fail
        refine (CL.out _ (below_drewN (Below.refl _ _) _)).mono ?_
        rintro e w6 ⟨rfl, q2, rfl⟩
        go_wp2_with fail
        go_ret
        exact ⟨rfl, below_drewN (below_next B4.out hB.out) _⟩
end Go.Proofs.Ytkpgfkilbamkdaa
