/- Contracts: the four function values of packet.NoteMay. -/
import Derived.Test.YtfaophiaiflecaaNtSame3
import Derived.BigQuiet
import Derived.Deep.DeepCutAuto
namespace Go.Proofs.Ytfaophiaiflecaa
open Go.RowKit

set_option maxRecDepth 100000 in
set_option maxHeartbeats 3200000 in
theorem may1c_any (ag : ByteArray) (ok : Bool) (n b1 b2 b3 : Nat) (cs ds : Array Value) (u : Value) (t : TypeId) (w : World) (h1 : Blk w b1 cs t) (hc : cs[1]? = some (.string ag)) (h2 : Blk w b2 ds t) (hd : ds[1]? = some u) (h3 : Blk w b3 #[.bool ok] 4) (d12 : b1 ≠ b2) (d13 : b1 ≠ b3) (d23 : b2 ≠ b3) (n2 : n ≤ b2) (n3 : n ≤ b3) :
    Calls Try.prog 31 #[.pointer (some ⟨b1, 0, none⟩), .pointer (some ⟨b3, 0, none⟩), .pointer (some ⟨b2, 0, none⟩)] w fun e w' => e = .returned (.tuple #[]) ∧ Blk w' b1 cs t ∧ Blk w' b2 (ds.setIfInBounds 1 (.string ag)) t ∧ Blk w' b3 #[.bool (ok && !(ag.toList == []))] 4 ∧ Below n w w' := by
  have H1 := Lib.hid h1
  have H2 := Lib.hid h2
  have H3 := Lib.hid h3
  have x1 : w.cell? ⟨b1, 1, none⟩ = some (.string ag) := (h1.cell 1).trans hc
  have x2 : w.cell? ⟨b2, 1, none⟩ = some u := (h2.cell 1).trans hd
  have x3 : w.cell? ⟨b3, 0, none⟩ = some (.bool ok) := h3.cell 0
  have y2 := h2.frozen 1
  have y3 := h3.frozen 0
  clear h1 h2 h3 hc hd
  cases ok
  · go_enter Try.func31, Try.ntmps31
    go_wp2_with fail
    go_region
    all_goals
      go_wp2_with fail
      go_end0
      have E2 : Blk (w.setCell ⟨b2, 1, none⟩ (.string ag)) b2 (ds.setIfInBounds 1 (.string ag)) t := H2.out.set_ 1 (.string ag)
      refine ⟨rfl, ?_, ?_, ?_, ?_⟩
      · exact ((H1.out.far (p := ⟨b2, 1, none⟩) d12 _).far (p := ⟨b3, 0, none⟩) d13 _).drew
      · exact (E2.far (p := ⟨b3, 0, none⟩) d23 _).drew
      · exact ((H3.out.far (p := ⟨b2, 1, none⟩) (Ne.symm d23) _).set_ 0 (.bool false)).drew
      · exact (((Below.refl n w).setCell (p := ⟨b2, 1, none⟩) n2 _).setCell (p := ⟨b3, 0, none⟩) n3 _).drew
  · go_enter Try.func31, Try.ntmps31
    go_wp2_with fail
    go_region
    all_goals
      go_wp2_with fail
      go_end0
      have E2 : Blk (w.setCell ⟨b2, 1, none⟩ (.string ag)) b2 (ds.setIfInBounds 1 (.string ag)) t := H2.out.set_ 1 (.string ag)
      refine ⟨rfl, ?_, ?_, ?_, ?_⟩
      · exact ((H1.out.far (p := ⟨b2, 1, none⟩) d12 _).far (p := ⟨b3, 0, none⟩) d13 _).drew
      · exact (E2.far (p := ⟨b3, 0, none⟩) d23 _).drew
      · have E3 := ((H3.out.far (p := ⟨b2, 1, none⟩) (Ne.symm d23) (.string ag)).set_ 0 (.bool (!(ag.toList == [])))).drew
        simpa using E3
      · exact (((Below.refl n w).setCell (p := ⟨b2, 1, none⟩) n2 _).setCell (p := ⟨b3, 0, none⟩) n3 _).drew
set_option maxRecDepth 100000 in
set_option maxHeartbeats 3200000 in
theorem may2c_any (se : ByteArray) (st : Int) (ok : Bool) (n b1 b2 b3 : Nat) (cs ds : Array Value) (u v : Value) (t : TypeId) (w : World) (h1 : Blk w b1 cs t) (hc : cs[2]? = some (.string se)) (hc3 : cs[3]? = some (.int .i64 st)) (h2 : Blk w b2 ds t) (hd : ds[2]? = some u) (hd3 : ds[3]? = some v) (h3 : Blk w b3 #[.bool ok] 4) (d12 : b1 ≠ b2) (d13 : b1 ≠ b3) (d23 : b2 ≠ b3) (n2 : n ≤ b2) (n3 : n ≤ b3) :
    Calls Try.prog 32 #[.pointer (some ⟨b1, 0, none⟩), .pointer (some ⟨b2, 0, none⟩), .pointer (some ⟨b3, 0, none⟩)] w fun e w' => e = .returned (.tuple #[]) ∧ Blk w' b1 cs t ∧ Blk w' b2 ((ds.setIfInBounds 2 (.string se)).setIfInBounds 3 (.int .i64 st)) t ∧ Blk w' b3 #[.bool (ok && !(se.toList == []) && decide (0 ≤ st) && decide (st < 5))] 4 ∧ Below n w w' := by
  have H1 := Lib.hid h1
  have H2 := Lib.hid h2
  have H3 := Lib.hid h3
  have HC := Lib.hid (And.intro hc hc3)
  have x1 : w.cell? ⟨b1, 2, none⟩ = some (.string se) := (h1.cell 2).trans hc
  have x1' : w.cell? ⟨b1, 3, none⟩ = some (.int .i64 st) := (h1.cell 3).trans hc3
  have x2 : w.cell? ⟨b2, 2, none⟩ = some u := (h2.cell 2).trans hd
  have x2' : w.cell? ⟨b2, 3, none⟩ = some v := (h2.cell 3).trans hd3
  have x3 : w.cell? ⟨b3, 0, none⟩ = some (.bool ok) := h3.cell 0
  have y2 := h2.frozen 2
  have y2' := h2.frozen 3
  have y3 := h3.frozen 0
  clear h1 h2 h3 hc hd hc3 hd3
  go_enter Try.func32, Try.ntmps32
  go_wp2_with fail
  go_cut [] (fun wx => Hid (Blk wx b1 cs t) ∧ Hid (Blk wx b2 ((ds.setIfInBounds 2 (.string se)).setIfInBounds 3 (.int .i64 st)) t) ∧ Hid (Blk wx b3 #[.bool ok] 4) ∧ Hid (Below n w wx))
  case first =>
    go_region
    all_goals
      go_wp2_with fail
      go_meet
      refine ⟨Lib.hid ?_, Lib.hid ?_, Lib.hid ?_, Lib.hid ?_⟩
      · exact ((H1.out.far (p := ⟨b2, 2, none⟩) d12 _).far (p := ⟨b2, 3, none⟩) d12 _).drew
      · exact ((H2.out.set_ 2 (.string se)).set_ 3 (.int .i64 st)).drew
      · exact ((H3.out.far (p := ⟨b2, 2, none⟩) (Ne.symm d23) _).far (p := ⟨b2, 3, none⟩) (Ne.symm d23) _).drew
      · exact (((Below.refl n w).setCell (p := ⟨b2, 2, none⟩) n2 _).setCell (p := ⟨b2, 3, none⟩) n2 _).drew
  case rest =>
    obtain ⟨k1, k2, k3, kb⟩ := hcut
    clear x1 x1' x2 x2' x3 y2 y2' y3
    have x1 : wc.cell? ⟨b1, 2, none⟩ = some (.string se) := (k1.out.cell 2).trans HC.out.1
    have x1' : wc.cell? ⟨b1, 3, none⟩ = some (.int .i64 st) := (k1.out.cell 3).trans HC.out.2
    have x3 : wc.cell? ⟨b3, 0, none⟩ = some (.bool ok) := k3.out.cell 0
    have y3 := k3.out.frozen 0
    have hfin : ∀ r : Bool, r = (ok && !(se.toList == []) && decide (0 ≤ st) && decide (st < 5)) → Blk (wc.setCell ⟨b3, 0, none⟩ (.bool r)) b1 cs t ∧ Blk (wc.setCell ⟨b3, 0, none⟩ (.bool r)) b2 ((ds.setIfInBounds 2 (.string se)).setIfInBounds 3 (.int .i64 st)) t ∧ Blk (wc.setCell ⟨b3, 0, none⟩ (.bool r)) b3 #[.bool (ok && !(se.toList == []) && decide (0 ≤ st) && decide (st < 5))] 4 ∧ Below n w (wc.setCell ⟨b3, 0, none⟩ (.bool r)) := fun r hr => by
      subst hr
      exact ⟨k1.out.far (p := ⟨b3, 0, none⟩) d13 _, k2.out.far (p := ⟨b3, 0, none⟩) d23 _, k3.out.set_ 0 _, kb.out.setCell (p := ⟨b3, 0, none⟩) n3 _⟩
    have HFIN := Lib.hid hfin
    clear hfin
    rcases ok with _ | _
    · go_wp2_with fail
      go_end0
      first
        | exact ⟨rfl, HFIN.out false (by simp)⟩
        | exact ⟨rfl, by have z := HFIN.out false (by simp); simp only [Bool.false_and] at z; exact z⟩
    · rcases hs : (se.toList == []) with _ | _
      · by_cases h0 : 0 ≤ st
        · have e0 : decide (0 ≤ st) = true := decide_eq_true h0
          by_cases h5 : st < 5
          · have e5 : decide (st < 5) = true := decide_eq_true h5
            go_wp2_with fail
            go_end0
            first
              | exact ⟨rfl, HFIN.out true (by rw [hs, e0, e5]; rfl)⟩
              | exact ⟨rfl, by have z := HFIN.out true (by rw [hs, e0, e5]; rfl); rw [hs, e0, e5] at z; exact z⟩
          · have e5 : decide (st < 5) = false := decide_eq_false h5
            go_wp2_with fail
            go_end0
            first
              | exact ⟨rfl, HFIN.out false (by rw [hs, e0, e5]; rfl)⟩
              | exact ⟨rfl, by have z := HFIN.out false (by rw [hs, e0, e5]; rfl); rw [hs, e0, e5] at z; exact z⟩
        · have e0 : decide (0 ≤ st) = false := decide_eq_false h0
          go_wp2_with fail
          go_end0
          first
            | exact ⟨rfl, HFIN.out false (by rw [hs, e0]; rfl)⟩
            | exact ⟨rfl, by have z := HFIN.out false (by rw [hs, e0]; rfl); rw [hs, e0] at z; exact z⟩
      · go_wp2_with fail
        go_end0
        first
          | exact ⟨rfl, HFIN.out false (by rw [hs]; rfl)⟩
          | exact ⟨rfl, by have z := HFIN.out false (by rw [hs]; rfl); rw [hs] at z; exact z⟩
set_option maxRecDepth 100000 in
set_option maxHeartbeats 3200000 in
theorem may3c_any (pe : ByteArray) (ok : Bool) (n b1 b2 b3 : Nat) (cs ds : Array Value) (u : Value) (t : TypeId) (w : World) (h1 : Blk w b1 cs t) (hc : cs[4]? = some (.string pe)) (h2 : Blk w b2 ds t) (hd : ds[4]? = some u) (h3 : Blk w b3 #[.bool ok] 4) (d12 : b1 ≠ b2) (d13 : b1 ≠ b3) (d23 : b2 ≠ b3) (n2 : n ≤ b2) (n3 : n ≤ b3) :
    Calls Try.prog 33 #[.pointer (some ⟨b1, 0, none⟩), .pointer (some ⟨b3, 0, none⟩), .pointer (some ⟨b2, 0, none⟩)] w fun e w' => e = .returned (.tuple #[]) ∧ Blk w' b1 cs t ∧ Blk w' b2 (ds.setIfInBounds 4 (.string pe)) t ∧ Blk w' b3 #[.bool (ok && nameF pe)] 4 ∧ Below n w w' := by
  have H1 := Lib.hid h1
  have H2 := Lib.hid h2
  have H3 := Lib.hid h3
  have HC := Lib.hid hc
  have x1 : w.cell? ⟨b1, 4, none⟩ = some (.string pe) := (h1.cell 4).trans hc
  have x2 : w.cell? ⟨b2, 4, none⟩ = some u := (h2.cell 4).trans hd
  have x3 : w.cell? ⟨b3, 0, none⟩ = some (.bool ok) := h3.cell 0
  have y2 := h2.frozen 4
  have y3 := h3.frozen 0
  clear h1 h2 h3 hc hd
  rcases ok with _ | _
  · go_enter Try.func33, Try.ntmps33
    go_upto_region 0 with fail
    refine wp_region_noPanic ?_
    refine wp_region_held_drew (S := fun W => W.cell? ⟨b1, 4, none⟩ = some (.string pe)) (by kernel_rfl) x1 (fun hHeld => ?_)
    refine held_take (v := ?v1) 0 rfl (by kernel_rfl) (by kernel_rfl) (by kernel_rfl) (fun _ _ _ h => h) (by rfl) ?hy1 (by assumption) ?rest1
    case hy1 => (intro w hSw; (try dsimp only at hSw); go_simp; try with_reducible rfl)
    simp only [Act.put, List.setIfInBounds_toArray, List.set_cons_zero, List.set_cons_succ]
    refine held_take (v := ?v2) 1 rfl (by kernel_rfl) (by kernel_rfl) (by kernel_rfl) (fun _ _ _ h => h) (by rfl) ?hy2 (by assumption) ?rest2
    case hy2 => (intro w hSw; (try dsimp only at hSw); go_simp; try with_reducible rfl)
    simp only [Act.put, List.setIfInBounds_toArray, List.set_cons_zero, List.set_cons_succ]
    refine held_take (v := ?v3) 8 rfl (by kernel_rfl) (by kernel_rfl) (by kernel_rfl) (fun _ _ _ h => h) (by rfl) ?hy3 (by assumption) ?rest3
    case hy3 => (intro w hSw; (try dsimp only at hSw); go_simp; try with_reducible rfl)
    simp only [Act.put, List.setIfInBounds_toArray, List.set_cons_zero, List.set_cons_succ]
    refine held_call 2 rfl (by kernel_rfl) (by rfl) (fun K hK => ?_)
    go_simp
    refine hK _ _ (by assumption) ?_
    clear hK K
    try simp only [Act.put, List.setIfInBounds_toArray, List.set_cons_zero, List.set_cons_succ]
    refine held_take (v := ?v5) 3 rfl (by kernel_rfl) (by kernel_rfl) (by kernel_rfl) (fun _ _ _ h => h) (by rfl) ?hy5 (by assumption) ?rest5
    case hy5 => (intro w hSw; (try dsimp only at hSw); go_simp; try with_reducible rfl)
    simp only [Act.put, List.setIfInBounds_toArray, List.set_cons_zero, List.set_cons_succ]
    refine held_skip 4 rfl (by kernel_rfl) (by kernel_rfl) (by kernel_rfl) (fun _ _ _ h => h) (by rfl) (by assumption) ?_
    simp only [Act.put, List.setIfInBounds_toArray, List.set_cons_zero, List.set_cons_succ]
    refine held_skip 5 rfl (by kernel_rfl) (by kernel_rfl) (by kernel_rfl) (fun _ _ _ h => h) (by rfl) (by assumption) ?_
    simp only [Act.put, List.setIfInBounds_toArray, List.set_cons_zero, List.set_cons_succ]
    refine held_skip 6 rfl (by kernel_rfl) (by kernel_rfl) (by kernel_rfl) (fun _ _ _ h => h) (by rfl) (by assumption) ?_
    simp only [Act.put, List.setIfInBounds_toArray, List.set_cons_zero, List.set_cons_succ]
    refine held_take (v := ?v9) 7 rfl (by kernel_rfl) (by kernel_rfl) (by kernel_rfl) (fun _ _ _ h => h) (by rfl) ?hy9 (by assumption) ?rest9
    case hy9 => (intro w hSw; (try dsimp only at hSw); go_simp; try with_reducible rfl)
    simp only [Act.put, List.setIfInBounds_toArray, List.set_cons_zero, List.set_cons_succ]
    refine held_call 9 rfl (by kernel_rfl) (by rfl) (fun K hK => ?_)
    go_simp
    refine hK _ _ (((H1.out.drew.far (p := ⟨b2, 4, none⟩) d12 _).cell 4).trans HC.out) ?_
    clear hK K
    try simp only [Act.put, List.setIfInBounds_toArray, List.set_cons_zero, List.set_cons_succ]
    have z3 := ((H3.out.drew.far (p := ⟨b2, 4, none⟩) (Ne.symm d23) (.string pe)).cell 0)
    have zf := ((H3.out.drew.far (p := ⟨b2, 4, none⟩) (Ne.symm d23) (.string pe)).frozen 0)
    refine held_call 10 rfl (by kernel_rfl) (by rfl) (fun K hK => ?_)
    go_simp
    refine hK _ _ ((((H1.out.drew.far (p := ⟨b2, 4, none⟩) d12 _).far (p := ⟨b3, 0, none⟩) d13 _).cell 4).trans HC.out) ?_
    clear hK K
    try simp only [Act.put, List.setIfInBounds_toArray, List.set_cons_zero, List.set_cons_succ]
    refine wpAnyH_done (by kernel_rfl) ?_ _
    refine NoPanic.normal ?_
    go_wp2_with fail
    go_end0
    refine ⟨rfl, (H1.out.drew.far (p := ⟨b2, 4, none⟩) d12 _).far (p := ⟨b3, 0, none⟩) d13 _, (H2.out.drew.set_ 4 (.string pe)).far (p := ⟨b3, 0, none⟩) d23 _, ?_, (((Below.refl n w).drew.setCell (p := ⟨b2, 4, none⟩) n2 _).setCell (p := ⟨b3, 0, none⟩) n3 _)⟩
    exact (H3.out.drew.far (p := ⟨b2, 4, none⟩) (Ne.symm d23) (.string pe)).set_ 0 (.bool false)
  · go_enter Try.func33, Try.ntmps33
    go_upto_region 0 with fail
    refine wp_region_noPanic ?_
    refine wp_region_held_drew (S := fun W => W.cell? ⟨b1, 4, none⟩ = some (.string pe)) (by kernel_rfl) x1 (fun hHeld => ?_)
    refine held_take (v := ?v12) 0 rfl (by kernel_rfl) (by kernel_rfl) (by kernel_rfl) (fun _ _ _ h => h) (by rfl) ?hy12 (by assumption) ?rest12
    case hy12 => (intro w hSw; (try dsimp only at hSw); go_simp; try with_reducible rfl)
    simp only [Act.put, List.setIfInBounds_toArray, List.set_cons_zero, List.set_cons_succ]
    refine held_take (v := ?v13) 1 rfl (by kernel_rfl) (by kernel_rfl) (by kernel_rfl) (fun _ _ _ h => h) (by rfl) ?hy13 (by assumption) ?rest13
    case hy13 => (intro w hSw; (try dsimp only at hSw); go_simp; try with_reducible rfl)
    simp only [Act.put, List.setIfInBounds_toArray, List.set_cons_zero, List.set_cons_succ]
    refine held_take (v := ?v14) 8 rfl (by kernel_rfl) (by kernel_rfl) (by kernel_rfl) (fun _ _ _ h => h) (by rfl) ?hy14 (by assumption) ?rest14
    case hy14 => (intro w hSw; (try dsimp only at hSw); go_simp; try with_reducible rfl)
    simp only [Act.put, List.setIfInBounds_toArray, List.set_cons_zero, List.set_cons_succ]
    refine held_call 2 rfl (by kernel_rfl) (by rfl) (fun K hK => ?_)
    go_simp
    refine hK _ _ (by assumption) ?_
    clear hK K
    try simp only [Act.put, List.setIfInBounds_toArray, List.set_cons_zero, List.set_cons_succ]
    refine held_take (v := ?v16) 3 rfl (by kernel_rfl) (by kernel_rfl) (by kernel_rfl) (fun _ _ _ h => h) (by rfl) ?hy16 (by assumption) ?rest16
    case hy16 => (intro w hSw; (try dsimp only at hSw); go_simp; try with_reducible rfl)
    simp only [Act.put, List.setIfInBounds_toArray, List.set_cons_zero, List.set_cons_succ]
    refine held_take (v := ?v17) 4 rfl (by kernel_rfl) (by kernel_rfl) (by kernel_rfl) (fun _ _ _ h => h) (by rfl) ?hy17 (by assumption) ?rest17
    case hy17 => (intro w hSw; (try dsimp only at hSw); go_simp; try with_reducible rfl)
    simp only [Act.put, List.setIfInBounds_toArray, List.set_cons_zero, List.set_cons_succ]
    refine held_take (v := ?v18) 5 rfl (by kernel_rfl) (by kernel_rfl) (by kernel_rfl) (fun _ _ _ h => h) (by rfl) ?hy18 (by assumption) ?rest18
    case hy18 => (intro w hSw; (try dsimp only at hSw); go_simp; try with_reducible rfl)
    simp only [Act.put, List.setIfInBounds_toArray, List.set_cons_zero, List.set_cons_succ]
    refine held_call 6 rfl (by kernel_rfl) (by rfl) (fun K hK => ?_)
    go_simp
    go_at_call 34
    refine (name_any _ _).mono ?_
    rintro e w' ⟨rfl, rfl⟩
    go_simp
    refine hK _ _ (by assumption) ?_
    clear hK K
    try simp only [Act.put, List.setIfInBounds_toArray, List.set_cons_zero, List.set_cons_succ]
    refine held_take (v := ?v20) 7 rfl (by kernel_rfl) (by kernel_rfl) (by kernel_rfl) (fun _ _ _ h => h) (by rfl) ?hy20 (by assumption) ?rest20
    case hy20 => (intro w hSw; (try dsimp only at hSw); go_simp; try with_reducible rfl)
    simp only [Act.put, List.setIfInBounds_toArray, List.set_cons_zero, List.set_cons_succ]
    refine held_call 9 rfl (by kernel_rfl) (by rfl) (fun K hK => ?_)
    go_simp
    refine hK _ _ (((H1.out.drew.far (p := ⟨b2, 4, none⟩) d12 _).cell 4).trans HC.out) ?_
    clear hK K
    try simp only [Act.put, List.setIfInBounds_toArray, List.set_cons_zero, List.set_cons_succ]
    have z3 := ((H3.out.drew.far (p := ⟨b2, 4, none⟩) (Ne.symm d23) (.string pe)).cell 0)
    have zf := ((H3.out.drew.far (p := ⟨b2, 4, none⟩) (Ne.symm d23) (.string pe)).frozen 0)
    refine held_call 10 rfl (by kernel_rfl) (by rfl) (fun K hK => ?_)
    go_simp
    refine hK _ _ ((((H1.out.drew.far (p := ⟨b2, 4, none⟩) d12 _).far (p := ⟨b3, 0, none⟩) d13 _).cell 4).trans HC.out) ?_
    clear hK K
    try simp only [Act.put, List.setIfInBounds_toArray, List.set_cons_zero, List.set_cons_succ]
    refine wpAnyH_done (by kernel_rfl) ?_ _
    refine NoPanic.normal ?_
    go_wp2_with fail
    go_end0
    refine ⟨rfl, (H1.out.drew.far (p := ⟨b2, 4, none⟩) d12 _).far (p := ⟨b3, 0, none⟩) d13 _, (H2.out.drew.set_ 4 (.string pe)).far (p := ⟨b3, 0, none⟩) d23 _, ?_, (((Below.refl n w).drew.setCell (p := ⟨b2, 4, none⟩) n2 _).setCell (p := ⟨b3, 0, none⟩) n3 _)⟩
    exact (H3.out.drew.far (p := ⟨b2, 4, none⟩) (Ne.symm d23) (.string pe)).set_ 0 (.bool (nameF pe))
set_option maxRecDepth 100000 in
set_option maxHeartbeats 3200000 in
theorem may4c_any (la : ByteArray) (v : Vl) (A : Option Addr) (c : Nat) (ok : Bool) (n b1 b2 b3 : Nat) (cs ds : Array Value) (u5 u6 u7 u8 u9 : Value) (t : TypeId) (w : World) (h1 : Blk w b1 cs t) (hc : cs[5]? = some (.string la) ∧ cs[6]? = some (.int .i64 v.kind) ∧ cs[7]? = some (.int .i64 v.n) ∧ cs[8]? = some (.string v.s) ∧ cs[9]? = some (.slice A v.l.length c)) (h2 : Blk w b2 ds t) (hd : ds[5]? = some u5 ∧ ds[6]? = some u6 ∧ ds[7]? = some u7 ∧ ds[8]? = some u8 ∧ ds[9]? = some u9) (h3 : Blk w b3 #[.bool ok] 4) (d12 : b1 ≠ b2) (d13 : b1 ≠ b3) (d23 : b2 ≠ b3) (n2 : n ≤ b2) (n3 : n ≤ b3) (hn : n ≤ w.heap.size) :
    Calls Try.prog 35 #[.pointer (some ⟨b1, 0, none⟩), .pointer (some ⟨b3, 0, none⟩), .pointer (some ⟨b2, 0, none⟩)] w fun e w' => e = .returned (.tuple #[]) ∧ Blk w' b1 cs t ∧ Blk w' b2 (((((ds.setIfInBounds 5 (.string la)).setIfInBounds 6 (.int .i64 v.kind)).setIfInBounds 7 (.int .i64 v.n)).setIfInBounds 8 (.string v.s)).setIfInBounds 9 (.slice A v.l.length c)) t ∧ Blk w' b3 #[.bool (ok && nameF la && dataF v.kind v.n v.s v.l.length)] 4 ∧ Below n w w' := by
  have H1 := Lib.hid h1
  have H2 := Lib.hid h2
  have H3 := Lib.hid h3
  have HC := Lib.hid hc
  have HD := Lib.hid hd
  have CN := Lib.hid (fun W => name_any la W)
  have x5 : w.cell? ⟨b1, 5, none⟩ = some (.string la) := (h1.cell 5).trans HC.out.1
  have x6 : w.cell? ⟨b1, 6, none⟩ = some (.int .i64 v.kind) := (h1.cell 6).trans HC.out.2.1
  have x7 : w.cell? ⟨b1, 7, none⟩ = some (.int .i64 v.n) := (h1.cell 7).trans HC.out.2.2.1
  have x8 : w.cell? ⟨b1, 8, none⟩ = some (.string v.s) := (h1.cell 8).trans HC.out.2.2.2.1
  have x9 : w.cell? ⟨b1, 9, none⟩ = some (.slice A v.l.length c) := (h1.cell 9).trans HC.out.2.2.2.2
  have x3 : w.cell? ⟨b3, 0, none⟩ = some (.bool ok) := h3.cell 0
  clear h1 h2 h3 hc hd
  rcases ok with _ | _
  · go_enter Try.func35, Try.ntmps35
    go_upto_region 0 with fail
    refine wp_region_noPanic ?_
    refine wp_region_held_drew (S := fun W => W.cell? ⟨b1, 5, none⟩ = some (.string la) ∧ W.cell? ⟨b1, 6, none⟩ = some (.int .i64 v.kind) ∧ W.cell? ⟨b1, 7, none⟩ = some (.int .i64 v.n) ∧ W.cell? ⟨b1, 8, none⟩ = some (.string v.s) ∧ W.cell? ⟨b1, 9, none⟩ = some (.slice A v.l.length c)) (by kernel_rfl) ⟨x5, x6, x7, x8, x9⟩ (fun hHeld => ?_)
    refine held_take (v := ?v23) 0 rfl (by kernel_rfl) (by kernel_rfl) (by kernel_rfl) (fun _ _ _ h => h) (by rfl) ?hy23 (by assumption) ?rest23
    case hy23 => (intro w hSw; (try dsimp only at hSw); go_simp; try with_reducible rfl)
    simp only [Act.put, List.setIfInBounds_toArray, List.set_cons_zero, List.set_cons_succ]
    refine held_take (v := ?v24) 1 rfl (by kernel_rfl) (by kernel_rfl) (by kernel_rfl) (fun _ _ _ h => h) (by rfl) ?hy24 (by assumption) ?rest24
    case hy24 => (intro w hSw; (try dsimp only at hSw); go_simp; try with_reducible rfl)
    simp only [Act.put, List.setIfInBounds_toArray, List.set_cons_zero, List.set_cons_succ]
    refine held_take (v := ?v25) 15 rfl (by kernel_rfl) (by kernel_rfl) (by kernel_rfl) (fun _ _ _ h => h) (by rfl) ?hy25 (by assumption) ?rest25
    case hy25 => (intro w hSw; (try dsimp only at hSw); go_simp; try with_reducible rfl)
    simp only [Act.put, List.setIfInBounds_toArray, List.set_cons_zero, List.set_cons_succ]
    refine held_call 2 rfl (by kernel_rfl) (by rfl) (fun K hK => ?_)
    go_simp
    refine hK _ _ (by assumption) ?_
    clear hK K
    try simp only [Act.put, List.setIfInBounds_toArray, List.set_cons_zero, List.set_cons_succ]
    refine held_take (v := ?v27) 3 rfl (by kernel_rfl) (by kernel_rfl) (by kernel_rfl) (fun _ _ _ h => h) (by rfl) ?hy27 (by assumption) ?rest27
    case hy27 => (intro w hSw; (try dsimp only at hSw); go_simp; try with_reducible rfl)
    simp only [Act.put, List.setIfInBounds_toArray, List.set_cons_zero, List.set_cons_succ]
    refine held_skip 4 rfl (by kernel_rfl) (by kernel_rfl) (by kernel_rfl) (fun _ _ _ h => h) (by rfl) (by assumption) ?_
    simp only [Act.put, List.setIfInBounds_toArray, List.set_cons_zero, List.set_cons_succ]
    refine held_skip 5 rfl (by kernel_rfl) (by kernel_rfl) (by kernel_rfl) (fun _ _ _ h => h) (by rfl) (by assumption) ?_
    simp only [Act.put, List.setIfInBounds_toArray, List.set_cons_zero, List.set_cons_succ]
    refine held_skip 6 rfl (by kernel_rfl) (by kernel_rfl) (by kernel_rfl) (fun _ _ _ h => h) (by rfl) (by assumption) ?_
    simp only [Act.put, List.setIfInBounds_toArray, List.set_cons_zero, List.set_cons_succ]
    refine held_skip 7 rfl (by kernel_rfl) (by kernel_rfl) (by kernel_rfl) (fun _ _ _ h => h) (by rfl) (by assumption) ?_
    simp only [Act.put, List.setIfInBounds_toArray, List.set_cons_zero, List.set_cons_succ]
    refine held_take (v := ?v32) 8 rfl (by kernel_rfl) (by kernel_rfl) (by kernel_rfl) (fun _ _ _ h => h) (by rfl) ?hy32 (by assumption) ?rest32
    case hy32 => (intro w hSw; (try dsimp only at hSw); go_simp; try with_reducible rfl)
    simp only [Act.put, List.setIfInBounds_toArray, List.set_cons_zero, List.set_cons_succ]
    refine held_take (v := ?v33) 9 rfl (by kernel_rfl) (by kernel_rfl) (by kernel_rfl) (fun _ _ _ h => h) (by rfl) ?hy33 (by assumption) ?rest33
    case hy33 => (intro w hSw; (try dsimp only at hSw); go_simp; try with_reducible rfl)
    simp only [Act.put, List.setIfInBounds_toArray, List.set_cons_zero, List.set_cons_succ]
    refine held_skip 10 rfl (by kernel_rfl) (by kernel_rfl) (by kernel_rfl) (fun _ _ _ h => h) (by rfl) (by assumption) ?_
    simp only [Act.put, List.setIfInBounds_toArray, List.set_cons_zero, List.set_cons_succ]
    refine held_skip 11 rfl (by kernel_rfl) (by kernel_rfl) (by kernel_rfl) (fun _ _ _ h => h) (by rfl) (by assumption) ?_
    simp only [Act.put, List.setIfInBounds_toArray, List.set_cons_zero, List.set_cons_succ]
    refine held_skip 12 rfl (by kernel_rfl) (by kernel_rfl) (by kernel_rfl) (fun _ _ _ h => h) (by rfl) (by assumption) ?_
    simp only [Act.put, List.setIfInBounds_toArray, List.set_cons_zero, List.set_cons_succ]
    refine held_skip 13 rfl (by kernel_rfl) (by kernel_rfl) (by kernel_rfl) (fun _ _ _ h => h) (by rfl) (by assumption) ?_
    simp only [Act.put, List.setIfInBounds_toArray, List.set_cons_zero, List.set_cons_succ]
    refine held_take (v := ?v38) 14 rfl (by kernel_rfl) (by kernel_rfl) (by kernel_rfl) (fun _ _ _ h => h) (by rfl) ?hy38 (by assumption) ?rest38
    case hy38 => (intro w hSw; (try dsimp only at hSw); go_simp; try with_reducible rfl)
    simp only [Act.put, List.setIfInBounds_toArray, List.set_cons_zero, List.set_cons_succ]
    have p5 := (H2.out.cell 5).trans HD.out.1
    have p6 := (H2.out.cell 6).trans HD.out.2.1
    have p7 := (H2.out.cell 7).trans HD.out.2.2.1
    have p8 := (H2.out.cell 8).trans HD.out.2.2.2.1
    have p9 := (H2.out.cell 9).trans HD.out.2.2.2.2
    have f5 := H2.out.frozen 5
    have f6 := H2.out.frozen 6
    have f7 := H2.out.frozen 7
    have f8 := H2.out.frozen 8
    have f9 := H2.out.frozen 9
    have p0 := H3.out.cell 0
    have f0 := H3.out.frozen 0
    refine held_call 16 rfl (by kernel_rfl) (by rfl) (fun K hK => ?_)
    go_simp
    refine hK _ _ (⟨((((((H1.out.far (p := ⟨b2, 5, none⟩) d12 (.string la)).far (p := ⟨b2, 6, none⟩) d12 (.int .i64 v.kind)).far (p := ⟨b2, 7, none⟩) d12 (.int .i64 v.n)).far (p := ⟨b2, 8, none⟩) d12 (.string v.s)).far (p := ⟨b2, 9, none⟩) d12 (.slice A v.l.length c)).drew.cell 5).trans HC.out.1, ((((((H1.out.far (p := ⟨b2, 5, none⟩) d12 (.string la)).far (p := ⟨b2, 6, none⟩) d12 (.int .i64 v.kind)).far (p := ⟨b2, 7, none⟩) d12 (.int .i64 v.n)).far (p := ⟨b2, 8, none⟩) d12 (.string v.s)).far (p := ⟨b2, 9, none⟩) d12 (.slice A v.l.length c)).drew.cell 6).trans HC.out.2.1, ((((((H1.out.far (p := ⟨b2, 5, none⟩) d12 (.string la)).far (p := ⟨b2, 6, none⟩) d12 (.int .i64 v.kind)).far (p := ⟨b2, 7, none⟩) d12 (.int .i64 v.n)).far (p := ⟨b2, 8, none⟩) d12 (.string v.s)).far (p := ⟨b2, 9, none⟩) d12 (.slice A v.l.length c)).drew.cell 7).trans HC.out.2.2.1, ((((((H1.out.far (p := ⟨b2, 5, none⟩) d12 (.string la)).far (p := ⟨b2, 6, none⟩) d12 (.int .i64 v.kind)).far (p := ⟨b2, 7, none⟩) d12 (.int .i64 v.n)).far (p := ⟨b2, 8, none⟩) d12 (.string v.s)).far (p := ⟨b2, 9, none⟩) d12 (.slice A v.l.length c)).drew.cell 8).trans HC.out.2.2.2.1, ((((((H1.out.far (p := ⟨b2, 5, none⟩) d12 (.string la)).far (p := ⟨b2, 6, none⟩) d12 (.int .i64 v.kind)).far (p := ⟨b2, 7, none⟩) d12 (.int .i64 v.n)).far (p := ⟨b2, 8, none⟩) d12 (.string v.s)).far (p := ⟨b2, 9, none⟩) d12 (.slice A v.l.length c)).drew.cell 9).trans HC.out.2.2.2.2⟩) ?_
    clear hK K
    try simp only [Act.put, List.setIfInBounds_toArray, List.set_cons_zero, List.set_cons_succ]
    have z3 := ((((((H3.out.far (p := ⟨b2, 5, none⟩) (Ne.symm d23) (.string la)).far (p := ⟨b2, 6, none⟩) (Ne.symm d23) (.int .i64 v.kind)).far (p := ⟨b2, 7, none⟩) (Ne.symm d23) (.int .i64 v.n)).far (p := ⟨b2, 8, none⟩) (Ne.symm d23) (.string v.s)).far (p := ⟨b2, 9, none⟩) (Ne.symm d23) (.slice A v.l.length c)).cell 0)
    have zf := ((((((H3.out.far (p := ⟨b2, 5, none⟩) (Ne.symm d23) (.string la)).far (p := ⟨b2, 6, none⟩) (Ne.symm d23) (.int .i64 v.kind)).far (p := ⟨b2, 7, none⟩) (Ne.symm d23) (.int .i64 v.n)).far (p := ⟨b2, 8, none⟩) (Ne.symm d23) (.string v.s)).far (p := ⟨b2, 9, none⟩) (Ne.symm d23) (.slice A v.l.length c)).frozen 0)
    refine held_call 17 rfl (by kernel_rfl) (by rfl) (fun K hK => ?_)
    go_simp
    refine hK _ _ (⟨(((((((H1.out.far (p := ⟨b2, 5, none⟩) d12 (.string la)).far (p := ⟨b2, 6, none⟩) d12 (.int .i64 v.kind)).far (p := ⟨b2, 7, none⟩) d12 (.int .i64 v.n)).far (p := ⟨b2, 8, none⟩) d12 (.string v.s)).far (p := ⟨b2, 9, none⟩) d12 (.slice A v.l.length c)).far (p := ⟨b3, 0, none⟩) d13 (.bool false)).drew.cell 5).trans HC.out.1, (((((((H1.out.far (p := ⟨b2, 5, none⟩) d12 (.string la)).far (p := ⟨b2, 6, none⟩) d12 (.int .i64 v.kind)).far (p := ⟨b2, 7, none⟩) d12 (.int .i64 v.n)).far (p := ⟨b2, 8, none⟩) d12 (.string v.s)).far (p := ⟨b2, 9, none⟩) d12 (.slice A v.l.length c)).far (p := ⟨b3, 0, none⟩) d13 (.bool false)).drew.cell 6).trans HC.out.2.1, (((((((H1.out.far (p := ⟨b2, 5, none⟩) d12 (.string la)).far (p := ⟨b2, 6, none⟩) d12 (.int .i64 v.kind)).far (p := ⟨b2, 7, none⟩) d12 (.int .i64 v.n)).far (p := ⟨b2, 8, none⟩) d12 (.string v.s)).far (p := ⟨b2, 9, none⟩) d12 (.slice A v.l.length c)).far (p := ⟨b3, 0, none⟩) d13 (.bool false)).drew.cell 7).trans HC.out.2.2.1, (((((((H1.out.far (p := ⟨b2, 5, none⟩) d12 (.string la)).far (p := ⟨b2, 6, none⟩) d12 (.int .i64 v.kind)).far (p := ⟨b2, 7, none⟩) d12 (.int .i64 v.n)).far (p := ⟨b2, 8, none⟩) d12 (.string v.s)).far (p := ⟨b2, 9, none⟩) d12 (.slice A v.l.length c)).far (p := ⟨b3, 0, none⟩) d13 (.bool false)).drew.cell 8).trans HC.out.2.2.2.1, (((((((H1.out.far (p := ⟨b2, 5, none⟩) d12 (.string la)).far (p := ⟨b2, 6, none⟩) d12 (.int .i64 v.kind)).far (p := ⟨b2, 7, none⟩) d12 (.int .i64 v.n)).far (p := ⟨b2, 8, none⟩) d12 (.string v.s)).far (p := ⟨b2, 9, none⟩) d12 (.slice A v.l.length c)).far (p := ⟨b3, 0, none⟩) d13 (.bool false)).drew.cell 9).trans HC.out.2.2.2.2⟩) ?_
    clear hK K
    try simp only [Act.put, List.setIfInBounds_toArray, List.set_cons_zero, List.set_cons_succ]
    refine wpAnyH_done (by kernel_rfl) ?_ _
    refine NoPanic.normal ?_
    go_wp2_with fail
    go_end0
    refine ⟨rfl, ((((((H1.out.far (p := ⟨b2, 5, none⟩) d12 (.string la)).far (p := ⟨b2, 6, none⟩) d12 (.int .i64 v.kind)).far (p := ⟨b2, 7, none⟩) d12 (.int .i64 v.n)).far (p := ⟨b2, 8, none⟩) d12 (.string v.s)).far (p := ⟨b2, 9, none⟩) d12 (.slice A v.l.length c)).far (p := ⟨b3, 0, none⟩) d13 _).drew, ((((((H2.out.set_ 5 (.string la)).set_ 6 (.int .i64 v.kind)).set_ 7 (.int .i64 v.n)).set_ 8 (.string v.s)).set_ 9 (.slice A v.l.length c)).far (p := ⟨b3, 0, none⟩) d23 _).drew, ?_, (((((((Below.refl n w).setCell (p := ⟨b2, 5, none⟩) n2 (.string la)).setCell (p := ⟨b2, 6, none⟩) n2 (.int .i64 v.kind)).setCell (p := ⟨b2, 7, none⟩) n2 (.int .i64 v.n)).setCell (p := ⟨b2, 8, none⟩) n2 (.string v.s)).setCell (p := ⟨b2, 9, none⟩) n2 (.slice A v.l.length c)).setCell (p := ⟨b3, 0, none⟩) n3 _).drew⟩
    exact ((((((H3.out.far (p := ⟨b2, 5, none⟩) (Ne.symm d23) (.string la)).far (p := ⟨b2, 6, none⟩) (Ne.symm d23) (.int .i64 v.kind)).far (p := ⟨b2, 7, none⟩) (Ne.symm d23) (.int .i64 v.n)).far (p := ⟨b2, 8, none⟩) (Ne.symm d23) (.string v.s)).far (p := ⟨b2, 9, none⟩) (Ne.symm d23) (.slice A v.l.length c)).set_ 0 (.bool false)).drew
  · rcases hnn : nameF la with _ | _
    · rw [hnn] at CN
      go_enter Try.func35, Try.ntmps35
      go_upto_region 0 with fail
      refine wp_region_noPanic ?_
      refine wp_region_held_drew (S := fun W => W.cell? ⟨b1, 5, none⟩ = some (.string la) ∧ W.cell? ⟨b1, 6, none⟩ = some (.int .i64 v.kind) ∧ W.cell? ⟨b1, 7, none⟩ = some (.int .i64 v.n) ∧ W.cell? ⟨b1, 8, none⟩ = some (.string v.s) ∧ W.cell? ⟨b1, 9, none⟩ = some (.slice A v.l.length c)) (by kernel_rfl) ⟨x5, x6, x7, x8, x9⟩ (fun hHeld => ?_)
      refine held_take (v := ?v41) 0 rfl (by kernel_rfl) (by kernel_rfl) (by kernel_rfl) (fun _ _ _ h => h) (by rfl) ?hy41 (by assumption) ?rest41
      case hy41 => (intro w hSw; (try dsimp only at hSw); go_simp; try with_reducible rfl)
      simp only [Act.put, List.setIfInBounds_toArray, List.set_cons_zero, List.set_cons_succ]
      refine held_take (v := ?v42) 1 rfl (by kernel_rfl) (by kernel_rfl) (by kernel_rfl) (fun _ _ _ h => h) (by rfl) ?hy42 (by assumption) ?rest42
      case hy42 => (intro w hSw; (try dsimp only at hSw); go_simp; try with_reducible rfl)
      simp only [Act.put, List.setIfInBounds_toArray, List.set_cons_zero, List.set_cons_succ]
      refine held_take (v := ?v43) 15 rfl (by kernel_rfl) (by kernel_rfl) (by kernel_rfl) (fun _ _ _ h => h) (by rfl) ?hy43 (by assumption) ?rest43
      case hy43 => (intro w hSw; (try dsimp only at hSw); go_simp; try with_reducible rfl)
      simp only [Act.put, List.setIfInBounds_toArray, List.set_cons_zero, List.set_cons_succ]
      refine held_call 2 rfl (by kernel_rfl) (by rfl) (fun K hK => ?_)
      go_simp
      refine hK _ _ (by assumption) ?_
      clear hK K
      try simp only [Act.put, List.setIfInBounds_toArray, List.set_cons_zero, List.set_cons_succ]
      refine held_take (v := ?v45) 3 rfl (by kernel_rfl) (by kernel_rfl) (by kernel_rfl) (fun _ _ _ h => h) (by rfl) ?hy45 (by assumption) ?rest45
      case hy45 => (intro w hSw; (try dsimp only at hSw); go_simp; try with_reducible rfl)
      simp only [Act.put, List.setIfInBounds_toArray, List.set_cons_zero, List.set_cons_succ]
      refine held_take (v := ?v46) 4 rfl (by kernel_rfl) (by kernel_rfl) (by kernel_rfl) (fun _ _ _ h => h) (by rfl) ?hy46 (by assumption) ?rest46
      case hy46 => (intro w hSw; (try dsimp only at hSw); go_simp; try with_reducible rfl)
      simp only [Act.put, List.setIfInBounds_toArray, List.set_cons_zero, List.set_cons_succ]
      refine held_take (v := ?v47) 5 rfl (by kernel_rfl) (by kernel_rfl) (by kernel_rfl) (fun _ _ _ h => h) (by rfl) ?hy47 (by assumption) ?rest47
      case hy47 => (intro w hSw; (try dsimp only at hSw); go_simp; try with_reducible rfl)
      simp only [Act.put, List.setIfInBounds_toArray, List.set_cons_zero, List.set_cons_succ]
      refine held_take (v := ?v48) 6 rfl (by kernel_rfl) (by kernel_rfl) (by kernel_rfl) (fun _ _ _ h => h) (by rfl) ?hy48 (by assumption) ?rest48
      case hy48 => (intro w hSw; (try dsimp only at hSw); go_simp; try with_reducible rfl)
      simp only [Act.put, List.setIfInBounds_toArray, List.set_cons_zero, List.set_cons_succ]
      refine held_call 7 rfl (by kernel_rfl) (by rfl) (fun K hK => ?_)
      go_simp
      go_at_call 34
      refine (CN.out _).mono ?_
      rintro e w' ⟨rfl, rfl⟩
      go_simp
      refine hK _ _ (by assumption) ?_
      clear hK K
      try simp only [Act.put, List.setIfInBounds_toArray, List.set_cons_zero, List.set_cons_succ]
      refine held_take (v := ?v50) 8 rfl (by kernel_rfl) (by kernel_rfl) (by kernel_rfl) (fun _ _ _ h => h) (by rfl) ?hy50 (by assumption) ?rest50
      case hy50 => (intro w hSw; (try dsimp only at hSw); go_simp; try with_reducible rfl)
      simp only [Act.put, List.setIfInBounds_toArray, List.set_cons_zero, List.set_cons_succ]
      refine held_take (v := ?v51) 9 rfl (by kernel_rfl) (by kernel_rfl) (by kernel_rfl) (fun _ _ _ h => h) (by rfl) ?hy51 (by assumption) ?rest51
      case hy51 => (intro w hSw; (try dsimp only at hSw); go_simp; try with_reducible rfl)
      simp only [Act.put, List.setIfInBounds_toArray, List.set_cons_zero, List.set_cons_succ]
      refine held_skip 10 rfl (by kernel_rfl) (by kernel_rfl) (by kernel_rfl) (fun _ _ _ h => h) (by rfl) (by assumption) ?_
      simp only [Act.put, List.setIfInBounds_toArray, List.set_cons_zero, List.set_cons_succ]
      refine held_skip 11 rfl (by kernel_rfl) (by kernel_rfl) (by kernel_rfl) (fun _ _ _ h => h) (by rfl) (by assumption) ?_
      simp only [Act.put, List.setIfInBounds_toArray, List.set_cons_zero, List.set_cons_succ]
      refine held_skip 12 rfl (by kernel_rfl) (by kernel_rfl) (by kernel_rfl) (fun _ _ _ h => h) (by rfl) (by assumption) ?_
      simp only [Act.put, List.setIfInBounds_toArray, List.set_cons_zero, List.set_cons_succ]
      refine held_skip 13 rfl (by kernel_rfl) (by kernel_rfl) (by kernel_rfl) (fun _ _ _ h => h) (by rfl) (by assumption) ?_
      simp only [Act.put, List.setIfInBounds_toArray, List.set_cons_zero, List.set_cons_succ]
      refine held_take (v := ?v56) 14 rfl (by kernel_rfl) (by kernel_rfl) (by kernel_rfl) (fun _ _ _ h => h) (by rfl) ?hy56 (by assumption) ?rest56
      case hy56 => (intro w hSw; (try dsimp only at hSw); go_simp; try with_reducible rfl)
      simp only [Act.put, List.setIfInBounds_toArray, List.set_cons_zero, List.set_cons_succ]
      have p5 := (H2.out.cell 5).trans HD.out.1
      have p6 := (H2.out.cell 6).trans HD.out.2.1
      have p7 := (H2.out.cell 7).trans HD.out.2.2.1
      have p8 := (H2.out.cell 8).trans HD.out.2.2.2.1
      have p9 := (H2.out.cell 9).trans HD.out.2.2.2.2
      have f5 := H2.out.frozen 5
      have f6 := H2.out.frozen 6
      have f7 := H2.out.frozen 7
      have f8 := H2.out.frozen 8
      have f9 := H2.out.frozen 9
      have p0 := H3.out.cell 0
      have f0 := H3.out.frozen 0
      refine held_call 16 rfl (by kernel_rfl) (by rfl) (fun K hK => ?_)
      go_simp
      refine hK _ _ (⟨((((((H1.out.far (p := ⟨b2, 5, none⟩) d12 (.string la)).far (p := ⟨b2, 6, none⟩) d12 (.int .i64 v.kind)).far (p := ⟨b2, 7, none⟩) d12 (.int .i64 v.n)).far (p := ⟨b2, 8, none⟩) d12 (.string v.s)).far (p := ⟨b2, 9, none⟩) d12 (.slice A v.l.length c)).drew.cell 5).trans HC.out.1, ((((((H1.out.far (p := ⟨b2, 5, none⟩) d12 (.string la)).far (p := ⟨b2, 6, none⟩) d12 (.int .i64 v.kind)).far (p := ⟨b2, 7, none⟩) d12 (.int .i64 v.n)).far (p := ⟨b2, 8, none⟩) d12 (.string v.s)).far (p := ⟨b2, 9, none⟩) d12 (.slice A v.l.length c)).drew.cell 6).trans HC.out.2.1, ((((((H1.out.far (p := ⟨b2, 5, none⟩) d12 (.string la)).far (p := ⟨b2, 6, none⟩) d12 (.int .i64 v.kind)).far (p := ⟨b2, 7, none⟩) d12 (.int .i64 v.n)).far (p := ⟨b2, 8, none⟩) d12 (.string v.s)).far (p := ⟨b2, 9, none⟩) d12 (.slice A v.l.length c)).drew.cell 7).trans HC.out.2.2.1, ((((((H1.out.far (p := ⟨b2, 5, none⟩) d12 (.string la)).far (p := ⟨b2, 6, none⟩) d12 (.int .i64 v.kind)).far (p := ⟨b2, 7, none⟩) d12 (.int .i64 v.n)).far (p := ⟨b2, 8, none⟩) d12 (.string v.s)).far (p := ⟨b2, 9, none⟩) d12 (.slice A v.l.length c)).drew.cell 8).trans HC.out.2.2.2.1, ((((((H1.out.far (p := ⟨b2, 5, none⟩) d12 (.string la)).far (p := ⟨b2, 6, none⟩) d12 (.int .i64 v.kind)).far (p := ⟨b2, 7, none⟩) d12 (.int .i64 v.n)).far (p := ⟨b2, 8, none⟩) d12 (.string v.s)).far (p := ⟨b2, 9, none⟩) d12 (.slice A v.l.length c)).drew.cell 9).trans HC.out.2.2.2.2⟩) ?_
      clear hK K
      try simp only [Act.put, List.setIfInBounds_toArray, List.set_cons_zero, List.set_cons_succ]
      have z3 := ((((((H3.out.far (p := ⟨b2, 5, none⟩) (Ne.symm d23) (.string la)).far (p := ⟨b2, 6, none⟩) (Ne.symm d23) (.int .i64 v.kind)).far (p := ⟨b2, 7, none⟩) (Ne.symm d23) (.int .i64 v.n)).far (p := ⟨b2, 8, none⟩) (Ne.symm d23) (.string v.s)).far (p := ⟨b2, 9, none⟩) (Ne.symm d23) (.slice A v.l.length c)).cell 0)
      have zf := ((((((H3.out.far (p := ⟨b2, 5, none⟩) (Ne.symm d23) (.string la)).far (p := ⟨b2, 6, none⟩) (Ne.symm d23) (.int .i64 v.kind)).far (p := ⟨b2, 7, none⟩) (Ne.symm d23) (.int .i64 v.n)).far (p := ⟨b2, 8, none⟩) (Ne.symm d23) (.string v.s)).far (p := ⟨b2, 9, none⟩) (Ne.symm d23) (.slice A v.l.length c)).frozen 0)
      refine held_call 17 rfl (by kernel_rfl) (by rfl) (fun K hK => ?_)
      go_simp
      refine hK _ _ (⟨(((((((H1.out.far (p := ⟨b2, 5, none⟩) d12 (.string la)).far (p := ⟨b2, 6, none⟩) d12 (.int .i64 v.kind)).far (p := ⟨b2, 7, none⟩) d12 (.int .i64 v.n)).far (p := ⟨b2, 8, none⟩) d12 (.string v.s)).far (p := ⟨b2, 9, none⟩) d12 (.slice A v.l.length c)).far (p := ⟨b3, 0, none⟩) d13 (.bool false)).drew.cell 5).trans HC.out.1, (((((((H1.out.far (p := ⟨b2, 5, none⟩) d12 (.string la)).far (p := ⟨b2, 6, none⟩) d12 (.int .i64 v.kind)).far (p := ⟨b2, 7, none⟩) d12 (.int .i64 v.n)).far (p := ⟨b2, 8, none⟩) d12 (.string v.s)).far (p := ⟨b2, 9, none⟩) d12 (.slice A v.l.length c)).far (p := ⟨b3, 0, none⟩) d13 (.bool false)).drew.cell 6).trans HC.out.2.1, (((((((H1.out.far (p := ⟨b2, 5, none⟩) d12 (.string la)).far (p := ⟨b2, 6, none⟩) d12 (.int .i64 v.kind)).far (p := ⟨b2, 7, none⟩) d12 (.int .i64 v.n)).far (p := ⟨b2, 8, none⟩) d12 (.string v.s)).far (p := ⟨b2, 9, none⟩) d12 (.slice A v.l.length c)).far (p := ⟨b3, 0, none⟩) d13 (.bool false)).drew.cell 7).trans HC.out.2.2.1, (((((((H1.out.far (p := ⟨b2, 5, none⟩) d12 (.string la)).far (p := ⟨b2, 6, none⟩) d12 (.int .i64 v.kind)).far (p := ⟨b2, 7, none⟩) d12 (.int .i64 v.n)).far (p := ⟨b2, 8, none⟩) d12 (.string v.s)).far (p := ⟨b2, 9, none⟩) d12 (.slice A v.l.length c)).far (p := ⟨b3, 0, none⟩) d13 (.bool false)).drew.cell 8).trans HC.out.2.2.2.1, (((((((H1.out.far (p := ⟨b2, 5, none⟩) d12 (.string la)).far (p := ⟨b2, 6, none⟩) d12 (.int .i64 v.kind)).far (p := ⟨b2, 7, none⟩) d12 (.int .i64 v.n)).far (p := ⟨b2, 8, none⟩) d12 (.string v.s)).far (p := ⟨b2, 9, none⟩) d12 (.slice A v.l.length c)).far (p := ⟨b3, 0, none⟩) d13 (.bool false)).drew.cell 9).trans HC.out.2.2.2.2⟩) ?_
      clear hK K
      try simp only [Act.put, List.setIfInBounds_toArray, List.set_cons_zero, List.set_cons_succ]
      refine wpAnyH_done (by kernel_rfl) ?_ _
      refine NoPanic.normal ?_
      go_wp2_with fail
      go_end0
      refine ⟨rfl, ((((((H1.out.far (p := ⟨b2, 5, none⟩) d12 (.string la)).far (p := ⟨b2, 6, none⟩) d12 (.int .i64 v.kind)).far (p := ⟨b2, 7, none⟩) d12 (.int .i64 v.n)).far (p := ⟨b2, 8, none⟩) d12 (.string v.s)).far (p := ⟨b2, 9, none⟩) d12 (.slice A v.l.length c)).far (p := ⟨b3, 0, none⟩) d13 _).drew, ((((((H2.out.set_ 5 (.string la)).set_ 6 (.int .i64 v.kind)).set_ 7 (.int .i64 v.n)).set_ 8 (.string v.s)).set_ 9 (.slice A v.l.length c)).far (p := ⟨b3, 0, none⟩) d23 _).drew, ?_, (((((((Below.refl n w).setCell (p := ⟨b2, 5, none⟩) n2 (.string la)).setCell (p := ⟨b2, 6, none⟩) n2 (.int .i64 v.kind)).setCell (p := ⟨b2, 7, none⟩) n2 (.int .i64 v.n)).setCell (p := ⟨b2, 8, none⟩) n2 (.string v.s)).setCell (p := ⟨b2, 9, none⟩) n2 (.slice A v.l.length c)).setCell (p := ⟨b3, 0, none⟩) n3 _).drew⟩
      exact ((((((H3.out.far (p := ⟨b2, 5, none⟩) (Ne.symm d23) (.string la)).far (p := ⟨b2, 6, none⟩) (Ne.symm d23) (.int .i64 v.kind)).far (p := ⟨b2, 7, none⟩) (Ne.symm d23) (.int .i64 v.n)).far (p := ⟨b2, 8, none⟩) (Ne.symm d23) (.string v.s)).far (p := ⟨b2, 9, none⟩) (Ne.symm d23) (.slice A v.l.length c)).set_ 0 (.bool false)).drew
    · rw [hnn] at CN
      go_enter Try.func35, Try.ntmps35
      go_upto_region 0 with fail
      refine wp_region_noPanic ?_
      refine wp_region_held_drew (S := fun W => W.cell? ⟨b1, 5, none⟩ = some (.string la) ∧ W.cell? ⟨b1, 6, none⟩ = some (.int .i64 v.kind) ∧ W.cell? ⟨b1, 7, none⟩ = some (.int .i64 v.n) ∧ W.cell? ⟨b1, 8, none⟩ = some (.string v.s) ∧ W.cell? ⟨b1, 9, none⟩ = some (.slice A v.l.length c)) (by kernel_rfl) ⟨x5, x6, x7, x8, x9⟩ (fun hHeld => ?_)
      refine held_take (v := ?v59) 0 rfl (by kernel_rfl) (by kernel_rfl) (by kernel_rfl) (fun _ _ _ h => h) (by rfl) ?hy59 (by assumption) ?rest59
      case hy59 => (intro w hSw; (try dsimp only at hSw); go_simp; try with_reducible rfl)
      simp only [Act.put, List.setIfInBounds_toArray, List.set_cons_zero, List.set_cons_succ]
      refine held_take (v := ?v60) 1 rfl (by kernel_rfl) (by kernel_rfl) (by kernel_rfl) (fun _ _ _ h => h) (by rfl) ?hy60 (by assumption) ?rest60
      case hy60 => (intro w hSw; (try dsimp only at hSw); go_simp; try with_reducible rfl)
      simp only [Act.put, List.setIfInBounds_toArray, List.set_cons_zero, List.set_cons_succ]
      refine held_take (v := ?v61) 15 rfl (by kernel_rfl) (by kernel_rfl) (by kernel_rfl) (fun _ _ _ h => h) (by rfl) ?hy61 (by assumption) ?rest61
      case hy61 => (intro w hSw; (try dsimp only at hSw); go_simp; try with_reducible rfl)
      simp only [Act.put, List.setIfInBounds_toArray, List.set_cons_zero, List.set_cons_succ]
      refine held_call 2 rfl (by kernel_rfl) (by rfl) (fun K hK => ?_)
      go_simp
      refine hK _ _ (by assumption) ?_
      clear hK K
      try simp only [Act.put, List.setIfInBounds_toArray, List.set_cons_zero, List.set_cons_succ]
      refine held_take (v := ?v63) 3 rfl (by kernel_rfl) (by kernel_rfl) (by kernel_rfl) (fun _ _ _ h => h) (by rfl) ?hy63 (by assumption) ?rest63
      case hy63 => (intro w hSw; (try dsimp only at hSw); go_simp; try with_reducible rfl)
      simp only [Act.put, List.setIfInBounds_toArray, List.set_cons_zero, List.set_cons_succ]
      refine held_take (v := ?v64) 4 rfl (by kernel_rfl) (by kernel_rfl) (by kernel_rfl) (fun _ _ _ h => h) (by rfl) ?hy64 (by assumption) ?rest64
      case hy64 => (intro w hSw; (try dsimp only at hSw); go_simp; try with_reducible rfl)
      simp only [Act.put, List.setIfInBounds_toArray, List.set_cons_zero, List.set_cons_succ]
      refine held_take (v := ?v65) 5 rfl (by kernel_rfl) (by kernel_rfl) (by kernel_rfl) (fun _ _ _ h => h) (by rfl) ?hy65 (by assumption) ?rest65
      case hy65 => (intro w hSw; (try dsimp only at hSw); go_simp; try with_reducible rfl)
      simp only [Act.put, List.setIfInBounds_toArray, List.set_cons_zero, List.set_cons_succ]
      refine held_take (v := ?v66) 6 rfl (by kernel_rfl) (by kernel_rfl) (by kernel_rfl) (fun _ _ _ h => h) (by rfl) ?hy66 (by assumption) ?rest66
      case hy66 => (intro w hSw; (try dsimp only at hSw); go_simp; try with_reducible rfl)
      simp only [Act.put, List.setIfInBounds_toArray, List.set_cons_zero, List.set_cons_succ]
      refine held_call 7 rfl (by kernel_rfl) (by rfl) (fun K hK => ?_)
      go_simp
      go_at_call 34
      refine (CN.out _).mono ?_
      rintro e w' ⟨rfl, rfl⟩
      go_simp
      refine hK _ _ (by assumption) ?_
      clear hK K
      try simp only [Act.put, List.setIfInBounds_toArray, List.set_cons_zero, List.set_cons_succ]
      refine held_take (v := ?v68) 8 rfl (by kernel_rfl) (by kernel_rfl) (by kernel_rfl) (fun _ _ _ h => h) (by rfl) ?hy68 (by assumption) ?rest68
      case hy68 => (intro w hSw; (try dsimp only at hSw); go_simp; try with_reducible rfl)
      simp only [Act.put, List.setIfInBounds_toArray, List.set_cons_zero, List.set_cons_succ]
      refine held_take (v := ?v69) 9 rfl (by kernel_rfl) (by kernel_rfl) (by kernel_rfl) (fun _ _ _ h => h) (by rfl) ?hy69 (by assumption) ?rest69
      case hy69 => (intro w hSw; (try dsimp only at hSw); go_simp; try with_reducible rfl)
      simp only [Act.put, List.setIfInBounds_toArray, List.set_cons_zero, List.set_cons_succ]
      refine held_take (v := ?v70) 10 rfl (by kernel_rfl) (by kernel_rfl) (by kernel_rfl) (fun _ _ _ h => h) (by rfl) ?hy70 (by assumption) ?rest70
      case hy70 => (intro w hSw; (try dsimp only at hSw); go_simp; try with_reducible rfl)
      simp only [Act.put, List.setIfInBounds_toArray, List.set_cons_zero, List.set_cons_succ]
      refine held_take (v := ?v71) 11 rfl (by kernel_rfl) (by kernel_rfl) (by kernel_rfl) (fun _ _ _ h => h) (by rfl) ?hy71 (by assumption) ?rest71
      case hy71 => (intro w hSw; (try dsimp only at hSw); go_simp; try with_reducible rfl)
      simp only [Act.put, List.setIfInBounds_toArray, List.set_cons_zero, List.set_cons_succ]
      refine held_take (v := ?v72) 12 rfl (by kernel_rfl) (by kernel_rfl) (by kernel_rfl) (fun _ _ _ h => h) (by rfl) ?hy72 (by assumption) ?rest72
      case hy72 => (intro w hSw; (try dsimp only at hSw); go_simp; try with_reducible rfl)
      simp only [Act.put, List.setIfInBounds_toArray, List.set_cons_zero, List.set_cons_succ]
      refine held_call 13 rfl (by kernel_rfl) (by rfl) (fun K hK => ?_)
      go_simp
      go_at_call 36
      refine (dataMay_any _ _ _ _ _ _ _).mono ?_
      rintro e wf ⟨rfl, hbf⟩
      go_simp
      refine hK _ _ (⟨((H1.out.drew.belowS hbf).cell 5).trans HC.out.1, ((H1.out.drew.belowS hbf).cell 6).trans HC.out.2.1, ((H1.out.drew.belowS hbf).cell 7).trans HC.out.2.2.1, ((H1.out.drew.belowS hbf).cell 8).trans HC.out.2.2.2.1, ((H1.out.drew.belowS hbf).cell 9).trans HC.out.2.2.2.2⟩) ?_
      clear hK K
      try simp only [Act.put, List.setIfInBounds_toArray, List.set_cons_zero, List.set_cons_succ]
      have hHeld2 : wf.cell? ⟨b1, 5, none⟩ = some (.string la) ∧ wf.cell? ⟨b1, 6, none⟩ = some (.int .i64 v.kind) ∧ wf.cell? ⟨b1, 7, none⟩ = some (.int .i64 v.n) ∧ wf.cell? ⟨b1, 8, none⟩ = some (.string v.s) ∧ wf.cell? ⟨b1, 9, none⟩ = some (.slice A v.l.length c) := ⟨((H1.out.drew.belowS hbf).cell 5).trans HC.out.1, ((H1.out.drew.belowS hbf).cell 6).trans HC.out.2.1, ((H1.out.drew.belowS hbf).cell 7).trans HC.out.2.2.1, ((H1.out.drew.belowS hbf).cell 8).trans HC.out.2.2.2.1, ((H1.out.drew.belowS hbf).cell 9).trans HC.out.2.2.2.2⟩
      have p5 := ((H2.out.drew.belowS hbf).cell 5).trans HD.out.1
      have p6 := ((H2.out.drew.belowS hbf).cell 6).trans HD.out.2.1
      have p7 := ((H2.out.drew.belowS hbf).cell 7).trans HD.out.2.2.1
      have p8 := ((H2.out.drew.belowS hbf).cell 8).trans HD.out.2.2.2.1
      have p9 := ((H2.out.drew.belowS hbf).cell 9).trans HD.out.2.2.2.2
      have f5 := (H2.out.drew.belowS hbf).frozen 5
      have f6 := (H2.out.drew.belowS hbf).frozen 6
      have f7 := (H2.out.drew.belowS hbf).frozen 7
      have f8 := (H2.out.drew.belowS hbf).frozen 8
      have f9 := (H2.out.drew.belowS hbf).frozen 9
      have p0 := (H3.out.drew.belowS hbf).cell 0
      have f0 := (H3.out.drew.belowS hbf).frozen 0
      refine held_take (v := ?v74) 14 rfl (by kernel_rfl) (by kernel_rfl) (by kernel_rfl) (fun _ _ _ h => h) (by rfl) ?hy74 (by assumption) ?rest74
      case hy74 => (intro w hSw; (try dsimp only at hSw); go_simp; try with_reducible rfl)
      simp only [Act.put, List.setIfInBounds_toArray, List.set_cons_zero, List.set_cons_succ]
      refine held_call 16 rfl (by kernel_rfl) (by rfl) (fun K hK => ?_)
      go_simp
      refine hK _ _ (⟨(((((((H1.out.drew.belowS hbf).far (p := ⟨b2, 5, none⟩) d12 (.string la)).far (p := ⟨b2, 6, none⟩) d12 (.int .i64 v.kind)).far (p := ⟨b2, 7, none⟩) d12 (.int .i64 v.n)).far (p := ⟨b2, 8, none⟩) d12 (.string v.s)).far (p := ⟨b2, 9, none⟩) d12 (.slice A v.l.length c)).cell 5).trans HC.out.1, (((((((H1.out.drew.belowS hbf).far (p := ⟨b2, 5, none⟩) d12 (.string la)).far (p := ⟨b2, 6, none⟩) d12 (.int .i64 v.kind)).far (p := ⟨b2, 7, none⟩) d12 (.int .i64 v.n)).far (p := ⟨b2, 8, none⟩) d12 (.string v.s)).far (p := ⟨b2, 9, none⟩) d12 (.slice A v.l.length c)).cell 6).trans HC.out.2.1, (((((((H1.out.drew.belowS hbf).far (p := ⟨b2, 5, none⟩) d12 (.string la)).far (p := ⟨b2, 6, none⟩) d12 (.int .i64 v.kind)).far (p := ⟨b2, 7, none⟩) d12 (.int .i64 v.n)).far (p := ⟨b2, 8, none⟩) d12 (.string v.s)).far (p := ⟨b2, 9, none⟩) d12 (.slice A v.l.length c)).cell 7).trans HC.out.2.2.1, (((((((H1.out.drew.belowS hbf).far (p := ⟨b2, 5, none⟩) d12 (.string la)).far (p := ⟨b2, 6, none⟩) d12 (.int .i64 v.kind)).far (p := ⟨b2, 7, none⟩) d12 (.int .i64 v.n)).far (p := ⟨b2, 8, none⟩) d12 (.string v.s)).far (p := ⟨b2, 9, none⟩) d12 (.slice A v.l.length c)).cell 8).trans HC.out.2.2.2.1, (((((((H1.out.drew.belowS hbf).far (p := ⟨b2, 5, none⟩) d12 (.string la)).far (p := ⟨b2, 6, none⟩) d12 (.int .i64 v.kind)).far (p := ⟨b2, 7, none⟩) d12 (.int .i64 v.n)).far (p := ⟨b2, 8, none⟩) d12 (.string v.s)).far (p := ⟨b2, 9, none⟩) d12 (.slice A v.l.length c)).cell 9).trans HC.out.2.2.2.2⟩) ?_
      clear hK K
      try simp only [Act.put, List.setIfInBounds_toArray, List.set_cons_zero, List.set_cons_succ]
      have z3 := (((((((H3.out.drew.belowS hbf).far (p := ⟨b2, 5, none⟩) (Ne.symm d23) (.string la)).far (p := ⟨b2, 6, none⟩) (Ne.symm d23) (.int .i64 v.kind)).far (p := ⟨b2, 7, none⟩) (Ne.symm d23) (.int .i64 v.n)).far (p := ⟨b2, 8, none⟩) (Ne.symm d23) (.string v.s)).far (p := ⟨b2, 9, none⟩) (Ne.symm d23) (.slice A v.l.length c)).cell 0)
      have zf := (((((((H3.out.drew.belowS hbf).far (p := ⟨b2, 5, none⟩) (Ne.symm d23) (.string la)).far (p := ⟨b2, 6, none⟩) (Ne.symm d23) (.int .i64 v.kind)).far (p := ⟨b2, 7, none⟩) (Ne.symm d23) (.int .i64 v.n)).far (p := ⟨b2, 8, none⟩) (Ne.symm d23) (.string v.s)).far (p := ⟨b2, 9, none⟩) (Ne.symm d23) (.slice A v.l.length c)).frozen 0)
      refine held_call 17 rfl (by kernel_rfl) (by rfl) (fun K hK => ?_)
      go_simp
      refine hK _ _ (⟨((((((((H1.out.drew.belowS hbf).far (p := ⟨b2, 5, none⟩) d12 (.string la)).far (p := ⟨b2, 6, none⟩) d12 (.int .i64 v.kind)).far (p := ⟨b2, 7, none⟩) d12 (.int .i64 v.n)).far (p := ⟨b2, 8, none⟩) d12 (.string v.s)).far (p := ⟨b2, 9, none⟩) d12 (.slice A v.l.length c)).far (p := ⟨b3, 0, none⟩) d13 (.bool (dataF v.kind v.n v.s v.l.length))).cell 5).trans HC.out.1, ((((((((H1.out.drew.belowS hbf).far (p := ⟨b2, 5, none⟩) d12 (.string la)).far (p := ⟨b2, 6, none⟩) d12 (.int .i64 v.kind)).far (p := ⟨b2, 7, none⟩) d12 (.int .i64 v.n)).far (p := ⟨b2, 8, none⟩) d12 (.string v.s)).far (p := ⟨b2, 9, none⟩) d12 (.slice A v.l.length c)).far (p := ⟨b3, 0, none⟩) d13 (.bool (dataF v.kind v.n v.s v.l.length))).cell 6).trans HC.out.2.1, ((((((((H1.out.drew.belowS hbf).far (p := ⟨b2, 5, none⟩) d12 (.string la)).far (p := ⟨b2, 6, none⟩) d12 (.int .i64 v.kind)).far (p := ⟨b2, 7, none⟩) d12 (.int .i64 v.n)).far (p := ⟨b2, 8, none⟩) d12 (.string v.s)).far (p := ⟨b2, 9, none⟩) d12 (.slice A v.l.length c)).far (p := ⟨b3, 0, none⟩) d13 (.bool (dataF v.kind v.n v.s v.l.length))).cell 7).trans HC.out.2.2.1, ((((((((H1.out.drew.belowS hbf).far (p := ⟨b2, 5, none⟩) d12 (.string la)).far (p := ⟨b2, 6, none⟩) d12 (.int .i64 v.kind)).far (p := ⟨b2, 7, none⟩) d12 (.int .i64 v.n)).far (p := ⟨b2, 8, none⟩) d12 (.string v.s)).far (p := ⟨b2, 9, none⟩) d12 (.slice A v.l.length c)).far (p := ⟨b3, 0, none⟩) d13 (.bool (dataF v.kind v.n v.s v.l.length))).cell 8).trans HC.out.2.2.2.1, ((((((((H1.out.drew.belowS hbf).far (p := ⟨b2, 5, none⟩) d12 (.string la)).far (p := ⟨b2, 6, none⟩) d12 (.int .i64 v.kind)).far (p := ⟨b2, 7, none⟩) d12 (.int .i64 v.n)).far (p := ⟨b2, 8, none⟩) d12 (.string v.s)).far (p := ⟨b2, 9, none⟩) d12 (.slice A v.l.length c)).far (p := ⟨b3, 0, none⟩) d13 (.bool (dataF v.kind v.n v.s v.l.length))).cell 9).trans HC.out.2.2.2.2⟩) ?_
      clear hK K
      try simp only [Act.put, List.setIfInBounds_toArray, List.set_cons_zero, List.set_cons_succ]
      refine wpAnyH_done (by kernel_rfl) ?_ _
      refine NoPanic.normal ?_
      go_wp2_with fail
      go_end0
      refine ⟨rfl, (((((((H1.out.drew.belowS hbf).far (p := ⟨b2, 5, none⟩) d12 (.string la)).far (p := ⟨b2, 6, none⟩) d12 (.int .i64 v.kind)).far (p := ⟨b2, 7, none⟩) d12 (.int .i64 v.n)).far (p := ⟨b2, 8, none⟩) d12 (.string v.s)).far (p := ⟨b2, 9, none⟩) d12 (.slice A v.l.length c)).far (p := ⟨b3, 0, none⟩) d13 _), (((((((H2.out.drew.belowS hbf).set_ 5 (.string la)).set_ 6 (.int .i64 v.kind)).set_ 7 (.int .i64 v.n)).set_ 8 (.string v.s)).set_ 9 (.slice A v.l.length c)).far (p := ⟨b3, 0, none⟩) d23 _), ?_, (((((((((Below.refl n w).drew).trans (hbf.mono hn)).setCell (p := ⟨b2, 5, none⟩) n2 (.string la)).setCell (p := ⟨b2, 6, none⟩) n2 (.int .i64 v.kind)).setCell (p := ⟨b2, 7, none⟩) n2 (.int .i64 v.n)).setCell (p := ⟨b2, 8, none⟩) n2 (.string v.s)).setCell (p := ⟨b2, 9, none⟩) n2 (.slice A v.l.length c)).setCell (p := ⟨b3, 0, none⟩) n3 _)⟩
      exact (((((((H3.out.drew.belowS hbf).far (p := ⟨b2, 5, none⟩) (Ne.symm d23) (.string la)).far (p := ⟨b2, 6, none⟩) (Ne.symm d23) (.int .i64 v.kind)).far (p := ⟨b2, 7, none⟩) (Ne.symm d23) (.int .i64 v.n)).far (p := ⟨b2, 8, none⟩) (Ne.symm d23) (.string v.s)).far (p := ⟨b2, 9, none⟩) (Ne.symm d23) (.slice A v.l.length c)).set_ 0 (.bool (dataF v.kind v.n v.s v.l.length)))
end Go.Proofs.Ytfaophiaiflecaa
