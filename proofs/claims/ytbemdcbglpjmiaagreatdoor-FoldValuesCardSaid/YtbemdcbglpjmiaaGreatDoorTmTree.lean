/- Contracts: reparteeref1.tree, reparteeref1.TermMay. -/
import Derived.Test.YtbemdcbglpjmiaaGreatDoorTmOps
import Derived.Test.YtbemdcbglpjmiaaGreatDoorTmRow
import Derived.LoopN
namespace Go.Proofs.YtbemdcbglpjmiaaGreatDoor
open Go.RowKit

theorem infoInt : (Tryz.prog.info? 3).map (fun i => (i.zero, i.size, i.bytes)) = some (some (.int .i64 0), 1, 8) := by kernel_rfl
theorem run_nums (w : World) (n : Nat) (hn : n ≤ 1000000) :
    (Instr.makeSlice 60 (.int .i64 n) (.int .i64 n)).run Tryz.prog w = .ok (.slice (some ⟨w.heap.size, 0, none⟩) n n) (w.alloc (.cells (nums n fun _ => 0) 3)) := by
  obtain ⟨i0, hi0, hz0, hz1, hz2⟩ := info_parts infoInt
  have h := run_make (P := Tryz.prog) w 60 3 i0 _ Tryz.underlying60 hi0 hz0 .i64 .i64 n n (by omega) (by omega) (by rw [hz2]; omega) (by omega)
  rw [h]
  simp only [Int.toNat_natCast, hz1, Nat.mul_one]
  rw [nums_zero]
  have e : madeCells (Value.int .i64 0).cells n = Array.replicate n (.int .i64 0) := by
    apply Array.toList_inj.1
    rw [show (Value.int .i64 0).cells = #[.int .i64 0] from rfl, toList_madeCells_one, Array.toList_replicate]
  rw [e]
section
variable {l : List Tm} {i : Nat} {dp : Nat → Nat} {t : Tm}
theorem sweep_zero (h : dp i = 0) : Tm.sweep (kidsF l) 24 (i + 1) dp = Tm.sweep (kidsF l) 24 i dp := by rw [Tm.sweep, if_pos h]
theorem sweep_deep (h : ¬ dp i = 0) (h2 : 24 < dp i) : Tm.sweep (kidsF l) 24 (i + 1) dp = false := by rw [Tm.sweep, if_neg h, if_pos h2]
theorem sweep_none (h : ¬ dp i = 0) (h2 : kidsF l i = none) : Tm.sweep (kidsF l) 24 (i + 1) dp = false := by
  rw [Tm.sweep, if_neg h]
  split
  · rfl
  · rw [h2]
theorem sweep_some (h : ¬ dp i = 0) (h2 : ¬ 24 < dp i) {cs : List Nat} (h3 : kidsF l i = some cs) : Tm.sweep (kidsF l) 24 (i + 1) dp = match Tm.mark (dp i + 1) cs dp with
    | none => false
    | some dp' => Tm.sweep (kidsF l) 24 i dp' := by rw [Tm.sweep, if_neg h, if_neg h2, h3]; rfl
theorem alone_not (h : aloneF t = false) : arF t.kind < 0 ∨ (arF t.kind < 2 ∧ t.r ≠ -1) ∨ (arF t.kind < 1 ∧ t.l ≠ -1) ∨ fldF t = false := by
  unfold aloneF at h
  cases hq : fldF t with
  | false => exact .inr (.inr (.inr rfl))
  | true =>
    rw [hq] at h
    simp only [Bool.and_true, Bool.and_eq_false_iff, Bool.or_eq_false_iff, decide_eq_false_iff_not] at h
    omega
theorem alone_is (h : aloneF t = true) : 0 ≤ arF t.kind ∧ (2 ≤ arF t.kind ∨ t.r = -1) ∧ (1 ≤ arF t.kind ∨ t.l = -1) ∧ fldF t = true := by
  unfold aloneF at h
  simp only [Bool.and_eq_true, Bool.or_eq_true, decide_eq_true_iff] at h
  obtain ⟨⟨⟨h1, h2⟩, h3⟩, h4⟩ := h
  exact ⟨h1, h2, h3, h4⟩
theorem kids_alone (ht : l[i]? = some t) (h : aloneF t = false) : kidsF l i = none := by
  have h' := alone_not h
  unfold kidsF
  rw [ht]
  simp only
  split
  · rfl
  · rename_i hn
    have hf : fldF t ≠ false := fun q => hn (.inr q)
    have hg : ¬ arF t.kind < 0 := fun q => hn (.inl q)
    have ha := ar_cases t.kind
    rcases h' with h' | h' | h' | h'
    · exact absurd h' hg
    · repeat' split
      all_goals first
        | rfl
        | (exfalso; omega)
    · repeat' split
      all_goals first
        | rfl
        | (exfalso; omega)
    · exact absurd h' hf
theorem alone_kids (ht : l[i]? = some t) (h : aloneF t = true) : kidsF l i = if arF t.kind = 0 then some []
    else if arF t.kind = 1 then (if 0 ≤ t.l ∧ t.l < i then some [t.l.toNat] else none)
    else (if 0 ≤ t.l ∧ t.l < i ∧ 0 ≤ t.r ∧ t.r < i then some [t.l.toNat, t.r.toNat] else none) := by
  obtain ⟨h1, h2, h3, h4⟩ := alone_is h
  unfold kidsF
  rw [ht]
  simp only
  rw [if_neg (by rw [h4]; simp; omega)]
  repeat' split
  all_goals first
    | rfl
    | (exfalso; omega)
end
theorem nums_upd {w : World} {g n c d : Nat} {dp : Nat → Nat} {t : TypeId} (h : Blk w g (nums n dp) t) : Blk (w.setCell ⟨g, c, none⟩ (.int .i64 ((d : Int) + 1))) g (nums n (Tm.upd dp c (d + 1))) t := by
  have := h.set_ c (.int .i64 ((d + 1 : Nat) : Int))
  rw [nums_set] at this
  exact this
def TreePost (l : List Tm) (root : Int) (w : World) (e : Ending) (w' : World) : Prop := (∃ v, e = .returned (.tuple #[v, .bool (tmF l root)])) ∧ Below w.heap.size w w'
set_option maxRecDepth 100000 in
set_option maxHeartbeats 8000000 in
theorem tree_any (l : List Tm) (A : Option Addr) (c : Nat) (root : Int) (w : World) (hr : Tms w A l) (hl : l.length ≤ 1000000) :
    Calls Tryz.prog 29 #[.slice A l.length c, .int .i64 root] w (TreePost l root w) := by
  by_cases h1 : 160 < l.length
  · have e1 : decide ((160 : Int) < (l.length : Int)) = true := decide_eq_true (by omega)
    have HR := Lib.hid h1
    clear h1
    go_enter Tryz.func29, Tryz.ntmps29
    go_wp2_with fail
    go_ret2
    refine ⟨⟨.slice none 0 0, ?_⟩, Below.refl _ _⟩
    unfold tmF
    rw [decide_eq_false (by have := HR.out; omega)]
    rfl
  have e1 : decide ((160 : Int) < (l.length : Int)) = false := decide_eq_false (by omega)
  by_cases h2 : root < 0
  · have e2 : decide (root < 0) = true := decide_eq_true (by omega)
    have HR := Lib.hid h2
    clear h2
    go_enter Tryz.func29, Tryz.ntmps29
    go_wp2_with fail
    go_ret2
    refine ⟨⟨.slice none 0 0, ?_⟩, Below.refl _ _⟩
    unfold tmF
    rw [decide_eq_false (by have := HR.out; omega)]
    rfl
  obtain ⟨r, rfl⟩ : ∃ r : Nat, root = r := ⟨root.toNat, by omega⟩
  have e2 : decide ((r : Int) < 0) = false := decide_eq_false h2
  by_cases h3 : l.length ≤ r
  · have e3 : decide (l.length ≤ r) = true := decide_eq_true (by omega)
    have HR := Lib.hid h3
    clear h3
    go_enter Tryz.func29, Tryz.ntmps29
    go_wp2_with fail
    go_ret2
    refine ⟨⟨.slice none 0 0, ?_⟩, Below.refl _ _⟩
    unfold tmF
    rw [decide_eq_false (by have := HR.out; omega)]
    rfl
  have e3 : decide (l.length ≤ r) = false := decide_eq_false (by omega)
  have hrl : r < l.length := by omega
  have hmk := run_nums w l.length hl
  have HT : Hid (tmF l r = Tm.sweep (kidsF l) 24 (r + 1) (fun j => if j = r then 1 else 0)) := Lib.hid (by
    rw [tm_sweep, decide_eq_true (by omega)]
    rfl)
  clear h1 h2 h3
  have x1 : (w.alloc (.cells (nums l.length fun _ => 0) 3)).cell? ⟨w.heap.size, r, none⟩ = some (.int .i64 0) := ((Blk.new w _ _).cell r).trans (nums_get hrl)
  have x2 : (w.alloc (.cells (nums l.length fun _ => 0) 3)).frozen? ⟨w.heap.size, r, none⟩ = false := (Blk.new w _ _).frozen r
  have hs : (nums l.length fun _ => 0).setIfInBounds r (.int .i64 1) = nums l.length (fun j => if j = r then 1 else 0) := nums_set (v := 1)
  have HS := Lib.hid hs
  have HR := Lib.hid hr
  clear hs hr
  go_enter Tryz.func29, Tryz.ntmps29
  go_wp2_with fail
  clear x1 x2 hmk e1 e2 e3
  rw [HS.out]
  go_loopw [7] (fun i wr => ∃ (k : Nat) (x : Int) (dp : Nat → Nat), k ≤ l.length ∧ i = .int .i64 x ∧ x + 1 = k ∧ Hid (Blk wr w.heap.size (nums l.length dp) 3) ∧ Hid (Below w.heap.size w wr) ∧ Hid (tmF l r = Tm.sweep (kidsF l) 24 k dp)) (fun i _ => (intOf i + 1).toNat)
  case atStart => exact ⟨r + 1, r, _, by omega, rfl, by omega, Lib.hid (Blk.new w _ _), Lib.hid ((Below.refl _ w).alloc (Nat.le_refl _) _), HT⟩
  case round =>
    obtain ⟨k, x, dp, hk, rfl, hx, HG, HB, HS⟩ := hrel
    rcases k with _ | j
    · obtain rfl : x = -1 := by omega
      go_wp2_with fail
      go_ret2
      exact ⟨⟨_, by rw [HS.out]; rfl⟩, HB.out⟩
    obtain rfl : x = (j : Int) := by omega
    clear hx
    have x1 : wr.cell? ⟨w.heap.size, j, none⟩ = some (.int .i64 (dp j : Nat)) := (HG.out.cell j).trans (nums_get (by omega))
    by_cases hd0 : dp j = 0
    · have e0 : (((dp j : Nat) : Int) == 0) = true := by simp [hd0]
      have HZ := Lib.hid hd0
      clear hd0
      go_wp2_with fail
      go_roundw
      case rel => exact ⟨j, _, dp, by omega, rfl, by omega, HG, HB, Lib.hid (by rw [HS.out, sweep_zero HZ.out])⟩
      case measure => simp [intOf]
    have e0 : (((dp j : Nat) : Int) == 0) = false := by simp [hd0]
    have HZ := Lib.hid hd0
    clear hd0
    obtain ⟨b, off, t, rfl, hb, ht, hc⟩ := (Tms.below HR.out HB.out).at_ (i := j) (by omega)
    obtain ⟨c0, c1, c2, c3, c4, c5⟩ := hc
    have HTT := Lib.hid ht
    clear ht
    have CA := Lib.hid (fun W => alone_any t.kind t.name t.n t.text t.l t.r W)
    go_wp2_with fail
    refine (CA.out _).mono ?_
    rintro e w1 ⟨rfl, hb1⟩
    clear c0 c1 c2 c3 c4 c5 x1
    have HB1 := Lib.hid (below_next HB.out hb1)
    have HG1 := Lib.hid (HG.out.belowS hb1)
    clear hb1
    obtain ⟨b', off', t', e', hb', ht', hc⟩ := (Tms.below HR.out HB1.out).at_ (i := j) (by omega)
    cases e'
    obtain rfl : t' = t := Option.some.inj (ht'.symm.trans HTT.out)
    obtain ⟨c0, _, _, _, c4, c5⟩ := hc
    clear ht' hb'
    have x1 : w1.cell? ⟨w.heap.size, j, none⟩ = some (.int .i64 (dp j : Nat)) := (HG1.out.cell j).trans (nums_get (by omega))
    rcases hal : aloneF t' with _ | _
    · have hal' : aloneF ⟨t'.kind, t'.name, t'.n, t'.text, t'.l, t'.r⟩ = false := hal
      have HA := Lib.hid hal
      clear hal
      go_wp2_with fail
      go_ret2
      exact ⟨⟨_, by rw [HS.out, sweep_none HZ.out (kids_alone HTT.out HA.out)]; rfl⟩, HB1.out⟩
    have hal' : aloneF ⟨t'.kind, t'.name, t'.n, t'.text, t'.l, t'.r⟩ = true := hal
    have HA := Lib.hid hal
    clear hal
    by_cases hd : 24 < dp j
    · have ed : decide ((24 : Int) < (dp j : Nat)) = true := decide_eq_true (by omega)
      have HD := Lib.hid hd
      clear hd
      go_wp2_with fail
      go_ret2
      exact ⟨⟨_, by rw [HS.out, sweep_deep HZ.out HD.out]; rfl⟩, HB1.out⟩
    have ed : decide ((24 : Int) < (dp j : Nat)) = false := decide_eq_false (by omega)
    have CR := Lib.hid (fun W => arity_any t'.kind W)
    have hq := alone_kids HTT.out HA.out
    have HQ := Lib.hid hq
    have hge := (alone_is HA.out).1
    clear hq
    go_wp2_with fail
    refine (CR.out _).mono ?_
    rintro e w1' ⟨rfl, rfl⟩
    clear hal' e0 ed
    have HGE := Lib.hid hge
    clear hge
    rcases ar_cases t'.kind with ha | ha | ha | ha
    · have := HGE.out; omega
    · rw [ha] at HQ ⊢
      clear ha
      go_wp2_with fail
      refine wp_loop_rounds 1 ?_
      rw [rounds_succ]
      go_wp2_with fail
      go_roundw
      case rel => exact ⟨j, _, dp, by omega, rfl, by omega, HG1, HB1, Lib.hid (by rw [HS.out, sweep_some HZ.out hd (by rw [HQ.out]; rfl)]; rfl)⟩
      case measure => simp [intOf]
    · have hx : True := trivial
      rw [ha] at HQ ⊢
      have HQ2 : Hid (kidsF l j = if 0 ≤ t'.l ∧ t'.l < j then some [t'.l.toNat] else none) := Lib.hid (by rw [HQ.out, if_neg (by omega), if_pos rfl])
      clear ha HQ
      go_wp2_with fail
      refine wp_loop_rounds 3 ?_
      rw [rounds_succ]
      by_cases hl0 : t'.l < 0
      · have e0 : decide (t'.l < 0) = true := decide_eq_true hl0
        have HL0 := Lib.hid hl0
        clear hl0
        go_wp2_with fail
        go_ret2
        exact ⟨⟨_, by rw [HS.out, sweep_none HZ.out (by rw [HQ2.out, if_neg (by have := HL0.out; omega)])]; rfl⟩, HB1.out⟩
      have e0 : decide (t'.l < 0) = false := decide_eq_false hl0
      by_cases hlj : (j : Int) ≤ t'.l
      · have e1 : decide ((j : Int) ≤ t'.l) = true := decide_eq_true hlj
        have HL0 := Lib.hid hlj
        clear hlj hl0
        go_wp2_with fail
        go_ret2
        exact ⟨⟨_, by rw [HS.out, sweep_none HZ.out (by rw [HQ2.out, if_neg (by have := HL0.out; omega)])]; rfl⟩, HB1.out⟩
      have e1 : decide ((j : Int) ≤ t'.l) = false := decide_eq_false hlj
      obtain ⟨k, hk1⟩ : ∃ k : Nat, t'.l = k := ⟨t'.l.toNat, by omega⟩
      have hkj : k < j := by omega
      have HL0 := Lib.hid hk1
      have HL1 := Lib.hid (show t'.l.toNat = k by omega)
      rw [hk1] at c4 e0
      clear e1
      have e1 : decide (j ≤ k) = false := decide_eq_false (by omega)
      clear hk1 hl0 hlj
      have x2 : w1.cell? ⟨w.heap.size, k, none⟩ = some (.int .i64 (dp k : Nat)) := (HG1.out.cell k).trans (nums_get (by omega))
      have x3 : w1.frozen? ⟨w.heap.size, k, none⟩ = false := HG1.out.frozen k
      by_cases hdk : 0 < dp k
      · have ek : decide (0 < dp k) = true := decide_eq_true (by omega)
        have HDK := Lib.hid hdk
        clear hdk
        go_wp2_with fail
        go_ret2
        exact ⟨⟨_, by rw [HS.out, sweep_some HZ.out hd (by rw [HQ2.out, if_pos (by have := HL0.out; omega)]), Tm.mark, HL1.out, if_pos HDK.out]; rfl⟩, HB1.out⟩
      have ek : decide (0 < dp k) = false := decide_eq_false (by omega)
      have HDK := Lib.hid hdk
      clear hdk
      go_wp2_with fail
      have HG2 := Lib.hid (nums_upd (c := k) (d := dp j) HG1.out)
      have HB2 := Lib.hid (HB1.out.setCell (p := ⟨w.heap.size, k, none⟩) (Nat.le_refl _) (.int .i64 ((dp j : Int) + 1)))
      clear x2 x3 ek e0 e1
      rw [rounds_succ]
      go_wp2_with fail
      go_roundw
      case rel => exact ⟨j, _, Tm.upd dp k (dp j + 1), by omega, rfl, by omega, HG2, HB2, Lib.hid (by rw [HS.out, sweep_some HZ.out hd (by rw [HQ2.out, if_pos (by have := HL0.out; omega)]), Tm.mark, HL1.out, if_neg HDK.out]; rfl)⟩
      case measure => simp [intOf]
    · have hx : True := trivial
      rw [ha] at HQ ⊢
      have HQ2 : Hid (kidsF l j = if 0 ≤ t'.l ∧ t'.l < j ∧ 0 ≤ t'.r ∧ t'.r < j then some [t'.l.toNat, t'.r.toNat] else none) := Lib.hid (by rw [HQ.out, if_neg (by omega), if_neg (by omega)])
      clear ha HQ
      go_wp2_with fail
      refine wp_loop_rounds 3 ?_
      rw [rounds_succ]
      by_cases hl0 : t'.l < 0
      · have e0 : decide (t'.l < 0) = true := decide_eq_true hl0
        have HL0 := Lib.hid hl0
        clear hl0
        go_wp2_with fail
        go_ret2
        exact ⟨⟨_, by rw [HS.out, sweep_none HZ.out (by rw [HQ2.out, if_neg (by have := HL0.out; omega)])]; rfl⟩, HB1.out⟩
      have e0 : decide (t'.l < 0) = false := decide_eq_false hl0
      by_cases hlj : (j : Int) ≤ t'.l
      · have e1 : decide ((j : Int) ≤ t'.l) = true := decide_eq_true hlj
        have HL0 := Lib.hid hlj
        clear hlj hl0
        go_wp2_with fail
        go_ret2
        exact ⟨⟨_, by rw [HS.out, sweep_none HZ.out (by rw [HQ2.out, if_neg (by have := HL0.out; omega)])]; rfl⟩, HB1.out⟩
      have e1 : decide ((j : Int) ≤ t'.l) = false := decide_eq_false hlj
      obtain ⟨k, hk1⟩ : ∃ k : Nat, t'.l = k := ⟨t'.l.toNat, by omega⟩
      have hkj : k < j := by omega
      have HL0 := Lib.hid hk1
      have HL1 := Lib.hid (show t'.l.toNat = k by omega)
      rw [hk1] at c4 e0
      clear e1
      have e1 : decide (j ≤ k) = false := decide_eq_false (by omega)
      clear hk1 hl0 hlj
      have x2 : w1.cell? ⟨w.heap.size, k, none⟩ = some (.int .i64 (dp k : Nat)) := (HG1.out.cell k).trans (nums_get (by omega))
      have x3 : w1.frozen? ⟨w.heap.size, k, none⟩ = false := HG1.out.frozen k
      by_cases hdk : 0 < dp k
      · have ek : decide (0 < dp k) = true := decide_eq_true (by omega)
        have HDK := Lib.hid hdk
        clear hdk
        go_wp2_with fail
        go_ret2
        exact ⟨⟨_, by
          rw [HS.out]
          by_cases hr2 : 0 ≤ t'.r ∧ t'.r < j
          · rw [sweep_some HZ.out hd (by rw [HQ2.out, if_pos (by have := HL0.out; omega)]), Tm.mark, HL1.out, if_pos HDK.out]; rfl
          · rw [sweep_none HZ.out (by rw [HQ2.out, if_neg (by omega)])]; rfl⟩, HB1.out⟩
      have ek : decide (0 < dp k) = false := decide_eq_false (by omega)
      have HDK := Lib.hid hdk
      clear hdk
      go_wp2_with fail
      have HG2 := Lib.hid (nums_upd (c := k) (d := dp j) HG1.out)
      have HB2 := Lib.hid (HB1.out.setCell (p := ⟨w.heap.size, k, none⟩) (Nat.le_refl _) (.int .i64 ((dp j : Int) + 1)))
      clear x2 x3 ek e0 e1
      have HRB := Lib.hid (Tms.below HR.out HB2.out)
      generalize w1.setCell ⟨w.heap.size, k, none⟩ (.int .i64 ((dp j : Int) + 1)) = w2 at HG2 HB2 HRB ⊢
      clear c0 c4 c5 x1
      obtain ⟨b', off', t, e', hb', ht', hc⟩ := HRB.out.at_ (i := j) (by omega)
      cases e'
      obtain rfl : t = t' := Option.some.inj (ht'.symm.trans HTT.out)
      obtain ⟨_, _, _, _, _, c5⟩ := hc
      clear ht' hb'
      have x1 : w2.cell? ⟨w.heap.size, j, none⟩ = some (.int .i64 (dp j : Nat)) := by
        have h := (HG2.out.cell j).trans (nums_get (by omega))
        have e : Tm.upd dp k (dp j + 1) j = dp j := by unfold Tm.upd; rw [if_neg (by omega)]
        rwa [e] at h
      by_cases hl0 : t.r < 0
      · have e0 : decide (t.r < 0) = true := decide_eq_true hl0
        have HR0 := Lib.hid hl0
        clear hl0
        rw [rounds_succ]
        go_wp2_with fail
        go_ret2
        exact ⟨⟨_, by rw [HS.out, sweep_none HZ.out (by rw [HQ2.out, if_neg (by have := HR0.out; omega)])]; rfl⟩, HB2.out⟩
      have e0 : decide (t.r < 0) = false := decide_eq_false hl0
      by_cases hlj : (j : Int) ≤ t.r
      · have e1 : decide ((j : Int) ≤ t.r) = true := decide_eq_true hlj
        have HR0 := Lib.hid hlj
        clear hlj hl0
        rw [rounds_succ]
        go_wp2_with fail
        go_ret2
        exact ⟨⟨_, by rw [HS.out, sweep_none HZ.out (by rw [HQ2.out, if_neg (by have := HR0.out; omega)])]; rfl⟩, HB2.out⟩
      have e1 : decide ((j : Int) ≤ t.r) = false := decide_eq_false hlj
      obtain ⟨m, hm1⟩ : ∃ m : Nat, t.r = m := ⟨t.r.toNat, by omega⟩
      have hmj : m < j := by omega
      have HR0 := Lib.hid hm1
      have HR1 := Lib.hid (show t.r.toNat = m by omega)
      rw [hm1] at c5 e0
      clear e1
      have e1 : decide (j ≤ m) = false := decide_eq_false (by omega)
      clear hm1 hl0 hlj
      have HM : Hid (Tm.sweep (kidsF l) 24 (j + 1) dp = match Tm.mark (dp j + 1) [m] (Tm.upd dp k (dp j + 1)) with | none => false | some dp' => Tm.sweep (kidsF l) 24 j dp') := Lib.hid (by rw [sweep_some HZ.out hd (by rw [HQ2.out, if_pos (by have := HL0.out; have := HR0.out; omega)]), Tm.mark, HL1.out, if_neg HDK.out, HR1.out])
      generalize Tm.upd dp k (dp j + 1) = dq at HG2 HM
      have x2 : w2.cell? ⟨w.heap.size, m, none⟩ = some (.int .i64 (dq m : Nat)) := (HG2.out.cell m).trans (nums_get (by omega))
      have x3 : w2.frozen? ⟨w.heap.size, m, none⟩ = false := HG2.out.frozen m
      by_cases hdk : 0 < dq m
      · have ek : decide (0 < dq m) = true := decide_eq_true (by omega)
        have HDM := Lib.hid hdk
        clear hdk
        rw [rounds_succ]
        go_wp2_with fail
        go_ret2
        exact ⟨⟨_, by rw [HS.out, HM.out, Tm.mark, if_pos HDM.out]; rfl⟩, HB2.out⟩
      have ek : decide (0 < dq m) = false := decide_eq_false (by omega)
      have HDM := Lib.hid hdk
      clear hdk
      rw [rounds_succ]
      go_wp2_with fail
      have HG3 := Lib.hid (nums_upd (c := m) (d := dp j) HG2.out)
      have HB3 := Lib.hid (HB2.out.setCell (p := ⟨w.heap.size, m, none⟩) (Nat.le_refl _) (.int .i64 ((dp j : Int) + 1)))
      clear x1 x2 x3 ek e0 e1 c5
      rw [rounds_succ]
      go_wp2_with fail
      go_roundw
      case rel => exact ⟨j, _, Tm.upd dq m (dp j + 1), by omega, rfl, by omega, HG3, HB3, Lib.hid (by rw [HS.out, HM.out, Tm.mark, if_neg HDM.out]; rfl)⟩
      case measure => simp [intOf]
set_option maxHeartbeats 4000000 in
theorem tmay_any (l : List Tm) (A : Option Addr) (c : Nat) (root : Int) (w : World) (hr : Tms w A l) (hl : l.length ≤ 1000000) :
    Calls Tryz.prog 12 #[.slice A l.length c, .int .i64 root] w fun e w' => e = .returned (.bool (tmF l root)) ∧ Below w.heap.size w w' := by
  have CT := Lib.hid (tree_any l A c root w hr hl)
  clear hr
  go_enter Tryz.func12, Tryz.ntmps12
  go_wp2_with fail
  refine CT.out.mono ?_
  rintro e w1 ⟨⟨v, rfl⟩, hb⟩
  have HB := Lib.hid hb
  clear hb
  go_wp2_with fail
  go_ret
  exact ⟨rfl, HB.out⟩
end Go.Proofs.YtbemdcbglpjmiaaGreatDoor
