/- Contracts: reparteeref1.eval. Contracts: reparteeref1.leaf at literals. Contracts: reparteeref1.Eval on rows that may be. -/
import Derived.Test.YtbemdcbglpjmiaaGreatDoorFoZ
namespace Go.Proofs.YtbemdcbglpjmiaaGreatDoor
open Go.RowKit

/-- The leaves are of P. -/
def Tr.All (P : Tm → Prop) : Tr → Prop
  | .nil => True
  | .node t x y => (arF t.kind = 0 → P t) ∧ Tr.All P x ∧ Tr.All P y
theorem blk_facts {w1 : World} {n : Nat} (K1 : Blk w1 n zeroC 31) :
    (w1.frozen? ⟨n, 0, none⟩ = false ∧ w1.frozen? ⟨n, 1, none⟩ = false ∧ w1.frozen? ⟨n, 2, none⟩ = false ∧ w1.frozen? ⟨n, 3, none⟩ = false) ∧
    w1.cell? ⟨n, 0, none⟩ = some (.int .i64 0) ∧ w1.cell? ⟨n, 1, none⟩ = some (.int .i64 0) ∧ w1.cell? ⟨n, 2, none⟩ = some (.string e0) ∧ w1.cell? ⟨n, 3, none⟩ = some (.slice none 0 0) ∧ n < w1.heap.size :=
  ⟨⟨K1.frozen 0, K1.frozen 1, K1.frozen 2, K1.frozen 3⟩, K1.cell 0, K1.cell 1, K1.cell 2, K1.cell 3, K1.lt⟩
set_option maxRecDepth 100000 in
set_option maxHeartbeats 8000000 in
theorem eval_any (P : Tm → Prop) (lf : Tm → Option Vl) (l : List Tm) (A : Option Addr) (c : Nat) (E : Option Addr) (en ec : Nat) (w00 : World)
    (HL : ∀ t w, P t → Below w00.heap.size w00 w → Calls Tryz.prog 50 #[.agg (tmC t.kind t.name t.n t.text t.l t.r), .slice E en ec] w (EvPost (lf t) w))
    (hok : ∀ t u, lf t = some u → VlOk u) :
    ∀ (x : Tr) (k : Int) (w : World), x ≠ .nil → x.Ok → x.All P → Gr l k x → Tms w A l → Below w00.heap.size w00 w →
    Calls Tryz.prog 30 #[.slice A l.length c, .int .i64 k, .slice E en ec] w (EvPost (evF lf x) w) := by
  intro x
  induction x with
  | nil => intro k w h; exact absurd rfl h
  | node t x y ihx ihy =>
    intro k w _ hO hP hg hT hB
    obtain ⟨h0, ht, hgx, hgy, _, _⟩ := hg
    obtain ⟨a, rfl⟩ : ∃ a : Nat, k = a := ⟨k.toNat, by omega⟩
    have ht : l[a]? = some t := by simpa using ht
    have hal : a < l.length := (List.getElem?_eq_some_iff.1 ht).1
    obtain ⟨hp0, hpx, hpy⟩ := hP
    obtain ⟨ho1, ho2, hox, hoy⟩ := hO
    have HT := Lib.hid ht
    obtain ⟨b, o, t', rfl, hb, ht', hc⟩ := hT.at_ hal
    obtain rfl : t' = t := Option.some.inj (ht'.symm.trans HT.out)
    have HC := Lib.hid hc
    have HTM := Lib.hid hT
    have HB := Lib.hid hB
    obtain ⟨c0, c1, c2, c3, c4, c5⟩ := hc
    clear ht' ht hT hB h0
    have CX := Lib.hid (fun w h => ihx t'.l w h hox hpx hgx)
    have CY := Lib.hid (fun w h => ihy t'.r w h hoy hpy hgy)
    clear ihx ihy hgx hgy hpx hpy hox hoy
    have HP0 := Lib.hid hp0
    have HO2 := Lib.hid ho2
    clear hp0 ho2
    go_enter Tryz.func30, Tryz.ntmps30
    go_wp2_with fail
    refine (arity_any _ _).mono ?_
    rintro e w1 ⟨rfl, rfl⟩
    have B2 := Lib.hid (below_push (below_new w (.cells zeroC 31)) (.cells (tmC t'.kind t'.name t'.n t'.text t'.l t'.r) 51))
    have K0 := Lib.hid ((Blk.new w zeroC 31).alloc (.cells (tmC t'.kind t'.name t'.n t'.text t'.l t'.r) 51))
    have K1 := Lib.hid (blk_next (w := w.alloc (.cells zeroC 31)) (n := w.heap.size + 1) (by simp) (tmC t'.kind t'.name t'.n t'.text t'.l t'.r) 51)
    rcases HO2.out with ⟨a0, rfl, rfl⟩ | ⟨a1, hx0, rfl⟩ | ⟨a2, hx0, hy0⟩
    · have HE := Lib.hid (show evF lf (.node t' .nil .nil) = lf t' by rw [evF, if_pos a0])
      rw [a0]
      have HLt := Lib.hid (HL t' _ (HP0.out a0) (below_next HB.out B2.out))
      clear a0
      go_wp2_with fail
      refine HLt.out.mono ?_
      rintro e w1 ⟨i0, i1, s, Q, m', c', k, rfl, hb1, hi⟩
      obtain ⟨⟨f0, f1, f2, f3⟩, k0, k1, k2, k3, hz⟩ := blk_facts (K0.out.belowS hb1)
      have HI := Lib.hid hi
      have HB1 := Lib.hid hb1
      clear hi hb1
      go_wp2_with fail
      refine bodyPost_ret (v := .tuple #[.agg #[.int .i64 i0, .int .i64 i1, .string s, .slice Q m' c'], .int .i64 k]) (by simp [results, Tryz.results30, go_sem, k0, k1, k2, k3]) rfl ?_
      rw [HE.out]
      exact ev_pass B2.out HB1.out HI.out (Nat.le_refl _) (by simp; omega)
    · rw [a1]
      have hx0 := Lib.hid hx0
      have HE : Hid (evF lf (.node t' x .nil) = match evF lf x with | none => none | some a => oneV t'.kind a) := Lib.hid (by rw [evF, if_neg (by omega)]; cases evF lf x <;> simp [a1])
      go_wp2_with fail
      refine (CX.out _ hx0.out (HTM.out.below B2.out) (below_next HB.out B2.out)).mono ?_
      rintro e w1 ⟨i0, i1, s, Q, m', c', k, rfl, hb1, hi⟩
      have hn1 : w.heap.size + 1 < w1.heap.size := (K1.out.belowS hb1).lt
      have J0 := Lib.hid (K0.out.belowS hb1)
      have J1 := Lib.hid (K1.out.belowS hb1)
      have B3 := Lib.hid (below_next B2.out hb1)
      have HB1 := Lib.hid hb1
      clear hb1
      rcases hr : evF lf x with _ | va
      · rw [hr] at hi HE
        obtain ⟨rfl, rfl, rfl, rfl, rfl, rfl, hk⟩ := hi
        have ek : (k != 0) = true := by simpa using hk
        have HEN := Lib.hid HE.out
        have HKE := Lib.hid hk
        have hz0 : w.heap.size < w1.heap.size := by omega
        obtain ⟨⟨f0, f1, f2, f3⟩, k0, k1, k2, k3, hz⟩ := blk_facts J0.out
        clear hk HE
        go_wp2_with fail
        refine bodyPost_ret (v := .tuple #[.agg #[.int .i64 0, .int .i64 0, .string e0, .slice none 0 0], .int .i64 k]) (by simp [results, Tryz.results30, go_sem, e0, k0, k1, k2, k3, hz0]) rfl ?_
        rw [HEN.out]
        exact ev_err k rfl rfl HKE.out (below_push (below_put4 B3.out (Nat.le_refl _) _ _ _ _) _)
      · rw [hr] at hi HE
        obtain ⟨rfl, rfl, rfl, rfl, rfl, hia, hmc, hfr⟩ := hi
        have hk1 : t'.kind = 15 ∨ t'.kind = 16 := by
          unfold arF at a1
          split at a1
          · omega
          · split at a1
            · omega
            · split at a1
              · assumption
              · omega
        have HO1 := Lib.hid (fun w => one_all t'.kind hk1 va t'.name t'.n t'.text t'.l t'.r Q c' w)
        have HEN := Lib.hid HE.out
        have hz0 : w.heap.size < w1.heap.size := by omega
        have d0 : w1.cell? ⟨w.heap.size + 1, 0, none⟩ = some (.int .i64 t'.kind) := J1.out.cell 0
        have d1 : w1.cell? ⟨w.heap.size + 1, 1, none⟩ = some (.string t'.name) := J1.out.cell 1
        have d2 : w1.cell? ⟨w.heap.size + 1, 2, none⟩ = some (.int .i64 t'.n) := J1.out.cell 2
        have d3 : w1.cell? ⟨w.heap.size + 1, 3, none⟩ = some (.string t'.text) := J1.out.cell 3
        have d4 : w1.cell? ⟨w.heap.size + 1, 4, none⟩ = some (.int .i64 t'.l) := J1.out.cell 4
        have d5 : w1.cell? ⟨w.heap.size + 1, 5, none⟩ = some (.int .i64 t'.r) := J1.out.cell 5
        clear hia hmc hfr hk1 HE
        go_wp2_with fail
        refine (HO1.out _).mono ?_
        rintro e w2 ⟨j0, j1, s2, Q2, m2, c2, k2', rfl, hb2, hi2⟩
        obtain ⟨⟨f0, f1, f2, f3⟩, k0, k1, k2, k3, hz⟩ := blk_facts ((J0.out.alloc _).belowS hb2)
        have HI2 := Lib.hid hi2
        have HB2 := Lib.hid hb2
        clear hi2 hb2
        go_wp2_with fail
        refine bodyPost_ret (v := .tuple #[.agg #[.int .i64 j0, .int .i64 j1, .string s2, .slice Q2 m2 c2], .int .i64 k2']) (by simp [results, Tryz.results30, go_sem, k0, k1, k2, k3]) rfl ?_
        rw [HEN.out]
        exact ev_pass (below_push B3.out _) HB2.out HI2.out (Nat.le_refl _) (by simp; omega)
    · rw [a2]
      have hy0 := Lib.hid hy0
      have hx0 := Lib.hid hx0
      have HE : Hid (evF lf (.node t' x y) = match evF lf x with | none => none | some a => match evF lf y with | none => none | some b => twoV t'.kind a b) := Lib.hid (by rw [evF, if_neg (by omega)]; cases evF lf x <;> simp [a2] <;> cases evF lf y <;> rfl)
      go_wp2_with fail
      refine (CX.out _ hx0.out (HTM.out.below B2.out) (below_next HB.out B2.out)).mono ?_
      rintro e w1 ⟨i0, i1, s, Q, m', c', k, rfl, hb1, hi⟩
      have hn1 : w.heap.size + 1 < w1.heap.size := (K1.out.belowS hb1).lt
      have J0 := Lib.hid (K0.out.belowS hb1)
      have J1 := Lib.hid (K1.out.belowS hb1)
      have B3 := Lib.hid (below_next B2.out hb1)
      have HB1 := Lib.hid hb1
      clear hb1
      rcases hr : evF lf x with _ | va
      · rw [hr] at hi HE
        obtain ⟨rfl, rfl, rfl, rfl, rfl, rfl, hk⟩ := hi
        have ek : (k != 0) = true := by simpa using hk
        have HEN := Lib.hid HE.out
        have HKE := Lib.hid hk
        have hz0 : w.heap.size < w1.heap.size := by omega
        obtain ⟨⟨f0, f1, f2, f3⟩, k0, k1, k2, k3, hz⟩ := blk_facts J0.out
        clear hk HE
        go_wp2_with fail
        refine bodyPost_ret (v := .tuple #[.agg #[.int .i64 0, .int .i64 0, .string e0, .slice none 0 0], .int .i64 k]) (by simp [results, Tryz.results30, go_sem, e0, k0, k1, k2, k3, hz0]) rfl ?_
        rw [HEN.out]
        exact ev_err k rfl rfl HKE.out (below_push (below_put4 B3.out (Nat.le_refl _) _ _ _ _) _)
      · rw [hr] at hi HE
        obtain ⟨rfl, rfl, rfl, rfl, rfl, hia, hmc, hfr⟩ := hi
        have HVA := Lib.hid (evF_ok hok hr)
        have hz0 : w.heap.size < w1.heap.size := by omega
        have d0 : w1.cell? ⟨w.heap.size + 1, 0, none⟩ = some (.int .i64 t'.kind) := J1.out.cell 0
        have d1 : w1.cell? ⟨w.heap.size + 1, 1, none⟩ = some (.string t'.name) := J1.out.cell 1
        have d2 : w1.cell? ⟨w.heap.size + 1, 2, none⟩ = some (.int .i64 t'.n) := J1.out.cell 2
        have d3 : w1.cell? ⟨w.heap.size + 1, 3, none⟩ = some (.string t'.text) := J1.out.cell 3
        have d4 : w1.cell? ⟨w.heap.size + 1, 4, none⟩ = some (.int .i64 t'.l) := J1.out.cell 4
        have d5 : w1.cell? ⟨w.heap.size + 1, 5, none⟩ = some (.int .i64 t'.r) := J1.out.cell 5
        have HIA := Lib.hid hia
        have BY := Lib.hid (below_push B3.out (.cells (vlC va.kind va.n va.s Q va.l.length c') 31))
        have J2 := Lib.hid (J0.out.alloc (.cells (vlC va.kind va.n va.s Q va.l.length c') 31))
        have J3 := Lib.hid (J1.out.alloc (.cells (vlC va.kind va.n va.s Q va.l.length c') 31))
        have J4 := Lib.hid (Blk.new w1 (vlC va.kind va.n va.s Q va.l.length c') 31)
        clear hia hmc hfr
        go_wp2_with fail
        refine (CY.out _ hy0.out (HTM.out.below BY.out) (below_next HB.out BY.out)).mono ?_
        rintro e w2 ⟨j0, j1, s2, Q2, m2, c2, k2', rfl, hb2, hi2⟩
        have hn2 : w1.heap.size < w2.heap.size := (J4.out.belowS hb2).lt
        have M0 := Lib.hid (J2.out.belowS hb2)
        have M1 := Lib.hid (J3.out.belowS hb2)
        have M4 := Lib.hid (J4.out.belowS hb2)
        have B4 := Lib.hid (below_next BY.out hb2)
        have HIA2 : Hid (Ints w2 Q va.l) := Lib.hid (Rd.below (Rd.alloc HIA.out _) hb2)
        have hz2 : w.heap.size < w2.heap.size := by omega
        have hn3 : w.heap.size + 1 < w2.heap.size := by omega
        clear hb2 d0 d1 d2 d3 d4 d5
        rcases hr2 : evF lf y with _ | vb
        · rw [hr2] at hi2 HE
          obtain ⟨rfl, rfl, rfl, rfl, rfl, rfl, hk⟩ := hi2
          have ek : (k2' != 0) = true := by simpa using hk
          have HEN := Lib.hid HE.out
          have HKE := Lib.hid hk
          obtain ⟨⟨f0, f1, f2, f3⟩, k0, k1, k2, k3, hz⟩ := blk_facts M0.out
          clear hk HE
          go_wp2_with fail
          refine bodyPost_ret (v := .tuple #[.agg #[.int .i64 0, .int .i64 0, .string e0, .slice none 0 0], .int .i64 k2']) (by simp [results, Tryz.results30, go_sem, e0, k0, k1, k2, k3, hz2]) rfl ?_
          rw [HEN.out]
          exact ev_err k2' rfl rfl HKE.out (below_push (below_put4 B4.out (Nat.le_refl _) _ _ _ _) _)
        · rw [hr2] at hi2 HE
          obtain ⟨rfl, rfl, rfl, rfl, rfl, hib, hmc2, hfr2⟩ := hi2
          have HVB := Lib.hid (evF_ok hok hr2)
          have g0 : w2.cell? ⟨w.heap.size + 1, 0, none⟩ = some (.int .i64 t'.kind) := M1.out.cell 0
          have g1 : w2.cell? ⟨w.heap.size + 1, 1, none⟩ = some (.string t'.name) := M1.out.cell 1
          have g2 : w2.cell? ⟨w.heap.size + 1, 2, none⟩ = some (.int .i64 t'.n) := M1.out.cell 2
          have g3 : w2.cell? ⟨w.heap.size + 1, 3, none⟩ = some (.string t'.text) := M1.out.cell 3
          have g4 : w2.cell? ⟨w.heap.size + 1, 4, none⟩ = some (.int .i64 t'.l) := M1.out.cell 4
          have g5 : w2.cell? ⟨w.heap.size + 1, 5, none⟩ = some (.int .i64 t'.r) := M1.out.cell 5
          have q0 : w2.cell? ⟨w1.heap.size, 0, none⟩ = some (.int .i64 va.kind) := M4.out.cell 0
          have q1 : w2.cell? ⟨w1.heap.size, 1, none⟩ = some (.int .i64 va.n) := M4.out.cell 1
          have q2 : w2.cell? ⟨w1.heap.size, 2, none⟩ = some (.string va.s) := M4.out.cell 2
          have q3 : w2.cell? ⟨w1.heap.size, 3, none⟩ = some (.slice Q va.l.length c') := M4.out.cell 3
          have HO2' := Lib.hid (fun w h1 h2 => two_all t'.kind a2 va vb HVA.out HVB.out t'.name t'.n t'.text t'.l t'.r Q c' Q2 c2 w h1 h2)
          have HEN := Lib.hid HE.out
          have HIB := Lib.hid hib
          clear hib hmc2 hfr2 HE
          go_wp2_with fail
          refine (HO2'.out _ (Rd.alloc HIA2.out _) (Rd.alloc HIB.out _)).mono ?_
          rintro e w3 ⟨j0, j1, s3, Q3, m3, c3, k3', rfl, hb3, hi3⟩
          obtain ⟨⟨f0, f1, f2, f3⟩, k0, k1, k2, k3, hz⟩ := blk_facts ((M0.out.alloc _).belowS hb3)
          have HI3 := Lib.hid hi3
          have HB3 := Lib.hid hb3
          clear hi3 hb3
          go_wp2_with fail
          refine bodyPost_ret (v := .tuple #[.agg #[.int .i64 j0, .int .i64 j1, .string s3, .slice Q3 m3 c3], .int .i64 k3']) (by simp [results, Tryz.results30, go_sem, k0, k1, k2, k3]) rfl ?_
          rw [HEN.out]
          exact ev_pass (below_push B4.out _) HB3.out HI3.out (Nat.le_refl _) (by simp; omega)
end Go.Proofs.YtbemdcbglpjmiaaGreatDoor
namespace Go.Proofs.YtbemdcbglpjmiaaGreatDoor
open Go.RowKit

set_option maxRecDepth 100000 in
set_option maxHeartbeats 8000000 in
theorem rleaf_lit (k : Int) (nm : ByteArray) (n : Int) (tx : ByteArray) (l r : Int) (h : isLit ⟨k, nm, n, tx, l, r⟩ = true) (h2 : k = 2 → n = 0 ∨ n = 1) (A : Option Addr) (m c : Nat) (w : World) :
    Calls Tryz.prog 50 #[.agg (tmC k nm n tx l r), .slice A m c] w (EvPost (some (litV ⟨k, nm, n, tx, l, r⟩)) w) := by
  have CN := Lib.hid (fun n w => num_any n w)
  have CT := Lib.hid (fun b w => rtruth_any b w)
  rcases lit_cases h with hk | hk | hk | hk | hk
  · have hk : k = 1 := hk
    subst hk
    rw [litV_1 rfl]
    clear h h2
    go_enter Tryz.func50, Tryz.ntmps50
    go_wp2_with fail
    refine (CN.out n _).mono ?_
    rintro e w1 ⟨rfl, hb1⟩
    obtain ⟨⟨f0, f1, f2, f3⟩, k0, k1, k2, k3, hz⟩ := zf (W := (w.alloc (.cells (tmC 1 nm n tx l r) 51))) (n := w.heap.size + 1) (by simp) hb1
    have B1 := Lib.hid (below_next (below_push (below_new w _) _) hb1)
    clear hb1
    go_wp2_with fail
    refine bodyPost_ret (v := .tuple #[(numL n).val none 0, .int .i64 0]) (by simp [results, Tryz.results50, go_sem, e0, numL, Vl.val, k0, k1, k2, k3]) rfl (ev_one (x := numL n) rfl rfl rfl (below_put4 B1.out (by omega) _ _ _ _))
  · have hk : k = 2 := hk
    subst hk
    rw [litV_2 rfl]
    rcases h2 rfl with rfl | rfl
    · clear h h2
      go_enter Tryz.func50, Tryz.ntmps50
      go_wp2_with fail
      refine (CT.out false _).mono ?_
      rintro e w1 ⟨rfl, hb1⟩
      obtain ⟨⟨f0, f1, f2, f3⟩, k0, k1, k2, k3, hz⟩ := zf (W := (w.alloc (.cells (tmC 2 nm 0 tx l r) 51))) (n := w.heap.size + 1) (by simp) hb1
      have B1 := Lib.hid (below_next (below_push (below_new w _) _) hb1)
      clear hb1
      go_wp2_with fail
      refine bodyPost_ret (v := .tuple #[(tru false).val none 0, .int .i64 0]) (by simp [results, Tryz.results50, go_sem, e0, tru, Vl.val, k0, k1, k2, k3]) rfl (ev_one (x := tru false) rfl rfl rfl (below_put4 B1.out (by omega) _ _ _ _))
    · clear h h2
      go_enter Tryz.func50, Tryz.ntmps50
      go_wp2_with fail
      refine (CT.out true _).mono ?_
      rintro e w1 ⟨rfl, hb1⟩
      obtain ⟨⟨f0, f1, f2, f3⟩, k0, k1, k2, k3, hz⟩ := zf (W := (w.alloc (.cells (tmC 2 nm 1 tx l r) 51))) (n := w.heap.size + 1) (by simp) hb1
      have B1 := Lib.hid (below_next (below_push (below_new w _) _) hb1)
      clear hb1
      go_wp2_with fail
      refine bodyPost_ret (v := .tuple #[(tru true).val none 0, .int .i64 0]) (by simp [results, Tryz.results50, go_sem, e0, tru, Vl.val, k0, k1, k2, k3]) rfl (ev_one (x := tru true) rfl rfl rfl (below_put4 B1.out (by omega) _ _ _ _))
  · have hk : k = 3 := hk
    subst hk
    rw [litV_3 rfl]
    clear h h2
    go_enter Tryz.func50, Tryz.ntmps50
    go_wp2_with fail
    refine bodyPost_ret (v := .tuple #[(⟨3, 0, tx, []⟩ : Vl).val none 0, .int .i64 0]) (by simp [results, Tryz.results50, go_sem, Vl.val]) rfl (ev_one (x := ⟨3, 0, tx, []⟩) rfl rfl rfl (below_push (below_new _ _) _))
  · have hk : k = 4 := hk
    subst hk
    rw [litV_4 rfl]
    clear h h2
    go_enter Tryz.func50, Tryz.ntmps50
    go_wp2_with fail
    refine bodyPost_ret (v := .tuple #[(⟨4, 0, e0, []⟩ : Vl).val none 0, .int .i64 0]) (by simp [results, Tryz.results50, go_sem, e0, Vl.val]) rfl (ev_one (x := ⟨4, 0, e0, []⟩) rfl rfl rfl (below_push (below_new _ _) _))
  · have hk : k = 5 := hk
    subst hk
    rw [litV_5 rfl]
    clear h h2
    go_enter Tryz.func50, Tryz.ntmps50
    go_wp2_with fail
    refine bodyPost_ret (v := .tuple #[(⟨0, 0, e0, []⟩ : Vl).val none 0, .int .i64 0]) (by simp [results, Tryz.results50, go_sem, e0, Vl.val]) rfl (ev_one (x := ⟨0, 0, e0, []⟩) rfl rfl rfl (below_push (below_new _ _) _))
end Go.Proofs.YtbemdcbglpjmiaaGreatDoor
namespace Go.Proofs.YtbemdcbglpjmiaaGreatDoor
open Go.RowKit

set_option maxRecDepth 100000 in
set_option maxHeartbeats 8000000 in
theorem rEval_any (P : Tm → Prop) (lf : Tm → Option Vl) (l : List Tm) (A : Option Addr) (c : Nat) (root : Int) (E : Option Addr) (en ec : Nat) (w : World)
    (HL : ∀ t w', P t → Below w.heap.size w w' → Calls Tryz.prog 50 #[.agg (tmC t.kind t.name t.n t.text t.l t.r), .slice E en ec] w' (EvPost (lf t) w'))
    (hok : ∀ t u, lf t = some u → VlOk u) (x : Tr) (hx : x ≠ .nil) (hO : x.Ok) (hP : x.All P) (hg : Gr l root x) (hT : Tms w A l) (hm : tmF l root = true) (hl : l.length ≤ 1000000) :
    Calls Tryz.prog 13 #[.slice A l.length c, .int .i64 root, .slice E en ec] w (EvPost (evF lf x) w) := by
  have CM := Lib.hid (tmay_any l A c root (w.alloc (.cells zeroC 31)) (Rd.alloc hT _) hl)
  have CE := Lib.hid (fun w1 h => eval_any P lf l A c E en ec w HL hok x root w1 hx hO hP hg h)
  have HM := Lib.hid hm
  have HTM := Lib.hid hT
  have K0 := Lib.hid (Blk.new w zeroC 31)
  clear HL hok hg hT hm hO hP hx
  go_enter Tryz.func13, Tryz.ntmps13
  go_wp2_with fail
  refine CM.out.mono ?_
  rintro e w1 ⟨rfl, hb1⟩
  rw [HM.out]
  have B1 := Lib.hid (below_next (below_new w _) hb1)
  have K1 := Lib.hid (K0.out.belowS hb1)
  clear hb1
  go_wp2_with fail
  refine (CE.out w1 (HTM.out.below B1.out) B1.out).mono ?_
  rintro e w2 ⟨i0, i1, s, Q, m', c', k, rfl, hb2, hi⟩
  obtain ⟨⟨f0, f1, f2, f3⟩, k0, k1, k2, k3, hz⟩ := blk_facts (K1.out.belowS hb2)
  have HI := Lib.hid hi
  have HB2 := Lib.hid hb2
  clear hi hb2
  go_wp2_with fail
  refine bodyPost_ret (v := .tuple #[.agg #[.int .i64 i0, .int .i64 i1, .string s, .slice Q m' c'], .int .i64 k]) (by simp [results, Tryz.results13, go_sem, k0, k1, k2, k3]) rfl ?_
  exact ev_pass B1.out HB2.out HI.out (Nat.le_refl _) K1.out.lt
end Go.Proofs.YtbemdcbglpjmiaaGreatDoor
