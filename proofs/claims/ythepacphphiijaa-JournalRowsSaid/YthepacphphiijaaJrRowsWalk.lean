/- The walk of the law JournalRows. -/
import Derived.Test.YthepacphphiijaaJrFirst
import Derived.Test.YthepacphphiijaaJrAhead
import Derived.Test.YthepacphphiijaaFlip
import Derived.RegionTactic
import Derived.ChangeAlike
namespace Go.Proofs.Ythepacphphiijaa
open Go.RowKit

theorem lowN (x : Int) (n : Nat) (h : 1 ≤ n) : ∃ k : Nat, lowF x n = k ∧ k < n := by
  have := lowF_lt x n (by omega)
  exact ⟨(lowF x n).toNat, by omega, by omega⟩
theorem below_allocS {w w' : World} (h : Below w.heap.size w w') (o : Obj) : Below w.heap.size w (w'.alloc o) := h.alloc h.size o
/-- A row of bytes one of which is written. -/
theorem set_cells (w : World) (BR : Array Value) (e : TypeId) (n p : Nat) (S : List UInt8) (hBR : ∀ j (h : j < (⟨S.toArray⟩ : ByteArray).size), BR[j]? = some (.int .u8 ((⟨S.toArray⟩ : ByteArray)[j].toNat : Int))) (hp : p < S.length) (d : UInt8) (X : Int) (hX : X = (d.toNat : Int)) :
    Rd ((w.alloc (.cells BR e (n, n + 1))).setCell ⟨w.heap.size, p, none⟩ (.int .u8 X)) (some ⟨w.heap.size, 0, none⟩) (bytesV (S.set p d)) := fun _ => by
  refine ⟨w.heap.size, 0, rfl, by simp, fun j u hu => ?_⟩
  have hj : j < S.length := by
    rcases Nat.lt_or_ge j S.length with h1 | h1
    · exact h1
    · rw [List.getElem?_eq_none (by simpa [bytesV] using h1)] at hu; cases hu
  have hb : BR[j]? = some (.int .u8 (S[j].toNat : Int)) := hBR j hj
  rw [Nat.zero_add]
  by_cases hjp : j = p
  · subst hjp
    rw [World.cell?_setCell_same _ _ _ ((mark_cell w BR e n _).trans hb), hX]
    simp [bytesV, hj] at hu
    rw [hu]
  · rw [World.cell?_setCell_other _ _ _ _ (by intro h; injection h with h1 h2; exact hjp h2.symm), mark_cell, hb]
    simp [bytesV, hj, Ne.symm hjp] at hu
    rw [hu]
theorem inc_core (c : UInt8) : ((c.toNat : Int) + 1) % 256 = ((c + 1).toNat : Int) := by
  rw [UInt8.toNat_add]
  have : (1 : UInt8).toNat = 1 := rfl
  rw [this]
  omega
theorem inc_ne (c : UInt8) : c ≠ c + 1 := by
  intro h
  have h1 := congrArg UInt8.toNat h
  rw [UInt8.toNat_add] at h1
  have : (1 : UInt8).toNat = 1 := rfl
  have hc := c.toNat_lt
  rw [this] at h1
  omega
set_option maxRecDepth 100000 in
set_option maxHeartbeats 8000000 in
theorem rows_walk (x y : In) (turn : Int) (w : World) (hx : x.body.length ≤ 9223372036854775807) (hy : y.body.length ≤ 9223372036854775807)
    (gx : (-9223372036854775808 ≤ x.kind ∧ x.kind ≤ 9223372036854775807) ∧ (-9223372036854775808 ≤ x.frm ∧ x.frm ≤ 9223372036854775807))
    (gy : (-9223372036854775808 ≤ y.kind ∧ y.kind ≤ 9223372036854775807) ∧ (-9223372036854775808 ≤ y.frm ∧ y.frm ≤ 9223372036854775807)) :
    Calls Try.prog 5 #[.agg #[.int .i64 x.kind, .int .i64 x.frm, .string ⟨x.body.toArray⟩], .agg #[.int .i64 y.kind, .int .i64 y.frm, .string ⟨y.body.toArray⟩], .int .i64 turn] w
      fun e w' => e = .returned (.bool true) ∧ Below w.heap.size w w' := by
  obtain ⟨W0, hW0⟩ : ∃ W0, W0 = (w.alloc (.cells #[.int .i64 x.kind, .int .i64 x.frm, .string ⟨x.body.toArray⟩] 39)).alloc (.cells #[.int .i64 y.kind, .int .i64 y.frm, .string ⟨y.body.toArray⟩] 39) := ⟨_, rfl⟩
  have GX := Lib.hid (show Blk W0 w.heap.size #[.int .i64 x.kind, .int .i64 x.frm, .string ⟨x.body.toArray⟩] 39 by rw [hW0]; exact (Blk.new w _ _).alloc _)
  have GY := Lib.hid (show Blk W0 (w.heap.size + 1) #[.int .i64 y.kind, .int .i64 y.frm, .string ⟨y.body.toArray⟩] 39 by
    rw [hW0]
    have := Blk.new (w.alloc (.cells #[.int .i64 x.kind, .int .i64 x.frm, .string ⟨x.body.toArray⟩] 39)) #[.int .i64 y.kind, .int .i64 y.frm, .string ⟨y.body.toArray⟩] 39
    rwa [World.size_alloc] at this)
  have B0 := Lib.hid (show Below w.heap.size w W0 by rw [hW0]; exact ((Below.refl _ _).alloc (Nat.le_refl _) _).alloc (by simp) _)
  have HW0 := Lib.hid hW0
  have HGX := Lib.hid gx
  have HGY := Lib.hid gy
  clear hW0 gx gy
  go_enter Try.func5, Try.ntmps5
  go_wp2_with fail
  rw [← HW0.out]
  refine (first41_any W0).mono ?_
  rintro e w1 ⟨rfl, hb⟩
  have B1 := Lib.hid (below_next B0.out hb)
  have GX1 := Lib.hid (GX.out.belowS hb)
  have GY1 := Lib.hid (GY.out.belowS hb)
  clear hb
  obtain ⟨x0, x1, x2⟩ := blk3 GX1.out
  obtain ⟨y0, y1, y2⟩ := blk3 GY1.out
  by_cases hbig : 200 < x.body.length ∨ 200 < y.body.length
  · by_cases hbx : 200 < x.body.length
    all_goals
      try have hby : 200 < y.body.length := by omega
      clear hbig
      go_wp2_with fail
      go_ret
      exact ⟨rfl, B1.out⟩
  · have hbx : x.body.length ≤ 200 := by omega
    have hby : y.body.length ≤ 200 := by omega
    clear hbig
    have hxo : x.ok := ⟨HGX.out.1, HGX.out.2, by omega⟩
    have hyo : y.ok := ⟨HGY.out.1, HGY.out.2, by omega⟩
    have HXO := Lib.hid hxo
    have HYO := Lib.hid hyo
    have hp := payB_len hxo
    have hr := recB_len hxo
    have hr2 := recB_len hyo
    obtain ⟨⟨k1, k2⟩, ⟨f1, f2⟩⟩ := HGX.out
    have hlx0 : (0 : Int) ≤ (x.body.length : Int) := by omega
    have hlx1 : -9223372036854775808 ≤ (x.body.length : Int) := by omega
    have hlx2 : (x.body.length : Int) ≤ 9223372036854775807 := by omega
    have z1 : (numB x.kind).length ≤ 10 := numB_le x.kind
    have z2 : (numB x.frm).length ≤ 10 := numB_le x.frm
    have z3 : (numB x.body.length).length ≤ 10 := numB_le x.body.length
    have hv : (((⟨(numB x.kind).toArray⟩ : ByteArray) ++ (⟨(numB x.frm).toArray⟩ : ByteArray)) ++ (⟨(numB x.body.length).toArray⟩ : ByteArray)) ++ (⟨x.body.toArray⟩ : ByteArray) = ⟨(payB x).toArray⟩ := by
      rw [ba_app', ba_app', ba_app']; unfold payB txt; simp
    have n1 : ¬ 9223372036854775807 < (numB x.kind).length + (numB x.frm).length := by omega
    have n2 : ¬ 9223372036854775807 < (numB x.kind).length + (numB x.frm).length + (numB x.body.length).length := by omega
    have n3 : ¬ 9223372036854775807 < (numB x.kind).length + (numB x.frm).length + (numB x.body.length).length + x.body.length := by omega
    have HV := Lib.hid hv
    clear hv hxo hyo
    go_wp2_with fail
    go_cut [7] (fun s7 wx => s7 = .string ⟨(payB x).toArray⟩ ∧ Hid (Below w1.heap.size w1 wx))
    case first =>
      go_region_held3 (fun W => W.cell? ⟨w.heap.size, 0, none⟩ = some (.int .i64 x.kind) ∧ W.cell? ⟨w.heap.size, 1, none⟩ = some (.int .i64 x.frm) ∧ W.cell? ⟨w.heap.size, 2, none⟩ = some (.string ⟨x.body.toArray⟩))
        (first | go_keep | (exact blk3 (GX1.out.belowS HBf)))
        ((go_at_call 18; refine (refnum_any _ _ (by assumption) (by assumption)).mono ?_; rintro e wf ⟨rfl, hbf⟩; have HBf : Below w1.heap.size w1 wf := (by first | exact below_of_drew hbf | exact below_next HBf hbf)))
      all_goals
        go_wp2_with fail
        go_meet
        exact ⟨by rw [HV.out], Lib.hid HBf⟩
    case rest =>
      obtain ⟨rfl, BX⟩ := hcut
      have B2 := Lib.hid (below_next B1.out BX.out)
      have GX2 := Lib.hid (GX1.out.belowS BX.out)
      have GY2 := Lib.hid (GY1.out.belowS BX.out)
      have CN := Lib.hid (fun W => refnum_any ((payB x).length : Int) W (by omega) (by omega))
      have z4 : (numB (payB x).length).length ≤ 10 := numB_le _
      have n4 : ¬ 9223372036854775807 < (numB (payB x).length).length + (payB x).length := by omega
      have hrow : (⟨(numB (payB x).length).toArray⟩ : ByteArray) ++ (⟨(payB x).toArray⟩ : ByteArray) = ⟨(rowB x).toArray⟩ := by rw [ba_app']; rfl
      have HROW := Lib.hid hrow
      have hpx := (payB x).length
      clear hrow x0 x1 x2 y0 y1 y2 n1 n2 n3 z1 z2 z3 k1 k2 f1 f2 hlx0 hlx1 hlx2 hx hy hpx
      obtain ⟨x0, x1, x2⟩ := blk3 GX2.out
      go_wp2_with fail
      refine (CN.out _).mono ?_
      rintro e w3 ⟨rfl, hb⟩
      have B3 := Lib.hid (below_next B2.out hb)
      have GX3 := Lib.hid (GX2.out.belowS hb)
      have GY3 := Lib.hid (GY2.out.belowS hb)
      clear hb x0 x1 x2
      obtain ⟨x0, x1, x2⟩ := blk3 GX3.out
      go_upto_region 7 with fail
      rw [HROW.out]
      have hrec : recsB [x] = recB x := by simp [recsB]
      have CW := Lib.hid (fun W (hb : Below w3.heap.size w3 W) => jwrite_n (some ⟨w3.heap.size, 0, none⟩) [x] 1 1 rfl (w3.alloc (.cells #[.int .i64 x.kind, .int .i64 x.frm, .string ⟨x.body.toArray⟩] 39)) (Rd.new w3 #[.int .i64 x.kind, .int .i64 x.frm, .string ⟨x.body.toArray⟩] 39) (by simpa using HXO.out) (by simp))
      rw [hrec] at CW
      clear hrec
      go_wp2_with fail
      refine (CW.out _ (Below.refl _ _)).mono ?_
      rintro e w4 ⟨rfl, hb⟩
      have B34 := Lib.hid (below_of_alloc hb)
      have B4 := Lib.hid (below_next B3.out B34.out)
      have GY4 := Lib.hid (GY3.out.belowS B34.out)
      clear hb x0 x1 x2
      have hrl : (rowB x).length + 4 ≤ 1000000100 := by simp only [recB, List.length_append, fourB_len] at hr; omega
      have CS := Lib.hid (fun W => sumtext_any ⟨(rowB x).toArray⟩ W (by unfold maxLen; show (rowB x).length ≤ _; omega))
      have hrec2 : (⟨(rowB x).toArray⟩ : ByteArray) ++ (⟨(fourB (fnv (rowB x))).toArray⟩ : ByteArray) = ⟨(recB x).toArray⟩ := by rw [ba_app']; rfl
      have n5 : ¬ 9223372036854775807 < (rowB x).length + (fourB (fnv (rowB x))).length := by rw [fourB_len]; omega
      have hcmp : (!((⟨(recB x).toArray⟩ : ByteArray).toList == ((⟨(rowB x).toArray⟩ : ByteArray) ++ (⟨(fourB (fnv (rowB x))).toArray⟩ : ByteArray)).toList)) = false := by rw [hrec2]; simp
      rw [mk_toList] at hcmp
      clear hrec2
      go_wp2_with fail
      refine (CS.out _).mono ?_
      rintro e w5 ⟨rfl, hb⟩
      have B5 := Lib.hid (below_next B4.out hb)
      have GY5 := Lib.hid (GY4.out.belowS hb)
      clear hb
      go_upto_region 10 with fail
      obtain ⟨cp, n, BR, hcp, hnn, hBRs, hBR, hconv⟩ := conv_any (P := Try.prog) w5 9 34 5 ⟨(recB x).toArray⟩ Try.underlying9 Try.underlying34 Try.underlying5
      obtain ⟨T, hTl, hT4⟩ := lowN turn 4 (by omega)
      rw [show ((4 : Nat) : Int) = 4 from rfl] at hTl
      have hRl : (recB x).length = (rowB x).length + 4 := by simp [recB, fourB_len]
      have hnl : (numB (payB x).length).length ≤ (rowB x).length := by simp [rowB, txt]
      have HSPL := Lib.hid (fun q d r h1 h2 h3 => stepF_spoilt x HXO.out q d r h1 h2 h3)
      have HRLEN := Lib.hid hRl
      have HNL := Lib.hid hnl
      clear hcmp n4 n5 z4 hnl hp
      generalize hR : recB x = R at *
      have hR5 : 4 ≤ R.length := by omega
      clear hRl hrl
      have hszS : (⟨R.toArray⟩ : ByteArray).size = R.length := rfl
      obtain ⟨P, hP⟩ : ∃ P, P = R.length - 1 - T := ⟨_, rfl⟩
      have hPl : P < R.length := by omega
      have hcell0 : (w5.alloc (.cells BR 5 (n, n + 1))).cell? ⟨w5.heap.size, P, none⟩ = some (.int .u8 (R[P].toNat : Int)) := (mark_cell w5 BR 5 n P).trans (hBR _ hPl)
      have hfro := mark_frozen w5 BR 5 n P (by rw [hszS] at hnn; omega)
      rw [hszS] at hcp hconv
      have HB := Lib.hid hBR
      have HTL := Lib.hid hTl
      clear hBR hTl hBRs hnn hszS
      have e1 : ((R.length : Int) - 1 - (T : Int)).toNat = P := by omega
      have e4 : (R.length : Int) - 1 - (T : Int) = (P : Int) := by omega
      have e2 : (0 : Int) ≤ (R.length : Int) - 1 - (T : Int) := by omega
      have e3 : (R.length : Int) - 1 - (T : Int) < (R.length : Int) := by omega
      go_wp2_with fail
      refine (low_any _ _ _ (by omega)).mono ?_
      rintro e w6 ⟨rfl, rfl⟩
      rw [HTL.out]
      have HP := Lib.hid hP
      clear hP
      go_wp2_with fail
      have R6 := set_cells w5 BR 5 n P R HB.out hPl (R[P] + 1) _ (inc_core R[P])
      have B56 := Lib.hid (((((Below.refl _ _).alloc (Nat.le_refl _) _).setCell (p := ⟨w5.heap.size, P, none⟩) (Nat.le_refl _) (.int .u8 (((R[P].toNat : Int) + 1) % 256))).drew) : Below w5.heap.size w5 (((w5.alloc (.cells BR 5 (n, n + 1))).setCell ⟨w5.heap.size, P, none⟩ (.int .u8 (((R[P].toNat : Int) + 1) % 256))).drew))
      have R66 := Lib.hid R6.drew
      have hstep := HSPL.out P (R[P] + 1) (recB y) (by have := HRLEN.out; have := HNL.out; have := HP.out; omega) hPl (inc_ne _)
      have HSTEP := Lib.hid hstep
      have hZl : (R.set P (R[P] + 1)).length = R.length := by simp
      clear R6 hstep hconv hcell0 hfro e1 e2 e3 e4
      generalize ((w5.alloc (.cells BR 5 (n, n + 1))).setCell ⟨w5.heap.size, P, none⟩ (.int .u8 (((R[P].toNat : Int) + 1) % 256))).drew = W6 at *
      generalize R.set P (R[P] + 1) = Z at *
      have GY6 := Lib.hid (GY5.out.belowS B56.out)
      have HCV := Lib.hid (fun W (hb : Below W6.heap.size W6 W) => rd_string (P := Try.prog) (W := W) (A := some ⟨w5.heap.size, 0, none⟩) (L := Z) (n := R.length) (c := cp) Try.underlying34 Try.underlying5 Try.underlying9 (R66.out.below hb) hZl.symm)
      have hrecy : recsB [y] = recB y := by simp [recsB]
      have CY := Lib.hid (jwrite_n (some ⟨W6.heap.size, 0, none⟩) [y] 1 1 rfl ((W6.alloc (.cells #[.int .i64 y.kind, .int .i64 y.frm, .string ⟨y.body.toArray⟩] 39)).drew) ((Rd.new W6 #[.int .i64 y.kind, .int .i64 y.frm, .string ⟨y.body.toArray⟩] 39).drew) (by simpa using HYO.out) (by simp))
      rw [hrecy] at CY
      have CR := Lib.hid (fun W => jread_any ((⟨Z.toArray⟩ : ByteArray) ++ (⟨(recB y).toArray⟩ : ByteArray)) W (by rw [ByteArray.size_append]; show Z.length + (recB y).length ≤ _; omega))
      rw [ba_app] at CR
      have hst : Reads (Z ++ recB y) [] 0 := .stop HSTEP.out
      have HST := Lib.hid hst
      have n6 : ¬ 9223372036854775807 < Z.length + (recB y).length := by omega
      clear hrecy hst hZl
      obtain ⟨y0, y1, y2⟩ := blk3 GY6.out
      have hcv0 := HCV.out W6 (Below.refl _ _)
      have keepS : ∀ W, Below W6.heap.size W6 W → Below W6.heap.size W6 W ∧ W.cell? ⟨w.heap.size + 1, 0, none⟩ = some (.int .i64 y.kind) ∧ W.cell? ⟨w.heap.size + 1, 1, none⟩ = some (.int .i64 y.frm) ∧ W.cell? ⟨w.heap.size + 1, 2, none⟩ = some (.string ⟨y.body.toArray⟩) ∧ (convert 34 9 (.slice (some ⟨w5.heap.size, 0, none⟩) R.length cp)).run Try.prog W = .ok (.string ⟨Z.toArray⟩) W := fun W hb =>
        ⟨hb, (blk3 (GY6.out.belowS hb)).1, (blk3 (GY6.out.belowS hb)).2.1, (blk3 (GY6.out.belowS hb)).2.2, HCV.out W hb⟩
      have KS := Lib.hid keepS
      clear keepS hcv0 y0 y1 y2
      go_region_held3 (fun W => Below W6.heap.size W6 W ∧ W.cell? ⟨w.heap.size + 1, 0, none⟩ = some (.int .i64 y.kind) ∧ W.cell? ⟨w.heap.size + 1, 1, none⟩ = some (.int .i64 y.frm) ∧ W.cell? ⟨w.heap.size + 1, 2, none⟩ = some (.string ⟨y.body.toArray⟩) ∧ (convert 34 9 (.slice (some ⟨w5.heap.size, 0, none⟩) R.length cp)).run Try.prog W = .ok (.string ⟨Z.toArray⟩) W)
        (first
          | (exact KS.out _ ((Below.refl _ _).drew))
          | (exact KS.out _ (below_next (And.left (by assumption)) (by assumption)))
          | (exact KS.out _ (below_allocS (And.left (by assumption)) _))
          | (exact KS.out _ ((below_allocS (Below.refl _ _) _).drew)))
        (first
          | (go_at_call 11; (with_reducible refine CY.out.mono ?_); rintro e wf ⟨rfl, hbf'⟩; have hbf := below_of_alloc (below_of_drew hbf'))
          | (go_at_call 12; (with_reducible refine (CR.out _).mono ?_); rintro e wf ⟨A9, L9, c9, m9, rfl, hR9, _, _, hbf⟩; obtain ⟨rfl, rfl⟩ := HST.out.same hR9.out))
      all_goals
        have BF := Lib.hid (below_next (And.left (show Below W6.heap.size W6 _ ∧ _ by assumption)) (Below.refl _ _))
        go_wp2_with fail
        go_ret
        exact ⟨rfl, below_next B5.out (below_next B56.out BF.out)⟩
end Go.Proofs.Ythepacphphiijaa
