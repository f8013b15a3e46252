/- Contracts: journal.May, Append, Sync, Fall, Mend. -/
import Derived.Test.YthepacphphiijaaJrRead
import Derived.Deep.RegionLaw
import Derived.Deep.DeepCutAuto
namespace Go.Proofs.Ythepacphphiijaa
open Go.RowKit

theorem jmay_any (s : ByteArray) (n : Int) (w : World) :
    Calls Try.prog 38 #[.agg #[.string s, .int .i64 n]] w fun e w' => e = .returned (.bool (decide (0 ≤ n ∧ n ≤ s.size))) ∧ Below w.heap.size w w' := by
  by_cases h : 0 ≤ n
  all_goals
    go_enter Try.func38, Try.ntmps38
    go_wp2
    go_ret
    exact ⟨ret_bool (by simp; try omega), (Below.refl _ _).alloc (Nat.le_refl _) _⟩
theorem blk2 {w : World} {g : Nat} {t : TypeId} {a b : Value} (h : Blk w g #[a, b] t) : w.cell? ⟨g, 0, none⟩ = some a ∧ w.cell? ⟨g, 1, none⟩ = some b ∧ w.frozen? ⟨g, 0, none⟩ = false ∧ w.frozen? ⟨g, 1, none⟩ = false :=
  ⟨h.cell 0, h.cell 1, h.frozen 0, h.frozen 1⟩
set_option maxRecDepth 100000 in
set_option maxHeartbeats 1600000 in
theorem jappend_any (s : ByteArray) (n : Int) (A : Option Addr) (l : List In) (c : Nat) (w : World) (h0 : 0 ≤ n) (h1 : n ≤ s.size) (hs : s.size ≤ 1000000000000) (ha : Rd w A (irow l)) (hok : ∀ x ∈ l, x.ok) (hl : l.length ≤ 1000) :
    Calls Try.prog 22 #[.agg #[.string s, .int .i64 n], .slice A l.length c] w fun e w' => e = .returned (.agg #[.string (s ++ ⟨(recsB l).toArray⟩), .int .i64 n]) ∧ Below w.heap.size w w' := by
  have hrl := recsB_len l hok
  have HA := Lib.hid ha
  have HOK := Lib.hid hok
  have hd : decide (0 ≤ n ∧ n ≤ s.size) = true := by simp; omega
  have CM := Lib.hid (fun W => jmay_any s n W)
  rw [hd] at CM
  obtain ⟨W1, hW1⟩ : ∃ W1, W1 = (w.alloc (.cells #[.string s, .int .i64 n] 55)).alloc (.cells #[.string ⟨#[]⟩, .int .i64 0] 55) := ⟨_, rfl⟩
  have GB := Lib.hid (show Blk W1 w.heap.size #[.string s, .int .i64 n] 55 by rw [hW1]; exact (Blk.new w _ _).alloc _)
  have GR := Lib.hid (show Blk W1 (w.heap.size + 1) #[.string ⟨#[]⟩, .int .i64 0] 55 by
    rw [hW1]
    have := Blk.new (w.alloc (.cells #[.string s, .int .i64 n] 55)) #[.string ⟨#[]⟩, .int .i64 0] 55
    rwa [World.size_alloc] at this)
  have B1 := Lib.hid (show Below w.heap.size w W1 by rw [hW1]; exact ((Below.refl _ _).alloc (Nat.le_refl _) _).alloc (by simp) _)
  have HW1 := Lib.hid hW1
  clear hW1 ha hok hd
  obtain ⟨x0, x1, f0, f1⟩ := blk2 GB.out
  go_enter Try.func22, Try.ntmps22
  go_wp2_with fail
  rw [← HW1.out]
  refine (CM.out _).mono ?_
  rintro e w2 ⟨rfl, hb2⟩
  have B2 := Lib.hid (below_next B1.out hb2)
  have G2 := Lib.hid (GB.out.belowS hb2)
  have R2 := Lib.hid (GR.out.belowS hb2)
  have CW := Lib.hid (fun W (hb : Below w2.heap.size w2 W) => jwrite_any A l c W ((HA.out.below B2.out).below hb) HOK.out hl)
  clear hb2 x0 x1 f0 f1
  obtain ⟨x0, x1, f0, f1⟩ := blk2 G2.out
  obtain ⟨r0, r1, q0, q1⟩ := blk2 R2.out
  have hlt := G2.out.lt
  have hlt2 := R2.out.lt
  go_wp2_with fail
  have hcat : ¬ (9223372036854775807 < s.size + (recsB l).length) := by omega
  have HCat := hcat
  clear hrl hs hcat h0 h1
  go_region_law (first
    | (go_simp; go_at_call 11; refine (CW.out _ (by exact (Below.refl _ _).drew)).mono ?_; rintro e w3 ⟨rfl, hb3'⟩; have hb3 := below_of_drew hb3'; obtain ⟨y0, y1, g0, g1⟩ := blk2 (G2.out.belowS hb3); go_simp))
  all_goals
    have B4 := Lib.hid (below_next B2.out hb3)
    have H3 := (G2.out.belowS hb3).set_ 0 (.string (s ++ ⟨(recsB l).toArray⟩))
    have I3 := (R2.out.belowS hb3).far (p := ⟨w.heap.size, 0, none⟩) (by simp) (.string (s ++ ⟨(recsB l).toArray⟩))
    have B5 := Lib.hid (B4.out.setCell (p := ⟨w.heap.size, 0, none⟩) (by simp) (.string (s ++ ⟨(recsB l).toArray⟩)))
    clear y0 y1 g0 g1 x0 x1 f0 f1 hb3 hb3' r0 r1 q0 q1 HCat
    generalize w3.setCell ⟨w.heap.size, 0, none⟩ (.string (s ++ ⟨(recsB l).toArray⟩)) = W6 at *
    obtain ⟨x0, x1, f0, f1⟩ := blk2 H3
    obtain ⟨r0, r1, q0, q1⟩ := blk2 I3
    have K7 := Lib.hid ((I3.set_ 0 (.string (s ++ ⟨(recsB l).toArray⟩))).set_ 1 (.int .i64 n))
    have B7 := Lib.hid ((B5.out.setCell (p := ⟨w.heap.size + 1, 0, none⟩) (by simp) (.string (s ++ ⟨(recsB l).toArray⟩))).setCell (p := ⟨w.heap.size + 1, 1, none⟩) (by simp) (.int .i64 n))
    clear H3 I3
    go_wp2_with fail
    generalize (W6.setCell ⟨w.heap.size + 1, 0, none⟩ (.string (s ++ ⟨(recsB l).toArray⟩))).setCell ⟨w.heap.size + 1, 1, none⟩ (.int .i64 n) = W7 at *
    obtain ⟨k0, k1, _, _⟩ := blk2 K7.out
    refine bodyPost_ret (v := .agg #[.string (s ++ ⟨(recsB l).toArray⟩), .int .i64 n]) (by simp [results, Try.results22, go_sem, k0, k1]) rfl ⟨rfl, B7.out⟩
set_option maxRecDepth 100000 in
set_option maxHeartbeats 1600000 in
theorem jsync_any (s : ByteArray) (n : Int) (w : World) (h0 : 0 ≤ n) (h1 : n ≤ s.size) :
    Calls Try.prog 39 #[.agg #[.string s, .int .i64 n]] w fun e w' => e = .returned (.agg #[.string s, .int .i64 s.size]) ∧ Below w.heap.size w w' := by
  have hd : decide (0 ≤ n ∧ n ≤ s.size) = true := by simp; omega
  have CM := Lib.hid (fun W => jmay_any s n W)
  rw [hd] at CM
  clear hd h0 h1
  obtain ⟨W1, hW1⟩ : ∃ W1, W1 = (w.alloc (.cells #[.string s, .int .i64 n] 55)).alloc (.cells #[.string ⟨#[]⟩, .int .i64 0] 55) := ⟨_, rfl⟩
  have GB := Lib.hid (show Blk W1 w.heap.size #[.string s, .int .i64 n] 55 by rw [hW1]; exact (Blk.new w _ _).alloc _)
  have GR := Lib.hid (show Blk W1 (w.heap.size + 1) #[.string ⟨#[]⟩, .int .i64 0] 55 by
    rw [hW1]
    have := Blk.new (w.alloc (.cells #[.string s, .int .i64 n] 55)) #[.string ⟨#[]⟩, .int .i64 0] 55
    rwa [World.size_alloc] at this)
  have B1 := Lib.hid (show Below w.heap.size w W1 by rw [hW1]; exact ((Below.refl _ _).alloc (Nat.le_refl _) _).alloc (by simp) _)
  have HW1 := Lib.hid hW1
  clear hW1
  obtain ⟨x0, x1, f0, f1⟩ := blk2 GB.out
  go_enter Try.func39, Try.ntmps39
  go_wp2_with fail
  rw [← HW1.out]
  refine (CM.out _).mono ?_
  rintro e w2 ⟨rfl, hb2⟩
  have B2 := Lib.hid (below_next B1.out hb2)
  have G2 := Lib.hid (GB.out.belowS hb2)
  have R2 := Lib.hid (GR.out.belowS hb2)
  clear hb2 x0 x1 f0 f1
  obtain ⟨x0, x1, f0, f1⟩ := blk2 G2.out
  obtain ⟨r0, r1, q0, q1⟩ := blk2 R2.out
  have hlt := G2.out.lt
  have hlt2 := R2.out.lt
  go_upto_region 3 with fail
  have G3 := Lib.hid (G2.out.set_ 1 (.int .i64 s.size))
  have R3 := Lib.hid (R2.out.far (p := ⟨w.heap.size, 1, none⟩) (by simp) (.int .i64 s.size))
  have B3 := Lib.hid (B2.out.setCell (p := ⟨w.heap.size, 1, none⟩) (by simp) (.int .i64 s.size))
  generalize w2.setCell ⟨w.heap.size, 1, none⟩ (.int .i64 s.size) = W3 at *
  clear x0 x1 f0 f1 r0 r1 q0 q1
  obtain ⟨x0, x1, f0, f1⟩ := blk2 G3.out
  obtain ⟨r0, r1, q0, q1⟩ := blk2 R3.out
  have K7 := Lib.hid ((R3.out.set_ 0 (.string s)).set_ 1 (.int .i64 s.size))
  have B7 := Lib.hid ((B3.out.setCell (p := ⟨w.heap.size + 1, 0, none⟩) (by simp) (.string s)).setCell (p := ⟨w.heap.size + 1, 1, none⟩) (by simp) (.int .i64 s.size))
  go_wp2_with fail
  generalize (W3.setCell ⟨w.heap.size + 1, 0, none⟩ (.string s)).setCell ⟨w.heap.size + 1, 1, none⟩ (.int .i64 s.size) = W7 at *
  obtain ⟨k0, k1, _, _⟩ := blk2 K7.out
  refine bodyPost_ret (v := .agg #[.string s, .int .i64 s.size]) (by simp [results, Try.results39, go_sem, k0, k1]) rfl ⟨rfl, B7.out⟩
set_option maxRecDepth 100000 in
set_option maxHeartbeats 1600000 in
theorem jfall0_any (s : ByteArray) (w : World) (hs : s.size ≤ 1000000000000) :
    Calls Try.prog 24 #[.agg #[.string s, .int .i64 0], .int .i64 0] w fun e w' => e = .returned (.agg #[.string ⟨#[]⟩, .int .i64 0]) ∧ Below w.heap.size w w' := by
  have CM := Lib.hid (fun W => jmay_any s 0 W)
  have hd : decide ((0 : Int) ≤ 0 ∧ (0 : Int) ≤ s.size) = true := by simp
  rw [hd] at CM
  have CY := Lib.hid (fun W => jsync_any ByteArray.empty 0 W (by omega) (by simp))
  have hw : IntKind.u64.wrap ((s.size : Int) + 1) = (s.size : Int) + 1 := IntWalk.u64_in _ (by omega)
  have hx : s.extract 0 0 = ⟨#[]⟩ := ba_cut s 0 0 [] (by simp)
  have HX := Lib.hid hx
  clear hd hx
  obtain ⟨W1, hW1⟩ : ∃ W1, W1 = (w.alloc (.cells #[.string s, .int .i64 0] 55)).alloc (.cells #[.string ⟨#[]⟩, .int .i64 0] 55) := ⟨_, rfl⟩
  have GB := Lib.hid (show Blk W1 w.heap.size #[.string s, .int .i64 0] 55 by rw [hW1]; exact (Blk.new w _ _).alloc _)
  have GR := Lib.hid (show Blk W1 (w.heap.size + 1) #[.string ⟨#[]⟩, .int .i64 0] 55 by
    rw [hW1]
    have := Blk.new (w.alloc (.cells #[.string s, .int .i64 0] 55)) #[.string ⟨#[]⟩, .int .i64 0] 55
    rwa [World.size_alloc] at this)
  have B1 := Lib.hid (show Below w.heap.size w W1 by rw [hW1]; exact ((Below.refl _ _).alloc (Nat.le_refl _) _).alloc (by simp) _)
  have HW1 := Lib.hid hW1
  clear hW1
  obtain ⟨x0, x1, f0, f1⟩ := blk2 GB.out
  go_enter Try.func24, Try.ntmps24
  go_wp2_with fail
  rw [← HW1.out]
  refine (CM.out _).mono ?_
  rintro e w2 ⟨rfl, hb2⟩
  have B2 := Lib.hid (below_next B1.out hb2)
  have G2 := Lib.hid (GB.out.belowS hb2)
  have R2 := Lib.hid (GR.out.belowS hb2)
  clear hb2 x0 x1 f0 f1
  obtain ⟨x0, x1, f0, f1⟩ := blk2 G2.out
  obtain ⟨r0, r1, q0, q1⟩ := blk2 R2.out
  have hlt := G2.out.lt
  have hlt2 := R2.out.lt
  go_upto_region 5 with fail
  have G3 := Lib.hid (G2.out.set_ 0 (.string ByteArray.empty))
  have R3 := Lib.hid (R2.out.far (p := ⟨w.heap.size, 0, none⟩) (by simp) (.string ByteArray.empty))
  have B3 := Lib.hid (B2.out.setCell (p := ⟨w.heap.size, 0, none⟩) (by simp) (.string ByteArray.empty))
  generalize w2.setCell ⟨w.heap.size, 0, none⟩ (.string ByteArray.empty) = W3 at *
  clear x0 x1 f0 f1 r0 r1 q0 q1 hlt hlt2
  obtain ⟨x0, x1, f0, f1⟩ := blk2 G3.out
  go_wp2_with fail
  refine (CY.out _).mono ?_
  rintro e w4 ⟨rfl, hb4⟩
  have B4 := Lib.hid (below_next B3.out hb4)
  have R4 := Lib.hid (R3.out.belowS hb4)
  clear hb4 x0 x1 f0 f1
  obtain ⟨r0, r1, q0, q1⟩ := blk2 R4.out
  have hlt2 := R4.out.lt
  have K7 := Lib.hid ((R4.out.set_ 0 (.string ByteArray.empty)).set_ 1 (.int .i64 0))
  have B7 := Lib.hid ((B4.out.setCell (p := ⟨w.heap.size + 1, 0, none⟩) (by simp) (.string ByteArray.empty)).setCell (p := ⟨w.heap.size + 1, 1, none⟩) (by simp) (.int .i64 0))
  go_wp2_with fail
  generalize (w4.setCell ⟨w.heap.size + 1, 0, none⟩ (.string ByteArray.empty)).setCell ⟨w.heap.size + 1, 1, none⟩ (.int .i64 0) = W7 at *
  obtain ⟨k0, k1, _, _⟩ := blk2 K7.out
  refine bodyPost_ret (v := .agg #[.string ByteArray.empty, .int .i64 0]) (by simp [results, Try.results24, go_sem, k0, k1]) rfl ⟨rfl, B7.out⟩
set_option maxRecDepth 100000 in
set_option maxHeartbeats 1600000 in
theorem jmend0_any (w : World) :
    Calls Try.prog 23 #[.agg #[.string ⟨#[]⟩, .int .i64 0]] w fun e w' => (∃ A c, e = .returned (.tuple #[.agg #[.string ⟨#[]⟩, .int .i64 0], .slice A 0 c])) ∧ Below w.heap.size w w' := by
  have CM := Lib.hid (fun W => jmay_any ⟨#[]⟩ 0 W)
  have hd : decide ((0 : Int) ≤ 0 ∧ (0 : Int) ≤ ((⟨#[]⟩ : ByteArray).size : Int)) = true := rfl
  rw [hd] at CM
  have CR := Lib.hid (fun W => jread_any ⟨#[]⟩ W (by decide))
  clear hd
  obtain ⟨W1, hW1⟩ : ∃ W1, W1 = (w.alloc (.cells #[.string ⟨#[]⟩, .int .i64 0] 55)).alloc (.cells #[.string ⟨#[]⟩, .int .i64 0] 55) := ⟨_, rfl⟩
  have GB := Lib.hid (show Blk W1 w.heap.size #[.string ⟨#[]⟩, .int .i64 0] 55 by rw [hW1]; exact (Blk.new w _ _).alloc _)
  have GR := Lib.hid (show Blk W1 (w.heap.size + 1) #[.string ⟨#[]⟩, .int .i64 0] 55 by
    rw [hW1]
    have := Blk.new (w.alloc (.cells #[.string ⟨#[]⟩, .int .i64 0] 55)) #[.string ⟨#[]⟩, .int .i64 0] 55
    rwa [World.size_alloc] at this)
  have B1 := Lib.hid (show Below w.heap.size w W1 by rw [hW1]; exact ((Below.refl _ _).alloc (Nat.le_refl _) _).alloc (by simp) _)
  have HW1 := Lib.hid hW1
  clear hW1
  obtain ⟨x0, x1, f0, f1⟩ := blk2 GB.out
  go_enter Try.func23, Try.ntmps23
  go_wp2_with fail
  rw [← HW1.out]
  refine (CM.out _).mono ?_
  rintro e w2 ⟨rfl, hb2⟩
  have B2 := Lib.hid (below_next B1.out hb2)
  have G2 := Lib.hid (GB.out.belowS hb2)
  have R2 := Lib.hid (GR.out.belowS hb2)
  clear hb2 x0 x1 f0 f1
  obtain ⟨x0, x1, f0, f1⟩ := blk2 G2.out
  go_wp2_with fail
  refine (CR.out _).mono ?_
  rintro e w3 ⟨A, L, c, m, rfl, hR, hle, _, hb3⟩
  have hst : Reads (⟨#[]⟩ : ByteArray).data.toList [] 0 := .stop rfl
  obtain ⟨rfl, rfl⟩ := hst.same hR.out
  have B3 := Lib.hid (below_next B2.out hb3)
  have G3 := Lib.hid (G2.out.belowS hb3)
  have R3 := Lib.hid (R2.out.belowS hb3)
  clear hb3 x0 x1 f0 f1 hst hR hle
  obtain ⟨x0, x1, f0, f1⟩ := blk2 G3.out
  obtain ⟨r0, r1, q0, q1⟩ := blk2 R3.out
  have hlt := G3.out.lt
  have hlt2 := R3.out.lt
  go_upto_region 6 with fail
  have G4 := Lib.hid ((G3.out.set_ 0 (.string ByteArray.empty)).set_ 1 (.int .i64 0))
  have R4 := Lib.hid ((R3.out.far (p := ⟨w.heap.size, 0, none⟩) (by simp) (.string ByteArray.empty)).far (p := ⟨w.heap.size, 1, none⟩) (by simp) (.int .i64 0))
  have B4 := Lib.hid ((B3.out.setCell (p := ⟨w.heap.size, 0, none⟩) (by simp) (.string ByteArray.empty)).setCell (p := ⟨w.heap.size, 1, none⟩) (by simp) (.int .i64 0))
  generalize (w3.setCell ⟨w.heap.size, 0, none⟩ (.string ByteArray.empty)).setCell ⟨w.heap.size, 1, none⟩ (.int .i64 0) = W4 at *
  clear x0 x1 f0 f1 r0 r1 q0 q1 hlt hlt2
  obtain ⟨x0, x1, f0, f1⟩ := blk2 G4.out
  obtain ⟨r0, r1, q0, q1⟩ := blk2 R4.out
  have K7 := Lib.hid ((R4.out.set_ 0 (.string ByteArray.empty)).set_ 1 (.int .i64 0))
  have B7 := Lib.hid ((B4.out.setCell (p := ⟨w.heap.size + 1, 0, none⟩) (by simp) (.string ByteArray.empty)).setCell (p := ⟨w.heap.size + 1, 1, none⟩) (by simp) (.int .i64 0))
  go_wp2_with fail
  generalize (W4.setCell ⟨w.heap.size + 1, 0, none⟩ (.string ByteArray.empty)).setCell ⟨w.heap.size + 1, 1, none⟩ (.int .i64 0) = W7 at *
  obtain ⟨k0, k1, _, _⟩ := blk2 K7.out
  refine bodyPost_ret (v := .tuple #[.agg #[.string ByteArray.empty, .int .i64 0], .slice A 0 c]) (by simp [results, Try.results23, go_sem, k0, k1]) rfl ⟨⟨A, c, rfl⟩, B7.out⟩
end Go.Proofs.Ythepacphphiijaa
