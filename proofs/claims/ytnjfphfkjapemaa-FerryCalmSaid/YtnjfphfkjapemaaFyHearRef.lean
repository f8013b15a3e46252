/- Contract: reparteeref36.HearFerry, case by case. -/
import Derived.Test.YtnjfphfkjapemaaFyHear
namespace Go.Proofs.Ytnjfphfkjapemaa
open Go.RowKit
theorem strs_set1 {w : World} {A : Option Addr} {l : List ByteArray} (h : Strs w A l) {g : Nat} {t : TypeId} {cs : Array Value} (hg : w.heap[g]? = some (.cells cs t (0, 0))) (hcs : ∀ (i : Nat) (s : ByteArray), cs[i]? ≠ some (Value.string s)) (i : Nat) (x : Value) :
    Strs (w.setCell ⟨g, i, none⟩ x) A l := strs_grown h hg hcs (grown_set (grown_of_below (Below.refl _ _) _) rfl _)

set_option maxHeartbeats 1600000 in
theorem hearR_not (b : Int) (A : Option Addr) (l : List ByteArray) (c : Nat) (v : Int) (k f t q : Int) (s : ByteArray) (w : World) (ha : Strs w A l) (hl : l.length ≤ 1000) (hm : (Fy.mk b l v).may = false) :
    Calls Try.prog 13 #[.agg #[.int .i64 b, .slice A l.length c, .int .i64 v], .agg #[.int .i64 k, .int .i64 f, .int .i64 t, .int .i64 q, .string s]] w (OutH w (⟨b, l, v⟩, ⟨#[]⟩, false)) := by
  obtain ⟨W0, hW0⟩ : ∃ W0, W0 = ((w.alloc (.cells #[.int .i64 b, .slice A l.length c, .int .i64 v] 24)).alloc (.cells #[.int .i64 k, .int .i64 f, .int .i64 t, .int .i64 q, .string s] 26)).alloc (.cells #[.int .i64 0, .slice none 0 0, .int .i64 0] 24) := ⟨_, rfl⟩
  have hsz : W0.heap.size = w.heap.size + 1 + 1 + 1 := by rw [hW0]; simp
  have B0 : Below w.heap.size w W0 := by rw [hW0]; exact (((Below.refl _ _).alloc (Nat.le_refl _) _).alloc (by simp) _).alloc (by simp; omega) _
  have b1 : Blk W0 w.heap.size #[.int .i64 b, .slice A l.length c, .int .i64 v] 24 := by rw [hW0]; exact ((Blk.new w _ _).alloc _).alloc _
  have b2 : Blk W0 (w.heap.size + 1) #[.int .i64 k, .int .i64 f, .int .i64 t, .int .i64 q, .string s] 26 := by
    rw [hW0]
    have := Blk.new (w.alloc (.cells #[.int .i64 b, .slice A l.length c, .int .i64 v] 24)) #[.int .i64 k, .int .i64 f, .int .i64 t, .int .i64 q, .string s] 26
    rw [World.size_alloc] at this
    exact this.alloc _
  have b3 : Blk W0 (w.heap.size + 1 + 1) #[.int .i64 0, .slice none 0 0, .int .i64 0] 24 := by
    rw [hW0]
    have := Blk.new ((w.alloc (.cells #[.int .i64 b, .slice A l.length c, .int .i64 v] 24)).alloc (.cells #[.int .i64 k, .int .i64 f, .int .i64 t, .int .i64 q, .string s] 26)) #[.int .i64 0, .slice none 0 0, .int .i64 0] 24
    rw [World.size_alloc, World.size_alloc] at this
    exact this
  have SA : Strs W0 A l := ha.below B0
  have HW := Lib.hid hW0
  have HZ := Lib.hid hsz
  have HB0 := Lib.hid B0
  have H1 := Lib.hid b1
  have H2 := Lib.hid b2
  have H3 := Lib.hid b3
  have HSA := Lib.hid SA
  clear hW0 hsz B0 b1 b2 b3 SA ha
  have HM := Lib.hid hm
  clear hm
  go_enter Try.func13, Try.ntmps13
  go_wp2_with fail
  rw [← HW.out]
  refine (copy_any _ _ _ _ _ _ HSA.out (by omega)).mono ?_
  rintro e w1 ⟨A1, c1, rfl, hle1, hown1, hb1⟩
  have S1 := Lib.hid (show Strs w1 A1 l from own_rd hown1)
  have HB1 := Lib.hid hb1
  obtain ⟨x0, x1, x2⟩ := blk3 ((H1.out.belowS hb1).alloc (.cells #[.int .i64 b, .slice A1 l.length c1, .int .i64 v] 24))
  have hs1 := hb1.size
  rw [HZ.out] at hs1
  clear hown1 hb1
  go_wp2_with fail
  refine (mayR_any _ _ _ _ _ _).mono ?_
  rintro e w2 ⟨rfl, hb2⟩
  rw [HM.out]
  have HB2 := Lib.hid hb2
  have hs2 := hb2.size
  simp only [World.size_alloc] at hs2
  have S2 := Lib.hid ((S1.out.alloc _).below hb2)
  have G2 := Lib.hid (((Blk.new w1 #[.int .i64 b, .slice A1 l.length c1, .int .i64 v] 24)).belowS hb2)
  have M2 := Lib.hid (((H2.out.belowS HB1.out).alloc (.cells #[.int .i64 b, .slice A1 l.length c1, .int .i64 v] 24)).belowS hb2)
  have F2 := Lib.hid (((H1.out.belowS HB1.out).alloc (.cells #[.int .i64 b, .slice A1 l.length c1, .int .i64 v] 24)).belowS hb2)
  have SF2 := Lib.hid (((HSA.out.below HB1.out).alloc (.cells #[.int .i64 b, .slice A1 l.length c1, .int .i64 v] 24)).below hb2)
  have R2 := Lib.hid (((H3.out.belowS HB1.out).alloc (.cells #[.int .i64 b, .slice A1 l.length c1, .int .i64 v] 24)).belowS hb2)
  have BB := Lib.hid (below_next (below_next HB0.out HB1.out) (below_of_alloc hb2))
  obtain ⟨g0, g1, g2⟩ := blk3 G2.out
  obtain ⟨m0, m1, m2, m3, m4⟩ := blk5 M2.out
  obtain ⟨f0, f1, f2⟩ := blk3 F2.out
  obtain ⟨fg0, fg1, fg2⟩ := blk3f G2.out
  obtain ⟨r0, r1, r2⟩ := blk3 R2.out
  obtain ⟨fr0, fr1, fr2⟩ := blk3f R2.out
  clear hb2 x0 x1 x2
  go_wp2_with fail
  refine bodyPost_ret (v := .tuple #[.agg #[.int .i64 b, .slice A1 l.length c1, .int .i64 v], .string ⟨#[]⟩, .bool false]) (by simp [results, Try.results13, go_sem, r0, r1, r2]) rfl ⟨b, A1, l, c1, v, rfl, Lib.hid rfl, hle1, ?_, ?_⟩
  · exact strs_set3 S2.out _ _ _ _ _ _ R2.out (no_string _ _ _ _ _)
  · exact (((BB.out.setCell (by simp; omega) _).setCell (by simp; omega) _).setCell (by simp; omega) _)

set_option maxHeartbeats 1600000 in
theorem hearR_other (b : Int) (A : Option Addr) (l : List ByteArray) (c : Nat) (v : Int) (k f t q : Int) (s : ByteArray) (w : World) (ha : Strs w A l) (hl : l.length ≤ 1000) (hm : (Fy.mk b l v).may = true) (hk1 : k ≠ 1) (hk2 : k ≠ 2) :
    Calls Try.prog 13 #[.agg #[.int .i64 b, .slice A l.length c, .int .i64 v], .agg #[.int .i64 k, .int .i64 f, .int .i64 t, .int .i64 q, .string s]] w (OutH w (⟨b, l, v⟩, ⟨#[]⟩, false)) := by
  obtain ⟨W0, hW0⟩ : ∃ W0, W0 = ((w.alloc (.cells #[.int .i64 b, .slice A l.length c, .int .i64 v] 24)).alloc (.cells #[.int .i64 k, .int .i64 f, .int .i64 t, .int .i64 q, .string s] 26)).alloc (.cells #[.int .i64 0, .slice none 0 0, .int .i64 0] 24) := ⟨_, rfl⟩
  have hsz : W0.heap.size = w.heap.size + 1 + 1 + 1 := by rw [hW0]; simp
  have B0 : Below w.heap.size w W0 := by rw [hW0]; exact (((Below.refl _ _).alloc (Nat.le_refl _) _).alloc (by simp) _).alloc (by simp; omega) _
  have b1 : Blk W0 w.heap.size #[.int .i64 b, .slice A l.length c, .int .i64 v] 24 := by rw [hW0]; exact ((Blk.new w _ _).alloc _).alloc _
  have b2 : Blk W0 (w.heap.size + 1) #[.int .i64 k, .int .i64 f, .int .i64 t, .int .i64 q, .string s] 26 := by
    rw [hW0]
    have := Blk.new (w.alloc (.cells #[.int .i64 b, .slice A l.length c, .int .i64 v] 24)) #[.int .i64 k, .int .i64 f, .int .i64 t, .int .i64 q, .string s] 26
    rw [World.size_alloc] at this
    exact this.alloc _
  have b3 : Blk W0 (w.heap.size + 1 + 1) #[.int .i64 0, .slice none 0 0, .int .i64 0] 24 := by
    rw [hW0]
    have := Blk.new ((w.alloc (.cells #[.int .i64 b, .slice A l.length c, .int .i64 v] 24)).alloc (.cells #[.int .i64 k, .int .i64 f, .int .i64 t, .int .i64 q, .string s] 26)) #[.int .i64 0, .slice none 0 0, .int .i64 0] 24
    rw [World.size_alloc, World.size_alloc] at this
    exact this
  have SA : Strs W0 A l := ha.below B0
  have HW := Lib.hid hW0
  have HZ := Lib.hid hsz
  have HB0 := Lib.hid B0
  have H1 := Lib.hid b1
  have H2 := Lib.hid b2
  have H3 := Lib.hid b3
  have HSA := Lib.hid SA
  clear hW0 hsz B0 b1 b2 b3 SA ha
  have HM := Lib.hid hm
  clear hm
  have hq1 : (k == 1) = false := by simpa using hk1
  have hq2 : (k == 2) = false := by simpa using hk2
  clear hk1 hk2
  go_enter Try.func13, Try.ntmps13
  go_wp2_with fail
  rw [← HW.out]
  refine (copy_any _ _ _ _ _ _ HSA.out (by omega)).mono ?_
  rintro e w1 ⟨A1, c1, rfl, hle1, hown1, hb1⟩
  have S1 := Lib.hid (show Strs w1 A1 l from own_rd hown1)
  have HB1 := Lib.hid hb1
  obtain ⟨x0, x1, x2⟩ := blk3 ((H1.out.belowS hb1).alloc (.cells #[.int .i64 b, .slice A1 l.length c1, .int .i64 v] 24))
  have hs1 := hb1.size
  rw [HZ.out] at hs1
  clear hown1 hb1
  go_wp2_with fail
  refine (mayR_any _ _ _ _ _ _).mono ?_
  rintro e w2 ⟨rfl, hb2⟩
  rw [HM.out]
  have HB2 := Lib.hid hb2
  have hs2 := hb2.size
  simp only [World.size_alloc] at hs2
  have S2 := Lib.hid ((S1.out.alloc _).below hb2)
  have G2 := Lib.hid (((Blk.new w1 #[.int .i64 b, .slice A1 l.length c1, .int .i64 v] 24)).belowS hb2)
  have M2 := Lib.hid (((H2.out.belowS HB1.out).alloc (.cells #[.int .i64 b, .slice A1 l.length c1, .int .i64 v] 24)).belowS hb2)
  have F2 := Lib.hid (((H1.out.belowS HB1.out).alloc (.cells #[.int .i64 b, .slice A1 l.length c1, .int .i64 v] 24)).belowS hb2)
  have SF2 := Lib.hid (((HSA.out.below HB1.out).alloc (.cells #[.int .i64 b, .slice A1 l.length c1, .int .i64 v] 24)).below hb2)
  have R2 := Lib.hid (((H3.out.belowS HB1.out).alloc (.cells #[.int .i64 b, .slice A1 l.length c1, .int .i64 v] 24)).belowS hb2)
  have BB := Lib.hid (below_next (below_next HB0.out HB1.out) (below_of_alloc hb2))
  obtain ⟨g0, g1, g2⟩ := blk3 G2.out
  obtain ⟨m0, m1, m2, m3, m4⟩ := blk5 M2.out
  obtain ⟨f0, f1, f2⟩ := blk3 F2.out
  obtain ⟨fg0, fg1, fg2⟩ := blk3f G2.out
  obtain ⟨r0, r1, r2⟩ := blk3 R2.out
  obtain ⟨fr0, fr1, fr2⟩ := blk3f R2.out
  clear hb2 x0 x1 x2
  go_wp2_with fail
  refine bodyPost_ret (v := .tuple #[.agg #[.int .i64 b, .slice A1 l.length c1, .int .i64 v], .string ⟨#[]⟩, .bool false]) (by simp [results, Try.results13, go_sem, r0, r1, r2]) rfl ⟨b, A1, l, c1, v, rfl, Lib.hid rfl, hle1, ?_, ?_⟩
  · exact strs_set3 S2.out _ _ _ _ _ _ R2.out (no_string _ _ _ _ _)
  · exact (((BB.out.setCell (by simp; omega) _).setCell (by simp; omega) _).setCell (by simp; omega) _)

set_option maxHeartbeats 1600000 in
theorem hearR_data0 (b : Int) (A : Option Addr) (l : List ByteArray) (c : Nat) (v : Int) (f t q : Int) (s : ByteArray) (w : World) (ha : Strs w A l) (hl : l.length ≤ 1000) (hm : (Fy.mk b l v).may = true) (hq : q ≠ v) :
    Calls Try.prog 13 #[.agg #[.int .i64 b, .slice A l.length c, .int .i64 v], .agg #[.int .i64 1, .int .i64 f, .int .i64 t, .int .i64 q, .string s]] w (OutH w (⟨b, l, v⟩, ⟨#[]⟩, false)) := by
  obtain ⟨W0, hW0⟩ : ∃ W0, W0 = ((w.alloc (.cells #[.int .i64 b, .slice A l.length c, .int .i64 v] 24)).alloc (.cells #[.int .i64 1, .int .i64 f, .int .i64 t, .int .i64 q, .string s] 26)).alloc (.cells #[.int .i64 0, .slice none 0 0, .int .i64 0] 24) := ⟨_, rfl⟩
  have hsz : W0.heap.size = w.heap.size + 1 + 1 + 1 := by rw [hW0]; simp
  have B0 : Below w.heap.size w W0 := by rw [hW0]; exact (((Below.refl _ _).alloc (Nat.le_refl _) _).alloc (by simp) _).alloc (by simp; omega) _
  have b1 : Blk W0 w.heap.size #[.int .i64 b, .slice A l.length c, .int .i64 v] 24 := by rw [hW0]; exact ((Blk.new w _ _).alloc _).alloc _
  have b2 : Blk W0 (w.heap.size + 1) #[.int .i64 1, .int .i64 f, .int .i64 t, .int .i64 q, .string s] 26 := by
    rw [hW0]
    have := Blk.new (w.alloc (.cells #[.int .i64 b, .slice A l.length c, .int .i64 v] 24)) #[.int .i64 1, .int .i64 f, .int .i64 t, .int .i64 q, .string s] 26
    rw [World.size_alloc] at this
    exact this.alloc _
  have b3 : Blk W0 (w.heap.size + 1 + 1) #[.int .i64 0, .slice none 0 0, .int .i64 0] 24 := by
    rw [hW0]
    have := Blk.new ((w.alloc (.cells #[.int .i64 b, .slice A l.length c, .int .i64 v] 24)).alloc (.cells #[.int .i64 1, .int .i64 f, .int .i64 t, .int .i64 q, .string s] 26)) #[.int .i64 0, .slice none 0 0, .int .i64 0] 24
    rw [World.size_alloc, World.size_alloc] at this
    exact this
  have SA : Strs W0 A l := ha.below B0
  have HW := Lib.hid hW0
  have HZ := Lib.hid hsz
  have HB0 := Lib.hid B0
  have H1 := Lib.hid b1
  have H2 := Lib.hid b2
  have H3 := Lib.hid b3
  have HSA := Lib.hid SA
  clear hW0 hsz B0 b1 b2 b3 SA ha
  have HM := Lib.hid hm
  clear hm
  have hqv : (q == v) = false := by simpa using hq
  clear hq
  go_enter Try.func13, Try.ntmps13
  go_wp2_with fail
  rw [← HW.out]
  refine (copy_any _ _ _ _ _ _ HSA.out (by omega)).mono ?_
  rintro e w1 ⟨A1, c1, rfl, hle1, hown1, hb1⟩
  have S1 := Lib.hid (show Strs w1 A1 l from own_rd hown1)
  have HB1 := Lib.hid hb1
  obtain ⟨x0, x1, x2⟩ := blk3 ((H1.out.belowS hb1).alloc (.cells #[.int .i64 b, .slice A1 l.length c1, .int .i64 v] 24))
  have hs1 := hb1.size
  rw [HZ.out] at hs1
  clear hown1 hb1
  go_wp2_with fail
  refine (mayR_any _ _ _ _ _ _).mono ?_
  rintro e w2 ⟨rfl, hb2⟩
  rw [HM.out]
  have HB2 := Lib.hid hb2
  have hs2 := hb2.size
  simp only [World.size_alloc] at hs2
  have S2 := Lib.hid ((S1.out.alloc _).below hb2)
  have G2 := Lib.hid (((Blk.new w1 #[.int .i64 b, .slice A1 l.length c1, .int .i64 v] 24)).belowS hb2)
  have M2 := Lib.hid (((H2.out.belowS HB1.out).alloc (.cells #[.int .i64 b, .slice A1 l.length c1, .int .i64 v] 24)).belowS hb2)
  have F2 := Lib.hid (((H1.out.belowS HB1.out).alloc (.cells #[.int .i64 b, .slice A1 l.length c1, .int .i64 v] 24)).belowS hb2)
  have SF2 := Lib.hid (((HSA.out.below HB1.out).alloc (.cells #[.int .i64 b, .slice A1 l.length c1, .int .i64 v] 24)).below hb2)
  have R2 := Lib.hid (((H3.out.belowS HB1.out).alloc (.cells #[.int .i64 b, .slice A1 l.length c1, .int .i64 v] 24)).belowS hb2)
  have BB := Lib.hid (below_next (below_next HB0.out HB1.out) (below_of_alloc hb2))
  obtain ⟨g0, g1, g2⟩ := blk3 G2.out
  obtain ⟨m0, m1, m2, m3, m4⟩ := blk5 M2.out
  obtain ⟨f0, f1, f2⟩ := blk3 F2.out
  obtain ⟨fg0, fg1, fg2⟩ := blk3f G2.out
  obtain ⟨r0, r1, r2⟩ := blk3 R2.out
  obtain ⟨fr0, fr1, fr2⟩ := blk3f R2.out
  clear hb2 x0 x1 x2
  go_wp2_with fail
  refine bodyPost_ret (v := .tuple #[.agg #[.int .i64 b, .slice A1 l.length c1, .int .i64 v], .string ⟨#[]⟩, .bool false]) (by simp [results, Try.results13, go_sem, r0, r1, r2]) rfl ⟨b, A1, l, c1, v, rfl, Lib.hid rfl, hle1, ?_, ?_⟩
  · exact strs_set3 S2.out _ _ _ _ _ _ R2.out (no_string _ _ _ _ _)
  · exact (((BB.out.setCell (by simp; omega) _).setCell (by simp; omega) _).setCell (by simp; omega) _)

set_option maxHeartbeats 1600000 in
theorem hearR_ack0a (b : Int) (A : Option Addr) (l : List ByteArray) (c : Nat) (v : Int) (f t q : Int) (s : ByteArray) (w : World) (ha : Strs w A l) (hl : l.length ≤ 1000) (hm : (Fy.mk b l v).may = true) (hq : ¬ b < q) :
    Calls Try.prog 13 #[.agg #[.int .i64 b, .slice A l.length c, .int .i64 v], .agg #[.int .i64 2, .int .i64 f, .int .i64 t, .int .i64 q, .string s]] w (OutH w (⟨b, l, v⟩, ⟨#[]⟩, false)) := by
  obtain ⟨W0, hW0⟩ : ∃ W0, W0 = ((w.alloc (.cells #[.int .i64 b, .slice A l.length c, .int .i64 v] 24)).alloc (.cells #[.int .i64 2, .int .i64 f, .int .i64 t, .int .i64 q, .string s] 26)).alloc (.cells #[.int .i64 0, .slice none 0 0, .int .i64 0] 24) := ⟨_, rfl⟩
  have hsz : W0.heap.size = w.heap.size + 1 + 1 + 1 := by rw [hW0]; simp
  have B0 : Below w.heap.size w W0 := by rw [hW0]; exact (((Below.refl _ _).alloc (Nat.le_refl _) _).alloc (by simp) _).alloc (by simp; omega) _
  have b1 : Blk W0 w.heap.size #[.int .i64 b, .slice A l.length c, .int .i64 v] 24 := by rw [hW0]; exact ((Blk.new w _ _).alloc _).alloc _
  have b2 : Blk W0 (w.heap.size + 1) #[.int .i64 2, .int .i64 f, .int .i64 t, .int .i64 q, .string s] 26 := by
    rw [hW0]
    have := Blk.new (w.alloc (.cells #[.int .i64 b, .slice A l.length c, .int .i64 v] 24)) #[.int .i64 2, .int .i64 f, .int .i64 t, .int .i64 q, .string s] 26
    rw [World.size_alloc] at this
    exact this.alloc _
  have b3 : Blk W0 (w.heap.size + 1 + 1) #[.int .i64 0, .slice none 0 0, .int .i64 0] 24 := by
    rw [hW0]
    have := Blk.new ((w.alloc (.cells #[.int .i64 b, .slice A l.length c, .int .i64 v] 24)).alloc (.cells #[.int .i64 2, .int .i64 f, .int .i64 t, .int .i64 q, .string s] 26)) #[.int .i64 0, .slice none 0 0, .int .i64 0] 24
    rw [World.size_alloc, World.size_alloc] at this
    exact this
  have SA : Strs W0 A l := ha.below B0
  have HW := Lib.hid hW0
  have HZ := Lib.hid hsz
  have HB0 := Lib.hid B0
  have H1 := Lib.hid b1
  have H2 := Lib.hid b2
  have H3 := Lib.hid b3
  have HSA := Lib.hid SA
  clear hW0 hsz B0 b1 b2 b3 SA ha
  have HM := Lib.hid hm
  clear hm
  go_enter Try.func13, Try.ntmps13
  go_wp2_with fail
  rw [← HW.out]
  refine (copy_any _ _ _ _ _ _ HSA.out (by omega)).mono ?_
  rintro e w1 ⟨A1, c1, rfl, hle1, hown1, hb1⟩
  have S1 := Lib.hid (show Strs w1 A1 l from own_rd hown1)
  have HB1 := Lib.hid hb1
  obtain ⟨x0, x1, x2⟩ := blk3 ((H1.out.belowS hb1).alloc (.cells #[.int .i64 b, .slice A1 l.length c1, .int .i64 v] 24))
  have hs1 := hb1.size
  rw [HZ.out] at hs1
  clear hown1 hb1
  go_wp2_with fail
  refine (mayR_any _ _ _ _ _ _).mono ?_
  rintro e w2 ⟨rfl, hb2⟩
  rw [HM.out]
  have HB2 := Lib.hid hb2
  have hs2 := hb2.size
  simp only [World.size_alloc] at hs2
  have S2 := Lib.hid ((S1.out.alloc _).below hb2)
  have G2 := Lib.hid (((Blk.new w1 #[.int .i64 b, .slice A1 l.length c1, .int .i64 v] 24)).belowS hb2)
  have M2 := Lib.hid (((H2.out.belowS HB1.out).alloc (.cells #[.int .i64 b, .slice A1 l.length c1, .int .i64 v] 24)).belowS hb2)
  have F2 := Lib.hid (((H1.out.belowS HB1.out).alloc (.cells #[.int .i64 b, .slice A1 l.length c1, .int .i64 v] 24)).belowS hb2)
  have SF2 := Lib.hid (((HSA.out.below HB1.out).alloc (.cells #[.int .i64 b, .slice A1 l.length c1, .int .i64 v] 24)).below hb2)
  have R2 := Lib.hid (((H3.out.belowS HB1.out).alloc (.cells #[.int .i64 b, .slice A1 l.length c1, .int .i64 v] 24)).belowS hb2)
  have BB := Lib.hid (below_next (below_next HB0.out HB1.out) (below_of_alloc hb2))
  obtain ⟨g0, g1, g2⟩ := blk3 G2.out
  obtain ⟨m0, m1, m2, m3, m4⟩ := blk5 M2.out
  obtain ⟨f0, f1, f2⟩ := blk3 F2.out
  obtain ⟨fg0, fg1, fg2⟩ := blk3f G2.out
  obtain ⟨r0, r1, r2⟩ := blk3 R2.out
  obtain ⟨fr0, fr1, fr2⟩ := blk3f R2.out
  clear hb2 x0 x1 x2
  go_wp2_with fail
  refine bodyPost_ret (v := .tuple #[.agg #[.int .i64 b, .slice A1 l.length c1, .int .i64 v], .string ⟨#[]⟩, .bool false]) (by simp [results, Try.results13, go_sem, r0, r1, r2]) rfl ⟨b, A1, l, c1, v, rfl, Lib.hid rfl, hle1, ?_, ?_⟩
  · exact strs_set3 S2.out _ _ _ _ _ _ R2.out (no_string _ _ _ _ _)
  · exact (((BB.out.setCell (by simp; omega) _).setCell (by simp; omega) _).setCell (by simp; omega) _)

set_option maxHeartbeats 1600000 in
theorem hearR_ack0b (b : Int) (A : Option Addr) (l : List ByteArray) (c : Nat) (v : Int) (f t q : Int) (s : ByteArray) (w : World) (ha : Strs w A l) (hl : l.length ≤ 1000) (hm : (Fy.mk b l v).may = true) (hb0 : 0 ≤ b) (hb1 : b ≤ 1099511627776) (hq1 : b < q) (hq2 : ¬ q ≤ b + l.length) :
    Calls Try.prog 13 #[.agg #[.int .i64 b, .slice A l.length c, .int .i64 v], .agg #[.int .i64 2, .int .i64 f, .int .i64 t, .int .i64 q, .string s]] w (OutH w (⟨b, l, v⟩, ⟨#[]⟩, false)) := by
  obtain ⟨W0, hW0⟩ : ∃ W0, W0 = ((w.alloc (.cells #[.int .i64 b, .slice A l.length c, .int .i64 v] 24)).alloc (.cells #[.int .i64 2, .int .i64 f, .int .i64 t, .int .i64 q, .string s] 26)).alloc (.cells #[.int .i64 0, .slice none 0 0, .int .i64 0] 24) := ⟨_, rfl⟩
  have hsz : W0.heap.size = w.heap.size + 1 + 1 + 1 := by rw [hW0]; simp
  have B0 : Below w.heap.size w W0 := by rw [hW0]; exact (((Below.refl _ _).alloc (Nat.le_refl _) _).alloc (by simp) _).alloc (by simp; omega) _
  have b1 : Blk W0 w.heap.size #[.int .i64 b, .slice A l.length c, .int .i64 v] 24 := by rw [hW0]; exact ((Blk.new w _ _).alloc _).alloc _
  have b2 : Blk W0 (w.heap.size + 1) #[.int .i64 2, .int .i64 f, .int .i64 t, .int .i64 q, .string s] 26 := by
    rw [hW0]
    have := Blk.new (w.alloc (.cells #[.int .i64 b, .slice A l.length c, .int .i64 v] 24)) #[.int .i64 2, .int .i64 f, .int .i64 t, .int .i64 q, .string s] 26
    rw [World.size_alloc] at this
    exact this.alloc _
  have b3 : Blk W0 (w.heap.size + 1 + 1) #[.int .i64 0, .slice none 0 0, .int .i64 0] 24 := by
    rw [hW0]
    have := Blk.new ((w.alloc (.cells #[.int .i64 b, .slice A l.length c, .int .i64 v] 24)).alloc (.cells #[.int .i64 2, .int .i64 f, .int .i64 t, .int .i64 q, .string s] 26)) #[.int .i64 0, .slice none 0 0, .int .i64 0] 24
    rw [World.size_alloc, World.size_alloc] at this
    exact this
  have SA : Strs W0 A l := ha.below B0
  have HW := Lib.hid hW0
  have HZ := Lib.hid hsz
  have HB0 := Lib.hid B0
  have H1 := Lib.hid b1
  have H2 := Lib.hid b2
  have H3 := Lib.hid b3
  have HSA := Lib.hid SA
  clear hW0 hsz B0 b1 b2 b3 SA ha
  have HM := Lib.hid hm
  clear hm
  go_enter Try.func13, Try.ntmps13
  go_wp2_with fail
  rw [← HW.out]
  refine (copy_any _ _ _ _ _ _ HSA.out (by omega)).mono ?_
  rintro e w1 ⟨A1, c1, rfl, hle1, hown1, hb1⟩
  have S1 := Lib.hid (show Strs w1 A1 l from own_rd hown1)
  have HB1 := Lib.hid hb1
  obtain ⟨x0, x1, x2⟩ := blk3 ((H1.out.belowS hb1).alloc (.cells #[.int .i64 b, .slice A1 l.length c1, .int .i64 v] 24))
  have hs1 := hb1.size
  rw [HZ.out] at hs1
  clear hown1 hb1
  go_wp2_with fail
  refine (mayR_any _ _ _ _ _ _).mono ?_
  rintro e w2 ⟨rfl, hb2⟩
  rw [HM.out]
  have HB2 := Lib.hid hb2
  have hs2 := hb2.size
  simp only [World.size_alloc] at hs2
  have S2 := Lib.hid ((S1.out.alloc _).below hb2)
  have G2 := Lib.hid (((Blk.new w1 #[.int .i64 b, .slice A1 l.length c1, .int .i64 v] 24)).belowS hb2)
  have M2 := Lib.hid (((H2.out.belowS HB1.out).alloc (.cells #[.int .i64 b, .slice A1 l.length c1, .int .i64 v] 24)).belowS hb2)
  have F2 := Lib.hid (((H1.out.belowS HB1.out).alloc (.cells #[.int .i64 b, .slice A1 l.length c1, .int .i64 v] 24)).belowS hb2)
  have SF2 := Lib.hid (((HSA.out.below HB1.out).alloc (.cells #[.int .i64 b, .slice A1 l.length c1, .int .i64 v] 24)).below hb2)
  have R2 := Lib.hid (((H3.out.belowS HB1.out).alloc (.cells #[.int .i64 b, .slice A1 l.length c1, .int .i64 v] 24)).belowS hb2)
  have BB := Lib.hid (below_next (below_next HB0.out HB1.out) (below_of_alloc hb2))
  obtain ⟨g0, g1, g2⟩ := blk3 G2.out
  obtain ⟨m0, m1, m2, m3, m4⟩ := blk5 M2.out
  obtain ⟨f0, f1, f2⟩ := blk3 F2.out
  obtain ⟨fg0, fg1, fg2⟩ := blk3f G2.out
  obtain ⟨r0, r1, r2⟩ := blk3 R2.out
  obtain ⟨fr0, fr1, fr2⟩ := blk3f R2.out
  clear hb2 x0 x1 x2
  go_wp2_with fail
  refine bodyPost_ret (v := .tuple #[.agg #[.int .i64 b, .slice A1 l.length c1, .int .i64 v], .string ⟨#[]⟩, .bool false]) (by simp [results, Try.results13, go_sem, r0, r1, r2]) rfl ⟨b, A1, l, c1, v, rfl, Lib.hid rfl, hle1, ?_, ?_⟩
  · exact strs_set3 S2.out _ _ _ _ _ _ R2.out (no_string _ _ _ _ _)
  · exact (((BB.out.setCell (by simp; omega) _).setCell (by simp; omega) _).setCell (by simp; omega) _)

set_option maxHeartbeats 1600000 in
theorem hearR_data (b : Int) (A : Option Addr) (l : List ByteArray) (c : Nat) (v : Int) (f t : Int) (s : ByteArray) (w : World) (ha : Strs w A l) (hl : l.length ≤ 1000) (hm : (Fy.mk b l v).may = true) (hv : 0 ≤ v ∧ v ≤ 1099511627776) :
    Calls Try.prog 13 #[.agg #[.int .i64 b, .slice A l.length c, .int .i64 v], .agg #[.int .i64 1, .int .i64 f, .int .i64 t, .int .i64 v, .string s]] w (OutH w (⟨b, l, v + 1⟩, s, true)) := by
  obtain ⟨W0, hW0⟩ : ∃ W0, W0 = ((w.alloc (.cells #[.int .i64 b, .slice A l.length c, .int .i64 v] 24)).alloc (.cells #[.int .i64 1, .int .i64 f, .int .i64 t, .int .i64 v, .string s] 26)).alloc (.cells #[.int .i64 0, .slice none 0 0, .int .i64 0] 24) := ⟨_, rfl⟩
  have hsz : W0.heap.size = w.heap.size + 1 + 1 + 1 := by rw [hW0]; simp
  have B0 : Below w.heap.size w W0 := by rw [hW0]; exact (((Below.refl _ _).alloc (Nat.le_refl _) _).alloc (by simp) _).alloc (by simp; omega) _
  have b1 : Blk W0 w.heap.size #[.int .i64 b, .slice A l.length c, .int .i64 v] 24 := by rw [hW0]; exact ((Blk.new w _ _).alloc _).alloc _
  have b2 : Blk W0 (w.heap.size + 1) #[.int .i64 1, .int .i64 f, .int .i64 t, .int .i64 v, .string s] 26 := by
    rw [hW0]
    have := Blk.new (w.alloc (.cells #[.int .i64 b, .slice A l.length c, .int .i64 v] 24)) #[.int .i64 1, .int .i64 f, .int .i64 t, .int .i64 v, .string s] 26
    rw [World.size_alloc] at this
    exact this.alloc _
  have b3 : Blk W0 (w.heap.size + 1 + 1) #[.int .i64 0, .slice none 0 0, .int .i64 0] 24 := by
    rw [hW0]
    have := Blk.new ((w.alloc (.cells #[.int .i64 b, .slice A l.length c, .int .i64 v] 24)).alloc (.cells #[.int .i64 1, .int .i64 f, .int .i64 t, .int .i64 v, .string s] 26)) #[.int .i64 0, .slice none 0 0, .int .i64 0] 24
    rw [World.size_alloc, World.size_alloc] at this
    exact this
  have SA : Strs W0 A l := ha.below B0
  have HW := Lib.hid hW0
  have HZ := Lib.hid hsz
  have HB0 := Lib.hid B0
  have H1 := Lib.hid b1
  have H2 := Lib.hid b2
  have H3 := Lib.hid b3
  have HSA := Lib.hid SA
  clear hW0 hsz B0 b1 b2 b3 SA ha
  have HM := Lib.hid hm
  clear hm
  obtain ⟨hv1, hv2⟩ := hv
  go_enter Try.func13, Try.ntmps13
  go_wp2_with fail
  rw [← HW.out]
  refine (copy_any _ _ _ _ _ _ HSA.out (by omega)).mono ?_
  rintro e w1 ⟨A1, c1, rfl, hle1, hown1, hb1⟩
  have S1 := Lib.hid (show Strs w1 A1 l from own_rd hown1)
  have HB1 := Lib.hid hb1
  obtain ⟨x0, x1, x2⟩ := blk3 ((H1.out.belowS hb1).alloc (.cells #[.int .i64 b, .slice A1 l.length c1, .int .i64 v] 24))
  have hs1 := hb1.size
  rw [HZ.out] at hs1
  clear hown1 hb1
  go_wp2_with fail
  refine (mayR_any _ _ _ _ _ _).mono ?_
  rintro e w2 ⟨rfl, hb2⟩
  rw [HM.out]
  have HB2 := Lib.hid hb2
  have hs2 := hb2.size
  simp only [World.size_alloc] at hs2
  have S2 := Lib.hid ((S1.out.alloc _).below hb2)
  have G2 := Lib.hid (((Blk.new w1 #[.int .i64 b, .slice A1 l.length c1, .int .i64 v] 24)).belowS hb2)
  have M2 := Lib.hid (((H2.out.belowS HB1.out).alloc (.cells #[.int .i64 b, .slice A1 l.length c1, .int .i64 v] 24)).belowS hb2)
  have F2 := Lib.hid (((H1.out.belowS HB1.out).alloc (.cells #[.int .i64 b, .slice A1 l.length c1, .int .i64 v] 24)).belowS hb2)
  have SF2 := Lib.hid (((HSA.out.below HB1.out).alloc (.cells #[.int .i64 b, .slice A1 l.length c1, .int .i64 v] 24)).below hb2)
  have R2 := Lib.hid (((H3.out.belowS HB1.out).alloc (.cells #[.int .i64 b, .slice A1 l.length c1, .int .i64 v] 24)).belowS hb2)
  have BB := Lib.hid (below_next (below_next HB0.out HB1.out) (below_of_alloc hb2))
  obtain ⟨g0, g1, g2⟩ := blk3 G2.out
  obtain ⟨m0, m1, m2, m3, m4⟩ := blk5 M2.out
  obtain ⟨f0, f1, f2⟩ := blk3 F2.out
  obtain ⟨fg0, fg1, fg2⟩ := blk3f G2.out
  obtain ⟨r0, r1, r2⟩ := blk3 R2.out
  obtain ⟨fr0, fr1, fr2⟩ := blk3f R2.out
  clear hb2 x0 x1 x2
  go_wp2_with fail
  go_region
  go_wp2_with fail
  refine bodyPost_ret (v := .tuple #[.agg #[.int .i64 b, .slice A1 l.length c1, .int .i64 (v + 1)], .string s, .bool true]) (by simp [results, Try.results13, go_sem, r0, r1, r2]) rfl ⟨b, A1, l, c1, v + 1, rfl, Lib.hid rfl, hle1, ?_, ?_⟩
  · exact (strs_set3 (strs_set1 S2.out G2.out (no_string _ _ _ _ _) 2 _) _ _ _ _ _ _ (R2.out.far (by simp; omega) _) (no_string _ _ _ _ _)).drew
  · exact ((((BB.out.setCell (by simp; omega) _).setCell (by simp; omega) _).setCell (by simp; omega) _).setCell (by simp; omega) _).drew

set_option maxHeartbeats 1600000 in
theorem hearR_ack (b : Nat) (A : Option Addr) (l : List ByteArray) (c : Nat) (v : Int) (f t : Int) (q : Nat) (s : ByteArray) (w : World) (ha : Strs w A l) (hl : l.length ≤ 1000) (hm : (Fy.mk b l v).may = true) (hb1 : b ≤ 1099511627776) (h1 : b < q) (h2 : q ≤ b + l.length) (hc : l.length ≤ c) :
    Calls Try.prog 13 #[.agg #[.int .i64 b, .slice A l.length c, .int .i64 v], .agg #[.int .i64 2, .int .i64 f, .int .i64 t, .int .i64 q, .string s]] w (OutH w (⟨q, l.drop (q - b), v⟩, ⟨#[]⟩, false)) := by
  obtain ⟨W0, hW0⟩ : ∃ W0, W0 = ((w.alloc (.cells #[.int .i64 b, .slice A l.length c, .int .i64 v] 24)).alloc (.cells #[.int .i64 2, .int .i64 f, .int .i64 t, .int .i64 q, .string s] 26)).alloc (.cells #[.int .i64 0, .slice none 0 0, .int .i64 0] 24) := ⟨_, rfl⟩
  have hsz : W0.heap.size = w.heap.size + 1 + 1 + 1 := by rw [hW0]; simp
  have B0 : Below w.heap.size w W0 := by rw [hW0]; exact (((Below.refl _ _).alloc (Nat.le_refl _) _).alloc (by simp) _).alloc (by simp; omega) _
  have b1 : Blk W0 w.heap.size #[.int .i64 b, .slice A l.length c, .int .i64 v] 24 := by rw [hW0]; exact ((Blk.new w _ _).alloc _).alloc _
  have b2 : Blk W0 (w.heap.size + 1) #[.int .i64 2, .int .i64 f, .int .i64 t, .int .i64 q, .string s] 26 := by
    rw [hW0]
    have := Blk.new (w.alloc (.cells #[.int .i64 b, .slice A l.length c, .int .i64 v] 24)) #[.int .i64 2, .int .i64 f, .int .i64 t, .int .i64 q, .string s] 26
    rw [World.size_alloc] at this
    exact this.alloc _
  have b3 : Blk W0 (w.heap.size + 1 + 1) #[.int .i64 0, .slice none 0 0, .int .i64 0] 24 := by
    rw [hW0]
    have := Blk.new ((w.alloc (.cells #[.int .i64 b, .slice A l.length c, .int .i64 v] 24)).alloc (.cells #[.int .i64 2, .int .i64 f, .int .i64 t, .int .i64 q, .string s] 26)) #[.int .i64 0, .slice none 0 0, .int .i64 0] 24
    rw [World.size_alloc, World.size_alloc] at this
    exact this
  have SA : Strs W0 A l := ha.below B0
  have HW := Lib.hid hW0
  have HZ := Lib.hid hsz
  have HB0 := Lib.hid B0
  have H1 := Lib.hid b1
  have H2 := Lib.hid b2
  have H3 := Lib.hid b3
  have HSA := Lib.hid SA
  clear hW0 hsz B0 b1 b2 b3 SA ha
  have HM := Lib.hid hm
  clear hm
  have h1' : (b : Int) < q := by omega
  have h2' : (q : Int) ≤ (b : Int) + (l.length : Int) := by omega
  obtain ⟨i0, hi0, hz0, hz1, hz2⟩ := info_parts infoStr
  have hcut := fun W => run_cut (P := Try.prog) 22 9 i0 Try.underlying22 hi0 hz1 A l.length c (q - b) ((q : Int) - (b : Int)) (by omega) (by omega) W
  go_enter Try.func13, Try.ntmps13
  go_wp2_with fail
  rw [← HW.out]
  refine (copy_any _ _ _ _ _ _ HSA.out (by omega)).mono ?_
  rintro e w1 ⟨A1, c1, rfl, hle1, hown1, hb1⟩
  have S1 := Lib.hid (show Strs w1 A1 l from own_rd hown1)
  have HB1 := Lib.hid hb1
  obtain ⟨x0, x1, x2⟩ := blk3 ((H1.out.belowS hb1).alloc (.cells #[.int .i64 b, .slice A1 l.length c1, .int .i64 v] 24))
  have hs1 := hb1.size
  rw [HZ.out] at hs1
  clear hown1 hb1
  go_wp2_with fail
  refine (mayR_any _ _ _ _ _ _).mono ?_
  rintro e w2 ⟨rfl, hb2⟩
  rw [HM.out]
  have HB2 := Lib.hid hb2
  have hs2 := hb2.size
  simp only [World.size_alloc] at hs2
  have S2 := Lib.hid ((S1.out.alloc _).below hb2)
  have G2 := Lib.hid (((Blk.new w1 #[.int .i64 b, .slice A1 l.length c1, .int .i64 v] 24)).belowS hb2)
  have M2 := Lib.hid (((H2.out.belowS HB1.out).alloc (.cells #[.int .i64 b, .slice A1 l.length c1, .int .i64 v] 24)).belowS hb2)
  have F2 := Lib.hid (((H1.out.belowS HB1.out).alloc (.cells #[.int .i64 b, .slice A1 l.length c1, .int .i64 v] 24)).belowS hb2)
  have SF2 := Lib.hid (((HSA.out.below HB1.out).alloc (.cells #[.int .i64 b, .slice A1 l.length c1, .int .i64 v] 24)).below hb2)
  have R2 := Lib.hid (((H3.out.belowS HB1.out).alloc (.cells #[.int .i64 b, .slice A1 l.length c1, .int .i64 v] 24)).belowS hb2)
  have BB := Lib.hid (below_next (below_next HB0.out HB1.out) (below_of_alloc hb2))
  obtain ⟨g0, g1, g2⟩ := blk3 G2.out
  obtain ⟨m0, m1, m2, m3, m4⟩ := blk5 M2.out
  obtain ⟨f0, f1, f2⟩ := blk3 F2.out
  obtain ⟨fg0, fg1, fg2⟩ := blk3f G2.out
  obtain ⟨r0, r1, r2⟩ := blk3 R2.out
  obtain ⟨fr0, fr1, fr2⟩ := blk3f R2.out
  clear hb2 x0 x1 x2
  have hcl := texts_any (cutA A c (q - b)) (l.drop (q - b)) (c - (q - b)) w2 (SF2.out.cut (q - b) hc) (by simp; omega)
  rw [List.length_drop] at hcl
  have HC := Lib.hid hcl
  clear hcl
  go_wp2_with fail
  refine HC.out.mono ?_
  rintro e w3 ⟨A3, c3, rfl, hle3, hown3, hb3⟩
  have G3 := Lib.hid (G2.out.belowS hb3)
  have R3 := Lib.hid (R2.out.belowS hb3)
  have S3 := Lib.hid (show Strs w3 A3 (l.drop (q - b)) from own_rd hown3)
  have B3 := Lib.hid (below_next BB.out hb3)
  obtain ⟨p0, p1, p2⟩ := blk3 G3.out
  obtain ⟨fp0, fp1, fp2⟩ := blk3f G3.out
  obtain ⟨_, _, _, n3, n4⟩ := blk5 (M2.out.belowS hb3)
  obtain ⟨q0, q1, q2⟩ := blk3 R3.out
  obtain ⟨fq0, fq1, fq2⟩ := blk3f R3.out
  have hO : w3.ownsRow w2.heap.size 9 1 (.slice A3 (l.length - (q - b)) c3) (l.length - (q - b)) ((l.drop (q - b)).map .string) := hown3
  have HO := Lib.hid hO
  clear hb3 hown3 hO
  go_wp2_with fail
  have hD := Lib.hid (List.length_drop (i := q - b) (l := l))
  refine bodyPost_ret (v := .tuple #[.agg #[.int .i64 q, .slice A3 (l.length - (q - b)) c3, .int .i64 v], .string ⟨#[]⟩, .bool false]) (by simp [results, Try.results13, go_sem, q0, q1, q2]) rfl ⟨q, A3, l.drop (q - b), c3, v, by rw [hD.out], Lib.hid rfl, by rw [hD.out]; exact hle3, ?_, ?_⟩
  · have := own_rd (own_far (own_far (own_far (own_far (own_far HO.out (p := ⟨w1.heap.size, 1, none⟩) (by simp; omega) (.slice A3 (l.length - (q - b)) c3)) (p := ⟨w1.heap.size, 0, none⟩) (by simp; omega) (.int .i64 q))
      (p := ⟨w.heap.size + 1 + 1, 0, none⟩) (by simp; omega) (.int .i64 q)) (p := ⟨w.heap.size + 1 + 1, 1, none⟩) (by simp; omega) (.slice A3 (l.length - (q - b)) c3)) (p := ⟨w.heap.size + 1 + 1, 2, none⟩) (by simp; omega) (.int .i64 v))
    exact this
  · exact (((((B3.out.setCell (by simp; omega) _).setCell (by simp; omega) _).setCell (by simp; omega) _).setCell (by simp; omega) _).setCell (by simp; omega) _)
end Go.Proofs.Ytnjfphfkjapemaa
