/- Contract: ferry.Hear, case by case. -/
import Derived.Test.YtnjfphfkjapemaaFyKnown
namespace Go.Proofs.Ytnjfphfkjapemaa
open Go.RowKit

def hearF (f : Fy) (m : Fm) : Fy × ByteArray × Bool :=
  if f.may then
    if m.kind = 1 then (if m.seq = f.want then (⟨f.base, f.sent, f.want + 1⟩, m.body, true) else (f, ⟨#[]⟩, false))
    else if m.kind = 2 ∧ f.base < m.seq ∧ m.seq ≤ f.base + f.sent.length then (⟨m.seq, f.sent.drop (m.seq.toNat - f.base.toNat), f.want⟩, ⟨#[]⟩, false)
    else (f, ⟨#[]⟩, false)
  else (f, ⟨#[]⟩, false)
def OutH (w : World) (r : Fy × ByteArray × Bool) (e : Ending) (w' : World) : Prop :=
  ∃ b A L c v, e = .returned (.tuple #[.agg #[.int .i64 b, .slice A L.length c, .int .i64 v], .string r.2.1, .bool r.2.2]) ∧ Hid (Fy.mk b L v = r.1) ∧ L.length ≤ c ∧ Strs w' A L ∧ Below w.heap.size w w'
theorem strs_set3 {w : World} {A : Option Addr} {l : List ByteArray} (h : Strs w A l) (g : Nat) (x0 x1 x2 : Value) (t : TypeId) (cs : Array Value) (hg : w.heap[g]? = some (.cells cs t (0, 0))) (hcs : ∀ (i : Nat) (s : ByteArray), cs[i]? ≠ some (Value.string s)) :
    Strs (((w.setCell ⟨g, 0, none⟩ x0).setCell ⟨g, 1, none⟩ x1).setCell ⟨g, 2, none⟩ x2) A l := by
  intro hn
  obtain ⟨b, off, e, hb, hc⟩ := h hn
  have hbg : b ≠ g := by
    rintro rfl
    have h0 : 0 < (l.map Value.string).length := List.length_pos_iff.2 hn
    have := hc 0 _ (List.getElem?_eq_getElem h0)
    rw [cell_of_row w b (off + 0) cs t (0, 0) hg] at this
    simp only [List.getElem_map] at this
    exact hcs _ _ this
  refine ⟨b, off, e, by simpa using hb, fun i u hu => ?_⟩
  rw [World.cell?_setCell_other _ _ _ _ (by intro h; injection h with h1; exact hbg h1.symm), World.cell?_setCell_other _ _ _ _ (by intro h; injection h with h1; exact hbg h1.symm), World.cell?_setCell_other _ _ _ _ (by intro h; injection h with h1; exact hbg h1.symm)]
  exact hc i u hu
theorem ne_block {w : World} {b off : Nat} {l : List ByteArray} {t : TypeId} {cs : Array Value} {g : Nat} (h0 : 0 < l.length) (hc : ∀ i u, (l.map Value.string)[i]? = some u → w.cell? ⟨b, off + i, none⟩ = some u) (hg : w.heap[g]? = some (.cells cs t (0, 0)))
    (hcs : ∀ (i : Nat) (s : ByteArray), cs[i]? ≠ some (Value.string s)) : b ≠ g := by
  rintro rfl
  have := hc 0 _ (List.getElem?_eq_getElem (by simpa using h0))
  rw [cell_of_row w b (off + 0) cs t (0, 0) hg] at this
  simp only [List.getElem_map] at this
  exact hcs _ _ this
theorem strs_grown {w w' : World} {A : Option Addr} {l : List ByteArray} {g : Nat} {t : TypeId} {cs : Array Value} (h : Strs w A l) (hg : w.heap[g]? = some (.cells cs t (0, 0))) (hcs : ∀ (i : Nat) (s : ByteArray), cs[i]? ≠ some (Value.string s))
    (hgr : w.grownBy w' (some g)) : Strs w' A l := by
  intro hn
  obtain ⟨b, off, e, hb, hc⟩ := h hn
  have hbg := ne_block (by simpa using List.length_pos_iff.2 hn) hc hg hcs
  refine ⟨b, off, e, Nat.lt_of_lt_of_le hb hgr.size, fun i u hu => ?_⟩
  rw [World.cell?_of_block (hgr.block b hb (fun e => hbg (by injection e)))]
  exact hc i u hu
theorem no_string (b : Int) (A : Option Addr) (n c : Nat) (v : Int) : ∀ (i : Nat) (s : ByteArray), (#[Value.int .i64 b, .slice A n c, .int .i64 v] : Array Value)[i]? ≠ some (Value.string s) := by
  intro i s h
  rcases i with _ | _ | _ | i <;> simp at h

set_option maxHeartbeats 1600000 in
theorem hear_not (b : Int) (A : Option Addr) (l : List ByteArray) (c : Nat) (v : Int) (k f t q : Int) (s : ByteArray) (w : World) (ha : Strs w A l) (hl : l.length ≤ 1000) (hm : (Fy.mk b l v).may = false) :
    Calls Try.prog 12 #[.agg #[.int .i64 b, .slice A l.length c, .int .i64 v], .agg #[.int .i64 k, .int .i64 f, .int .i64 t, .int .i64 q, .string s]] w (OutH w (⟨b, l, v⟩, ⟨#[]⟩, false)) := by
  obtain ⟨W0, hW0⟩ : ∃ W0, W0 = ((w.alloc (.cells #[.int .i64 b, .slice A l.length c, .int .i64 v] 24)).alloc (.cells #[.int .i64 k, .int .i64 f, .int .i64 t, .int .i64 q, .string s] 26)).alloc (.cells #[.int .i64 0, .slice none 0 0, .int .i64 0] 24) := ⟨_, rfl⟩
  have hsz : W0.heap.size = w.heap.size + 1 + 1 + 1 := by rw [hW0]; simp
  have B0 : Below w.heap.size w W0 := by rw [hW0]; exact (((Below.refl _ _).alloc (Nat.le_refl _) _).alloc (by simp) _).alloc (by simp; omega) _
  have b1 : Blk W0 w.heap.size #[.int .i64 b, .slice A l.length c, .int .i64 v] 24 := by rw [hW0]; exact ((Blk.new w _ _).alloc _).alloc _
  have b2 : Blk W0 (w.heap.size + 1) #[.int .i64 k, .int .i64 f, .int .i64 t, .int .i64 q, .string s] 26 := by
    rw [hW0]
    have := Blk.new (w.alloc (.cells #[.int .i64 b, .slice A l.length c, .int .i64 v] 24)) #[.int .i64 k, .int .i64 f, .int .i64 t, .int .i64 q, .string s] 26
    rw [World.size_alloc] at this
    exact this.alloc _
  have b3 : Blk W0 (w.heap.size + 1 + 1) #[.int .i64 0, .slice none 0 0, .int .i64 0] 24 := by
    rw [hW0]
    have := Blk.new ((w.alloc (.cells #[.int .i64 b, .slice A l.length c, .int .i64 v] 24)).alloc (.cells #[.int .i64 k, .int .i64 f, .int .i64 t, .int .i64 q, .string s] 26)) #[.int .i64 0, .slice none 0 0, .int .i64 0] 24
    rw [World.size_alloc, World.size_alloc] at this
    exact this
  have SA : Strs W0 A l := ha.below B0
  have HW := Lib.hid hW0
  have HZ := Lib.hid hsz
  have HB0 := Lib.hid B0
  have H1 := Lib.hid b1
  have H2 := Lib.hid b2
  have H3 := Lib.hid b3
  have HSA := Lib.hid SA
  clear hW0 hsz B0 b1 b2 b3 SA ha
  have HM := Lib.hid hm
  clear hm
  go_enter Try.func12, Try.ntmps12
  go_wp2_with fail
  rw [← HW.out]
  refine (of_any _ _ _ _ _ _ HSA.out (by omega)).mono ?_
  rintro e w1 ⟨A1, c1, rfl, hle1, hown1, hb1⟩
  have S1 := Lib.hid (show Strs w1 A1 l from own_rd hown1)
  have HB1 := Lib.hid hb1
  obtain ⟨x0, x1, x2⟩ := blk3 ((H1.out.belowS hb1).alloc (.cells #[.int .i64 b, .slice A1 l.length c1, .int .i64 v] 50))
  have hs1 := hb1.size
  rw [HZ.out] at hs1
  clear hown1 hb1
  go_wp2_with fail
  refine (may_any _ _ _ _ _ _).mono ?_
  rintro e w2 ⟨rfl, hb2⟩
  rw [HM.out]
  have HB2 := Lib.hid hb2
  have hs2 := hb2.size
  simp only [World.size_alloc] at hs2
  have S2 := Lib.hid ((S1.out.alloc _).below hb2)
  have G2 := Lib.hid (((Blk.new w1 #[.int .i64 b, .slice A1 l.length c1, .int .i64 v] 50)).belowS hb2)
  have M2 := Lib.hid (((H2.out.belowS HB1.out).alloc (.cells #[.int .i64 b, .slice A1 l.length c1, .int .i64 v] 50)).belowS hb2)
  have R2 := Lib.hid (((H3.out.belowS HB1.out).alloc (.cells #[.int .i64 b, .slice A1 l.length c1, .int .i64 v] 50)).belowS hb2)
  have BB := Lib.hid (below_next (below_next HB0.out HB1.out) (below_of_alloc hb2))
  obtain ⟨g0, g1, g2⟩ := blk3 G2.out
  obtain ⟨m0, m1, m2, m3, m4⟩ := blk5 M2.out
  obtain ⟨r0, r1, r2⟩ := blk3 R2.out
  obtain ⟨fr0, fr1, fr2⟩ := blk3f R2.out
  clear hb2 x0 x1 x2
  go_wp2_with fail
  refine bodyPost_ret (v := .tuple #[.agg #[.int .i64 b, .slice A1 l.length c1, .int .i64 v], .string ⟨#[]⟩, .bool false]) (by simp [results, Try.results12, go_sem, r0, r1, r2]) rfl ⟨b, A1, l, c1, v, rfl, Lib.hid rfl, hle1, ?_, ?_⟩
  · exact strs_set3 S2.out _ _ _ _ _ _ R2.out (no_string _ _ _ _ _)
  · exact (((BB.out.setCell (by simp; omega) _).setCell (by simp; omega) _).setCell (by simp; omega) _)

set_option maxHeartbeats 1600000 in
theorem hear_other (b : Int) (A : Option Addr) (l : List ByteArray) (c : Nat) (v : Int) (k f t q : Int) (s : ByteArray) (w : World) (ha : Strs w A l) (hl : l.length ≤ 1000) (hm : (Fy.mk b l v).may = true) (hk1 : k ≠ 1) (hk2 : k ≠ 2) :
    Calls Try.prog 12 #[.agg #[.int .i64 b, .slice A l.length c, .int .i64 v], .agg #[.int .i64 k, .int .i64 f, .int .i64 t, .int .i64 q, .string s]] w (OutH w (⟨b, l, v⟩, ⟨#[]⟩, false)) := by
  obtain ⟨W0, hW0⟩ : ∃ W0, W0 = ((w.alloc (.cells #[.int .i64 b, .slice A l.length c, .int .i64 v] 24)).alloc (.cells #[.int .i64 k, .int .i64 f, .int .i64 t, .int .i64 q, .string s] 26)).alloc (.cells #[.int .i64 0, .slice none 0 0, .int .i64 0] 24) := ⟨_, rfl⟩
  have hsz : W0.heap.size = w.heap.size + 1 + 1 + 1 := by rw [hW0]; simp
  have B0 : Below w.heap.size w W0 := by rw [hW0]; exact (((Below.refl _ _).alloc (Nat.le_refl _) _).alloc (by simp) _).alloc (by simp; omega) _
  have b1 : Blk W0 w.heap.size #[.int .i64 b, .slice A l.length c, .int .i64 v] 24 := by rw [hW0]; exact ((Blk.new w _ _).alloc _).alloc _
  have b2 : Blk W0 (w.heap.size + 1) #[.int .i64 k, .int .i64 f, .int .i64 t, .int .i64 q, .string s] 26 := by
    rw [hW0]
    have := Blk.new (w.alloc (.cells #[.int .i64 b, .slice A l.length c, .int .i64 v] 24)) #[.int .i64 k, .int .i64 f, .int .i64 t, .int .i64 q, .string s] 26
    rw [World.size_alloc] at this
    exact this.alloc _
  have b3 : Blk W0 (w.heap.size + 1 + 1) #[.int .i64 0, .slice none 0 0, .int .i64 0] 24 := by
    rw [hW0]
    have := Blk.new ((w.alloc (.cells #[.int .i64 b, .slice A l.length c, .int .i64 v] 24)).alloc (.cells #[.int .i64 k, .int .i64 f, .int .i64 t, .int .i64 q, .string s] 26)) #[.int .i64 0, .slice none 0 0, .int .i64 0] 24
    rw [World.size_alloc, World.size_alloc] at this
    exact this
  have SA : Strs W0 A l := ha.below B0
  have HW := Lib.hid hW0
  have HZ := Lib.hid hsz
  have HB0 := Lib.hid B0
  have H1 := Lib.hid b1
  have H2 := Lib.hid b2
  have H3 := Lib.hid b3
  have HSA := Lib.hid SA
  clear hW0 hsz B0 b1 b2 b3 SA ha
  have HM := Lib.hid hm
  clear hm
  have hq1 : (k == 1) = false := by simpa using hk1
  have hq2 : (k == 2) = false := by simpa using hk2
  clear hk1 hk2
  go_enter Try.func12, Try.ntmps12
  go_wp2_with fail
  rw [← HW.out]
  refine (of_any _ _ _ _ _ _ HSA.out (by omega)).mono ?_
  rintro e w1 ⟨A1, c1, rfl, hle1, hown1, hb1⟩
  have S1 := Lib.hid (show Strs w1 A1 l from own_rd hown1)
  have HB1 := Lib.hid hb1
  obtain ⟨x0, x1, x2⟩ := blk3 ((H1.out.belowS hb1).alloc (.cells #[.int .i64 b, .slice A1 l.length c1, .int .i64 v] 50))
  have hs1 := hb1.size
  rw [HZ.out] at hs1
  clear hown1 hb1
  go_wp2_with fail
  refine (may_any _ _ _ _ _ _).mono ?_
  rintro e w2 ⟨rfl, hb2⟩
  rw [HM.out]
  have HB2 := Lib.hid hb2
  have hs2 := hb2.size
  simp only [World.size_alloc] at hs2
  have S2 := Lib.hid ((S1.out.alloc _).below hb2)
  have G2 := Lib.hid (((Blk.new w1 #[.int .i64 b, .slice A1 l.length c1, .int .i64 v] 50)).belowS hb2)
  have M2 := Lib.hid (((H2.out.belowS HB1.out).alloc (.cells #[.int .i64 b, .slice A1 l.length c1, .int .i64 v] 50)).belowS hb2)
  have R2 := Lib.hid (((H3.out.belowS HB1.out).alloc (.cells #[.int .i64 b, .slice A1 l.length c1, .int .i64 v] 50)).belowS hb2)
  have BB := Lib.hid (below_next (below_next HB0.out HB1.out) (below_of_alloc hb2))
  obtain ⟨g0, g1, g2⟩ := blk3 G2.out
  obtain ⟨m0, m1, m2, m3, m4⟩ := blk5 M2.out
  obtain ⟨r0, r1, r2⟩ := blk3 R2.out
  obtain ⟨fr0, fr1, fr2⟩ := blk3f R2.out
  clear hb2 x0 x1 x2
  go_wp2_with fail
  refine bodyPost_ret (v := .tuple #[.agg #[.int .i64 b, .slice A1 l.length c1, .int .i64 v], .string ⟨#[]⟩, .bool false]) (by simp [results, Try.results12, go_sem, r0, r1, r2]) rfl ⟨b, A1, l, c1, v, rfl, Lib.hid rfl, hle1, ?_, ?_⟩
  · exact strs_set3 S2.out _ _ _ _ _ _ R2.out (no_string _ _ _ _ _)
  · exact (((BB.out.setCell (by simp; omega) _).setCell (by simp; omega) _).setCell (by simp; omega) _)

set_option maxHeartbeats 1600000 in
theorem hear_data (b : Int) (A : Option Addr) (l : List ByteArray) (c : Nat) (v : Int) (f t : Int) (s : ByteArray) (w : World) (ha : Strs w A l) (hl : l.length ≤ 1000) (hm : (Fy.mk b l v).may = true) (hv : 0 ≤ v ∧ v ≤ 1099511627776) :
    Calls Try.prog 12 #[.agg #[.int .i64 b, .slice A l.length c, .int .i64 v], .agg #[.int .i64 1, .int .i64 f, .int .i64 t, .int .i64 v, .string s]] w (OutH w (⟨b, l, v + 1⟩, s, true)) := by
  obtain ⟨W0, hW0⟩ : ∃ W0, W0 = ((w.alloc (.cells #[.int .i64 b, .slice A l.length c, .int .i64 v] 24)).alloc (.cells #[.int .i64 1, .int .i64 f, .int .i64 t, .int .i64 v, .string s] 26)).alloc (.cells #[.int .i64 0, .slice none 0 0, .int .i64 0] 24) := ⟨_, rfl⟩
  have hsz : W0.heap.size = w.heap.size + 1 + 1 + 1 := by rw [hW0]; simp
  have B0 : Below w.heap.size w W0 := by rw [hW0]; exact (((Below.refl _ _).alloc (Nat.le_refl _) _).alloc (by simp) _).alloc (by simp; omega) _
  have b1 : Blk W0 w.heap.size #[.int .i64 b, .slice A l.length c, .int .i64 v] 24 := by rw [hW0]; exact ((Blk.new w _ _).alloc _).alloc _
  have b2 : Blk W0 (w.heap.size + 1) #[.int .i64 1, .int .i64 f, .int .i64 t, .int .i64 v, .string s] 26 := by
    rw [hW0]
    have := Blk.new (w.alloc (.cells #[.int .i64 b, .slice A l.length c, .int .i64 v] 24)) #[.int .i64 1, .int .i64 f, .int .i64 t, .int .i64 v, .string s] 26
    rw [World.size_alloc] at this
    exact this.alloc _
  have b3 : Blk W0 (w.heap.size + 1 + 1) #[.int .i64 0, .slice none 0 0, .int .i64 0] 24 := by
    rw [hW0]
    have := Blk.new ((w.alloc (.cells #[.int .i64 b, .slice A l.length c, .int .i64 v] 24)).alloc (.cells #[.int .i64 1, .int .i64 f, .int .i64 t, .int .i64 v, .string s] 26)) #[.int .i64 0, .slice none 0 0, .int .i64 0] 24
    rw [World.size_alloc, World.size_alloc] at this
    exact this
  have SA : Strs W0 A l := ha.below B0
  have HW := Lib.hid hW0
  have HZ := Lib.hid hsz
  have HB0 := Lib.hid B0
  have H1 := Lib.hid b1
  have H2 := Lib.hid b2
  have H3 := Lib.hid b3
  have HSA := Lib.hid SA
  clear hW0 hsz B0 b1 b2 b3 SA ha
  have HM := Lib.hid hm
  clear hm
  go_enter Try.func12, Try.ntmps12
  go_wp2_with fail
  rw [← HW.out]
  refine (of_any _ _ _ _ _ _ HSA.out (by omega)).mono ?_
  rintro e w1 ⟨A1, c1, rfl, hle1, hown1, hb1⟩
  have S1 := Lib.hid (show Strs w1 A1 l from own_rd hown1)
  have HB1 := Lib.hid hb1
  obtain ⟨x0, x1, x2⟩ := blk3 ((H1.out.belowS hb1).alloc (.cells #[.int .i64 b, .slice A1 l.length c1, .int .i64 v] 50))
  have hs1 := hb1.size
  rw [HZ.out] at hs1
  clear hown1 hb1
  go_wp2_with fail
  refine (may_any _ _ _ _ _ _).mono ?_
  rintro e w2 ⟨rfl, hb2⟩
  rw [HM.out]
  have HB2 := Lib.hid hb2
  have hs2 := hb2.size
  simp only [World.size_alloc] at hs2
  have S2 := Lib.hid ((S1.out.alloc _).below hb2)
  have G2 := Lib.hid (((Blk.new w1 #[.int .i64 b, .slice A1 l.length c1, .int .i64 v] 50)).belowS hb2)
  have M2 := Lib.hid (((H2.out.belowS HB1.out).alloc (.cells #[.int .i64 b, .slice A1 l.length c1, .int .i64 v] 50)).belowS hb2)
  have R2 := Lib.hid (((H3.out.belowS HB1.out).alloc (.cells #[.int .i64 b, .slice A1 l.length c1, .int .i64 v] 50)).belowS hb2)
  have BB := Lib.hid (below_next (below_next HB0.out HB1.out) (below_of_alloc hb2))
  obtain ⟨g0, g1, g2⟩ := blk3 G2.out
  obtain ⟨m0, m1, m2, m3, m4⟩ := blk5 M2.out
  obtain ⟨r0, r1, r2⟩ := blk3 R2.out
  obtain ⟨fr0, fr1, fr2⟩ := blk3f R2.out
  clear hb2 x0 x1 x2
  go_wp2_with fail
  refine (heard_yes _ _ _ _ _ _ _ _ _ _ _ G2.out hv.1 hv.2).mono ?_
  rintro e w3 ⟨rfl, hG3, hgr3⟩
  obtain ⟨p0, p1, p2⟩ := blk3 hG3
  obtain ⟨_, _, _, n3, n4⟩ := blk5 (M2.out.grown hgr3 (by simp; omega))
  have R3 := Lib.hid (R2.out.grown hgr3 (by simp; omega))
  obtain ⟨q0, q1, q2⟩ := blk3 R3.out
  obtain ⟨fq0, fq1, fq2⟩ := blk3f R3.out
  have S3 := Lib.hid (strs_grown S2.out G2.out (no_string _ _ _ _ _) hgr3)
  have B3 := Lib.hid (BB.out.grown hgr3 (by have := BB.out.size; omega) (fun k hk => by simp at hk; omega))
  clear hG3 hgr3
  go_wp2_with fail
  go_region
  go_wp2_with fail
  refine bodyPost_ret (v := .tuple #[.agg #[.int .i64 b, .slice A1 l.length c1, .int .i64 (v + 1)], .string s, .bool true]) (by simp [results, Try.results12, go_sem, q0, q1, q2]) rfl ⟨b, A1, l, c1, v + 1, rfl, Lib.hid rfl, hle1, ?_, ?_⟩
  · exact (strs_set3 S3.out _ _ _ _ _ _ R3.out (no_string _ _ _ _ _)).drew
  · exact ((((B3.out.setCell (by simp; omega) _).setCell (by simp; omega) _).setCell (by simp; omega) _)).drew

set_option maxHeartbeats 1600000 in
theorem hear_data0 (b : Int) (A : Option Addr) (l : List ByteArray) (c : Nat) (v : Int) (f t q : Int) (s : ByteArray) (w : World) (ha : Strs w A l) (hl : l.length ≤ 1000) (hm : (Fy.mk b l v).may = true) (hq : q ≠ v) :
    Calls Try.prog 12 #[.agg #[.int .i64 b, .slice A l.length c, .int .i64 v], .agg #[.int .i64 1, .int .i64 f, .int .i64 t, .int .i64 q, .string s]] w (OutH w (⟨b, l, v⟩, ⟨#[]⟩, false)) := by
  obtain ⟨W0, hW0⟩ : ∃ W0, W0 = ((w.alloc (.cells #[.int .i64 b, .slice A l.length c, .int .i64 v] 24)).alloc (.cells #[.int .i64 1, .int .i64 f, .int .i64 t, .int .i64 q, .string s] 26)).alloc (.cells #[.int .i64 0, .slice none 0 0, .int .i64 0] 24) := ⟨_, rfl⟩
  have hsz : W0.heap.size = w.heap.size + 1 + 1 + 1 := by rw [hW0]; simp
  have B0 : Below w.heap.size w W0 := by rw [hW0]; exact (((Below.refl _ _).alloc (Nat.le_refl _) _).alloc (by simp) _).alloc (by simp; omega) _
  have b1 : Blk W0 w.heap.size #[.int .i64 b, .slice A l.length c, .int .i64 v] 24 := by rw [hW0]; exact ((Blk.new w _ _).alloc _).alloc _
  have b2 : Blk W0 (w.heap.size + 1) #[.int .i64 1, .int .i64 f, .int .i64 t, .int .i64 q, .string s] 26 := by
    rw [hW0]
    have := Blk.new (w.alloc (.cells #[.int .i64 b, .slice A l.length c, .int .i64 v] 24)) #[.int .i64 1, .int .i64 f, .int .i64 t, .int .i64 q, .string s] 26
    rw [World.size_alloc] at this
    exact this.alloc _
  have b3 : Blk W0 (w.heap.size + 1 + 1) #[.int .i64 0, .slice none 0 0, .int .i64 0] 24 := by
    rw [hW0]
    have := Blk.new ((w.alloc (.cells #[.int .i64 b, .slice A l.length c, .int .i64 v] 24)).alloc (.cells #[.int .i64 1, .int .i64 f, .int .i64 t, .int .i64 q, .string s] 26)) #[.int .i64 0, .slice none 0 0, .int .i64 0] 24
    rw [World.size_alloc, World.size_alloc] at this
    exact this
  have SA : Strs W0 A l := ha.below B0
  have HW := Lib.hid hW0
  have HZ := Lib.hid hsz
  have HB0 := Lib.hid B0
  have H1 := Lib.hid b1
  have H2 := Lib.hid b2
  have H3 := Lib.hid b3
  have HSA := Lib.hid SA
  clear hW0 hsz B0 b1 b2 b3 SA ha
  have HM := Lib.hid hm
  clear hm
  go_enter Try.func12, Try.ntmps12
  go_wp2_with fail
  rw [← HW.out]
  refine (of_any _ _ _ _ _ _ HSA.out (by omega)).mono ?_
  rintro e w1 ⟨A1, c1, rfl, hle1, hown1, hb1⟩
  have S1 := Lib.hid (show Strs w1 A1 l from own_rd hown1)
  have HB1 := Lib.hid hb1
  obtain ⟨x0, x1, x2⟩ := blk3 ((H1.out.belowS hb1).alloc (.cells #[.int .i64 b, .slice A1 l.length c1, .int .i64 v] 50))
  have hs1 := hb1.size
  rw [HZ.out] at hs1
  clear hown1 hb1
  go_wp2_with fail
  refine (may_any _ _ _ _ _ _).mono ?_
  rintro e w2 ⟨rfl, hb2⟩
  rw [HM.out]
  have HB2 := Lib.hid hb2
  have hs2 := hb2.size
  simp only [World.size_alloc] at hs2
  have S2 := Lib.hid ((S1.out.alloc _).below hb2)
  have G2 := Lib.hid (((Blk.new w1 #[.int .i64 b, .slice A1 l.length c1, .int .i64 v] 50)).belowS hb2)
  have M2 := Lib.hid (((H2.out.belowS HB1.out).alloc (.cells #[.int .i64 b, .slice A1 l.length c1, .int .i64 v] 50)).belowS hb2)
  have R2 := Lib.hid (((H3.out.belowS HB1.out).alloc (.cells #[.int .i64 b, .slice A1 l.length c1, .int .i64 v] 50)).belowS hb2)
  have BB := Lib.hid (below_next (below_next HB0.out HB1.out) (below_of_alloc hb2))
  obtain ⟨g0, g1, g2⟩ := blk3 G2.out
  obtain ⟨m0, m1, m2, m3, m4⟩ := blk5 M2.out
  obtain ⟨r0, r1, r2⟩ := blk3 R2.out
  obtain ⟨fr0, fr1, fr2⟩ := blk3f R2.out
  clear hb2 x0 x1 x2
  go_wp2_with fail
  refine (heard_no _ _ _ _ _ _ _ _ _ _ _ _ G2.out hq).mono ?_
  rintro e w3 ⟨rfl, hb3⟩
  obtain ⟨p0, p1, p2⟩ := blk3 (G2.out.belowS hb3)
  have R3 := Lib.hid (R2.out.belowS hb3)
  obtain ⟨q0, q1, q2⟩ := blk3 R3.out
  obtain ⟨fq0, fq1, fq2⟩ := blk3f R3.out
  have S3 := Lib.hid (S2.out.below hb3)
  have B3 := Lib.hid (below_next BB.out hb3)
  clear hb3
  go_wp2_with fail
  refine bodyPost_ret (v := .tuple #[.agg #[.int .i64 b, .slice A1 l.length c1, .int .i64 v], .string ⟨#[]⟩, .bool false]) (by simp [results, Try.results12, go_sem, q0, q1, q2]) rfl ⟨b, A1, l, c1, v, rfl, Lib.hid rfl, hle1, ?_, ?_⟩
  · exact strs_set3 S3.out _ _ _ _ _ _ R3.out (no_string _ _ _ _ _)
  · exact (((B3.out.setCell (by simp; omega) _).setCell (by simp; omega) _).setCell (by simp; omega) _)

set_option maxHeartbeats 1600000 in
theorem hear_ack0 (b : Int) (A : Option Addr) (l : List ByteArray) (c : Nat) (v : Int) (f t q : Int) (s : ByteArray) (w : World) (ha : Strs w A l) (hl : l.length ≤ 1000) (hm : (Fy.mk b l v).may = true) (hb0 : 0 ≤ b) (hb1 : b ≤ 1099511627776) (hq : ¬ (b < q ∧ q ≤ b + l.length)) :
    Calls Try.prog 12 #[.agg #[.int .i64 b, .slice A l.length c, .int .i64 v], .agg #[.int .i64 2, .int .i64 f, .int .i64 t, .int .i64 q, .string s]] w (OutH w (⟨b, l, v⟩, ⟨#[]⟩, false)) := by
  obtain ⟨W0, hW0⟩ : ∃ W0, W0 = ((w.alloc (.cells #[.int .i64 b, .slice A l.length c, .int .i64 v] 24)).alloc (.cells #[.int .i64 2, .int .i64 f, .int .i64 t, .int .i64 q, .string s] 26)).alloc (.cells #[.int .i64 0, .slice none 0 0, .int .i64 0] 24) := ⟨_, rfl⟩
  have hsz : W0.heap.size = w.heap.size + 1 + 1 + 1 := by rw [hW0]; simp
  have B0 : Below w.heap.size w W0 := by rw [hW0]; exact (((Below.refl _ _).alloc (Nat.le_refl _) _).alloc (by simp) _).alloc (by simp; omega) _
  have b1 : Blk W0 w.heap.size #[.int .i64 b, .slice A l.length c, .int .i64 v] 24 := by rw [hW0]; exact ((Blk.new w _ _).alloc _).alloc _
  have b2 : Blk W0 (w.heap.size + 1) #[.int .i64 2, .int .i64 f, .int .i64 t, .int .i64 q, .string s] 26 := by
    rw [hW0]
    have := Blk.new (w.alloc (.cells #[.int .i64 b, .slice A l.length c, .int .i64 v] 24)) #[.int .i64 2, .int .i64 f, .int .i64 t, .int .i64 q, .string s] 26
    rw [World.size_alloc] at this
    exact this.alloc _
  have b3 : Blk W0 (w.heap.size + 1 + 1) #[.int .i64 0, .slice none 0 0, .int .i64 0] 24 := by
    rw [hW0]
    have := Blk.new ((w.alloc (.cells #[.int .i64 b, .slice A l.length c, .int .i64 v] 24)).alloc (.cells #[.int .i64 2, .int .i64 f, .int .i64 t, .int .i64 q, .string s] 26)) #[.int .i64 0, .slice none 0 0, .int .i64 0] 24
    rw [World.size_alloc, World.size_alloc] at this
    exact this
  have SA : Strs W0 A l := ha.below B0
  have HW := Lib.hid hW0
  have HZ := Lib.hid hsz
  have HB0 := Lib.hid B0
  have H1 := Lib.hid b1
  have H2 := Lib.hid b2
  have H3 := Lib.hid b3
  have HSA := Lib.hid SA
  clear hW0 hsz B0 b1 b2 b3 SA ha
  have HM := Lib.hid hm
  clear hm
  have HQ := Lib.hid hq
  clear hq
  go_enter Try.func12, Try.ntmps12
  go_wp2_with fail
  rw [← HW.out]
  refine (of_any _ _ _ _ _ _ HSA.out (by omega)).mono ?_
  rintro e w1 ⟨A1, c1, rfl, hle1, hown1, hb1⟩
  have S1 := Lib.hid (show Strs w1 A1 l from own_rd hown1)
  have HB1 := Lib.hid hb1
  obtain ⟨x0, x1, x2⟩ := blk3 ((H1.out.belowS hb1).alloc (.cells #[.int .i64 b, .slice A1 l.length c1, .int .i64 v] 50))
  have hs1 := hb1.size
  rw [HZ.out] at hs1
  clear hown1 hb1
  go_wp2_with fail
  refine (may_any _ _ _ _ _ _).mono ?_
  rintro e w2 ⟨rfl, hb2⟩
  rw [HM.out]
  have HB2 := Lib.hid hb2
  have hs2 := hb2.size
  simp only [World.size_alloc] at hs2
  have S2 := Lib.hid ((S1.out.alloc _).below hb2)
  have G2 := Lib.hid (((Blk.new w1 #[.int .i64 b, .slice A1 l.length c1, .int .i64 v] 50)).belowS hb2)
  have M2 := Lib.hid (((H2.out.belowS HB1.out).alloc (.cells #[.int .i64 b, .slice A1 l.length c1, .int .i64 v] 50)).belowS hb2)
  have R2 := Lib.hid (((H3.out.belowS HB1.out).alloc (.cells #[.int .i64 b, .slice A1 l.length c1, .int .i64 v] 50)).belowS hb2)
  have BB := Lib.hid (below_next (below_next HB0.out HB1.out) (below_of_alloc hb2))
  obtain ⟨g0, g1, g2⟩ := blk3 G2.out
  obtain ⟨m0, m1, m2, m3, m4⟩ := blk5 M2.out
  obtain ⟨r0, r1, r2⟩ := blk3 R2.out
  obtain ⟨fr0, fr1, fr2⟩ := blk3f R2.out
  clear hb2 x0 x1 x2
  go_wp2_with fail
  refine (known_no _ _ _ _ _ _ _ _ _ _ _ _ G2.out hb0 hb1 (by omega) HQ.out).mono ?_
  rintro e w3 ⟨rfl, hb3⟩
  obtain ⟨p0, p1, p2⟩ := blk3 (G2.out.belowS hb3)
  have R3 := Lib.hid (R2.out.belowS hb3)
  obtain ⟨q0, q1, q2⟩ := blk3 R3.out
  obtain ⟨fq0, fq1, fq2⟩ := blk3f R3.out
  have S3 := Lib.hid (S2.out.below hb3)
  have B3 := Lib.hid (below_next BB.out hb3)
  clear hb3
  go_wp2_with fail
  refine bodyPost_ret (v := .tuple #[.agg #[.int .i64 b, .slice A1 l.length c1, .int .i64 v], .string ⟨#[]⟩, .bool false]) (by simp [results, Try.results12, go_sem, q0, q1, q2]) rfl ⟨b, A1, l, c1, v, rfl, Lib.hid rfl, hle1, ?_, ?_⟩
  · exact strs_set3 S3.out _ _ _ _ _ _ R3.out (no_string _ _ _ _ _)
  · exact (((B3.out.setCell (by simp; omega) _).setCell (by simp; omega) _).setCell (by simp; omega) _)

set_option maxHeartbeats 1600000 in
theorem hear_ack (b : Nat) (A : Option Addr) (l : List ByteArray) (c : Nat) (v : Int) (f t : Int) (q : Nat) (s : ByteArray) (w : World) (ha : Strs w A l) (hl : l.length ≤ 1000) (hm : (Fy.mk b l v).may = true) (hb1 : b ≤ 1099511627776) (h1 : b < q) (h2 : q ≤ b + l.length) :
    Calls Try.prog 12 #[.agg #[.int .i64 b, .slice A l.length c, .int .i64 v], .agg #[.int .i64 2, .int .i64 f, .int .i64 t, .int .i64 q, .string s]] w (OutH w (⟨q, l.drop (q - b), v⟩, ⟨#[]⟩, false)) := by
  obtain ⟨W0, hW0⟩ : ∃ W0, W0 = ((w.alloc (.cells #[.int .i64 b, .slice A l.length c, .int .i64 v] 24)).alloc (.cells #[.int .i64 2, .int .i64 f, .int .i64 t, .int .i64 q, .string s] 26)).alloc (.cells #[.int .i64 0, .slice none 0 0, .int .i64 0] 24) := ⟨_, rfl⟩
  have hsz : W0.heap.size = w.heap.size + 1 + 1 + 1 := by rw [hW0]; simp
  have B0 : Below w.heap.size w W0 := by rw [hW0]; exact (((Below.refl _ _).alloc (Nat.le_refl _) _).alloc (by simp) _).alloc (by simp; omega) _
  have b1 : Blk W0 w.heap.size #[.int .i64 b, .slice A l.length c, .int .i64 v] 24 := by rw [hW0]; exact ((Blk.new w _ _).alloc _).alloc _
  have b2 : Blk W0 (w.heap.size + 1) #[.int .i64 2, .int .i64 f, .int .i64 t, .int .i64 q, .string s] 26 := by
    rw [hW0]
    have := Blk.new (w.alloc (.cells #[.int .i64 b, .slice A l.length c, .int .i64 v] 24)) #[.int .i64 2, .int .i64 f, .int .i64 t, .int .i64 q, .string s] 26
    rw [World.size_alloc] at this
    exact this.alloc _
  have b3 : Blk W0 (w.heap.size + 1 + 1) #[.int .i64 0, .slice none 0 0, .int .i64 0] 24 := by
    rw [hW0]
    have := Blk.new ((w.alloc (.cells #[.int .i64 b, .slice A l.length c, .int .i64 v] 24)).alloc (.cells #[.int .i64 2, .int .i64 f, .int .i64 t, .int .i64 q, .string s] 26)) #[.int .i64 0, .slice none 0 0, .int .i64 0] 24
    rw [World.size_alloc, World.size_alloc] at this
    exact this
  have SA : Strs W0 A l := ha.below B0
  have HW := Lib.hid hW0
  have HZ := Lib.hid hsz
  have HB0 := Lib.hid B0
  have H1 := Lib.hid b1
  have H2 := Lib.hid b2
  have H3 := Lib.hid b3
  have HSA := Lib.hid SA
  clear hW0 hsz B0 b1 b2 b3 SA ha
  have HM := Lib.hid hm
  clear hm
  go_enter Try.func12, Try.ntmps12
  go_wp2_with fail
  rw [← HW.out]
  refine (of_any _ _ _ _ _ _ HSA.out (by omega)).mono ?_
  rintro e w1 ⟨A1, c1, rfl, hle1, hown1, hb1⟩
  have S1 := Lib.hid (show Strs w1 A1 l from own_rd hown1)
  have HB1 := Lib.hid hb1
  obtain ⟨x0, x1, x2⟩ := blk3 ((H1.out.belowS hb1).alloc (.cells #[.int .i64 b, .slice A1 l.length c1, .int .i64 v] 50))
  have hs1 := hb1.size
  rw [HZ.out] at hs1
  clear hown1 hb1
  go_wp2_with fail
  refine (may_any _ _ _ _ _ _).mono ?_
  rintro e w2 ⟨rfl, hb2⟩
  rw [HM.out]
  have HB2 := Lib.hid hb2
  have hs2 := hb2.size
  simp only [World.size_alloc] at hs2
  have S2 := Lib.hid ((S1.out.alloc _).below hb2)
  have G2 := Lib.hid (((Blk.new w1 #[.int .i64 b, .slice A1 l.length c1, .int .i64 v] 50)).belowS hb2)
  have M2 := Lib.hid (((H2.out.belowS HB1.out).alloc (.cells #[.int .i64 b, .slice A1 l.length c1, .int .i64 v] 50)).belowS hb2)
  have R2 := Lib.hid (((H3.out.belowS HB1.out).alloc (.cells #[.int .i64 b, .slice A1 l.length c1, .int .i64 v] 50)).belowS hb2)
  have BB := Lib.hid (below_next (below_next HB0.out HB1.out) (below_of_alloc hb2))
  obtain ⟨g0, g1, g2⟩ := blk3 G2.out
  obtain ⟨m0, m1, m2, m3, m4⟩ := blk5 M2.out
  obtain ⟨r0, r1, r2⟩ := blk3 R2.out
  obtain ⟨fr0, fr1, fr2⟩ := blk3f R2.out
  clear hb2 x0 x1 x2
  go_wp2_with fail
  refine (known_yes _ _ _ _ _ _ _ _ _ _ _ _ G2.out S2.out hle1 hb1 (by omega) h1 h2).mono ?_
  rintro e w3 ⟨A3, L3, c3, rfl, hL3, hle3, hG3, hS3, hgr3⟩
  obtain ⟨p0, p1, p2⟩ := blk3 hG3
  have R3 := Lib.hid (R2.out.grown hgr3 (by simp; omega))
  obtain ⟨q0, q1, q2⟩ := blk3 R3.out
  obtain ⟨fq0, fq1, fq2⟩ := blk3f R3.out
  have S3 := Lib.hid hS3
  have B3 := Lib.hid (BB.out.grown hgr3 (by have := BB.out.size; omega) (fun k hk => by simp at hk; omega))
  clear hG3 hgr3 hS3
  go_wp2_with fail
  refine bodyPost_ret (v := .tuple #[.agg #[.int .i64 q, .slice A3 L3.length c3, .int .i64 v], .string ⟨#[]⟩, .bool false]) (by simp [results, Try.results12, go_sem, q0, q1, q2]) rfl ⟨q, A3, L3, c3, v, rfl, Lib.hid (by rw [hL3.out]), hle3, ?_, ?_⟩
  · exact strs_set3 S3.out _ _ _ _ _ _ R3.out (no_string _ _ _ _ _)
  · exact (((B3.out.setCell (by simp; omega) _).setCell (by simp; omega) _).setCell (by simp; omega) _)
theorem may_bounds {b : Int} {l : List ByteArray} {v : Int} (h : (Fy.mk b l v).may = true) : (0 ≤ b ∧ b ≤ 1099511627776) ∧ 0 ≤ v ∧ v ≤ 1099511627776 := by
  unfold Fy.may at h
  simp only [Bool.and_eq_true, decide_eq_true_iff] at h
  exact ⟨⟨h.1.1.1, h.1.1.2⟩, h.1.2, h.2⟩
theorem hear_any (b : Int) (A : Option Addr) (l : List ByteArray) (c : Nat) (v : Int) (k f t q : Int) (s : ByteArray) (w : World) (ha : Strs w A l) (hl : l.length ≤ 1000) :
    Calls Try.prog 12 #[.agg #[.int .i64 b, .slice A l.length c, .int .i64 v], .agg #[.int .i64 k, .int .i64 f, .int .i64 t, .int .i64 q, .string s]] w (OutH w (hearF ⟨b, l, v⟩ ⟨k, f, t, q, s⟩)) := by
  rcases hm : (Fy.mk b l v).may with _ | _
  · have hr : hearF ⟨b, l, v⟩ ⟨k, f, t, q, s⟩ = (⟨b, l, v⟩, ⟨#[]⟩, false) := by unfold hearF; rw [hm]; rfl
    rw [hr]
    exact hear_not b A l c v k f t q s w ha hl hm
  · obtain ⟨hb, hv⟩ := may_bounds hm
    by_cases h1 : k = 1
    · subst h1
      by_cases h2 : q = v
      · subst h2
        have hr : hearF ⟨b, l, q⟩ ⟨1, f, t, q, s⟩ = (⟨b, l, q + 1⟩, s, true) := by unfold hearF; rw [hm]; simp
        rw [hr]
        exact hear_data b A l c q f t s w ha hl hm hv
      · have hr : hearF ⟨b, l, v⟩ ⟨1, f, t, q, s⟩ = (⟨b, l, v⟩, ⟨#[]⟩, false) := by unfold hearF; rw [hm]; simp [h2]
        rw [hr]
        exact hear_data0 b A l c v f t q s w ha hl hm h2
    · by_cases h2 : k = 2
      · subst h2
        by_cases h3 : b < q ∧ q ≤ b + l.length
        · obtain ⟨b, rfl⟩ := Int.eq_ofNat_of_zero_le hb.1
          obtain ⟨q, rfl⟩ := Int.eq_ofNat_of_zero_le (show 0 ≤ q by omega)
          have hr : hearF ⟨b, l, v⟩ ⟨2, f, t, q, s⟩ = (⟨q, l.drop (q - b), v⟩, ⟨#[]⟩, false) := by unfold hearF; rw [hm]; simp [h3]
          rw [hr]
          exact hear_ack b A l c v f t q s w ha hl hm (by omega) (by omega) (by omega)
        · have hr : hearF ⟨b, l, v⟩ ⟨2, f, t, q, s⟩ = (⟨b, l, v⟩, ⟨#[]⟩, false) := by
            unfold hearF
            rw [hm, if_pos rfl, if_neg (by simp), if_neg (fun h => h3 h.2)]
          rw [hr]
          exact hear_ack0 b A l c v f t q s w ha hl hm hb.1 hb.2 h3
      · have hr : hearF ⟨b, l, v⟩ ⟨k, f, t, q, s⟩ = (⟨b, l, v⟩, ⟨#[]⟩, false) := by unfold hearF; rw [hm]; simp [h1, h2]
        rw [hr]
        exact hear_other b A l c v k f t q s w ha hl hm h1 h2
end Go.Proofs.Ytnjfphfkjapemaa
