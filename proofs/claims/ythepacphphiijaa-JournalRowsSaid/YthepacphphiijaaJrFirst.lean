/- Contract: reparteelaw41.first. -/
import Derived.Test.YthepacphphiijaaJrMore
namespace Go.Proofs.Ythepacphphiijaa
open Go.RowKit

abbrev ix1 : In := ⟨1, 0, []⟩
abbrev ix2 : In := ⟨2, 1, [97]⟩
theorem ix1_ok : ix1.ok := ⟨⟨by decide, by decide⟩, ⟨by decide, by decide⟩, by decide⟩
theorem ix2_ok : ix2.ok := ⟨⟨by decide, by decide⟩, ⟨by decide, by decide⟩, by decide⟩
set_option maxRecDepth 100000 in
set_option maxHeartbeats 3200000 in
theorem first41_any (w : World) : Calls Try.prog 9 #[] w fun e w' => e = .returned (.bool true) ∧ Below w.heap.size w w' := by
  have hok1 : ∀ x ∈ [ix1], x.ok := by intro x hx; simp at hx; rw [hx]; exact ix1_ok
  have hok2 : ∀ x ∈ [ix1, ix2], x.ok := by intro x hx; simp at hx; rcases hx with rfl | rfl <;> first | exact ix1_ok | exact ix2_ok
  have hok3 : ∀ x ∈ [ix1, ix1, ix2], x.ok := by intro x hx; simp at hx; rcases hx with rfl | rfl <;> first | exact ix1_ok | exact ix2_ok
  have hrd := reads_recs [ix1, ix1, ix2] hok3
  have hl1 := recsB_len [ix1] hok1
  have hl2 := recsB_len [ix1, ix2] hok2
  have hcat : recsB [ix1, ix1, ix2] = recsB [ix1] ++ recsB [ix1, ix2] := by rw [← recsB_append]; rfl
  rw [hcat] at hrd
  have HRD := Lib.hid hrd
  have HOK1 := Lib.hid hok1
  have HOK2 := Lib.hid hok2
  clear hrd hcat hok1 hok2 hok3
  have y1 : (recsB [ix1]).length ≤ 1000000100 := by simpa using hl1
  have y2 : (recsB [ix1, ix2]).length ≤ 2000000200 := by simpa using hl2
  clear hl1 hl2
  generalize hS1 : recsB [ix1] = S1 at *
  generalize hS2 : recsB [ix1, ix2] = S2 at *
  have HS1 := Lib.hid hS1
  have HS2 := Lib.hid hS2
  clear hS1 hS2
  go_enter Try.func9, Try.ntmps9
  go_wp2_with fail
  have C := jappend_any ⟨#[]⟩ 0 (some ⟨w.heap.size, 0, none⟩) [ix1] 1 (w.alloc (.cells #[.int .i64 1, .int .i64 0, .string ⟨#[]⟩] 39)) (by omega) (by simp) (by decide) (Rd.new w #[.int .i64 1, .int .i64 0, .string ⟨#[]⟩] 39) HOK1.out (by simp)
  rw [HS1.out, show (⟨#[]⟩ : ByteArray) ++ ⟨S1.toArray⟩ = ⟨S1.toArray⟩ from ba_app' [] S1] at C
  refine C.mono ?_
  clear C
  rintro e w1 ⟨rfl, hb⟩
  have B1 := Lib.hid (below_of_alloc hb)
  clear hb
  go_wp2_with fail
  obtain ⟨W2, hW2⟩ : ∃ W2, W2 = (w1.alloc (.cells #[.string ⟨S1.toArray⟩, .int .i64 0] 55)).alloc (.cells #[.int .i64 1, .int .i64 0, .string ⟨#[]⟩, .int .i64 2, .int .i64 1, .string ⟨#[97]⟩] 39) := ⟨_, rfl⟩
  have G2 := Lib.hid (show Blk W2 w1.heap.size #[.string ⟨S1.toArray⟩, .int .i64 0] 55 by rw [hW2]; exact (Blk.new w1 _ _).alloc _)
  have B2 := Lib.hid (show Below w1.heap.size w1 W2 by rw [hW2]; exact ((Below.refl _ _).alloc (Nat.le_refl _) _).alloc (by simp) _)
  have I2 : Rd W2 (some ⟨w1.heap.size + 1, 0, none⟩) (irow [ix1, ix2]) := by
    have := Rd.new (w1.alloc (.cells #[.string ⟨S1.toArray⟩, .int .i64 0] 55)) #[.int .i64 1, .int .i64 0, .string ⟨#[]⟩, .int .i64 2, .int .i64 1, .string ⟨#[97]⟩] 39
    rw [World.size_alloc, ← hW2] at this
    exact this
  rw [← hW2]
  clear hW2
  have C := jappend_any ⟨S1.toArray⟩ 0 (some ⟨w1.heap.size + 1, 0, none⟩) [ix1, ix2] 2 W2 (by omega) (by simp) (by show S1.length ≤ _; omega) I2 HOK2.out (by simp)
  rw [HS2.out, ba_app'] at C
  refine C.mono ?_
  clear C I2
  rintro e w3 ⟨rfl, hb⟩
  have B3 := Lib.hid (below_next B1.out (below_next B2.out hb))
  have G3 := Lib.hid (G2.out.belowS hb)
  have hlt := G3.out.lt
  clear hb
  obtain ⟨x0, x1, f0, f1⟩ := blk2 G3.out
  have G4 := Lib.hid ((G3.out.set_ 0 (.string ⟨(S1 ++ S2).toArray⟩)).set_ 1 (.int .i64 0))
  have B4 := Lib.hid ((B3.out.setCell (p := ⟨w1.heap.size, 0, none⟩) B1.out.size (.string ⟨(S1 ++ S2).toArray⟩)).setCell (p := ⟨w1.heap.size, 1, none⟩) B1.out.size (.int .i64 0))
  go_upto_region 3 with fail
  generalize (w3.setCell ⟨w1.heap.size, 0, none⟩ (.string ⟨(S1 ++ S2).toArray⟩)).setCell ⟨w1.heap.size, 1, none⟩ (.int .i64 0) = W4 at *
  have hSl : (S1 ++ S2).length ≤ 3000000300 := by rw [List.length_append]; omega
  clear x0 x1 f0 f1 hlt y1 y2
  generalize S1 ++ S2 = S at *
  obtain ⟨x0, x1, f0, f1⟩ := blk2 G4.out
  go_wp2_with fail
  refine (jread_any ⟨S.toArray⟩ W4 (by show S.length ≤ _; omega)).mono ?_
  rintro e w5 ⟨A5, L5, c5, m5, rfl, hR, hle, hown, hb⟩
  obtain ⟨hL5, rfl⟩ := HRD.out.same hR.out
  subst hL5
  have B5 := Lib.hid (below_next B4.out hb)
  have G5 := Lib.hid (G4.out.belowS hb)
  obtain ⟨ib, io, hA5, hib, hcs⟩ := (own_rd hown).at_ (i := 0) (by simp [irow, icells])
  subst hA5
  have c6 := hcs 6 _ rfl
  have c7 := hcs 7 _ rfl
  have c8 := hcs 8 _ rfl
  have HC := Lib.hid (And.intro c6 (And.intro c7 c8))
  have hle3 : 3 ≤ c5 := hle
  clear hb x0 x1 f0 f1 hR hcs hown c6 c7 c8 hle
  obtain ⟨x0, x1, f0, f1⟩ := blk2 G5.out
  go_wp2_with fail
  refine (jfall0_any _ _ (by show S.length ≤ _; omega)).mono ?_
  rintro e w6 ⟨rfl, hb6⟩
  have B6 := Lib.hid (below_next B5.out hb6)
  have G6 := Lib.hid (G5.out.belowS hb6)
  clear x0 x1 f0 f1
  go_wp2_with fail
  refine (jmend0_any _).mono ?_
  rintro e w7 ⟨⟨A7, c7, rfl⟩, hb7⟩
  have B7 := Lib.hid (below_next B6.out hb7)
  have G7 := Lib.hid (G6.out.belowS hb7)
  have hib7 : ib < w7.heap.size := Nat.lt_of_lt_of_le hib (Nat.le_trans hb6.size hb7.size)
  have c6 := (hb7.cell (p := ⟨ib, io + 6, none⟩) (Nat.lt_of_lt_of_le hib hb6.size)).trans ((hb6.cell (p := ⟨ib, io + 6, none⟩) hib).trans HC.out.1)
  have c77 := (hb7.cell (p := ⟨ib, io + 7, none⟩) (Nat.lt_of_lt_of_le hib hb6.size)).trans ((hb6.cell (p := ⟨ib, io + 7, none⟩) hib).trans HC.out.2.1)
  have c8 := (hb7.cell (p := ⟨ib, io + 8, none⟩) (Nat.lt_of_lt_of_le hib hb6.size)).trans ((hb6.cell (p := ⟨ib, io + 8, none⟩) hib).trans HC.out.2.2)
  obtain ⟨x0, x1, f0, f1⟩ := blk2 G7.out
  have hlt7 := G7.out.lt
  clear hb6 hb7
  go_wp2_with fail
  go_ret
  exact ⟨rfl, B7.out.alloc B7.out.size _⟩
end Go.Proofs.Ythepacphphiijaa
