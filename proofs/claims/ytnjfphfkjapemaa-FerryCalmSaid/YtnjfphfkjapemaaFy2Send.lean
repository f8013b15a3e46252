/- Contract: ferry.Send, with the news that the bodies lie in memory of the call's own. -/
import Derived.Test.YtnjfphfkjapemaaFySend
namespace Go.Proofs.Ytnjfphfkjapemaa
open Go.RowKit

def OutS2 (w : World) (r : Fy × Int) (e : Ending) (w' : World) : Prop :=
  ∃ b A L c v, e = .returned (.tuple #[.agg #[.int .i64 b, .slice A L.length c, .int .i64 v], .int .i64 r.2]) ∧ Hid (Fy.mk b L v = r.1) ∧ L.length ≤ c ∧ Strs w' A L ∧ (∀ ad, A = some ad → w.heap.size ≤ ad.block) ∧ Below w.heap.size w w'
set_option maxHeartbeats 800000 in
theorem send2_any (b : Int) (A : Option Addr) (l : List ByteArray) (c : Nat) (v : Int) (s : ByteArray) (w : World) (ha : Strs w A l) (hl : l.length * 16 ≤ 140737488355312) :
    Calls Try.prog 10 #[.agg #[.int .i64 b, .slice A l.length c, .int .i64 v], .string s] w (OutS2 w (sendF ⟨b, l, v⟩ s)) := by
  obtain ⟨i0, hi0, hz0, hz1, hz2⟩ := info_parts infoStr
  obtain ⟨W0, hW0⟩ : ∃ W0, W0 = (w.alloc (.cells #[.int .i64 b, .slice A l.length c, .int .i64 v] 24)).alloc (.cells #[.int .i64 0, .slice none 0 0, .int .i64 0] 24) := ⟨_, rfl⟩
  have hsz : W0.heap.size = w.heap.size + 1 + 1 := by rw [hW0]; simp
  have B0 : Below w.heap.size w W0 := by rw [hW0]; exact ((Below.refl _ _).alloc (Nat.le_refl _) _).alloc (by simp) _
  have b1 : Blk W0 w.heap.size #[.int .i64 b, .slice A l.length c, .int .i64 v] 24 := by rw [hW0]; exact (Blk.new w _ _).alloc _
  have b2 : Blk W0 (w.heap.size + 1) #[.int .i64 0, .slice none 0 0, .int .i64 0] 24 := by
    rw [hW0]
    have := Blk.new (w.alloc (.cells #[.int .i64 b, .slice A l.length c, .int .i64 v] 24)) #[.int .i64 0, .slice none 0 0, .int .i64 0] 24
    rw [World.size_alloc] at this
    exact this
  have SA : Strs W0 A l := ha.below B0
  have HW := Lib.hid hW0
  have HZ := Lib.hid hsz
  have HB0 := Lib.hid B0
  have HB1 := Lib.hid b1
  have HB2 := Lib.hid b2
  have HSA := Lib.hid SA
  clear hW0 hsz B0 b1 b2 SA
  rcases hm : (Fy.mk b l v).may with _ | _
  · have hr : sendF ⟨b, l, v⟩ s = (⟨0, [], 0⟩, 4000) := by unfold sendF; rw [hm]; rfl
    rw [hr]
    have HM := Lib.hid hm
    clear hr hm
    go_enter Try.func10, Try.ntmps10
    go_wp2_with fail
    rw [← HW.out]
    refine (may_any _ _ _ _ _ _).mono ?_
    rintro e w2 ⟨rfl, hb⟩
    rw [HM.out]
    obtain ⟨y0, y1, y2⟩ := blk3 (HB2.out.belowS hb)
    obtain ⟨fy0, fy1, fy2⟩ := blk3f (HB2.out.belowS hb)
    have HB := Lib.hid hb
    clear hb
    go_wp2_with fail
    refine bodyPost_ret (v := .tuple #[.agg #[.int .i64 0, .slice none 0 0, .int .i64 0], .int .i64 4000]) (by simp [results, Try.results10, go_sem, y0, y1, y2]) rfl ⟨0, none, [], 0, 0, rfl, Lib.hid rfl, Nat.le_refl _, Rd.nil, (fun ad h => by cases h), ?_⟩
    exact (((below_next HB0.out HB.out).setCell (by simp) _).setCell (by simp) _).setCell (by simp) _
  · have hr : sendF ⟨b, l, v⟩ s = (⟨b, l ++ [s], v⟩, 0) := by unfold sendF; rw [hm]; rfl
    rw [hr]
    have HM := Lib.hid hm
    clear hr hm
    obtain ⟨x0, x1, x2⟩ := blk3 HB1.out
    go_enter Try.func10, Try.ntmps10
    go_wp2_with fail
    rw [← HW.out]
    refine (may_any _ _ _ _ _ _).mono ?_
    rintro e w2 ⟨rfl, hb⟩
    rw [HM.out]
    obtain ⟨x0, x1, x2⟩ := blk3 (HB1.out.belowS hb)
    have HB := Lib.hid hb
    have HSA2 := Lib.hid (HSA.out.below hb)
    have HB22 := Lib.hid (HB2.out.belowS hb)
    clear hb
    go_wp2_with fail
    refine (of_any _ _ _ _ _ _ HSA2.out (by omega)).mono ?_
    rintro e w3 ⟨A3, c3, rfl, hle3, hown3, hb3⟩
    obtain ⟨y0, y1, y2⟩ := blk3 (HB22.out.belowS hb3)
    obtain ⟨fy0, fy1, fy2⟩ := blk3f (HB22.out.belowS hb3)
    have HB3 := Lib.hid hb3
    have hs3 := hb3.size
    have hs2 := HB.out.size
    rw [HZ.out] at hs2
    have hL : ∀ g, (Value.slice A3 l.length c3).ownBlock = some g → w2.heap.size ≤ g ∧ g < w3.heap.size := fun g hg => hown3.lt g hg
    have HL := Lib.hid hL
    have B22 := Lib.hid (HB22.out.belowS hb3)
    clear hb3 hL
    go_wp2_with (at_builtin; refine wpList_app _ rfl _ _ _ rfl w2.heap.size 9 i0 _ 1 16 Try.underlying22 hi0 hz0 hz1 hz2 rfl (by omega) (.slice A3 l.length c3) l.length (l.map .string) rfl ((hown3.alloc _).alloc _) (some ⟨w3.heap.size + 1, 0, none⟩) 1 1 [.string s] rfl (by have := Rd.new (w3.alloc (.cells #[.int .i64 b, .slice A3 l.length c3, .int .i64 v] 50)) #[.string s] 9; rw [World.size_alloc] at this; exact this) rfl (oneCell_string s) (by omega) (by unfold maxLen; omega) (by simp; omega) ?_; intro A4 c4 w4 hle4 hown4 hg4 hat4; obtain ⟨z0, z1, z2⟩ := blk3 (((Blk.new w3 #[.int .i64 b, .slice A3 l.length c3, .int .i64 v] 50).alloc (.cells #[.string s] 9)).grown hg4 (fun e => by have := (HL.out _ e.symm).2; omega)); obtain ⟨fz0, fz1, fz2⟩ := blk3f (((Blk.new w3 #[.int .i64 b, .slice A3 l.length c3, .int .i64 v] 50).alloc (.cells #[.string s] 9)).grown hg4 (fun e => by have := (HL.out _ e.symm).2; omega)); obtain ⟨y0, y1, y2⟩ := blk3 (((B22.out.alloc _).alloc _).grown hg4 (fun e => by have := (HL.out _ e.symm).1; omega)); obtain ⟨fy0, fy1, fy2⟩ := blk3f (((B22.out.alloc _).alloc _).grown hg4 (fun e => by have := (HL.out _ e.symm).1; omega)))
    have hne1 : (Value.slice A4 (l.length + 1) c4).ownBlock ≠ some w3.heap.size := by
      rcases hat4 with e | e <;> rw [e]
      · intro h; have := (HL.out _ h).2; omega
      · simp; omega
    have hne2 : (Value.slice A4 (l.length + 1) c4).ownBlock ≠ some (w.heap.size + 1) := fun h => by have := (hown4.lt _ h).1; omega
    refine bodyPost_ret (v := .tuple #[.agg #[.int .i64 b, .slice A4 (l.length + 1) c4, .int .i64 v], .int .i64 0]) (by simp [results, Try.results10, go_sem, y0, y1, y2]) rfl ⟨b, A4, l ++ [s], c4, v, by simp, Lib.hid rfl, by simpa using hle4, ?_, (fun ad h => by have := own_base hown4 h; omega), ?_⟩
    · have := own_rd (ownsRow_setCell_other (ownsRow_setCell_other (ownsRow_setCell_other (ownsRow_setCell_other hown4 (a := ⟨w3.heap.size, 1, none⟩) hne1 (.slice A4 (l.length + 1) c4)) (a := ⟨w.heap.size + 1, 0, none⟩) hne2 (.int .i64 b)) (a := ⟨w.heap.size + 1, 1, none⟩) hne2 (.slice A4 (l.length + 1) c4)) (a := ⟨w.heap.size + 1, 2, none⟩) hne2 (.int .i64 v))
      unfold Strs
      rw [List.map_append]
      exact this
    · have B4 : Below w.heap.size w w4 := (((below_next (below_next HB0.out HB.out) HB3.out).alloc (by omega) _).alloc (by simp; omega) _).grown hg4 (by simp; omega) (fun k hk => by have := (HL.out k hk).1; omega)
      exact (((B4.setCell (by simp; omega) _).setCell (by simp) _).setCell (by simp) _).setCell (by simp) _
end Go.Proofs.Ytnjfphfkjapemaa
