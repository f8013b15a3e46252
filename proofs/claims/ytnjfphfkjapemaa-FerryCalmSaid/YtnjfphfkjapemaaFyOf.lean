/- Contracts: ferry.of, reparteeref36.CopyFerry. -/
import Derived.Test.YtnjfphfkjapemaaFy
namespace Go.Proofs.Ytnjfphfkjapemaa
open Go.RowKit

/-- What a copy of a ferry leaves: the same numbers, the same bodies in memory of the call's own. -/
def OutOf (w : World) (b : Int) (l : List ByteArray) (v : Int) (e : Ending) (w' : World) : Prop :=
  ∃ A c, e = .returned (.agg #[.int .i64 b, .slice A l.length c, .int .i64 v]) ∧ l.length ≤ c ∧ w'.ownsRow w.heap.size 9 1 (.slice A l.length c) l.length (l.map .string) ∧ Below w.heap.size w w'

set_option maxHeartbeats 800000 in
theorem of_any (b : Int) (A : Option Addr) (l : List ByteArray) (c : Nat) (v : Int) (w : World) (ha : Strs w A l) (hl : l.length * 16 ≤ 140737488355328) :
    Calls Try.prog 22 #[.agg #[.int .i64 b, .slice A l.length c, .int .i64 v]] w (OutOf w b l v) := by
  obtain ⟨W0, hW0⟩ : ∃ W0, W0 = (w.alloc (.cells #[.int .i64 b, .slice A l.length c, .int .i64 v] 24)).alloc (.cells #[.int .i64 0, .slice none 0 0, .int .i64 0] 50) := ⟨_, rfl⟩
  have C := clone_any A l c W0 (by rw [hW0]; exact (ha.alloc _).alloc _) hl
  have HW := Lib.hid hW0
  have HC := Lib.hid C
  clear C hW0
  go_enter Try.func22, Try.ntmps22
  go_wp2_with fail
  rw [← HW.out]
  refine HC.out.mono ?_
  rintro e w2 ⟨A1, c1, rfl, hle, hown, hb⟩
  rw [HW.out] at hb hown
  have b1 : Blk w2 w.heap.size #[.int .i64 b, .slice A l.length c, .int .i64 v] 24 := ((Blk.new w _ _).alloc _).belowS hb
  have b2 : Blk w2 (w.heap.size + 1) #[.int .i64 0, .slice none 0 0, .int .i64 0] 50 := by
    have := Blk.new (w.alloc (.cells #[.int .i64 b, .slice A l.length c, .int .i64 v] 24)) #[.int .i64 0, .slice none 0 0, .int .i64 0] 50
    rw [World.size_alloc] at this
    exact this.belowS hb
  obtain ⟨x0, x1, x2⟩ := blk3 b1
  obtain ⟨y0, y1, y2⟩ := blk3 b2
  obtain ⟨fx0, fx1, fx2⟩ := blk3f b1
  obtain ⟨fy0, fy1, fy2⟩ := blk3f b2
  have HO := Lib.hid hown
  have HB := Lib.hid hb
  have hbs := hb.size
  simp only [World.size_alloc] at hbs
  clear hown hb b1 b2
  go_wp2_with fail
  have hO := HO.out
  simp only [World.size_alloc] at hO
  refine bodyPost_ret (v := .agg #[.int .i64 b, .slice A1 l.length c1, .int .i64 v]) (by simp [results, Try.results22, go_sem, y0, y1, y2]) rfl ⟨A1, c1, rfl, hle, ?_, ?_⟩
  · exact own_mono (own_far (own_far (own_far (own_far hO (by simp; omega) _) (by simp) _) (by simp) _) (by simp) _) (by omega)
  · exact ((((below_of_alloc (below_of_alloc HB.out)).setCell (by simp) _).setCell (by simp) _).setCell (by simp) _).setCell (by simp) _

set_option maxHeartbeats 800000 in
theorem copy_any (b : Int) (A : Option Addr) (l : List ByteArray) (c : Nat) (v : Int) (w : World) (ha : Strs w A l) (hl : l.length * 16 ≤ 140737488355328) :
    Calls Try.prog 23 #[.agg #[.int .i64 b, .slice A l.length c, .int .i64 v]] w (OutOf w b l v) := by
  obtain ⟨W0, hW0⟩ : ∃ W0, W0 = (w.alloc (.cells #[.int .i64 b, .slice A l.length c, .int .i64 v] 24)).alloc (.cells #[.int .i64 0, .slice none 0 0, .int .i64 0] 24) := ⟨_, rfl⟩
  have hsz : W0.heap.size = w.heap.size + 1 + 1 := by rw [hW0]; simp
  have B0 : Below w.heap.size w W0 := by rw [hW0]; exact ((Below.refl _ _).alloc (Nat.le_refl _) _).alloc (by simp) _
  have b1 : Blk W0 w.heap.size #[.int .i64 b, .slice A l.length c, .int .i64 v] 24 := by rw [hW0]; exact (Blk.new w _ _).alloc _
  have b2 : Blk W0 (w.heap.size + 1) #[.int .i64 0, .slice none 0 0, .int .i64 0] 24 := by
    rw [hW0]
    have := Blk.new (w.alloc (.cells #[.int .i64 b, .slice A l.length c, .int .i64 v] 24)) #[.int .i64 0, .slice none 0 0, .int .i64 0] 24
    rw [World.size_alloc] at this
    exact this
  have SA : Strs W0 A l := ha.below B0
  have HW := Lib.hid hW0
  have HZ := Lib.hid hsz
  have HB0 := Lib.hid B0
  have HB1 := Lib.hid b1
  have HB2 := Lib.hid b2
  clear hW0 hsz B0 b1 b2
  go_enter Try.func23, Try.ntmps23
  go_wp2_with fail
  rw [← HW.out]
  obtain ⟨x0, x1, x2⟩ := blk3 HB1.out
  go_region_held3 (fun W => W.cell? ⟨w.heap.size, 0, none⟩ = some (.int .i64 b) ∧ W.cell? ⟨w.heap.size, 1, none⟩ = some (.slice A l.length c) ∧ W.cell? ⟨w.heap.size, 2, none⟩ = some (.int .i64 v))
    (first | go_keep | (exact blk3 (HB1.out.belowS hb)))
    ((go_at_call 26; refine (texts_any _ _ _ _ (Strs.drew SA) hl).mono ?_; rintro e w2 ⟨A1, c1, rfl, hle, hown, hb'⟩; have hb := below_of_drew hb'; obtain ⟨y0, y1, y2⟩ := blk3 (HB2.out.belowS hb); obtain ⟨fy0, fy1, fy2⟩ := blk3f (HB2.out.belowS hb)))
  go_wp2
  have hO : w2.ownsRow (w.heap.size + 1 + 1) 9 1 (.slice A1 l.length c1) l.length (l.map .string) := by rw [← HZ.out]; exact hown
  refine bodyPost_ret (v := .agg #[.int .i64 b, .slice A1 l.length c1, .int .i64 v]) (by simp [results, Try.results23, go_sem, y0, y1, y2]) rfl ⟨A1, c1, rfl, hle, ?_, ?_⟩
  · exact own_mono (own_far (own_far (own_far hO (by simp) _) (by simp) _) (by simp) _) (by omega)
  · exact (((below_next HB0.out hb).setCell (by simp) _).setCell (by simp) _).setCell (by simp) _
end Go.Proofs.Ytnjfphfkjapemaa
