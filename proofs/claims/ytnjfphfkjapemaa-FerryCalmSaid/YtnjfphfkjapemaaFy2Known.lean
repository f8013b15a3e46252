/- Contract: (*side).known where the Ack is a new one, with the news that the bodies lie in memory of the call's own. -/
import Derived.Test.YtnjfphfkjapemaaFyHear
namespace Go.Proofs.Ytnjfphfkjapemaa
open Go.RowKit

/-- What known leaves where the Ack is a new one. -/
def KnownPost2 (g : Nat) (q : Int) (l : List ByteArray) (v : Int) (w : World) (e : Ending) (w' : World) : Prop :=
  ∃ A' L c', e = .returned (.tuple #[]) ∧ Hid (L = l) ∧ L.length ≤ c' ∧ Blk w' g #[.int .i64 q, .slice A' L.length c', .int .i64 v] 50 ∧ Strs w' A' L ∧ (∀ ad, A' = some ad → w.heap.size ≤ ad.block) ∧ w.grownBy w' (some g)
set_option maxHeartbeats 1600000 in
theorem known2_yes (g : Nat) (b : Nat) (A : Option Addr) (l : List ByteArray) (c : Nat) (v k f t : Int) (q : Nat) (s : ByteArray) (w : World) (hB : Blk w g #[.int .i64 b, .slice A l.length c, .int .i64 v] 50) (ha : Strs w A l) (hc : l.length ≤ c)
    (hb : b ≤ 1099511627776) (hl : l.length ≤ 100000) (h1 : b < q) (h2 : q ≤ b + l.length) :
    Calls Try.prog 25 #[.pointer (some ⟨g, 0, none⟩), .agg #[.int .i64 k, .int .i64 f, .int .i64 t, .int .i64 q, .string s]] w (KnownPost2 g q (l.drop (q - b)) v w) := by
  obtain ⟨x0, x1, x2⟩ := blk3 hB
  obtain ⟨fx0, fx1, fx2⟩ := blk3f hB
  have hg : g < w.heap.size := hB.lt
  have h1' : (b : Int) < q := by omega
  have h2' : (q : Int) ≤ (b : Int) + (l.length : Int) := by omega
  obtain ⟨W0, hW0⟩ : ∃ W0, W0 = w.alloc (.cells #[.int .i64 k, .int .i64 f, .int .i64 t, .int .i64 q, .string s] 26) := ⟨_, rfl⟩
  have hsz : W0.heap.size = w.heap.size + 1 := by rw [hW0]; simp
  have B0 : Below w.heap.size w W0 := by rw [hW0]; exact ((Below.refl _ _).alloc (Nat.le_refl _) _)
  have b1 : Blk W0 w.heap.size #[.int .i64 k, .int .i64 f, .int .i64 t, .int .i64 q, .string s] 26 := by rw [hW0]; exact Blk.new w _ _
  have b2 : Blk W0 g #[.int .i64 b, .slice A l.length c, .int .i64 v] 50 := hB.belowS B0
  have HB2 := Lib.hid b2
  have HB1 := Lib.hid b1
  have HB0 := Lib.hid B0
  have HW := Lib.hid hW0
  have HZ := Lib.hid hsz
  have SA := Lib.hid (ha.below B0)
  obtain ⟨i0, hi0, hz0, hz1, hz2⟩ := info_parts infoStr
  have hcut := fun W => run_cut (P := Try.prog) 22 9 i0 Try.underlying22 hi0 hz1 A l.length c (q - b) ((q : Int) - (b : Int)) (by omega) (by omega) W
  clear hB b1 b2 B0 hW0 hsz ha
  go_enter Try.func25, Try.ntmps25
  go_wp2_with fail
  go_quiet (fail)
  go_wp2_with fail
  rw [← HW.out]
  obtain ⟨W1, hW1⟩ : ∃ W1, W1 = W0.drewN nq := ⟨_, rfl⟩
  rw [← hW1]
  have C1 : Blk W1 w.heap.size #[.int .i64 k, .int .i64 f, .int .i64 t, .int .i64 q, .string s] 26 := by rw [hW1]; exact HB1.out
  have C2 : Blk W1 g #[.int .i64 b, .slice A l.length c, .int .i64 v] 50 := by rw [hW1]; exact HB2.out
  have CS : Strs W1 A l := by rw [hW1]; exact SA.out
  have CB : Below w.heap.size w W1 := by rw [hW1]; exact below_drewN HB0.out nq
  clear hW1 x0 x1 x2 fx0 fx1 fx2
  obtain ⟨x0, x1, x2⟩ := blk3 C2
  obtain ⟨_, _, _, z3, _⟩ := blk5 C1
  have C1H := Lib.hid C1
  have C2H := Lib.hid C2
  have CSH := Lib.hid CS
  have CBH := Lib.hid CB
  clear C1 C2 CS CB
  have e1 : IntKind.i64.wrap ((q : Int) - (b : Int)) = (q : Int) - (b : Int) := IntWalk.i64_in _ (by omega)
  have e2 : ((q : Int) - (b : Int)).toNat = q - b := by omega
  have hcl := clone_any (cutA A c (q - b)) (l.drop (q - b)) (c - (q - b)) W1.drew ((CSH.out.cut (q - b) hc).drew) (by simp; omega)
  rw [List.length_drop] at hcl
  have HC := Lib.hid hcl
  clear hcl
  go_region_with (go_at_call 27; refine HC.out.mono ?_; rintro e w3 ⟨A3, c3, rfl, hle3, hown3, hb3'⟩; have hb3 := below_of_drew hb3'; obtain ⟨y0, y1, y2⟩ := blk3 (C2H.out.belowS hb3); obtain ⟨fy0, fy1, fy2⟩ := blk3f (C2H.out.belowS hb3); obtain ⟨_, _, _, q3, _⟩ := blk5 (C1H.out.belowS hb3))
  all_goals
    go_wp2_with fail
    go_end0
    have hD := Lib.hid (List.length_drop (i := q - b) (l := l))
    refine ⟨A3, l.drop (q - b), c3, rfl, Lib.hid rfl, by rw [hD.out]; exact hle3, ?_, ?_, fun ad h => Nat.le_trans CBH.out.size (own_base (base := W1.heap.size) hown3 h), ?_⟩
    · rw [hD.out]
      exact ((C2H.out.belowS hb3).set_ 1 (.slice A3 (l.length - (q - b)) c3)).set_ 0 (.int .i64 q)
    · have hO : w3.ownsRow W1.heap.size 9 1 (.slice A3 (l.length - (q - b)) c3) (l.length - (q - b)) ((l.drop (q - b)).map .string) := hown3
      have hg1 : g < W1.heap.size := C2H.out.lt
      have := own_rd (own_far (own_far hO (p := ⟨g, 1, none⟩) hg1 (.slice A3 (l.length - (q - b)) c3)) (p := ⟨g, 0, none⟩) hg1 (.int .i64 q))
      exact this
    · exact grown_set (grown_set (grown_of_below (below_next CBH.out hb3) (some g)) (by rfl) _) (by rfl) _
end Go.Proofs.Ytnjfphfkjapemaa
