/- Contracts: reparteelaw40.first, few. -/
import Derived.Test.YtnjfphfkjapemaaFyFrames
import Derived.Test.YtnjfphfkjapemaaFySend
namespace Go.Proofs.Ytnjfphfkjapemaa
open Go.RowKit

abbrev sA : ByteArray := ⟨#[97]⟩
theorem send_fst : sendF ⟨0, [], 0⟩ sA = (⟨0, [sA], 0⟩, 0) := rfl
theorem frames_fst : framesF ⟨0, [sA], 0⟩ 0 1 = [⟨2, 0, 1, 0, ⟨#[]⟩⟩, ⟨1, 0, 1, 0, sA⟩] := rfl
theorem hear_fst : hearF ⟨0, [], 0⟩ ⟨1, 0, 0, 0, sA⟩ = (⟨0, [], 1⟩, sA, true) := rfl
theorem rd_cells {w : World} {A : Option Addr} {xs : List Value} (h : Rd w A xs) (h0 : 0 < xs.length) : ∃ b off, A = some ⟨b, off, none⟩ ∧ b < w.heap.size ∧ ∀ i u, xs[i]? = some u → w.cell? ⟨b, off + i, none⟩ = some u := h.at_ h0

set_option maxHeartbeats 1600000 in
theorem first_any (w : World) : Calls Try.prog 7 #[] w fun e w' => e = .returned (.bool true) ∧ Below w.heap.size w w' := by
  go_enter Try.func7, Try.ntmps7
  go_wp2_with fail
  have C := send_any 0 none [] 0 0 sA w Rd.nil (by simp)
  rw [send_fst] at C
  refine C.mono ?_
  clear C
  rintro e w1 ⟨b1, A1, L1, c1, v1, rfl, hF1, hle1, hs1, hb1⟩
  obtain ⟨rfl, hL1, rfl⟩ := Fy.mk.inj hF1.out
  clear hF1
  have HL1 := Lib.hid hL1
  have S1 := Lib.hid hs1
  have B1 := Lib.hid hb1
  clear hL1 hs1 hb1
  go_wp2_with fail
  have C := frames_any 0 A1 L1 c1 0 0 1 (w1.alloc (.cells #[.int .i64 0, .slice A1 L1.length c1, .int .i64 0] 24)) (S1.out.alloc _) (by rw [HL1.out]; simp)
  rw [HL1.out, frames_fst, ← HL1.out] at C
  refine C.mono ?_
  clear C
  rintro e w2 ⟨A2, L2, c2, rfl, hL2, hle2, hown2, hb2⟩
  obtain ⟨fb, fo, hA2, hfb, hcs⟩ := rd_cells (own_rd hown2) (by rw [hL2.out]; simp [frow, fcells])
  rw [hL2.out] at hcs
  subst hA2
  have HCS := Lib.hid hcs
  have B2 := Lib.hid (below_of_alloc hb2)
  have hl1 : L2.length ≤ 2 := by rw [hL2.out]; simp
  have hl2 : 2 ≤ L2.length := by rw [hL2.out]; simp
  clear hcs hown2 hb2
  go_wp2_with fail
  have C := hear_any 0 none [] 0 0 1 0 0 0 sA w2 Rd.nil (by simp)
  rw [hear_fst] at C
  refine C.mono ?_
  clear C
  rintro e w3 ⟨b3, A3, L3, c3, v3, rfl, hF3, hle3, hs3, hb3⟩
  obtain ⟨rfl, hL3, rfl⟩ := Fy.mk.inj hF3.out
  have HL3 := Lib.hid hL3
  clear hF3 hL3
  have B3 := Lib.hid hb3
  have hk : ∀ i u, (frow [⟨2, 0, 1, 0, ⟨#[]⟩⟩, ⟨1, 0, 1, 0, sA⟩])[i]? = some u → w3.cell? ⟨fb, fo + i, none⟩ = some u := fun i u hu => (hb3.cell (p := ⟨fb, fo + i, none⟩) hfb).trans (HCS.out i u hu)
  have k0 := hk 0 _ rfl
  rw [Nat.add_zero] at k0
  have k1 := hk 1 _ rfl
  have k2 := hk 2 _ rfl
  have k3 := hk 3 _ rfl
  have k4 := hk 4 _ rfl
  have k5 := hk 5 _ rfl
  have k6 := hk 6 _ rfl
  have k7 := hk 7 _ rfl
  have k8 := hk 8 _ rfl
  have k9 := hk 9 _ rfl
  have hfb3 : fb < w3.heap.size := Nat.lt_of_lt_of_le hfb hb3.size
  clear hb3 hs3 hk
  go_wp2_with fail
  go_ret
  exact ⟨rfl, (below_next (below_next B1.out B2.out) B3.out).alloc (below_next (below_next B1.out B2.out) B3.out).size _⟩

theorem few_any (b : Int) (A : Option Addr) (l : List ByteArray) (c : Nat) (v : Int) (w : World) :
    Calls Try.prog 9 #[.agg #[.int .i64 b, .slice A l.length c, .int .i64 v]] w fun e w' => e = .returned (.bool (decide (l.length ≤ 60))) ∧ Below w.heap.size w w' := by
  go_enter Try.func9, Try.ntmps9
  go_wp2
  go_ret
  exact ⟨ret_bool (by simp; omega), (Below.refl _ _).alloc (Nat.le_refl _) _⟩
end Go.Proofs.Ytnjfphfkjapemaa
