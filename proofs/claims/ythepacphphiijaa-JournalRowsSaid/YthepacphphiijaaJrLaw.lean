/- Contracts: reparteelaw41.same (at two rows alike), few. -/
import Derived.Test.YthepacphphiijaaJrRef
import Derived.Test.YthepacphphiijaaLow
namespace Go.Proofs.Ythepacphphiijaa
open Go.RowKit

set_option maxRecDepth 100000 in
set_option maxHeartbeats 1600000 in
theorem jsame_any (A B : Option Addr) (l : List In) (c d : Nat) (w : World) (ha : Rd w A (irow l)) (hb : Rd w B (irow l)) (hl : l.length ≤ 9223372036854775807) :
    Calls Try.prog 13 #[.slice A l.length c, .slice B l.length d] w fun e w' => e = .returned (.bool true) ∧ Below w.heap.size w w' := by
  have HA := Lib.hid ha
  have HB := Lib.hid hb
  clear ha hb
  go_enter Try.func13, Try.ntmps13
  go_wp2_with fail
  go_loopw [5] (fun i wr => ∃ (k n : Nat), k ≤ l.length ∧ i = .int .i64 k ∧ wr = w.drewN n) (fun i _ => l.length - (intOf i).toNat)
  case atStart => exact ⟨0, 0, by omega, rfl, rfl⟩
  case round =>
    obtain ⟨k, n, hk, rfl, rfl⟩ := hrel
    by_cases hlt : k < l.length
    · obtain ⟨b1, o1, rfl, hb1, p0, p1, p2⟩ := irow_cells HA.out hlt
      obtain ⟨b2, o2, rfl, hb2, z0, z1, z2⟩ := irow_cells HB.out hlt
      generalize l[k] = x at *
      go_wp2_with fail
      go_quiet (fail)
      go_wp2_with fail
      go_roundw
      case rel => exact ⟨k + 1, _, by omega, by go_num, rfl⟩
      case measure => simp [intOf]; omega
    · go_wp2_with fail
      go_ret
      exact ⟨rfl, below_drewN (Below.refl _ _) _⟩
/-- No more than is gone through. -/
def fewF (l : List In) : Bool := decide (l.length ≤ 50) && l.all fun x => decide (x.body.length ≤ 200)
theorem fewF_spec {l : List In} (h : fewF l = true) : l.length ≤ 50 ∧ ∀ x ∈ l, x.body.length ≤ 200 := by
  simpa [fewF] using h
set_option maxRecDepth 100000 in
set_option maxHeartbeats 1600000 in
theorem jfew_any (A : Option Addr) (l : List In) (c : Nat) (w : World) (ha : Rd w A (irow l)) (hl : l.length ≤ 9223372036854775807) :
    Calls Try.prog 10 #[.slice A l.length c] w fun e w' => e = .returned (.bool (fewF l)) ∧ w = w' := by
  have HA := Lib.hid ha
  clear ha
  go_enter Try.func10, Try.ntmps10
  go_wp2_with fail
  go_loop [3] (fun i => ∃ (k : Nat), k ≤ l.length ∧ k ≤ 60 ∧ i = .int .i64 k ∧ Hid (∀ j (h : j < l.length), j < k → l[j].body.length ≤ 200)) (fun i => 60 - (intOf i).toNat)
  case atStart => exact ⟨0, by omega, by omega, rfl, Lib.hid (fun j _ h => absurd h (by omega))⟩
  case round =>
    obtain ⟨k, hk, hk6, rfl, hH⟩ := hrel
    by_cases hlt : k < l.length
    · by_cases h60 : k < 60
      · obtain ⟨b1, o1, rfl, hb1, p0, p1, p2⟩ := irow_cells HA.out hlt
        have HX := Lib.hid (show l[k] = l[k] from rfl)
        have hin : l[k] ∈ l := List.getElem_mem hlt
        have HIN := Lib.hid hin
        clear hin
        by_cases hx : 200 < l[k].body.length
        · have hf : fewF l = false := by
            rcases h : fewF l with _ | _
            · rfl
            · have := (fewF_spec h).2 _ HIN.out
              omega
          have HF := Lib.hid hf
          clear hf
          generalize l[k].body = x at *
          have hx2 : (200 : Int) < (⟨x.toArray⟩ : ByteArray).size := by show (200 : Int) < (x.length : Nat); omega
          go_wp2_with fail
          go_ret
          exact ⟨by rw [HF.out]; rfl, rfl⟩
        · have HX2 := Lib.hid hx
          generalize hgx : l[k].body = x at *
          have HGX := Lib.hid hgx
          clear hgx
          have hx2 : ¬ (200 : Int) < (⟨x.toArray⟩ : ByteArray).size := by show ¬ (200 : Int) < (x.length : Nat); omega
          go_wp2_with fail
          go_round
          case rel =>
            refine ⟨k + 1, by omega, by omega, by go_num, Lib.hid (fun j hj h => ?_)⟩
            rcases Nat.lt_or_ge j k with h1 | h1
            · exact hH.out j hj h1
            · have : j = k := by omega
              subst this
              rw [HGX.out]; omega
          case measure => simp [intOf]; omega
      · have hf : fewF l = false := by
          rcases h : fewF l with _ | _
          · rfl
          · have := (fewF_spec h).1; omega
        have HF := Lib.hid hf
        clear hf
        go_wp2_with fail
        go_ret
        exact ⟨ret_bool (by rw [HF.out]; simp; omega), rfl⟩
    · have hf : fewF l = decide (l.length ≤ 50) := by
        unfold fewF
        rw [show (l.all fun x => decide (x.body.length ≤ 200)) = true from List.all_eq_true.2 fun x hx => by
          obtain ⟨j, hj, rfl⟩ := List.mem_iff_getElem.1 hx
          simp
          exact hH.out j hj (by omega)]
        simp
      have HF := Lib.hid hf
      clear hf
      go_wp2_with fail
      go_ret
      exact ⟨ret_bool (by rw [HF.out]; simp; omega), rfl⟩
end Go.Proofs.Ythepacphphiijaa
