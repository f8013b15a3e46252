/- Contracts: reparteelaw39.few, reparteelaw39.first. -/
import Derived.Test.YtkpgfkilbamkdaaSpoilRef
namespace Go.Proofs.Ytkpgfkilbamkdaa
open Go.RowKit

def fewF (l : List ByteArray) : Bool := decide (l.length ≤ 80) && (l.take 100).all (fun s => decide (s.size ≤ 200))
theorem fewF_true {l : List ByteArray} (h : fewF l = true) : l.length ≤ 80 ∧ ∀ s ∈ l, s.size ≤ 200 := by
  unfold fewF at h
  rw [Bool.and_eq_true, decide_eq_true_iff, List.all_eq_true] at h
  refine ⟨h.1, fun s hs => ?_⟩
  have := h.2 s (by rw [List.take_of_length_le (by omega)]; exact hs)
  simpa using this
theorem all_snoc {l : List ByteArray} {k : Nat} (h : (l.take k).all (fun s => decide (s.size ≤ 200)) = true) (hk : k < l.length) (hs : l[k].size ≤ 200) : (l.take (k + 1)).all (fun s => decide (s.size ≤ 200)) = true := by
  rw [List.take_succ_eq_append_getElem hk, List.all_append, h]
  simp [hs]
theorem fewF_false {l : List ByteArray} {k : Nat} (hk : k < l.length) (h100 : k < 100) (hs : 200 < l[k].size) : fewF l = false := by
  unfold fewF
  have : (l.take 100).all (fun s => decide (s.size ≤ 200)) = false := by
    rw [List.all_eq_false]
    exact ⟨l[k], by rw [List.mem_take_iff_getElem]; exact ⟨k, by omega, rfl⟩, by simp; omega⟩
  rw [this, Bool.and_false]

set_option maxHeartbeats 400000 in
theorem few_any (A : Option Addr) (l : List ByteArray) (c : Nat) (w : World) (h : Strs w A l) (hn : l.length ≤ 9223372036854775807) :
    Calls Try.prog 8 #[.slice A l.length c] w fun e w' => e = .returned (.bool (fewF l)) ∧ w = w' := by
  go_enter Try.func8, Try.ntmps8
  go_wp2
  go_loop [3] (fun i => ∃ k : Nat, k ≤ l.length ∧ k ≤ 100 ∧ i = .int .i64 k ∧ (l.take k).all (fun s => decide (s.size ≤ 200)) = true) (fun i => l.length - (intOf i).toNat)
  case atStart => exact ⟨0, by omega, by omega, rfl, by simp⟩
  case round =>
    obtain ⟨k, hk, hk1, rfl, hall⟩ := hrel
    have HA := Lib.hid hall
    clear hall
    by_cases hlt : k < l.length ∧ k < 100
    · obtain ⟨h1, h2⟩ := hlt
      obtain ⟨b, off, rfl, _, hcs⟩ := h.at_ (i := k) h1
      have hck := hcs k h1
      clear hcs
      by_cases hs : 200 < l[k].size
      · go_wp2
        go_ret
        exact ⟨ret_bool (fewF_false h1 h2 hs).symm, rfl⟩
      · go_wp2
        go_round
        case rel => exact ⟨k + 1, by omega, by omega, by go_num, all_snoc HA.out h1 (by omega)⟩
        case measure => simp [intOf]; omega
    · have he : fewF l = decide (l.length ≤ 80) := by
        unfold fewF
        by_cases h100 : k < 100
        · rw [List.take_of_length_le (by omega)]
          have := HA.out
          rw [List.take_of_length_le (by omega)] at this
          rw [this, Bool.and_true]
        · have : k = 100 := by omega
          subst this
          rw [HA.out, Bool.and_true]
      have HE := Lib.hid he
      clear he
      by_cases hkl : k < l.length
      all_goals
        go_wp2
        go_ret
        exact ⟨ret_bool (by rw [HE.out]; simp; omega), rfl⟩

abbrev sA : ByteArray := ⟨#[97]⟩
abbrev sB : ByteArray := ⟨#[98]⟩
theorem strs_lit (w : World) (t : TypeId) (l : List ByteArray) : Strs (w.alloc (.cells (l.map Value.string).toArray t)) (some ⟨w.heap.size, 0, none⟩) l := Rd.new w (l.map Value.string).toArray t

set_option maxHeartbeats 800000 in
theorem first_any (w : World) : Calls Try.prog 7 #[] w fun e w' => e = .returned (.bool true) ∧ Below w.heap.size w w' := by
  have hD := double_any (some ⟨w.heap.size, 0, none⟩) [sA, sB] 2 0 _ (strs_lit w 9 [sA, sB]) (by simp)
  rw [show doubleF [sA, sB] 0 = ([sA, sB, sA], true) from rfl] at hD
  have HD := Lib.hid hD
  clear hD
  go_enter Try.func7, Try.ntmps7
  go_wp2_with fail
  refine HD.out.mono ?_
  rintro e w1 ⟨A1, L1, c1, rfl, hL1, hle1, hs1, hb1⟩
  go_wp2_with fail
  have hT := take_any A1 L1 c1 1 w1 hs1 hle1 (by rw [hL1.out]; simp)
  rw [show takeF L1 1 = ([sA, sA], sB, true) from by rw [hL1.out]; rfl] at hT
  refine hT.mono ?_
  clear hT
  rintro e w2 ⟨A2, L2, c2, rfl, hL2, hle2, hs2, hb2⟩
  go_wp2_with fail
  have hS := spoil_any (some ⟨w2.heap.size, 0, none⟩) [sA] 1 0 1 _ (strs_lit w2 9 [sA]) (by simp) (by simp) (by simp; decide)
  rw [show spoilF [sA] 0 1 = ([⟨#[99]⟩], true) from rfl] at hS
  refine hS.mono ?_
  clear hS
  rintro e w3 ⟨A3, L3, c3, rfl, hL3, hle3, hs3, hb3⟩
  have b12 := Lib.hid (below_next hb1 hb2)
  have hs13 := Lib.hid ((hs1.below hb2).below (below_of_alloc hb3))
  have hs23 := Lib.hid (hs2.below (below_of_alloc hb3))
  have hs33 := Lib.hid hs3
  have b3 := Lib.hid hb3
  clear hs1 hs2 hs3 hb1 hb2 hb3 HD
  go_wp2_with fail
  refine (same_b A1 (some ⟨w3.heap.size, 0, none⟩) L1 [sA, sB, sA] c1 3 true _ ((hs13.out).alloc _) (strs_lit w3 9 [sA, sB, sA]) (by rw [hL1.out]; simp) (by rw [hL1.out]; simp)).mono ?_
  rintro e w4 ⟨rfl, hb4⟩
  have b4 := Lib.hid (below_of_alloc hb4)
  clear hb4
  go_wp2_with fail
  refine (same_b A2 (some ⟨w4.heap.size, 0, none⟩) L2 [sA, sA] c2 2 true _ ((hs23.out.below b4.out).alloc _) (strs_lit w4 9 [sA, sA]) (by rw [hL2.out]; simp) (by rw [hL2.out]; simp)).mono ?_
  rintro e w5 ⟨rfl, hb5⟩
  have b5 := Lib.hid (below_of_alloc hb5)
  clear hb5
  go_wp2_with fail
  refine (same_b A3 (some ⟨w5.heap.size, 0, none⟩) L3 [⟨#[99]⟩] c3 1 true _ (((hs33.out.below b4.out).below b5.out).alloc _) (strs_lit w5 9 [⟨#[99]⟩]) (by rw [hL3.out]; simp) (by rw [hL3.out]; simp)).mono ?_
  rintro e w6 ⟨rfl, hb6⟩
  have b6 := Lib.hid (below_of_alloc hb6)
  clear hb6
  go_wp2_with fail
  go_ret
  exact ⟨rfl, below_next (below_next (below_next (below_next (below_of_alloc b12.out) (below_of_alloc b3.out)) b4.out) b5.out) b6.out⟩
end Go.Proofs.Ytkpgfkilbamkdaa
