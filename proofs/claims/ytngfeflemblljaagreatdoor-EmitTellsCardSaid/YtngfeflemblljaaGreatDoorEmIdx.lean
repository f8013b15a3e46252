/- Contracts: slices.Index on texts, reparteeref1.Place. -/
import Derived.Test.YtngfeflemblljaaGreatDoorEmF
import Derived.Test.YtngfeflemblljaaGreatDoorKb
namespace Go.Proofs.YtngfeflemblljaaGreatDoor
open Go.RowKit

def idxI (names : List ByteArray) (s : ByteArray) : Int := match idxF names s with
  | none => -1
  | some i => i
theorem idx_found {ns : List ByteArray} {s : ByteArray} {k : Nat} (hk : k < ns.length) (hb : ∀ j x, j < k → ns[j]? = some x → x ≠ s) (he : ns[k] = s) : idxF ns s = some k := by
  unfold idxF
  rw [List.findIdx?_eq_some_iff_getElem]
  refine ⟨hk, by simp [he], fun j hj => ?_⟩
  have := hb j ns[j] hj (List.getElem?_eq_getElem (by omega))
  simp only [Bool.not_eq_true]
  rw [toList_beq]
  exact decide_eq_false this
theorem idx_none {ns : List ByteArray} {s : ByteArray} (hb : ∀ j x, j < ns.length → ns[j]? = some x → x ≠ s) : idxF ns s = none := by
  unfold idxF
  rw [List.findIdx?_eq_none_iff]
  intro x hx
  obtain ⟨j, hj, e⟩ := List.getElem_of_mem hx
  have := hb j x hj (by rw [List.getElem?_eq_getElem hj, e])
  rw [toList_beq]
  exact decide_eq_false this
theorem idx_lt {ns : List ByteArray} {s : ByteArray} {k : Nat} (h : idxF ns s = some k) : k < ns.length := by
  unfold idxF at h
  rw [List.findIdx?_eq_some_iff_getElem] at h
  exact h.1
set_option maxRecDepth 100000 in
set_option maxHeartbeats 4000000 in
theorem index_any (A : Option Addr) (ns : List ByteArray) (c : Nat) (s : ByteArray) (w : World) (hr : Strs w A ns) (hl : ns.length ≤ 1000000) :
    Calls Tryz.prog 12 #[.slice A ns.length c, .string s] w fun e w' => e = .returned (.int .i64 (idxI ns s)) ∧ w = w' := by
  have HR := Lib.hid hr
  clear hr
  go_enter Tryz.func12, Tryz.ntmps12
  go_wp2_with fail
  go_loop [8] (fun i => ∃ k : Nat, k ≤ ns.length ∧ i = .int .i64 k ∧ Hid (∀ j x, j < k → ns[j]? = some x → x ≠ s)) (fun i => ns.length - (intOf i).toNat)
  case atStart => exact ⟨0, by omega, rfl, Lib.hid fun j x h => by omega⟩
  case round =>
    obtain ⟨k, hk, rfl, hb⟩ := hrel
    by_cases hlt : k < ns.length
    · obtain ⟨b, off, rfl, hbb, hc⟩ := HR.out.at_ hlt
      have ck := hc k hlt
      by_cases he : ns[k] = s
      · have hi : idxI ns s = k := by unfold idxI; rw [idx_found hlt hb.out he]
        have HI := Lib.hid hi
        have e1 : (s.toList == ns[k].toList) = true := by rw [he]; simp
        clear hi hc
        go_wp2_with fail
        go_ret
        exact ⟨ret_int HI.out.symm, rfl⟩
      · have hb2 := Lib.hid (show ∀ j x, j < k + 1 → ns[j]? = some x → x ≠ s from fun j x hj hx => by
          by_cases ej : j = k
          · subst ej; rw [List.getElem?_eq_getElem hlt] at hx; cases hx; exact he
          · exact hb.out j x (by omega) hx)
        have e1 : (s.toList == ns[k].toList) = false := by rw [toList_beq]; exact decide_eq_false fun e => he e.symm
        clear hc he
        go_wp2_with fail
        go_round
        case rel => exact ⟨k + 1, by omega, by go_num, hb2⟩
        case measure => simp [intOf]; omega
    · have hi : idxI ns s = -1 := by unfold idxI; rw [idx_none fun j x hj hx => hb.out j x (by omega) hx]
      have HI := Lib.hid hi
      clear hi
      go_wp2_with fail
      go_ret
      exact ⟨ret_int HI.out.symm, rfl⟩
set_option maxRecDepth 100000 in
set_option maxHeartbeats 4000000 in
theorem rplace_any (A : Option Addr) (ns : List ByteArray) (c : Nat) (s : ByteArray) (w : World) (hr : Strs w A ns) (hl : ns.length ≤ 1000000) :
    Calls Tryz.prog 32 #[.slice A ns.length c, .string s] w fun e w' => e = .returned (.int .i64 (idxI ns s)) ∧ w = w' := by
  have HR := Lib.hid hr
  clear hr
  go_enter Tryz.func32, Tryz.ntmps32
  go_wp2_with fail
  go_loop [5] (fun i => ∃ k : Nat, k ≤ ns.length ∧ i = .int .i64 k ∧ Hid (∀ j x, j < k → ns[j]? = some x → x ≠ s)) (fun i => ns.length - (intOf i).toNat)
  case atStart => exact ⟨0, by omega, rfl, Lib.hid fun j x h => by omega⟩
  case round =>
    obtain ⟨k, hk, rfl, hb⟩ := hrel
    by_cases hlt : k < ns.length
    · obtain ⟨b, off, rfl, hbb, hc⟩ := HR.out.at_ hlt
      have ck := hc k hlt
      by_cases he : ns[k] = s
      · have hi : idxI ns s = k := by unfold idxI; rw [idx_found hlt hb.out he]
        have HI := Lib.hid hi
        have e1 : (ns[k].toList == s.toList) = true := by rw [he]; simp
        clear hi hc
        go_wp2_with fail
        go_ret
        exact ⟨ret_int HI.out.symm, rfl⟩
      · have hb2 := Lib.hid (show ∀ j x, j < k + 1 → ns[j]? = some x → x ≠ s from fun j x hj hx => by
          by_cases ej : j = k
          · subst ej; rw [List.getElem?_eq_getElem hlt] at hx; cases hx; exact he
          · exact hb.out j x (by omega) hx)
        have e1 : (ns[k].toList == s.toList) = false := by rw [toList_beq]; exact decide_eq_false he
        clear hc he
        go_wp2_with fail
        go_round
        case rel => exact ⟨k + 1, by omega, by go_num, hb2⟩
        case measure => simp [intOf]; omega
    · have hi : idxI ns s = -1 := by unfold idxI; rw [idx_none fun j x hj hx => hb.out j x (by omega) hx]
      have HI := Lib.hid hi
      clear hi
      go_wp2_with fail
      go_ret
      exact ⟨ret_int HI.out.symm, rfl⟩
end Go.Proofs.YtngfeflemblljaaGreatDoor
