/- Contracts: reparteeplay.Low, reparteeref20.SameTexts, reparteeref36.texts. -/
import Derived.Test.YtkpgfkilbamkdaaBase
namespace Go.Proofs.Ytkpgfkilbamkdaa
open Go.RowKit

theorem infoStr : (Try.prog.info? 9).map (fun i => (i.zero, i.size, i.bytes)) = some (some (.string ⟨#[]⟩), 1, 16) := by kernel_rfl

set_option maxHeartbeats 400000 in
theorem low_any (x n : Int) (w : World) (hn : n ≤ 9223372036854775807) :
    Calls Try.prog 9 #[.int .i64 x, .int .i64 n] w fun e w' => e = .returned (.int .i64 (lowF x n)) ∧ w = w' := by
  by_cases h : n < 1
  · go_enter Try.func9, Try.ntmps9
    go_wp2
    go_ret
    exact ⟨ret_int (by simp [lowF, h]), rfl⟩
  · have hz : IntKind.u64.wrap n = n := by simp [IntKind.wrap_u64]; omega
    have hz0 : ¬ n = 0 := by omega
    have hc := Lib.hid (low_core x n (by omega) hn)
    go_enter Try.func9, Try.ntmps9
    go_wp2
    go_ret
    exact ⟨ret_int (by have := hc.out; rw [hz] at this; exact this), rfl⟩

set_option maxHeartbeats 400000 in
theorem same_any (A B : Option Addr) (l m : List ByteArray) (c d : Nat) (w : World) (ha : Strs w A l) (hb : Strs w B m) (hl : l.length ≤ 9223372036854775807) :
    Calls Try.prog 18 #[.slice A l.length c, .slice B m.length d] w fun e w' => e = .returned (.bool (decide (l = m))) ∧ ∃ k, w' = w.drewN k := by
  by_cases hlm : l.length = m.length
  · rw [← hlm]
    have HL := Lib.hid hlm
    clear hlm
    go_enter Try.func18, Try.ntmps18
    go_wp2
    go_loopw [5] (fun i wr => ∃ k : Nat, k ≤ l.length ∧ i = .int .i64 k ∧ l.take k = m.take k ∧ ∃ j, wr = w.drewN j) (fun i _ => l.length - (intOf i).toNat)
    case atStart => exact ⟨0, by omega, rfl, by simp, 0, rfl⟩
    case round =>
      obtain ⟨k, hk, rfl, hq, j, rfl⟩ := hrel
      by_cases hlt : k < l.length
      · have hltm : k < m.length := by rw [← HL.out]; exact hlt
        obtain ⟨ab, ao, rfl, _, ha'⟩ := ha.at_ (i := k) (by omega)
        obtain ⟨bb, bo, rfl, _, hb'⟩ := hb.at_ (i := k) (by omega)
        have ca := ha' k hlt
        have cb := hb' k hltm
        have HQ := Lib.hid hq
        clear ha' hb' hq
        go_wp2
        go_quiet (fail)
        go_wp2
        · go_ret
          have hne : (!l[k].toList == m[k].toList) = true := by assumption
          exact ⟨ret_bool (by symm; rw [decide_eq_false_iff_not]; exact ne_of_get hlt hltm (by intro e; rw [e] at hne; simp at hne)), _, World.drewN_drewN _ _ _⟩
        · go_roundw
          have he : (!l[k].toList == m[k].toList) = false := by assumption
          case rel => exact ⟨k + 1, by omega, by go_num, take_eq_succ HQ.out hlt hltm (toList_eq he), _, rfl⟩
          case measure => simp [intOf]; omega
      · go_wp2
        go_ret
        exact ⟨ret_bool (by symm; rw [decide_eq_true_iff]; have := HL.out; rw [List.take_of_length_le (by omega), List.take_of_length_le (by omega)] at hq; exact hq), _, rfl⟩
  · go_enter Try.func18, Try.ntmps18
    go_wp2
    go_ret
    exact ⟨ret_bool (by simp; intro h; exact hlm (by rw [h])), 0, rfl⟩

theorem same_b (A B : Option Addr) (l m : List ByteArray) (c d : Nat) (r : Bool) (w : World) (ha : Strs w A l) (hb : Strs w B m) (hl : l.length ≤ 9223372036854775807) (hr : decide (l = m) = r) :
    Calls Try.prog 18 #[.slice A l.length c, .slice B m.length d] w fun e w' => e = .returned (.bool r) ∧ Below w.heap.size w w' := by
  subst hr
  exact (same_any A B l m c d w ha hb hl).mono fun e w' ⟨he, k, hk⟩ => ⟨he, by rw [hk]; exact below_drewN (Below.refl _ _) k⟩

set_option maxHeartbeats 400000 in
theorem texts_any (A : Option Addr) (l : List ByteArray) (c : Nat) (w : World) (ha : Strs w A l) (hl : l.length * 16 ≤ 140737488355328) :
    Calls Try.prog 23 #[.slice A l.length c] w fun e w' => ∃ A' c', e = .returned (.slice A' l.length c') ∧ l.length ≤ c' ∧
      w'.ownsRow w.heap.size 9 1 (.slice A' l.length c') l.length (l.map .string) ∧ Below w.heap.size w w' := by
  obtain ⟨i0, hi0, hz0, hz1, hz2⟩ := info_parts infoStr
  go_enter Try.func23, Try.ntmps23
  go_wp2_with (at_builtin; refine wpList_app _ rfl _ _ _ rfl w.heap.size 9 i0 _ 1 16 Try.underlying22 hi0 hz0 hz1 hz2 rfl (by omega) (.slice none 0 0) 0 [] rfl (World.ownsRow_nil _ _ _ _) A l.length c (l.map .string) rfl ha (by simp) (oneCell_strings l) (by omega) (by unfold maxLen; omega) (Nat.le_refl _) ?_; intro A' c' w1 hle hown hg _)
  go_ret
  refine ⟨A', c', by simp, by omega, by simpa using hown, (Below.refl _ _).grown hg (Nat.le_refl _) (by simp [Value.ownBlock])⟩
end Go.Proofs.Ytkpgfkilbamkdaa
