/- Contracts: wire.join, wire.has. -/
import Derived.Test.YtkpgfkilbamkdaaSmall
namespace Go.Proofs.Ytkpgfkilbamkdaa
open Go.RowKit

abbrev Part := Option Addr × List ByteArray × Nat
def pv (p : Part) : Value := .slice p.1 p.2.1.length p.2.2
def joined (parts : List Part) : List ByteArray := parts.flatMap (·.2.1)
theorem joined_snoc (parts : List Part) (k : Nat) (h : k < parts.length) : joined (parts.take (k + 1)) = joined (parts.take k) ++ parts[k].2.1 := by
  unfold joined
  rw [List.take_succ_eq_append_getElem h, List.flatMap_append, List.flatMap_singleton]
theorem joined_le (parts : List Part) (k : Nat) : (joined (parts.take k)).length ≤ (joined parts).length := by
  have h : joined parts = joined (parts.take k) ++ joined (parts.drop k) := by
    unfold joined
    rw [← List.flatMap_append, List.take_append_drop]
  rw [h]
  simp

set_option maxHeartbeats 400000 in
theorem has_any (A : Option Addr) (n c : Nat) (k : Int) (w : World) :
    Calls Try.prog 22 #[.slice A n c, .int .i64 k] w fun e w' => e = .returned (.bool (decide (0 ≤ k) && decide (k < n))) ∧ w = w' := by
  go_enter Try.func22, Try.ntmps22
  go_wp2
  all_goals go_ret
  · have h : 0 ≤ k := by assumption
    exact ⟨by simp [h], rfl⟩
  · have h : k < 0 := by assumption
    exact ⟨by simp [Int.not_le.2 h], rfl⟩

set_option maxHeartbeats 400000 in
theorem join_any (A : Option Addr) (parts : List Part) (c : Nat) (w : World) (hA : Rd w A (parts.map pv)) (hp : ∀ p ∈ parts, Strs w p.1 p.2.1)
    (hsz : (joined parts).length * 16 ≤ 140737488355328) (hn : parts.length ≤ 1000) :
    Calls Try.prog 21 #[.slice A parts.length c] w fun e w' => ∃ A' c', e = .returned (.slice A' (joined parts).length c') ∧ (joined parts).length ≤ c' ∧
      w'.ownsRow w.heap.size 9 1 (.slice A' (joined parts).length c') (joined parts).length ((joined parts).map .string) ∧ Below w.heap.size w w' := by
  obtain ⟨i0, hi0, hz0, hz1, hz2⟩ := info_parts infoStr
  go_enter Try.func21, Try.ntmps21
  go_wp2
  go_loopw [3, 8] (fun v i wr => ∃ (k : Nat) (A' : Option Addr) (c' : Nat), k ≤ parts.length ∧ i = .int .i64 k ∧ v = .slice A' (joined (parts.take k)).length c' ∧ (joined (parts.take k)).length ≤ c' ∧
      wr.ownsRow w.heap.size 9 1 (.slice A' (joined (parts.take k)).length c') (joined (parts.take k)).length ((joined (parts.take k)).map .string) ∧ Below w.heap.size w wr)
    (fun _ i _ => parts.length - (intOf i).toNat)
  case atStart => exact ⟨0, none, 0, by omega, rfl, rfl, by simp [joined], World.ownsRow_nil _ _ _ _, Below.refl _ _⟩
  case round =>
    obtain ⟨k, A', c', hk, rfl, rfl, hle, hown, hb⟩ := hrel
    by_cases hlt : k < parts.length
    · obtain ⟨ab, ao, rfl, hab, hc⟩ := (hA.below hb).at_ (i := k) (by simpa using hlt)
      have hcell := hc k (pv parts[k]) (by simp [hlt])
      unfold pv at hcell
      have hS := (hp _ (List.getElem_mem hlt)).below hb
      have hj := joined_snoc parts k hlt
      have hjl := joined_le parts (k + 1)
      have hlen : (joined (parts.take k)).length + parts[k].2.1.length = (joined (parts.take (k + 1))).length := by rw [hj]; simp
      have hbs := hb.size
      have hsum : ((joined (parts.take k)).length + parts[k].2.1.length) * 16 ≤ 140737488355328 := by omega
      have HJ := Lib.hid hj
      have HL := Lib.hid hlen
      clear hj hlen hc hA hp
      go_wp2_with (at_builtin; refine wpList_app _ rfl _ _ _ rfl w.heap.size 9 i0 _ 1 16 Try.underlying22 hi0 hz0 hz1 hz2 rfl (by omega) _ _ _ rfl hown _ parts[k].2.1.length _ _ rfl hS (by simp) (oneCell_strings _) hsum (by unfold maxLen; omega) hbs ?_; intro A2 c2 w1 hle2 hown2 hg _)
      go_roundw
      case rel =>
        refine ⟨k + 1, A2, c2, by omega, by go_num, by rw [← HL.out], by rw [← HL.out]; exact hle2, ?_, hb.grown hg hbs ?_⟩
        · rw [← HL.out, HJ.out]; simpa using hown2
        · intro g hgb
          exact (hown.lt g hgb).1
      case measure => simp [intOf]; omega
    · have hkk : k = parts.length := by omega
      go_wp2
      go_ret
      subst hkk
      rw [List.take_length] at *
      exact ⟨A', c', rfl, hle, hown, hb⟩
end Go.Proofs.Ytkpgfkilbamkdaa
