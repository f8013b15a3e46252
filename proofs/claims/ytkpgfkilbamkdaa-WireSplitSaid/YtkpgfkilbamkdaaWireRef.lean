/- Contracts: reparteeref36.PutWire, TakeWire, DoubleWire. -/
import Derived.Test.YtkpgfkilbamkdaaWire
namespace Go.Proofs.Ytkpgfkilbamkdaa
open Go.RowKit

theorem oneCell_string (s : ByteArray) : ∀ u ∈ [Value.string s], u.oneCell' = true := by
  intro u hu
  simp at hu
  subst hu
  rfl

set_option maxHeartbeats 400000 in
theorem putR_any (A : Option Addr) (l : List ByteArray) (c : Nat) (s : ByteArray) (w : World) (h : Strs w A l) (hn : l.length * 16 ≤ 140737488355312) :
    Calls Try.prog 14 #[.slice A l.length c, .string s] w (Out2 w (putF l s)) := by
  by_cases h64 : 64 ≤ l.length
  · have hr : putF l s = (l, false) := by unfold putF; rw [if_pos h64]
    rw [hr]
    clear hr
    go_enter Try.func14, Try.ntmps14
    go_wp2_with fail
    refine (texts_any _ _ _ _ h (by omega)).mono ?_
    rintro e w1 ⟨A1, c1, rfl, hle, hown, hb⟩
    go_wp2
    go_ret2
    exact ⟨A1, l, c1, rfl, Lib.hid rfl, hle, own_rd hown, hb⟩
  · have hr : putF l s = (l ++ [s], true) := by unfold putF; rw [if_neg h64]
    rw [hr]
    clear hr
    obtain ⟨i0, hi0, hz0, hz1, hz2⟩ := info_parts infoStr
    go_enter Try.func14, Try.ntmps14
    go_wp2_with fail
    refine (texts_any _ _ _ _ h (by omega)).mono ?_
    rintro e w1 ⟨A1, c1, rfl, hle, hown, hb⟩
    have hbs := hb.size
    go_wp2_with (at_builtin; refine wpList_app _ rfl _ _ _ rfl w.heap.size 9 i0 _ 1 16 Try.underlying22 hi0 hz0 hz1 hz2 rfl (by omega) _ _ _ rfl (hown.alloc _) (some ⟨w1.heap.size, 0, none⟩) 1 1 [.string s] rfl (Rd.new w1 #[.string s] 9) rfl (oneCell_string s) (by omega) (by unfold maxLen; omega) (by simp; omega) ?_; intro A2 c2 w2 hle2 hown2 hg _)
    go_ret2
    refine ⟨A2, l ++ [s], c2, by simp, Lib.hid rfl, by simpa using hle2, by have := own_rd hown2; simpa [Strs] using this, ?_⟩
    exact (hb.alloc hbs _).grown hg (by simp; omega) (fun k hk => (hown.lt k hk).1)

set_option maxHeartbeats 400000 in
theorem doubleR_any (A : Option Addr) (l : List ByteArray) (c : Nat) (k : Int) (w : World) (h : Strs w A l) (hn : l.length * 16 ≤ 140737488355312) :
    Calls Try.prog 16 #[.slice A l.length c, .int .i64 k] w (Out2 w (doubleF l k)) := by
  by_cases hk : 0 ≤ k ∧ k < l.length
  · obtain ⟨hk0, hk1⟩ := hk
    obtain ⟨k, rfl⟩ := Int.eq_ofNat_of_zero_le hk0
    have hkl : k < l.length := by omega
    obtain ⟨b, off, rfl, hbw, hcs⟩ := h.at_ (i := k) hkl
    have hck := hcs k hkl
    have hr : doubleF l k = putF l l[k] := by
      unfold doubleF
      rw [if_pos ⟨hk0, hk1⟩]
      simp [hkl]
    rw [hr]
    clear hr hcs
    go_enter Try.func16, Try.ntmps16
    go_wp2_with fail
    refine (putR_any _ _ _ _ _ h hn).mono ?_
    rintro e w1 ⟨A1, L1, c1, rfl, hL, hle, hs, hbl⟩
    go_wp2
    go_ret2
    exact ⟨A1, L1, c1, rfl, hL, hle, hs, hbl⟩
  · have hr : doubleF l k = (l, false) := by unfold doubleF; rw [if_neg hk]
    rw [hr]
    clear hr
    by_cases hk0 : k < 0
    all_goals
      go_enter Try.func16, Try.ntmps16
      go_wp2_with fail
      refine (texts_any _ _ _ _ h (by omega)).mono ?_
      rintro e w1 ⟨A1, c1, rfl, hle, hown, hb⟩
      go_wp2
      go_ret2
      exact ⟨A1, l, c1, rfl, Lib.hid rfl, hle, own_rd hown, hb⟩

set_option maxHeartbeats 400000 in
theorem takeR_any (A : Option Addr) (l : List ByteArray) (c : Nat) (k : Int) (w : World) (h : Strs w A l) (hc : l.length ≤ c) (hn : l.length * 16 ≤ 140737488355312) :
    Calls Try.prog 15 #[.slice A l.length c, .int .i64 k] w (Out3 w (takeF l k)) := by
  by_cases hk : 0 ≤ k ∧ k < l.length
  · obtain ⟨hk0, hk1⟩ := hk
    obtain ⟨k, rfl⟩ := Int.eq_ofNat_of_zero_le hk0
    have hr : takeF l k = (l.take k ++ l.drop (k + 1), l[k], true) := by
      unfold takeF
      rw [if_pos ⟨hk0, hk1⟩]
      simp [show k < l.length by omega]
    rw [hr]
    clear hr
    obtain ⟨b, off, rfl, hbw, hcs⟩ := h.at_ (i := k) (by omega)
    have hck := hcs k (by omega)
    have hkc : k ≤ c := by omega
    have hkc1 : k + 1 ≤ l.length := by omega
    have e1 : IntKind.i64.wrap ((k : Int) + 1) = (k : Int) + 1 := IntWalk.i64_in _ (by omega)
    have e2 : ((k : Int) + 1).toNat = k + 1 := by omega
    obtain ⟨i0, hi0, hz0, hz1, hz2⟩ := info_parts infoStr
    have hcut := fun W => run_cut (P := Try.prog) 22 9 i0 Try.underlying22 hi0 hz1 (some ⟨b, off, none⟩) l.length c (k + 1) ((k : Int) + 1) (by omega) hkc1 W
    have ht := texts_any (some ⟨b, off, none⟩) (l.take k) c w.drew (h.take k) (by simp; omega)
    rw [List.length_take, Nat.min_eq_left (show k ≤ l.length by omega)] at ht
    have HT := Lib.hid ht
    clear hcs ht
    go_enter Try.func15, Try.ntmps15
    go_wp2_with fail
    go_region_held3 (fun w' => w'.cell? ⟨b, off + k, none⟩ = some (.string l[k])) (first | go_keep | (rw [hb.cell (by simp; omega)]; go_keep) | (rw [hg.cell_far _ (show b < w1.heap.size by have := hbs; simp at this; omega) (fun e => by have := (hown.lt _ e.symm).1; simp at this; omega)]; exact (hb.cell (p := ⟨b, off + k, none⟩) hbw).trans hck))
      (first
        | (go_at_call 23; refine HT.out.mono ?_; rintro e w1 ⟨A1, c1, rfl, hle, hown, hb⟩; have hbs := hb.size)
        | (refine step_app _ (by rfl) _ _ _ (by rfl) w.heap.size 9 i0 _ 1 16 Try.underlying22 hi0 hz0 hz1 hz2 rfl (by omega) (.slice A1 k c1) k ((l.take k).map .string) (by rfl) hown.drew _ (l.length - (k + 1)) (c - (k + 1)) ((l.drop (k + 1)).map .string) (by rfl) (Rd.drew ((h.cut (k + 1) hc).below (below_of_drew hb))) (by simp) (oneCell_strings _) (by omega) (by unfold maxLen; omega) hbs ?_; intro A2 c2 w2 hle2 hown2 hg _))
    go_wp2
    go_ret3
    refine ⟨A2, l.take k ++ l.drop (k + 1), c2, ?_, Lib.hid rfl, ?_, ?_, ?_⟩
    · simp [Nat.min_eq_left (show k ≤ l.length by omega)]
    · simp [Nat.min_eq_left (show k ≤ l.length by omega)]; omega
    · have := own_rd hown2
      unfold Strs
      rwa [List.map_append]
    · exact (below_of_drew hb).grown hg hbs (fun k hk => (hown.lt k hk).1)
  · have hr : takeF l k = (l, ⟨#[]⟩, false) := by unfold takeF; rw [if_neg hk]
    rw [hr]
    clear hr
    by_cases hk0 : k < 0
    all_goals
      go_enter Try.func15, Try.ntmps15
      go_wp2_with fail
      refine (texts_any _ _ _ _ h (by omega)).mono ?_
      rintro e w1 ⟨A1, c1, rfl, hle, hown, hb⟩
      go_wp2
      go_ret3
      exact ⟨A1, l, c1, rfl, Lib.hid rfl, hle, own_rd hown, hb⟩
end Go.Proofs.Ytkpgfkilbamkdaa
