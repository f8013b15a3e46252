/- Contracts: wire.Put, wire.Take, wire.Double. -/
import Derived.Test.YtkpgfkilbamkdaaJoin
import Derived.RegionTactic
import Derived.Deep.RegionHeld3
import Derived.Deep.RegionWith
namespace Go.Proofs.Ytkpgfkilbamkdaa
open Go.RowKit

def putF (l : List ByteArray) (s : ByteArray) : List ByteArray × Bool := if 64 ≤ l.length then (l, false) else (l ++ [s], true)
/-- What a call that answers a line and a truth value leaves. -/
def Out2 (w : World) (r : List ByteArray × Bool) (e : Ending) (w' : World) : Prop :=
  ∃ A L c, e = .returned (.tuple #[.slice A L.length c, .bool r.2]) ∧ Hid (L = r.1) ∧ L.length ≤ c ∧ Strs w' A L ∧ Below w.heap.size w w'
theorem Out2.mk' {w w' : World} {l : List ByteArray} {b : Bool} {A : Option Addr} {c : Nat} {L : List ByteArray} (hL : Hid (L = l)) (hle : L.length ≤ c) (h : Strs w' A L) (hb : Below w.heap.size w w') :
    Out2 w (l, b) (.returned (.tuple #[.slice A L.length c, .bool b])) w' := ⟨A, L, c, rfl, hL, hle, h, hb⟩
theorem strs_one (w : World) (t : TypeId) (s : ByteArray) : Strs (w.alloc (.cells #[.string s] t)) (some ⟨w.heap.size, 0, none⟩) [s] := Rd.new w _ t

theorem join_is (A : Option Addr) (parts : List Part) (n c : Nat) (L : List ByteArray) (w : World) (hA : Rd w A (parts.map pv)) (hp : ∀ p ∈ parts, Strs w p.1 p.2.1)
    (hL : joined parts = L) (hnn : parts.length = n) (hsz : L.length * 16 ≤ 140737488355328) (hn : parts.length ≤ 1000) :
    Calls Try.prog 21 #[.slice A n c] w fun e w' => ∃ A' L' c', e = .returned (.slice A' L'.length c') ∧ Hid (L' = L) ∧ L'.length ≤ c' ∧ Strs w' A' L' ∧ Below w.heap.size w w' := by
  subst hL hnn
  exact (join_any A parts c w hA hp hsz hn).mono fun e w' ⟨A', c', he, hle, hown, hb⟩ => ⟨A', _, c', he, Lib.hid rfl, hle, own_rd hown, hb⟩
theorem strs_parts1 (w : World) (A : Option Addr) (l : List ByteArray) (c : Nat) (t : TypeId) (h : Strs w A l) :
    Rd (w.alloc (.cells #[.slice A l.length c] t)) (some ⟨w.heap.size, 0, none⟩) ([(A, l, c)].map pv) ∧ ∀ p ∈ [(A, l, c)], Strs (w.alloc (.cells #[.slice A l.length c] t)) p.1 p.2.1 :=
  ⟨Rd.new w #[.slice A l.length c] t, by simpa using h.alloc _⟩

set_option maxHeartbeats 400000 in
theorem put_any (A : Option Addr) (l : List ByteArray) (c : Nat) (s : ByteArray) (w : World) (h : Strs w A l) (hn : l.length * 16 ≤ 140737488355312) :
    Calls Try.prog 10 #[.slice A l.length c, .string s] w (Out2 w (putF l s)) := by
  by_cases h64 : 64 ≤ l.length
  · have hr : putF l s = (l, false) := by unfold putF; rw [if_pos h64]
    rw [hr]
    clear hr
    obtain ⟨hq1, hq2⟩ := strs_parts1 w A l c 22 h
    have HJ := Lib.hid (join_is _ _ 1 1 l _ hq1 hq2 (by simp [joined]) rfl (by omega) (by simp))
    clear hq1 hq2
    go_enter Try.func10, Try.ntmps10
    go_wp2_with fail
    refine HJ.out.mono ?_
    rintro e w1 ⟨A1, L1, c1, rfl, hL, hle, hs, hb⟩
    go_wp2
    go_ret2
    exact Out2.mk' hL hle hs (below_of_alloc hb)
  · have hr : putF l s = (l ++ [s], true) := by unfold putF; rw [if_neg h64]
    rw [hr]
    clear hr
    have h1 : Strs (w.alloc (.cells #[.string s] 9)) (some ⟨w.heap.size, 0, none⟩) [s] := strs_one w _ s
    have h2 := h.alloc (.cells #[.string s] 9)
    have hq1 := Rd.new (w.alloc (.cells #[.string s] 9)) #[.slice A l.length c, .slice (some ⟨w.heap.size, 0, none⟩) 1 1] 22
    simp only [World.size_alloc] at hq1
    have HJ := Lib.hid (join_is _ [(A, l, c), (some ⟨w.heap.size, 0, none⟩, [s], 1)] 2 2 (l ++ [s]) _ hq1 (by simpa using ⟨h2.alloc _, h1.alloc _⟩) (by simp [joined]) rfl (by simp; omega) (by simp))
    clear hq1 h1 h2
    go_enter Try.func10, Try.ntmps10
    go_wp2_with fail
    refine HJ.out.mono ?_
    rintro e w1 ⟨A1, L1, c1, rfl, hL, hle, hs, hb⟩
    go_wp2
    go_ret2
    exact Out2.mk' hL hle hs (below_of_alloc (below_of_alloc hb))

def takeF (l : List ByteArray) (k : Int) : List ByteArray × ByteArray × Bool := if 0 ≤ k ∧ k < l.length then (l.take k.toNat ++ l.drop (k.toNat + 1), l.getD k.toNat ⟨#[]⟩, true) else (l, ⟨#[]⟩, false)
def Out3 (w : World) (r : List ByteArray × ByteArray × Bool) (e : Ending) (w' : World) : Prop :=
  ∃ A L c, e = .returned (.tuple #[.slice A L.length c, .string r.2.1, .bool r.2.2]) ∧ Hid (L = r.1) ∧ L.length ≤ c ∧ Strs w' A L ∧ Below w.heap.size w w'

set_option maxHeartbeats 400000 in
theorem take_any (A : Option Addr) (l : List ByteArray) (c : Nat) (k : Int) (w : World) (h : Strs w A l) (hc : l.length ≤ c) (hn : l.length * 16 ≤ 140737488355312) :
    Calls Try.prog 11 #[.slice A l.length c, .int .i64 k] w (Out3 w (takeF l k)) := by
  by_cases hk : 0 ≤ k ∧ k < l.length
  · obtain ⟨hk0, hk1⟩ := hk
    obtain ⟨k, rfl⟩ := Int.eq_ofNat_of_zero_le hk0
    go_enter Try.func11, Try.ntmps11
    go_wp2_with (go_at_call 22; refine (has_any _ _ _ _ _).mono ?_; rintro e w' ⟨rfl, rfl⟩)
    obtain ⟨b, off, rfl, hbw, hcs⟩ := h.at_ (i := k) (by omega)
    have hck := hcs k (by omega)
    have hk0' : (0 : Int) ≤ (k : Int) := by omega
    have hkc : k ≤ c := by omega
    have hkc1 : k + 1 ≤ l.length := by omega
    have e1 : IntKind.i64.wrap ((k : Int) + 1) = (k : Int) + 1 := IntWalk.i64_in _ (by omega)
    have e2 : ((k : Int) + 1).toNat = k + 1 := by omega
    obtain ⟨i0, hi0, hz0, hz1, hz2⟩ := info_parts infoStr
    have hcut := fun W => run_cut (P := Try.prog) 22 9 i0 Try.underlying22 hi0 hz1 (some ⟨b, off, none⟩) l.length c (k + 1) ((k : Int) + 1) (by omega) hkc1 W
    clear hcs
    have hr : takeF l k = (l.take k ++ l.drop (k + 1), l[k], true) := by
      unfold takeF
      rw [if_pos ⟨hk0, hk1⟩]
      simp [show k < l.length by omega]
    have Hr := Lib.hid hr
    clear hr
    have hq1 : Rd (w.alloc (.cells #[.slice (some ⟨b, off, none⟩) k c, .slice (cutA (some ⟨b, off, none⟩) c (k + 1)) (l.length - (k + 1)) (c - (k + 1))] 22)).drew (some ⟨w.heap.size, 0, none⟩)
        ([(some ⟨b, off, none⟩, l.take k, c), (cutA (some ⟨b, off, none⟩) c (k + 1), l.drop (k + 1), c - (k + 1))].map pv) := by
      have hh := Rd.new w #[.slice (some ⟨b, off, none⟩) k c, .slice (cutA (some ⟨b, off, none⟩) c (k + 1)) (l.length - (k + 1)) (c - (k + 1))] 22
      have e : [(some ⟨b, off, none⟩, l.take k, c), (cutA (some ⟨b, off, none⟩) c (k + 1), l.drop (k + 1), c - (k + 1))].map pv =
          [.slice (some ⟨b, off, none⟩) k c, .slice (cutA (some ⟨b, off, none⟩) c (k + 1)) (l.length - (k + 1)) (c - (k + 1))] := by
        simp [pv, Nat.min_eq_left (show k ≤ l.length by omega)]
      rw [e]
      exact hh
    have HJ := Lib.hid (join_is _ _ 2 2 (l.take k ++ l.drop (k + 1)) _ hq1 (by simp; exact ⟨(h.take k).alloc _, (h.cut (k + 1) hc).alloc _⟩) (by simp [joined]) rfl (by simp; omega) (by simp))
    clear hq1
    go_region_held3 (fun w' => w'.cell? ⟨b, off + k, none⟩ = some (.string l[k])) (first | go_keep | (rw [hb.cell (by simp; omega)]; go_keep))
      ((go_at_call 21; refine HJ.out.mono ?_; rintro e w1 ⟨A1, L1, c1, rfl, hL, hle, hs, hb⟩))
    go_wp2
    go_ret3
    rw [Hr.out]
    exact ⟨A1, L1, c1, rfl, hL, hle, hs, below_of_alloc (below_of_drew hb)⟩
  · have hr : takeF l k = (l, ⟨#[]⟩, false) := by unfold takeF; rw [if_neg hk]
    rw [hr]
    clear hr
    have hb : (decide (0 ≤ k) && decide (k < ↑l.length)) = false := by rw [← Bool.decide_and]; exact decide_eq_false hk
    obtain ⟨hq1, hq2⟩ := strs_parts1 w A l c 22 h
    have HJ := Lib.hid (join_is _ _ 1 1 l _ hq1 hq2 (by simp [joined]) rfl (by omega) (by simp))
    clear hq1 hq2
    go_enter Try.func11, Try.ntmps11
    go_wp2_with fail
    refine (has_any _ _ _ _ _).mono ?_
    rintro e w' ⟨rfl, rfl⟩
    rw [hb]
    go_wp2_with fail
    refine HJ.out.mono ?_
    rintro e w1 ⟨A1, L1, c1, rfl, hL, hle, hs, hb⟩
    go_wp2
    go_ret3
    exact ⟨A1, L1, c1, rfl, hL, hle, hs, below_of_alloc hb⟩

def doubleF (l : List ByteArray) (k : Int) : List ByteArray × Bool := if 0 ≤ k ∧ k < l.length then putF l (l.getD k.toNat ⟨#[]⟩) else (l, false)
set_option maxHeartbeats 400000 in
theorem double_any (A : Option Addr) (l : List ByteArray) (c : Nat) (k : Int) (w : World) (h : Strs w A l) (hn : l.length * 16 ≤ 140737488355312) :
    Calls Try.prog 12 #[.slice A l.length c, .int .i64 k] w (Out2 w (doubleF l k)) := by
  by_cases hk : 0 ≤ k ∧ k < l.length
  · obtain ⟨hk0, hk1⟩ := hk
    obtain ⟨k, rfl⟩ := Int.eq_ofNat_of_zero_le hk0
    have hkl : k < l.length := by omega
    obtain ⟨b, off, rfl, hbw, hcs⟩ := h.at_ (i := k) hkl
    have hck := hcs k hkl
    have hb : (decide (0 ≤ (k : Int)) && decide ((k : Int) < ↑l.length)) = true := by simp; omega
    have hr : doubleF l k = putF l l[k] := by
      unfold doubleF
      rw [if_pos ⟨hk0, hk1⟩]
      simp [hkl]
    rw [hr]
    clear hr hcs
    go_enter Try.func12, Try.ntmps12
    go_wp2_with fail
    refine (has_any _ _ _ _ _).mono ?_
    rintro e w' ⟨rfl, rfl⟩
    rw [hb]
    go_wp2_with fail
    refine (put_any _ _ _ _ _ h hn).mono ?_
    rintro e w1 ⟨A1, L1, c1, rfl, hL, hle, hs, hbl⟩
    go_wp2
    go_ret2
    exact ⟨A1, L1, c1, rfl, hL, hle, hs, hbl⟩
  · have hr : doubleF l k = (l, false) := by unfold doubleF; rw [if_neg hk]
    rw [hr]
    clear hr
    have hb : (decide (0 ≤ k) && decide (k < ↑l.length)) = false := by rw [← Bool.decide_and]; exact decide_eq_false hk
    obtain ⟨hq1, hq2⟩ := strs_parts1 w A l c 22 h
    have HJ := Lib.hid (join_is _ _ 1 1 l _ hq1 hq2 (by simp [joined]) rfl (by omega) (by simp))
    clear hq1 hq2
    go_enter Try.func12, Try.ntmps12
    go_wp2_with fail
    refine (has_any _ _ _ _ _).mono ?_
    rintro e w' ⟨rfl, rfl⟩
    rw [hb]
    go_wp2_with fail
    refine HJ.out.mono ?_
    rintro e w1 ⟨A1, L1, c1, rfl, hL, hle, hs, hb⟩
    go_wp2
    go_ret2
    exact ⟨A1, L1, c1, rfl, hL, hle, hs, below_of_alloc hb⟩
end Go.Proofs.Ytkpgfkilbamkdaa
