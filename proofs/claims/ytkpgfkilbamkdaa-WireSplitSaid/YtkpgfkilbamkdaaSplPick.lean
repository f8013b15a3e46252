/- Contract: the function value that WireSplit hands to Split. -/
import Derived.Test.YtkpgfkilbamkdaaSplIter
import Derived.Test.YtkpgfkilbamkdaaSmall
import Derived.BigQuiet
namespace Go.Proofs.Ytkpgfkilbamkdaa
open Go.RowKit

theorem oneCell_str (s : ByteArray) : ∀ u ∈ [Value.string s], u.oneCell' = true := oneCell_strings [s]
/-- Is the first byte less than x? -/
def pickF (x : Int) (s : ByteArray) : Bool := match s.data.toList with
  | [] => false
  | a :: _ => decide ((a.toNat : Int) < x)
theorem pick_nil (x : Int) (s : ByteArray) (h : s.size = 0) : pickF x s = false := by
  have e : s.data.toList = [] := List.eq_nil_of_length_eq_zero (by rw [Array.length_toList]; exact h)
  unfold pickF
  rw [e]
theorem pick_at (x : Int) (s : ByteArray) (h : 0 < s.size) : pickF x s = decide ((s[0].toNat : Int) < x) := by
  unfold pickF
  cases e : s.data.toList with
  | nil => have : s.data.toList.length = s.size := Array.length_toList; rw [e] at this; simp at this; omega
  | cons a t =>
    have e2 : s[0] = a := by
      have : s.data.toList[0]? = some a := by rw [e]; rfl
      rw [List.getElem?_eq_getElem (by rw [e]; simp)] at this
      injection this
    rw [e2]
theorem KeepsOthers.drewN (W : World) (n : Nat) : KeepsOthers W (W.drewN n) := ⟨Nat.le_refl _, fun _ _ h _ => h⟩
set_option maxRecDepth 100000 in
set_option maxHeartbeats 1600000 in
theorem pick_any (x : Int) (s : ByteArray) (W : World) (n₀ b g : Nat) (bs : List Nat) (vs : List Value) (ls : List (List ByteArray)) (v : Value) (l : List ByteArray) (h : BxR W n₀ bs vs ls) (h1 : bs[2]? = some b) (h2 : vs[2]? = some v) (h3 : ls[2]? = some l)
    (hc : W.cell? ⟨g, 0, none⟩ = some (.int .u8 x)) (hg : g < n₀) (hl : l.length ≤ 1000) :
    Calls Try.prog 20 #[.string s, .pointer (some ⟨b, 0, none⟩), .pointer (some ⟨g, 0, none⟩)] W fun e W' => e = .returned (.bool (pickF x s)) ∧ ∃ v', BxR W' n₀ bs (vs.set 2 v') (ls.set 2 (l ++ [s])) ∧ KeepsOthers W W' ∧ Below n₀ W W' ∧ (∀ (q : Nat) (t : TypeId) (u : Value), t ≠ 9 → q ≠ b → Boxed W q t u → Boxed W' q t u) := by
  obtain ⟨i0, hi0, hz0, hz1, hz2⟩ := info_parts infoStr
  obtain ⟨hbx, hrow⟩ := h.row 2 b v l h1 h2 h3
  have HR := Lib.hid hrow
  have HH := Lib.hid h
  have H123 := Lib.hid (And.intro h1 (And.intro h2 h3))
  have HC := Lib.hid hc
  have hcell := hbx.cell
  have hbl := hbx.lt
  have hsz := h.size
  have h16 : (l.length + 1) * 16 ≤ 140737488355328 := by omega
  have h63 : l.length + 1 ≤ maxLen := by unfold maxLen; omega
  clear hrow h h1 h2 h3 hc
  go_enter Try.func20, Try.ntmps20
  go_wp2_with (at_builtin; refine wpList_app _ rfl _ _ _ rfl n₀ 9 i0 _ 1 16 Try.underlying22 hi0 hz0 hz1 hz2 rfl (by omega) v l.length (l.map .string) rfl (HR.out.alloc _) (some ⟨W.heap.size, 0, none⟩) 1 1 [.string s] rfl (Rd.new W #[.string s] 9) rfl (oneCell_str _) h16 h63 (by simp; omega) ?_; intro A7 c7 w7 hle7 hown7 hg7 hat7; obtain ⟨hb7, hR7, hK7, hB7, hO7⟩ := HH.out.app H123.out.1 H123.out.2.1 H123.out.2.2 hown7 hg7 hat7; have s0 := hb7.cell; have r0 := hb7.frozen; have hc7 := (hB7.cell (p := ⟨g, 0, none⟩) hg).trans HC.out)
  have HF := Lib.hid (And.intro hR7 (And.intro hK7 (And.intro hB7 hO7)))
  clear hown7 hg7 hat7 hb7 hR7 hK7 hB7 hO7 s0 r0 hcell hbx
  generalize w7.setCell ⟨b, 0, none⟩ (.slice A7 (l.length + 1) c7) = W8 at *
  by_cases hs : 0 < s.size
  · have hp := pick_at x s hs
    have d1 : decide ((0 : Int) < (s.size : Int)) = true := decide_eq_true (by omega)
    have d2 : decide (0 < s.size) = true := decide_eq_true hs
    have HP := Lib.hid hp
    clear hp
    go_quiet (fail)
    go_wp2_with fail
    go_ret
    exact ⟨ret_bool (by rw [HP.out]), _, HF.out.1.below (below_drewN (Below.refl _ _) _), HF.out.2.1.trans (KeepsOthers.drewN _ _), HF.out.2.2.1.trans (below_drewN (Below.refl _ _) _), fun q t u ht hq hb => HF.out.2.2.2 q t u ht hq hb⟩
  · have hp := pick_nil x s (by omega)
    have d1 : decide ((0 : Int) < (s.size : Int)) = false := decide_eq_false (by omega)
    have d2 : decide (0 < s.size) = false := decide_eq_false hs
    have HP := Lib.hid hp
    clear hp
    go_quiet (fail)
    go_wp2_with fail
    go_ret
    exact ⟨ret_bool (by rw [HP.out]), _, HF.out.1.below (below_drewN (Below.refl _ _) _), HF.out.2.1.trans (KeepsOthers.drewN _ _), HF.out.2.2.1.trans (below_drewN (Below.refl _ _) _), fun q t u ht hq hb => HF.out.2.2.2 q t u ht hq hb⟩
end Go.Proofs.Ytkpgfkilbamkdaa
