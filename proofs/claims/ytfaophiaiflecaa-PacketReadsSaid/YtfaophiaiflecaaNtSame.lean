/- Contracts: data.Same, reparteeref1.SameNums, reparteeref1.SameValue. -/
import Derived.Test.YtfaophiaiflecaaNtData
import Derived.BigQuiet
namespace Go.Proofs.Ytfaophiaiflecaa
open Go.RowKit

/-- A value. -/
structure Vl where
  kind : Int
  n : Int
  s : ByteArray
  l : List Int
deriving DecidableEq
abbrev Ints (w : World) (A : Option Addr) (l : List Int) : Prop := Rd w A (l.map (Value.int .i64))
theorem ints_at {w : World} {A : Option Addr} {l : List Int} (h : Ints w A l) {k : Nat} (hk : k < l.length) : ∃ b off, A = some ⟨b, off, none⟩ ∧ b < w.heap.size ∧ ∀ i (h : i < l.length), w.cell? ⟨b, off + i, none⟩ = some (.int .i64 l[i]) := by
  obtain ⟨b, off, h1, h2, h3⟩ := Rd.at_ h (i := k) (by simpa using hk)
  exact ⟨b, off, h1, h2, fun j hj => h3 j _ (by simp [hj])⟩
theorem take_step {l m : List Int} {k : Nat} (h : l.take k = m.take k) (hl : k < l.length) (hm : k < m.length) (e : l[k] = m[k]) : l.take (k + 1) = m.take (k + 1) := by
  rw [List.take_succ_eq_append_getElem hl, List.take_succ_eq_append_getElem hm, h, e]
theorem get_ne {l m : List Int} {k : Nat} (hl : k < l.length) (hm : k < m.length) (e : ¬ l[k] = m[k]) : ¬ l = m := by
  intro h; subst h; exact e rfl
theorem str_ne {s t : ByteArray} (h : ¬ s = t) : (s.toList == t.toList) = false := by
  simp only [beq_eq_false_iff_ne, ne_eq, ByteArray.toList_eq]
  intro e
  apply h
  cases s; cases t
  simp at e
  rw [e]
set_option maxRecDepth 100000 in
set_option maxHeartbeats 3200000 in
theorem dsame_any (a b : Vl) (A B : Option Addr) (c d : Nat) (w : World) (ha : Ints w A a.l) (hb : Ints w B b.l) (hl : a.l.length ≤ 1000000000) :
    Calls Try.prog 63 #[.agg #[.int .i64 a.kind, .int .i64 a.n, .string a.s, .slice A a.l.length c], .agg #[.int .i64 b.kind, .int .i64 b.n, .string b.s, .slice B b.l.length d]] w fun e w' => e = .returned (.bool (decide (a = b))) ∧ Below w.heap.size w w' := by
  obtain ⟨k1, n1, s1, l1⟩ := a
  obtain ⟨k2, n2, s2, l2⟩ := b
  dsimp only at *
  by_cases hk : k1 = k2
  · subst hk
    by_cases hn : n1 = n2
    · subst hn
      by_cases hs : s1 = s2
      · subst hs
        by_cases hz : l1.length = l2.length
        · have BF := Lib.hid (below_allocS (below_allocS (Below.refl _ _) (.cells #[.int .i64 k1, .int .i64 n1, .string s1, .slice A l1.length c] 36)) (.cells #[.int .i64 k1, .int .i64 n1, .string s1, .slice B l2.length d] 36) : Below w.heap.size w _)
          have HZ := Lib.hid hz
          have hzz : ((l1.length : Int) == (l2.length : Int)) = true := by simp; omega
          have hzn : (l1.length == l2.length) = true := by simp; exact hz
          clear hz
          go_enter Try.func63, Try.ntmps63
          go_wp2
          go_loop [38] (fun i => ∃ k : Nat, k ≤ l1.length ∧ i = .int .i64 k ∧ Hid (l1.take k = l2.take k)) (fun i => l1.length - (intOf i).toNat)
          case atStart => exact ⟨0, by omega, rfl, Lib.hid (by simp)⟩
          case round =>
            obtain ⟨k, hk, rfl, hq⟩ := hrel
            by_cases hlt : k < l1.length
            · have hltm : k < l2.length := by rw [← HZ.out]; exact hlt
              obtain ⟨ab, ao, rfl, hab, ha'⟩ := ints_at ha hlt
              obtain ⟨bb, bo, rfl, hbb, hb'⟩ := ints_at hb hltm
              have ca := ha' k hlt
              have cb := hb' k hltm
              clear ha' hb'
              by_cases he : l1[k] = l2[k]
              · have HQ := Lib.hid (take_step hq.out hlt hltm he)
                have hev : (l1[k] == l2[k]) = true := by simp; exact he
                clear hq he
                go_wp2
                go_round
                case rel => exact ⟨k + 1, by omega, by go_num, HQ⟩
                case measure => simp [intOf]; omega
              · have HN := Lib.hid (get_ne hlt hltm he)
                have hev : (l1[k] == l2[k]) = false := by simp; exact he
                clear hq he
                go_wp2
                go_ret
                exact ⟨ret_bool (by simp [HN.out]), BF.out⟩
            · have hr : l1 = l2 := by have h := hq.out; rw [List.take_of_length_le (by omega), List.take_of_length_le (by have := HZ.out; omega)] at h; exact h
              have HR := Lib.hid hr
              clear hq hr
              go_wp2
              go_ret
              exact ⟨ret_bool (by simp [HR.out]), BF.out⟩
        · have hzz : ((l1.length : Int) == (l2.length : Int)) = false := by simp; omega
          have hzn : (l1.length == l2.length) = false := by simp; exact hz
          go_enter Try.func63, Try.ntmps63
          go_wp2
          go_ret
          exact ⟨ret_bool (by simp; intro h; exact hz (by rw [h])), below_allocS (below_allocS (Below.refl _ _) _) _⟩
      · have hss := str_ne hs
        go_enter Try.func63, Try.ntmps63
        go_wp2
        go_ret
        exact ⟨ret_bool (by simp; intro h; exact absurd h hs), below_allocS (below_allocS (Below.refl _ _) _) _⟩
    · have hnn : (n1 == n2) = false := by simp; exact hn
      go_enter Try.func63, Try.ntmps63
      go_wp2
      go_ret
      exact ⟨ret_bool (by simp; intro h; exact absurd h hn), below_allocS (below_allocS (Below.refl _ _) _) _⟩
  · have hkk : (k1 == k2) = false := by simp; exact hk
    go_enter Try.func63, Try.ntmps63
    go_wp2
    go_ret
    exact ⟨ret_bool (by simp; intro h; exact absurd h hk), below_allocS (below_allocS (Below.refl _ _) _) _⟩
set_option maxRecDepth 100000 in
set_option maxHeartbeats 1600000 in
theorem sameNums_any (A B : Option Addr) (l m : List Int) (c d : Nat) (w : World) (ha : Ints w A l) (hb : Ints w B m) (hl : l.length ≤ 1000000000) :
    Calls Try.prog 87 #[.slice A l.length c, .slice B m.length d] w fun e w' => e = .returned (.bool (decide (l = m))) ∧ Below w.heap.size w w' := by
  by_cases hlm : l.length = m.length
  · have HL := Lib.hid hlm
    have hzz : ((l.length : Int) == (m.length : Int)) = true := by simp; omega
    have hzn : (l.length == m.length) = true := by simp; exact hlm
    clear hlm
    go_enter Try.func87, Try.ntmps87
    go_wp2
    go_loopw [5] (fun i wr => ∃ k : Nat, k ≤ l.length ∧ i = .int .i64 k ∧ Hid (l.take k = m.take k) ∧ ∃ j, wr = w.drewN j) (fun i _ => l.length - (intOf i).toNat)
    case atStart => exact ⟨0, by omega, rfl, Lib.hid (by simp), 0, rfl⟩
    case round =>
      obtain ⟨k, hk, rfl, hq, j, rfl⟩ := hrel
      by_cases hlt : k < l.length
      · have hltm : k < m.length := by rw [← HL.out]; exact hlt
        obtain ⟨ab, ao, rfl, _, ha'⟩ := ints_at ha hlt
        obtain ⟨bb, bo, rfl, _, hb'⟩ := ints_at hb hltm
        have ca := ha' k hlt
        have cb := hb' k hltm
        clear ha' hb'
        by_cases he : l[k] = m[k]
        · have HQ := Lib.hid (take_step hq.out hlt hltm he)
          have hev : (l[k] == m[k]) = true := by simp; exact he
          clear hq he
          go_wp2
          go_quiet (fail)
          go_wp2
          go_roundw
          case rel => exact ⟨k + 1, by omega, by go_num, HQ, _, rfl⟩
          case measure => simp [intOf]; omega
        · have HN := Lib.hid (get_ne hlt hltm he)
          have hev : (l[k] == m[k]) = false := by simp; exact he
          clear hq he
          go_wp2
          go_quiet (fail)
          go_wp2
          go_ret
          exact ⟨ret_bool (by simp [HN.out]), below_drewN (below_drewN (Below.refl _ _) _) _⟩
      · have hr : l = m := by have h := hq.out; rw [List.take_of_length_le (by omega), List.take_of_length_le (by have := HL.out; omega)] at h; exact h
        have HR := Lib.hid hr
        clear hq hr
        go_wp2
        go_ret
        exact ⟨ret_bool (by simp [HR.out]), below_drewN (Below.refl _ _) _⟩
  · have hzz : ((l.length : Int) == (m.length : Int)) = false := by simp; omega
    have hzn : (l.length == m.length) = false := by simp; exact hlm
    go_enter Try.func87, Try.ntmps87
    go_wp2
    go_ret
    exact ⟨ret_bool (by simp; intro h; exact hlm (by rw [h])), Below.refl _ _⟩
set_option maxRecDepth 100000 in
set_option maxHeartbeats 1600000 in
theorem sameValue_any (a b : Vl) (A B : Option Addr) (c d : Nat) (w : World) (ha : Ints w A a.l) (hb : Ints w B b.l) (hl : a.l.length ≤ 1000000000) :
    Calls Try.prog 70 #[.agg #[.int .i64 a.kind, .int .i64 a.n, .string a.s, .slice A a.l.length c], .agg #[.int .i64 b.kind, .int .i64 b.n, .string b.s, .slice B b.l.length d]] w fun e w' => e = .returned (.bool (decide (a = b))) ∧ Below w.heap.size w w' := by
  obtain ⟨k1, n1, s1, l1⟩ := a
  obtain ⟨k2, n2, s2, l2⟩ := b
  dsimp only at *
  by_cases hk : k1 = k2
  · subst hk
    by_cases hn : n1 = n2
    · subst hn
      by_cases hs : s1 = s2
      · subst hs
        have BF := Lib.hid (below_allocS (below_allocS (Below.refl _ _) (.cells #[.int .i64 k1, .int .i64 n1, .string s1, .slice A l1.length c] 36)) (.cells #[.int .i64 k1, .int .i64 n1, .string s1, .slice B l2.length d] 36) : Below w.heap.size w _)
        have CN := Lib.hid (sameNums_any A B l1 l2 c d _ (Rd.below ha BF.out) (Rd.below hb BF.out) hl)
        clear ha hb
        go_enter Try.func70, Try.ntmps70
        go_wp2_with fail
        refine CN.out.mono ?_
        rintro e w1 ⟨rfl, hb1⟩
        have B1 := Lib.hid (below_next BF.out hb1)
        clear hb1
        go_wp2_with fail
        go_ret
        exact ⟨ret_bool (by simp), B1.out⟩
      · have hss := str_ne hs
        go_enter Try.func70, Try.ntmps70
        go_wp2
        go_ret
        exact ⟨ret_bool (by simp; intro h; exact absurd h hs), below_allocS (below_allocS (Below.refl _ _) _) _⟩
    · have hnn : (n1 == n2) = false := by simp; exact hn
      go_enter Try.func70, Try.ntmps70
      go_wp2
      go_ret
      exact ⟨ret_bool (by simp; intro h; exact absurd h hn), below_allocS (below_allocS (Below.refl _ _) _) _⟩
  · have hkk : (k1 == k2) = false := by simp; exact hk
    go_enter Try.func70, Try.ntmps70
    go_wp2
    go_ret
    exact ⟨ret_bool (by simp; intro h; exact absurd h hk), below_allocS (below_allocS (Below.refl _ _) _) _⟩
end Go.Proofs.Ytfaophiaiflecaa
