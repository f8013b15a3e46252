/- Contracts: data.Same, reparteeref1.SameNums, reparteeref1.SameValue. Contracts: reparteeref1.divided, numbers. Contracts: reparteeref1.one. -/
import Derived.Test.YtbemdcbglpjmiaaGreatDoorFoC
import Derived.BigQuiet
import Derived.Test.YtbemdcbglpjmiaaGreatDoorFoB
namespace Go.Proofs.YtbemdcbglpjmiaaGreatDoor
open Go.RowKit

deriving instance DecidableEq for Vl
abbrev Ints (w : World) (A : Option Addr) (l : List Int) : Prop := Rd w A (l.map (Value.int .i64))
theorem ints_at {w : World} {A : Option Addr} {l : List Int} (h : Ints w A l) {k : Nat} (hk : k < l.length) : ∃ b off, A = some ⟨b, off, none⟩ ∧ b < w.heap.size ∧ ∀ i (h : i < l.length), w.cell? ⟨b, off + i, none⟩ = some (.int .i64 l[i]) := by
  obtain ⟨b, off, h1, h2, h3⟩ := Rd.at_ h (i := k) (by simpa using hk)
  exact ⟨b, off, h1, h2, fun j hj => h3 j _ (by simp [hj])⟩
theorem take_step {l m : List Int} {k : Nat} (h : l.take k = m.take k) (hl : k < l.length) (hm : k < m.length) (e : l[k] = m[k]) : l.take (k + 1) = m.take (k + 1) := by
  rw [List.take_succ_eq_append_getElem hl, List.take_succ_eq_append_getElem hm, h, e]
theorem get_ne {l m : List Int} {k : Nat} (hl : k < l.length) (hm : k < m.length) (e : ¬ l[k] = m[k]) : ¬ l = m := by
  intro h; subst h; exact e rfl
theorem str_ne {s t : ByteArray} (h : ¬ s = t) : (s.toList == t.toList) = false := by
  simp only [beq_eq_false_iff_ne, ne_eq, ByteArray.toList_eq]
  intro e
  apply h
  cases s; cases t
  simp at e
  rw [e]
set_option maxRecDepth 100000 in
set_option maxHeartbeats 3200000 in
theorem dsame_any (a b : Vl) (A B : Option Addr) (c d : Nat) (w : World) (ha : Ints w A a.l) (hb : Ints w B b.l) (hl : a.l.length ≤ 1000000000) :
    Calls Tryz.prog 122 #[.agg #[.int .i64 a.kind, .int .i64 a.n, .string a.s, .slice A a.l.length c], .agg #[.int .i64 b.kind, .int .i64 b.n, .string b.s, .slice B b.l.length d]] w fun e w' => e = .returned (.bool (decide (a = b))) ∧ Below w.heap.size w w' := by
  obtain ⟨k1, n1, s1, l1⟩ := a
  obtain ⟨k2, n2, s2, l2⟩ := b
  dsimp only at *
  by_cases hk : k1 = k2
  · subst hk
    by_cases hn : n1 = n2
    · subst hn
      by_cases hs : s1 = s2
      · subst hs
        by_cases hz : l1.length = l2.length
        · have BF := Lib.hid (below_allocS (below_allocS (Below.refl _ _) (.cells #[.int .i64 k1, .int .i64 n1, .string s1, .slice A l1.length c] 31)) (.cells #[.int .i64 k1, .int .i64 n1, .string s1, .slice B l2.length d] 31) : Below w.heap.size w _)
          have HZ := Lib.hid hz
          have hzz : ((l1.length : Int) == (l2.length : Int)) = true := by simp; omega
          have hzn : (l1.length == l2.length) = true := by simp; exact hz
          clear hz
          go_enter Tryz.func122, Tryz.ntmps122
          go_wp2
          go_loop [38] (fun i => ∃ k : Nat, k ≤ l1.length ∧ i = .int .i64 k ∧ Hid (l1.take k = l2.take k)) (fun i => l1.length - (intOf i).toNat)
          case atStart => exact ⟨0, by omega, rfl, Lib.hid (by simp)⟩
          case round =>
            obtain ⟨k, hk, rfl, hq⟩ := hrel
            by_cases hlt : k < l1.length
            · have hltm : k < l2.length := by rw [← HZ.out]; exact hlt
              obtain ⟨ab, ao, rfl, hab, ha'⟩ := ints_at ha hlt
              obtain ⟨bb, bo, rfl, hbb, hb'⟩ := ints_at hb hltm
              have ca := ha' k hlt
              have cb := hb' k hltm
              clear ha' hb'
              by_cases he : l1[k] = l2[k]
              · have HQ := Lib.hid (take_step hq.out hlt hltm he)
                have hev : (l1[k] == l2[k]) = true := by simp; exact he
                clear hq he
                go_wp2
                go_round
                case rel => exact ⟨k + 1, by omega, by go_num, HQ⟩
                case measure => simp [intOf]; omega
              · have HN := Lib.hid (get_ne hlt hltm he)
                have hev : (l1[k] == l2[k]) = false := by simp; exact he
                clear hq he
                go_wp2
                go_ret
                exact ⟨ret_bool (by simp [HN.out]), BF.out⟩
            · have hr : l1 = l2 := by have h := hq.out; rw [List.take_of_length_le (by omega), List.take_of_length_le (by have := HZ.out; omega)] at h; exact h
              have HR := Lib.hid hr
              clear hq hr
              go_wp2
              go_ret
              exact ⟨ret_bool (by simp [HR.out]), BF.out⟩
        · have hzz : ((l1.length : Int) == (l2.length : Int)) = false := by simp; omega
          have hzn : (l1.length == l2.length) = false := by simp; exact hz
          go_enter Tryz.func122, Tryz.ntmps122
          go_wp2
          go_ret
          exact ⟨ret_bool (by simp; intro h; exact hz (by rw [h])), below_allocS (below_allocS (Below.refl _ _) _) _⟩
      · have hss := str_ne hs
        go_enter Tryz.func122, Tryz.ntmps122
        go_wp2
        go_ret
        exact ⟨ret_bool (by simp; intro h; exact absurd h hs), below_allocS (below_allocS (Below.refl _ _) _) _⟩
    · have hnn : (n1 == n2) = false := by simp; exact hn
      go_enter Tryz.func122, Tryz.ntmps122
      go_wp2
      go_ret
      exact ⟨ret_bool (by simp; intro h; exact absurd h hn), below_allocS (below_allocS (Below.refl _ _) _) _⟩
  · have hkk : (k1 == k2) = false := by simp; exact hk
    go_enter Tryz.func122, Tryz.ntmps122
    go_wp2
    go_ret
    exact ⟨ret_bool (by simp; intro h; exact absurd h hk), below_allocS (below_allocS (Below.refl _ _) _) _⟩
set_option maxRecDepth 100000 in
set_option maxHeartbeats 1600000 in
theorem sameNums_any (A B : Option Addr) (l m : List Int) (c d : Nat) (w : World) (ha : Ints w A l) (hb : Ints w B m) (hl : l.length ≤ 1000000000) :
    Calls Tryz.prog 31 #[.slice A l.length c, .slice B m.length d] w fun e w' => e = .returned (.bool (decide (l = m))) ∧ Below w.heap.size w w' := by
  by_cases hlm : l.length = m.length
  · have HL := Lib.hid hlm
    have hzz : ((l.length : Int) == (m.length : Int)) = true := by simp; omega
    have hzn : (l.length == m.length) = true := by simp; exact hlm
    clear hlm
    go_enter Tryz.func31, Tryz.ntmps31
    go_wp2
    go_loopw [5] (fun i wr => ∃ k : Nat, k ≤ l.length ∧ i = .int .i64 k ∧ Hid (l.take k = m.take k) ∧ ∃ j, wr = w.drewN j) (fun i _ => l.length - (intOf i).toNat)
    case atStart => exact ⟨0, by omega, rfl, Lib.hid (by simp), 0, rfl⟩
    case round =>
      obtain ⟨k, hk, rfl, hq, j, rfl⟩ := hrel
      by_cases hlt : k < l.length
      · have hltm : k < m.length := by rw [← HL.out]; exact hlt
        obtain ⟨ab, ao, rfl, _, ha'⟩ := ints_at ha hlt
        obtain ⟨bb, bo, rfl, _, hb'⟩ := ints_at hb hltm
        have ca := ha' k hlt
        have cb := hb' k hltm
        clear ha' hb'
        by_cases he : l[k] = m[k]
        · have HQ := Lib.hid (take_step hq.out hlt hltm he)
          have hev : (l[k] == m[k]) = true := by simp; exact he
          clear hq he
          go_wp2
          go_quiet (fail)
          go_wp2
          go_roundw
          case rel => exact ⟨k + 1, by omega, by go_num, HQ, _, rfl⟩
          case measure => simp [intOf]; omega
        · have HN := Lib.hid (get_ne hlt hltm he)
          have hev : (l[k] == m[k]) = false := by simp; exact he
          clear hq he
          go_wp2
          go_quiet (fail)
          go_wp2
          go_ret
          exact ⟨ret_bool (by simp [HN.out]), below_drewN (below_drewN (Below.refl _ _) _) _⟩
      · have hr : l = m := by have h := hq.out; rw [List.take_of_length_le (by omega), List.take_of_length_le (by have := HL.out; omega)] at h; exact h
        have HR := Lib.hid hr
        clear hq hr
        go_wp2
        go_ret
        exact ⟨ret_bool (by simp [HR.out]), below_drewN (Below.refl _ _) _⟩
  · have hzz : ((l.length : Int) == (m.length : Int)) = false := by simp; omega
    have hzn : (l.length == m.length) = false := by simp; exact hlm
    go_enter Tryz.func31, Tryz.ntmps31
    go_wp2
    go_ret
    exact ⟨ret_bool (by simp; intro h; exact hlm (by rw [h])), Below.refl _ _⟩
set_option maxRecDepth 100000 in
set_option maxHeartbeats 1600000 in
theorem sameValue_any (a b : Vl) (A B : Option Addr) (c d : Nat) (w : World) (ha : Ints w A a.l) (hb : Ints w B b.l) (hl : a.l.length ≤ 1000000000) :
    Calls Tryz.prog 14 #[.agg #[.int .i64 a.kind, .int .i64 a.n, .string a.s, .slice A a.l.length c], .agg #[.int .i64 b.kind, .int .i64 b.n, .string b.s, .slice B b.l.length d]] w fun e w' => e = .returned (.bool (decide (a = b))) ∧ Below w.heap.size w w' := by
  obtain ⟨k1, n1, s1, l1⟩ := a
  obtain ⟨k2, n2, s2, l2⟩ := b
  dsimp only at *
  by_cases hk : k1 = k2
  · subst hk
    by_cases hn : n1 = n2
    · subst hn
      by_cases hs : s1 = s2
      · subst hs
        have BF := Lib.hid (below_allocS (below_allocS (Below.refl _ _) (.cells #[.int .i64 k1, .int .i64 n1, .string s1, .slice A l1.length c] 31)) (.cells #[.int .i64 k1, .int .i64 n1, .string s1, .slice B l2.length d] 31) : Below w.heap.size w _)
        have CN := Lib.hid (sameNums_any A B l1 l2 c d _ (Rd.below ha BF.out) (Rd.below hb BF.out) hl)
        clear ha hb
        go_enter Tryz.func14, Tryz.ntmps14
        go_wp2_with fail
        refine CN.out.mono ?_
        rintro e w1 ⟨rfl, hb1⟩
        have B1 := Lib.hid (below_next BF.out hb1)
        clear hb1
        go_wp2_with fail
        go_ret
        exact ⟨ret_bool (by simp), B1.out⟩
      · have hss := str_ne hs
        go_enter Tryz.func14, Tryz.ntmps14
        go_wp2
        go_ret
        exact ⟨ret_bool (by simp; intro h; exact absurd h hs), below_allocS (below_allocS (Below.refl _ _) _) _⟩
    · have hnn : (n1 == n2) = false := by simp; exact hn
      go_enter Tryz.func14, Tryz.ntmps14
      go_wp2
      go_ret
      exact ⟨ret_bool (by simp; intro h; exact absurd h hn), below_allocS (below_allocS (Below.refl _ _) _) _⟩
  · have hkk : (k1 == k2) = false := by simp; exact hk
    go_enter Tryz.func14, Tryz.ntmps14
    go_wp2
    go_ret
    exact ⟨ret_bool (by simp; intro h; exact absurd h hk), below_allocS (below_allocS (Below.refl _ _) _) _⟩
end Go.Proofs.YtbemdcbglpjmiaaGreatDoor
namespace Go.Proofs.YtbemdcbglpjmiaaGreatDoor
open Go.RowKit

theorem w64_mod (x : Int) : wrap64 (x % 18446744073709551616) = wrap64 x := by unfold wrap64; omega
theorem u_mod (x : Int) : IntKind.u64.wrap x = x % 18446744073709551616 := by simp [IntKind.wrap_u64]
theorem u_neg (a : Int) : wrap64 (IntKind.u64.wrap (-IntKind.u64.wrap a)) = wrap64 (-a) := by
  simp only [u_mod]; unfold wrap64; omega
theorem u_add (a b : Int) : wrap64 (IntKind.u64.wrap (IntKind.u64.wrap a + IntKind.u64.wrap b)) = wrap64 (a + b) := by
  simp only [u_mod]; unfold wrap64; omega
theorem u_sub (a b : Int) : wrap64 (IntKind.u64.wrap (IntKind.u64.wrap a - IntKind.u64.wrap b)) = wrap64 (a - b) := by
  simp only [u_mod]; unfold wrap64; omega
theorem u_mul (a b : Int) : wrap64 (IntKind.u64.wrap (IntKind.u64.wrap a * IntKind.u64.wrap b)) = wrap64 (a * b) := by
  simp only [u_mod]; rw [← Int.mul_emod, w64_mod]
theorem re_facts {w w1 : World} (hb : Below (w.alloc (.cells zeroC 31)).heap.size (w.alloc (.cells zeroC 31)) w1) :
    (w1.frozen? ⟨w.heap.size, 0, none⟩ = false ∧ w1.frozen? ⟨w.heap.size, 1, none⟩ = false ∧ w1.frozen? ⟨w.heap.size, 2, none⟩ = false ∧ w1.frozen? ⟨w.heap.size, 3, none⟩ = false) ∧
    w1.cell? ⟨w.heap.size, 0, none⟩ = some (.int .i64 0) ∧ w1.cell? ⟨w.heap.size, 1, none⟩ = some (.int .i64 0) ∧ w1.cell? ⟨w.heap.size, 2, none⟩ = some (.string e0) ∧ w1.cell? ⟨w.heap.size, 3, none⟩ = some (.slice none 0 0) ∧ w.heap.size < w1.heap.size := by
  have K1 := (Blk.new w zeroC 31).belowS hb
  exact ⟨⟨K1.frozen 0, K1.frozen 1, K1.frozen 2, K1.frozen 3⟩, K1.cell 0, K1.cell 1, K1.cell 2, K1.cell 3, K1.lt⟩
set_option maxRecDepth 100000 in
set_option maxHeartbeats 8000000 in
theorem divided_any (k a b : Int) (hk : k = 9 ∨ k = 10) (w : World) : Calls Tryz.prog 128 #[.int .i64 k, .int .i64 a, .int .i64 b] w (EvPost (numV k a b) w) := by
  have CN := Lib.hid (fun n w => num_any n w)
  by_cases h0 : b = 0
  · subst h0
    rcases hk with rfl | rfl
    · go_enter Tryz.func128, Tryz.ntmps128
      go_wp2_with fail
      refine bodyPost_ret (v := .tuple #[.agg #[.int .i64 0, .int .i64 0, .string e0, .slice none 0 0], .int .i64 403]) (by simp [results, Tryz.results128, go_sem, e0]) rfl (ev_err 403 (by simp [numV]) rfl (by decide) (below_new _ _))
    · go_enter Tryz.func128, Tryz.ntmps128
      go_wp2_with fail
      refine bodyPost_ret (v := .tuple #[.agg #[.int .i64 0, .int .i64 0, .string e0, .slice none 0 0], .int .i64 403]) (by simp [results, Tryz.results128, go_sem, e0]) rfl (ev_err 403 (by simp [numV]) rfl (by decide) (below_new _ _))
  by_cases h1 : b = -1
  · subst h1
    rcases hk with rfl | rfl
    · go_enter Tryz.func128, Tryz.ntmps128
      go_wp2_with fail
      refine (CN.out _ _).mono ?_
      rintro e w1 ⟨rfl, hb1⟩
      obtain ⟨⟨f0, f1, f2, f3⟩, k0, k1, k2, k3, hz⟩ := re_facts hb1
      have B1 := Lib.hid (below_next (below_new w _) hb1)
      clear hb1
      go_wp2_with fail
      refine bodyPost_ret (v := .tuple #[(numL (wrap64 (a.tdiv (-1)))).val none 0, .int .i64 0]) (by simp [results, Tryz.results128, go_sem, e0, numL, Vl.val, k0, k1, k2, k3, u_neg]) rfl (ev_one (x := numL (wrap64 (a.tdiv (-1)))) (by simp [numV]) rfl rfl (below_put4 B1.out (Nat.le_refl _) _ _ _ _))
    · go_enter Tryz.func128, Tryz.ntmps128
      go_wp2_with fail
      refine (CN.out _ _).mono ?_
      rintro e w1 ⟨rfl, hb1⟩
      obtain ⟨⟨f0, f1, f2, f3⟩, k0, k1, k2, k3, hz⟩ := re_facts hb1
      have B1 := Lib.hid (below_next (below_new w _) hb1)
      clear hb1
      go_wp2_with fail
      refine bodyPost_ret (v := .tuple #[(numL (a.tmod (-1))).val none 0, .int .i64 0]) (by simp [results, Tryz.results128, go_sem, e0, numL, Vl.val, k0, k1, k2, k3]) rfl (ev_one (x := numL (a.tmod (-1))) (by simp [numV]) rfl rfl (below_put4 B1.out (Nat.le_refl _) _ _ _ _))
  have e0' : (b == 0) = false := by simpa using h0
  have e1' : (b == -1) = false := by simpa using h1
  rcases hk with rfl | rfl
  · go_enter Tryz.func128, Tryz.ntmps128
    go_wp2_with fail
    refine (CN.out _ _).mono ?_
    rintro e w1 ⟨rfl, hb1⟩
    obtain ⟨⟨f0, f1, f2, f3⟩, k0, k1, k2, k3, hz⟩ := re_facts hb1
    have B1 := Lib.hid (below_next (below_new w _) hb1)
    clear hb1
    go_wp2_with fail
    refine bodyPost_ret (v := .tuple #[(numL (wrap64 (a.tdiv b))).val none 0, .int .i64 0]) (by simp [results, Tryz.results128, go_sem, e0, numL, Vl.val, k0, k1, k2, k3]) rfl (ev_one (x := numL (wrap64 (a.tdiv b))) (by simp [numV, h0]) rfl rfl (below_put4 B1.out (Nat.le_refl _) _ _ _ _))
  · go_enter Tryz.func128, Tryz.ntmps128
    go_wp2_with fail
    refine (CN.out _ _).mono ?_
    rintro e w1 ⟨rfl, hb1⟩
    obtain ⟨⟨f0, f1, f2, f3⟩, k0, k1, k2, k3, hz⟩ := re_facts hb1
    have B1 := Lib.hid (below_next (below_new w _) hb1)
    clear hb1
    go_wp2_with fail
    refine bodyPost_ret (v := .tuple #[(numL (a.tmod b)).val none 0, .int .i64 0]) (by simp [results, Tryz.results128, go_sem, e0, numL, Vl.val, k0, k1, k2, k3]) rfl (ev_one (x := numL (a.tmod b)) (by simp [numV, h0]) rfl rfl (below_put4 B1.out (Nat.le_refl _) _ _ _ _))
set_option maxRecDepth 100000 in
set_option maxHeartbeats 8000000 in
theorem rnumbers_any (k a b : Int) (hk : k = 6 ∨ k = 7 ∨ k = 8 ∨ k = 9 ∨ k = 10 ∨ k = 12) (w : World) : Calls Tryz.prog 79 #[.int .i64 k, .int .i64 a, .int .i64 b] w (EvPost (numV k a b) w) := by
  have CN := Lib.hid (fun n w => num_any n w)
  have CT := Lib.hid (fun b w => rtruth_any b w)
  have CD9 := Lib.hid (fun w => divided_any 9 a b (.inl rfl) w)
  have CD10 := Lib.hid (fun w => divided_any 10 a b (.inr rfl) w)
  rcases hk with rfl | rfl | rfl | rfl | rfl | rfl
  · go_enter Tryz.func79, Tryz.ntmps79
    go_wp2_with fail
    refine (CN.out _ _).mono ?_
    rintro e w1 ⟨rfl, hb1⟩
    obtain ⟨⟨f0, f1, f2, f3⟩, k0, k1, k2, k3, hz⟩ := re_facts hb1
    have B1 := Lib.hid (below_next (below_new w _) hb1)
    clear hb1
    go_wp2_with fail
    refine bodyPost_ret (v := .tuple #[(numL (wrap64 (a + b))).val none 0, .int .i64 0]) (by simp [results, Tryz.results79, go_sem, e0, numL, Vl.val, k0, k1, k2, k3, u_add]) rfl (ev_one (x := numL (wrap64 (a + b))) (by simp [numV]) rfl rfl (below_put4 B1.out (Nat.le_refl _) _ _ _ _))
  · go_enter Tryz.func79, Tryz.ntmps79
    go_wp2_with fail
    refine (CN.out _ _).mono ?_
    rintro e w1 ⟨rfl, hb1⟩
    obtain ⟨⟨f0, f1, f2, f3⟩, k0, k1, k2, k3, hz⟩ := re_facts hb1
    have B1 := Lib.hid (below_next (below_new w _) hb1)
    clear hb1
    go_wp2_with fail
    refine bodyPost_ret (v := .tuple #[(numL (wrap64 (a - b))).val none 0, .int .i64 0]) (by simp [results, Tryz.results79, go_sem, e0, numL, Vl.val, k0, k1, k2, k3, u_sub]) rfl (ev_one (x := numL (wrap64 (a - b))) (by simp [numV]) rfl rfl (below_put4 B1.out (Nat.le_refl _) _ _ _ _))
  · go_enter Tryz.func79, Tryz.ntmps79
    go_wp2_with fail
    refine (CN.out _ _).mono ?_
    rintro e w1 ⟨rfl, hb1⟩
    obtain ⟨⟨f0, f1, f2, f3⟩, k0, k1, k2, k3, hz⟩ := re_facts hb1
    have B1 := Lib.hid (below_next (below_new w _) hb1)
    clear hb1
    go_wp2_with fail
    refine bodyPost_ret (v := .tuple #[(numL (wrap64 (a * b))).val none 0, .int .i64 0]) (by simp [results, Tryz.results79, go_sem, e0, numL, Vl.val, k0, k1, k2, k3, u_mul]) rfl (ev_one (x := numL (wrap64 (a * b))) (by simp [numV]) rfl rfl (below_put4 B1.out (Nat.le_refl _) _ _ _ _))
  · go_enter Tryz.func79, Tryz.ntmps79
    go_wp2_with fail
    refine (CD9.out _).mono ?_
    rintro e w1 ⟨i0, i1, s, Q, m, c, k, rfl, hb1, hi⟩
    obtain ⟨⟨f0, f1, f2, f3⟩, k0, k1, k2, k3, hz⟩ := re_facts hb1
    have HI := Lib.hid hi
    have HB1 := Lib.hid hb1
    clear hi hb1
    go_wp2_with fail
    refine bodyPost_ret (v := .tuple #[.agg #[.int .i64 i0, .int .i64 i1, .string s, .slice Q m c], .int .i64 k]) (by simp [results, Tryz.results79, go_sem, k0, k1, k2, k3]) rfl ?_
    exact ev_pass (below_new w _) HB1.out HI.out (Nat.le_refl _) (by simp)
  · go_enter Tryz.func79, Tryz.ntmps79
    go_wp2_with fail
    refine (CD10.out _).mono ?_
    rintro e w1 ⟨i0, i1, s, Q, m, c, k, rfl, hb1, hi⟩
    obtain ⟨⟨f0, f1, f2, f3⟩, k0, k1, k2, k3, hz⟩ := re_facts hb1
    have HI := Lib.hid hi
    have HB1 := Lib.hid hb1
    clear hi hb1
    go_wp2_with fail
    refine bodyPost_ret (v := .tuple #[.agg #[.int .i64 i0, .int .i64 i1, .string s, .slice Q m c], .int .i64 k]) (by simp [results, Tryz.results79, go_sem, k0, k1, k2, k3]) rfl ?_
    exact ev_pass (below_new w _) HB1.out HI.out (Nat.le_refl _) (by simp)
  · go_enter Tryz.func79, Tryz.ntmps79
    go_wp2_with fail
    refine (CT.out _ _).mono ?_
    rintro e w1 ⟨rfl, hb1⟩
    obtain ⟨⟨f0, f1, f2, f3⟩, k0, k1, k2, k3, hz⟩ := re_facts hb1
    have B1 := Lib.hid (below_next (below_new w _) hb1)
    clear hb1
    go_wp2_with fail
    refine bodyPost_ret (v := .tuple #[(tru (decide (a < b))).val none 0, .int .i64 0]) (by simp [results, Tryz.results79, go_sem, e0, tru, Vl.val, k0, k1, k2, k3]) rfl (ev_one (x := tru (decide (a < b))) (by simp [numV]) rfl rfl (below_put4 B1.out (Nat.le_refl _) _ _ _ _))
end Go.Proofs.YtbemdcbglpjmiaaGreatDoor
namespace Go.Proofs.YtbemdcbglpjmiaaGreatDoor
open Go.RowKit

theorem zf {W w1 : World} {n : Nat} (hn : W.heap.size = n) (hb : Below (W.alloc (.cells zeroC 31)).heap.size (W.alloc (.cells zeroC 31)) w1) :
    (w1.frozen? ⟨n, 0, none⟩ = false ∧ w1.frozen? ⟨n, 1, none⟩ = false ∧ w1.frozen? ⟨n, 2, none⟩ = false ∧ w1.frozen? ⟨n, 3, none⟩ = false) ∧
    w1.cell? ⟨n, 0, none⟩ = some (.int .i64 0) ∧ w1.cell? ⟨n, 1, none⟩ = some (.int .i64 0) ∧ w1.cell? ⟨n, 2, none⟩ = some (.string e0) ∧ w1.cell? ⟨n, 3, none⟩ = some (.slice none 0 0) ∧ n < w1.heap.size := by
  subst hn
  exact re_facts hb
abbrev tmC (k : Int) (nm : ByteArray) (n : Int) (tx : ByteArray) (l r : Int) : Array Value := #[.int .i64 k, .string nm, .int .i64 n, .string tx, .int .i64 l, .int .i64 r]
abbrev vlC (k n : Int) (s : ByteArray) (A : Option Addr) (m c : Nat) : Array Value := #[.int .i64 k, .int .i64 n, .string s, .slice A m c]
/-- The world behind the head of one, ahead of the result's cell. -/
abbrev onW (w : World) (k : Int) (nm : ByteArray) (n : Int) (tx : ByteArray) (l r : Int) (ak an : Int) (sa : ByteArray) (A : Option Addr) (m c : Nat) : World :=
  (w.alloc (.cells (tmC k nm n tx l r) 51)).alloc (.cells (vlC ak an sa A m c) 31)
set_option maxRecDepth 100000 in
set_option maxHeartbeats 8000000 in
theorem on15_no (nm : ByteArray) (n : Int) (tx : ByteArray) (l r : Int) (ak an : Int) (sa : ByteArray) (hn : ak ≠ 2) (A : Option Addr) (m c : Nat) (w : World) : Calls Tryz.prog 51 #[.agg (tmC 15 nm n tx l r), .agg (vlC ak an sa A m c)] w (EvPost none w) := by
  have e1 : (ak == 2) = false := by simpa using hn
  go_enter Tryz.func51, Tryz.ntmps51
  go_wp2_with fail
  refine bodyPost_ret (v := .tuple #[.agg #[.int .i64 0, .int .i64 0, .string e0, .slice none 0 0], .int .i64 402]) (by simp [results, Tryz.results51, go_sem, e0]) rfl (ev_err 402 rfl rfl (by decide) (below_push (below_push (below_new _ _) _) _))
set_option maxRecDepth 100000 in
set_option maxHeartbeats 8000000 in
theorem on15_yes (nm : ByteArray) (n : Int) (tx : ByteArray) (l r : Int) (an : Int) (sa : ByteArray) (A : Option Addr) (m c : Nat) (w : World) : Calls Tryz.prog 51 #[.agg (tmC 15 nm n tx l r), .agg (vlC 2 an sa A m c)] w (EvPost (some (tru (an == 0))) w) := by
  have CN := Lib.hid (fun n w => num_any n w)
  have CT := Lib.hid (fun b w => rtruth_any b w)
  go_enter Tryz.func51, Tryz.ntmps51
  go_wp2_with fail
  refine (CT.out (an == 0) _).mono ?_
  rintro e w1 ⟨rfl, hb1⟩
  obtain ⟨⟨f0, f1, f2, f3⟩, k0, k1, k2, k3, hz⟩ := zf (W := (onW w (15) nm n tx l r (2) an sa A m c)) (n := w.heap.size + 1 + 1) (by simp) hb1
  have B1 := Lib.hid (below_next (below_push (below_push (below_new w _) _) _) hb1)
  clear hb1
  go_wp2_with fail
  refine bodyPost_ret (v := .tuple #[(tru (an == 0)).val none 0, .int .i64 0]) (by simp [results, Tryz.results51, go_sem, e0, tru, Vl.val, k0, k1, k2, k3]) rfl (ev_one (x := tru (an == 0)) rfl rfl rfl (below_put4 B1.out (by omega) _ _ _ _))
set_option maxRecDepth 100000 in
set_option maxHeartbeats 8000000 in
theorem on16_no (nm : ByteArray) (n : Int) (tx : ByteArray) (l r : Int) (ak an : Int) (sa : ByteArray) (hn : ak ≠ 3 ∧ ak ≠ 4) (A : Option Addr) (m c : Nat) (w : World) : Calls Tryz.prog 51 #[.agg (tmC 16 nm n tx l r), .agg (vlC ak an sa A m c)] w (EvPost none w) := by
  have e1 : (ak == 3) = false := by simpa using hn.1
  have e2 : (ak == 4) = false := by simpa using hn.2
  go_enter Tryz.func51, Tryz.ntmps51
  go_wp2_with fail
  refine bodyPost_ret (v := .tuple #[.agg #[.int .i64 0, .int .i64 0, .string e0, .slice none 0 0], .int .i64 402]) (by simp [results, Tryz.results51, go_sem, e0]) rfl (ev_err 402 rfl rfl (by decide) (below_push (below_push (below_new _ _) _) _))
set_option maxRecDepth 100000 in
set_option maxHeartbeats 8000000 in
theorem on16_text (nm : ByteArray) (n : Int) (tx : ByteArray) (l r : Int) (an : Int) (sa : ByteArray) (A : Option Addr) (m c : Nat) (w : World) : Calls Tryz.prog 51 #[.agg (tmC 16 nm n tx l r), .agg (vlC 3 an sa A m c)] w (EvPost (some (numL sa.size)) w) := by
  have CN := Lib.hid (fun n w => num_any n w)
  have CT := Lib.hid (fun b w => rtruth_any b w)
  go_enter Tryz.func51, Tryz.ntmps51
  go_wp2_with fail
  refine (CN.out sa.size _).mono ?_
  rintro e w1 ⟨rfl, hb1⟩
  obtain ⟨⟨f0, f1, f2, f3⟩, k0, k1, k2, k3, hz⟩ := zf (W := (onW w (16) nm n tx l r (3) an sa A m c)) (n := w.heap.size + 1 + 1) (by simp) hb1
  have B1 := Lib.hid (below_next (below_push (below_push (below_new w _) _) _) hb1)
  clear hb1
  go_wp2_with fail
  refine bodyPost_ret (v := .tuple #[(numL sa.size).val none 0, .int .i64 0]) (by simp [results, Tryz.results51, go_sem, e0, numL, Vl.val, k0, k1, k2, k3]) rfl (ev_one (x := numL sa.size) rfl rfl rfl (below_put4 B1.out (by omega) _ _ _ _))
set_option maxRecDepth 100000 in
set_option maxHeartbeats 8000000 in
theorem on16_list (nm : ByteArray) (n : Int) (tx : ByteArray) (l r : Int) (an : Int) (sa : ByteArray) (A : Option Addr) (m c : Nat) (w : World) : Calls Tryz.prog 51 #[.agg (tmC 16 nm n tx l r), .agg (vlC 4 an sa A m c)] w (EvPost (some (numL m)) w) := by
  have CN := Lib.hid (fun n w => num_any n w)
  have CT := Lib.hid (fun b w => rtruth_any b w)
  go_enter Tryz.func51, Tryz.ntmps51
  go_wp2_with fail
  refine (CN.out m _).mono ?_
  rintro e w1 ⟨rfl, hb1⟩
  obtain ⟨⟨f0, f1, f2, f3⟩, k0, k1, k2, k3, hz⟩ := zf (W := (onW w (16) nm n tx l r (4) an sa A m c)) (n := w.heap.size + 1 + 1) (by simp) hb1
  have B1 := Lib.hid (below_next (below_push (below_push (below_new w _) _) _) hb1)
  clear hb1
  go_wp2_with fail
  refine bodyPost_ret (v := .tuple #[(numL m).val none 0, .int .i64 0]) (by simp [results, Tryz.results51, go_sem, e0, numL, Vl.val, k0, k1, k2, k3]) rfl (ev_one (x := numL m) rfl rfl rfl (below_put4 B1.out (by omega) _ _ _ _))
end Go.Proofs.YtbemdcbglpjmiaaGreatDoor
