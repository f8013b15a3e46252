/- Contracts: reparteeref1.listed. Contracts: reparteeref1.two. -/
import Derived.Test.YtbemdcbglpjmiaaGreatDoorFoE
namespace Go.Proofs.YtbemdcbglpjmiaaGreatDoor
open Go.RowKit

set_option maxRecDepth 100000 in
set_option maxHeartbeats 8000000 in
theorem listed_at (L : List Int) (n : Int) (A : Option Addr) (c : Nat) (w : World) (h : Ints w A L) : Calls Tryz.prog 78 #[.int .i64 17, .slice A L.length c, .int .i64 n] w
    (EvPost (if n < 0 ∨ (L.length : Int) ≤ n then none else some (numL (L.getD n.toNat 0))) w) := by
  have CN := Lib.hid (fun n w => num_any n w)
  by_cases h1 : n < 0
  · rw [if_pos (.inl h1)]
    have e1 : decide (n < 0) = true := decide_eq_true h1
    go_enter Tryz.func78, Tryz.ntmps78
    go_wp2_with fail
    refine bodyPost_ret (v := .tuple #[.agg #[.int .i64 0, .int .i64 0, .string e0, .slice none 0 0], .int .i64 404]) (by simp [results, Tryz.results78, go_sem, e0]) rfl (ev_err 404 rfl rfl (by decide) (below_new _ _))
  · have e1 : decide (n < 0) = false := decide_eq_false h1
    by_cases h2 : (L.length : Int) ≤ n
    · rw [if_pos (.inr h2)]
      have e2 : decide ((L.length : Int) ≤ n) = true := decide_eq_true h2
      go_enter Tryz.func78, Tryz.ntmps78
      go_wp2_with fail
      refine bodyPost_ret (v := .tuple #[.agg #[.int .i64 0, .int .i64 0, .string e0, .slice none 0 0], .int .i64 404]) (by simp [results, Tryz.results78, go_sem, e0]) rfl (ev_err 404 rfl rfl (by decide) (below_new _ _))
    · rw [if_neg (fun q => q.elim h1 h2)]
      obtain ⟨i, rfl⟩ : ∃ i : Nat, n = i := ⟨n.toNat, by omega⟩
      have hi : i < L.length := by omega
      obtain ⟨b, o, rfl, hb, hc⟩ := ints_at h hi
      have c0 := hc i hi
      obtain ⟨x, hx⟩ : ∃ x, x = L[i] := ⟨_, rfl⟩
      rw [← hx] at c0
      have e2 : decide ((L.length : Int) ≤ i) = false := decide_eq_false (by omega)
      have HX : Hid (L.getD (i : Int).toNat 0 = x) := Lib.hid (by rw [hx]; simp [hi])
      have HE := Lib.hid h
      clear hc h hx h1 h2
      go_enter Tryz.func78, Tryz.ntmps78
      go_wp2_with fail
      refine (CN.out x _).mono ?_
      rintro e w1 ⟨rfl, hb1⟩
      obtain ⟨⟨f0, f1, f2, f3⟩, k0, k1, k2, k3, hz⟩ := re_facts hb1
      have B1 := Lib.hid (below_next (below_new w _) hb1)
      clear hb1
      go_wp2_with fail
      refine bodyPost_ret (v := .tuple #[(numL x).val none 0, .int .i64 0]) (by simp [results, Tryz.results78, go_sem, e0, numL, Vl.val, k0, k1, k2, k3]) rfl (ev_one (x := numL x) (by rw [HX.out]) rfl rfl (below_put4 B1.out (Nat.le_refl _) _ _ _ _))
theorem infoI64 : (Tryz.prog.info? 2).map (fun i => (i.zero, i.size, i.bytes)) = some (some (.int .i64 0), 1, 8) := by kernel_rfl
theorem push_mid {w w2 : World} {L : List Int} {A2 : Option Addr} {c2 : Nat} (n : Int) (ho : w2.ownsRow (w.heap.size + 1) 2 1 (.slice A2 (0 + L.length) c2) (0 + L.length) ([] ++ L.map (Value.int .i64))) (hg : (w.alloc (.cells zeroC 31)).grownBy w2 (Value.slice none 0 0).ownBlock) :
    (w2.alloc (.cells #[.int .i64 n] 2)).ownsRow (w.heap.size + 1) 2 1 (.slice A2 L.length c2) L.length (L.map (Value.int .i64)) ∧ Blk (w2.alloc (.cells #[.int .i64 n] 2)) w.heap.size zeroC 31 ∧ Below w.heap.size w (w2.alloc (.cells #[.int .i64 n] 2)) ∧ w.heap.size + 1 ≤ (w2.alloc (.cells #[.int .i64 n] 2)).heap.size := by
  have hb : Below (w.alloc (.cells zeroC 31)).heap.size (w.alloc (.cells zeroC 31)) w2 := (Below.refl _ _).grown hg (Nat.le_refl _) (by simp [Value.ownBlock])
  have hsz := hb.size
  have ho : w2.ownsRow (w.heap.size + 1) 2 1 (.slice A2 L.length c2) L.length (L.map (Value.int .i64)) := by simpa using ho
  refine ⟨ho.alloc _, ((Blk.new w zeroC 31).belowS hb).alloc _, below_push (below_next (below_new w _) hb) _, by simp at hsz ⊢; omega⟩
theorem push_last {w w3 w4 : World} {v : Value} {L : List Value} {m : Nat} (hk : Blk w3 w.heap.size zeroC 31) (hb : Below w.heap.size w w3) (ho : w3.ownsRow (w.heap.size + 1) 2 1 v m L) (hg : w3.grownBy w4 v.ownBlock) :
    Below w.heap.size w w4 ∧ True ∧ (w4.frozen? ⟨w.heap.size, 0, none⟩ = false ∧ w4.frozen? ⟨w.heap.size, 1, none⟩ = false ∧ w4.frozen? ⟨w.heap.size, 2, none⟩ = false ∧ w4.frozen? ⟨w.heap.size, 3, none⟩ = false) ∧
    w4.cell? ⟨w.heap.size, 0, none⟩ = some (.int .i64 0) ∧ w4.cell? ⟨w.heap.size, 1, none⟩ = some (.int .i64 0) ∧ w4.cell? ⟨w.heap.size, 2, none⟩ = some (.string e0) ∧ w4.cell? ⟨w.heap.size, 3, none⟩ = some (.slice none 0 0) ∧ w.heap.size < w4.heap.size := by
  have hne : some w.heap.size ≠ v.ownBlock := fun q => by have := (ho.lt _ q.symm).1; omega
  have K := hk.grown hg hne
  exact ⟨hb.trans ((Kb.of_grown hg).below (fun i q => by have := (ho.lt _ q.symm).1; omega) hb.size), trivial, ⟨K.frozen 0, K.frozen 1, K.frozen 2, K.frozen 3⟩, K.cell 0, K.cell 1, K.cell 2, K.cell 3, K.lt⟩
theorem push_end {w w4 : World} {L : List Int} {n : Int} {A : Option Addr} {c : Nat} (hb : Below w.heap.size w w4) (ho : w4.ownsRow (w.heap.size + 1) 2 1 (.slice A (L.length + 1) c) (L.length + 1) (L.map (Value.int .i64) ++ [.int .i64 n])) :
    EvPost (some ⟨4, 0, e0, L ++ [n]⟩) w (.returned (.tuple #[.agg #[.int .i64 4, .int .i64 0, .string e0, .slice A (L.length + 1) c], .int .i64 0])) ((((w4.setCell ⟨w.heap.size, 0, none⟩ (.int .i64 4)).setCell ⟨w.heap.size, 1, none⟩ (.int .i64 0)).setCell ⟨w.heap.size, 2, none⟩ (.string e0)).setCell ⟨w.heap.size, 3, none⟩ (.slice A (L.length + 1) c)) := by
  have hk : Kb (fun j => j = w.heap.size) w4 ((((w4.setCell ⟨w.heap.size, 0, none⟩ (.int .i64 4)).setCell ⟨w.heap.size, 1, none⟩ (.int .i64 0)).setCell ⟨w.heap.size, 2, none⟩ (.string e0)).setCell ⟨w.heap.size, 3, none⟩ (.slice A (L.length + 1) c)) :=
    kb_put (kb_put (kb_put (kb_put (S := fun i => i = w.heap.size) (Kb.refl _ _) rfl _ _) rfl _ _) rfl _ _) rfl _ _
  have hr := own_rd ho
  have hsh := own_shape ho
  obtain ⟨A2, c2, e2, hc⟩ := hsh
  cases e2
  refine ⟨4, 0, e0, A, L.length + 1, c, 0, rfl, below_put4 hb (Nat.le_refl _) _ _ _ _, rfl, rfl, rfl, by simp, rfl, ?_, hc, fun _ b o e => ?_⟩
  · refine ints_kb (x := ⟨4, 0, e0, L ++ [n]⟩) (show Rd w4 A ((L ++ [n]).map (Value.int .i64)) by simpa using hr) hk fun _ b o e q => ?_
    have := own_base ho e
    simp at this
    omega
  · have := own_base ho e
    simp at this
    omega
set_option maxRecDepth 100000 in
set_option maxHeartbeats 8000000 in
theorem listed_push (L : List Int) (n : Int) (A : Option Addr) (c : Nat) (w : World) (h : Ints w A L) (hl : L.length ≤ 1000000) : Calls Tryz.prog 78 #[.int .i64 18, .slice A L.length c, .int .i64 n] w
    (EvPost (if 16 ≤ L.length then none else some ⟨4, 0, e0, L ++ [n]⟩) w) := by
  by_cases h1 : 16 ≤ L.length
  · rw [if_pos h1]
    have e1 : decide (16 ≤ L.length) = true := decide_eq_true h1
    go_enter Tryz.func78, Tryz.ntmps78
    go_wp2_with fail
    refine bodyPost_ret (v := .tuple #[.agg #[.int .i64 0, .int .i64 0, .string e0, .slice none 0 0], .int .i64 405]) (by simp [results, Tryz.results78, go_sem, e0]) rfl (ev_err 405 rfl rfl (by decide) (below_new _ _))
  · rw [if_neg h1]
    have e1 : decide (16 ≤ L.length) = false := decide_eq_false h1
    obtain ⟨i0, hi0, hz0, hz1, hz2⟩ := info_parts infoI64
    have HR := Lib.hid (show Rd (w.alloc (.cells zeroC 31)) A (L.map (Value.int .i64)) from Rd.alloc h _)
    have HK := Lib.hid (Blk.new w zeroC 31)
    clear h
    go_enter Tryz.func78, Tryz.ntmps78
    go_wp2_with (first
      | (at_builtin; refine wpList_app _ rfl _ _ _ rfl (w.heap.size + 1) 2 i0 _ 1 8 Tryz.underlying29 hi0 hz0 hz1 hz2 rfl (by omega) (.slice none 0 0) 0 [] rfl (World.ownsRow_nil _ _ _ _) A L.length c (L.map (Value.int .i64)) rfl HR.out (by simp) (by simp [Value.oneCell']) (by omega) (by unfold maxLen; omega) (by simp) ?_; intro A2 c2 w2 hle2 hown2 hg2 hat2; obtain ⟨hp1, hp2, hp3, hp4⟩ := push_mid n hown2 hg2; have HO := Lib.hid hp1; have HK2 := Lib.hid hp2; have HB2 := Lib.hid hp3; have HS2 := Lib.hid hp4; have HR2 := Lib.hid (Blk.new w2 #[.int .i64 n] 2).rd; clear hown2 hg2 hat2 hle2 hp1 hp2 hp3 hp4)
      | (at_builtin; refine wpList_app _ rfl _ _ _ rfl (w.heap.size + 1) 2 i0 _ 1 8 Tryz.underlying29 hi0 hz0 hz1 hz2 rfl (by omega) _ L.length (L.map (Value.int .i64)) rfl HO.out (some ⟨_, 0, none⟩) 1 1 [.int .i64 n] rfl HR2.out rfl (by simp [Value.oneCell']) (by omega) (by unfold maxLen; omega) HS2.out ?_; intro A4 c4 w4 hle4 hown4 hg4 hat4; obtain ⟨hq1, hq2, ⟨f0, f1, f2, f3⟩, k0, k1, k2, k3, hz⟩ := push_last HK2.out HB2.out HO.out hg4; have HE := Lib.hid (push_end hq1 hown4); clear hown4 hg4 hat4 hle4 hq1 hq2))
    refine bodyPost_ret (v := .tuple #[.agg #[.int .i64 4, .int .i64 0, .string e0, .slice A4 (L.length + 1) c4], .int .i64 0]) (by simp [results, Tryz.results78, go_sem, e0, k0, k1, k2, k3]) rfl HE.out
end Go.Proofs.YtbemdcbglpjmiaaGreatDoor
namespace Go.Proofs.YtbemdcbglpjmiaaGreatDoor
open Go.RowKit

/-- The world behind the head of two, ahead of the result's cell. -/
abbrev twW (w : World) (k : Int) (nm : ByteArray) (n : Int) (tx : ByteArray) (l r : Int) (ak an : Int) (sa : ByteArray) (A : Option Addr) (m c : Nat) (bk bn : Int) (sb : ByteArray) (B : Option Addr) (p d : Nat) : World :=
  (onW w k nm n tx l r ak an sa A m c).alloc (.cells (vlC bk bn sb B p d) 31)
theorem tw_below (w : World) (o1 o2 o3 o4 : Obj) : Below w.heap.size w ((((w.alloc o1).alloc o2).alloc o3).alloc o4) := below_push (below_push (below_push (below_new _ _) _) _) _
set_option maxRecDepth 100000 in
set_option maxHeartbeats 8000000 in
theorem tw6_no (nm : ByteArray) (n : Int) (tx : ByteArray) (l r : Int) (ak an bk bn : Int) (sa sb : ByteArray) (hn : ¬ (ak = 1 ∧ bk = 1)) (A : Option Addr) (m c : Nat) (B : Option Addr) (p d : Nat) (w : World) : Calls Tryz.prog 52 #[.agg (tmC 6 nm n tx l r), .agg (vlC ak an sa A m c), .agg (vlC bk bn sb B p d)] w (EvPost none w) := by
  by_cases h1 : ak = 1
  · subst h1
    have e2 : (bk == 1) = false := by simpa using fun h => hn ⟨rfl, h⟩
    go_enter Tryz.func52, Tryz.ntmps52
    go_wp2_with fail
    refine bodyPost_ret (v := .tuple #[.agg #[.int .i64 0, .int .i64 0, .string e0, .slice none 0 0], .int .i64 402]) (by simp [results, Tryz.results52, go_sem, e0]) rfl (ev_err 402 rfl rfl (by decide) (tw_below w _ _ _ _))
  · have e1 : (ak == 1) = false := by simpa using h1
    go_enter Tryz.func52, Tryz.ntmps52
    go_wp2_with fail
    refine bodyPost_ret (v := .tuple #[.agg #[.int .i64 0, .int .i64 0, .string e0, .slice none 0 0], .int .i64 402]) (by simp [results, Tryz.results52, go_sem, e0]) rfl (ev_err 402 rfl rfl (by decide) (tw_below w _ _ _ _))
set_option maxRecDepth 100000 in
set_option maxHeartbeats 8000000 in
theorem tw6_yes (nm : ByteArray) (n : Int) (tx : ByteArray) (l r : Int) (an bn : Int) (sa sb : ByteArray) (A : Option Addr) (m c : Nat) (B : Option Addr) (p d : Nat) (w : World) : Calls Tryz.prog 52 #[.agg (tmC 6 nm n tx l r), .agg (vlC 1 an sa A m c), .agg (vlC 1 bn sb B p d)] w (EvPost (numV 6 an bn) w) := by
  have CN := Lib.hid (fun w => rnumbers_any 6 an bn (by decide) w)
  go_enter Tryz.func52, Tryz.ntmps52
  go_wp2_with fail
  refine (CN.out _).mono ?_
  rintro e w1 ⟨i0, i1, s, Q, m', c', k, rfl, hb1, hi⟩
  obtain ⟨⟨f0, f1, f2, f3⟩, k0, k1, k2, k3, hz⟩ := zf (W := (twW w (6) nm n tx l r (1) (an) sa A m c (1) (bn) sb B p d)) (n := w.heap.size + 1 + 1 + 1) (by simp) hb1
  have HI := Lib.hid hi
  have HB1 := Lib.hid hb1
  clear hi hb1
  go_wp2_with fail
  refine bodyPost_ret (v := .tuple #[.agg #[.int .i64 i0, .int .i64 i1, .string s, .slice Q m' c'], .int .i64 k]) (by simp [results, Tryz.results52, go_sem, k0, k1, k2, k3]) rfl ?_
  exact ev_pass (tw_below w _ _ _ _) HB1.out HI.out (by omega) (by simp)
set_option maxRecDepth 100000 in
set_option maxHeartbeats 8000000 in
theorem tw7_no (nm : ByteArray) (n : Int) (tx : ByteArray) (l r : Int) (ak an bk bn : Int) (sa sb : ByteArray) (hn : ¬ (ak = 1 ∧ bk = 1)) (A : Option Addr) (m c : Nat) (B : Option Addr) (p d : Nat) (w : World) : Calls Tryz.prog 52 #[.agg (tmC 7 nm n tx l r), .agg (vlC ak an sa A m c), .agg (vlC bk bn sb B p d)] w (EvPost none w) := by
  by_cases h1 : ak = 1
  · subst h1
    have e2 : (bk == 1) = false := by simpa using fun h => hn ⟨rfl, h⟩
    go_enter Tryz.func52, Tryz.ntmps52
    go_wp2_with fail
    refine bodyPost_ret (v := .tuple #[.agg #[.int .i64 0, .int .i64 0, .string e0, .slice none 0 0], .int .i64 402]) (by simp [results, Tryz.results52, go_sem, e0]) rfl (ev_err 402 rfl rfl (by decide) (tw_below w _ _ _ _))
  · have e1 : (ak == 1) = false := by simpa using h1
    go_enter Tryz.func52, Tryz.ntmps52
    go_wp2_with fail
    refine bodyPost_ret (v := .tuple #[.agg #[.int .i64 0, .int .i64 0, .string e0, .slice none 0 0], .int .i64 402]) (by simp [results, Tryz.results52, go_sem, e0]) rfl (ev_err 402 rfl rfl (by decide) (tw_below w _ _ _ _))
set_option maxRecDepth 100000 in
set_option maxHeartbeats 8000000 in
theorem tw7_yes (nm : ByteArray) (n : Int) (tx : ByteArray) (l r : Int) (an bn : Int) (sa sb : ByteArray) (A : Option Addr) (m c : Nat) (B : Option Addr) (p d : Nat) (w : World) : Calls Tryz.prog 52 #[.agg (tmC 7 nm n tx l r), .agg (vlC 1 an sa A m c), .agg (vlC 1 bn sb B p d)] w (EvPost (numV 7 an bn) w) := by
  have CN := Lib.hid (fun w => rnumbers_any 7 an bn (by decide) w)
  go_enter Tryz.func52, Tryz.ntmps52
  go_wp2_with fail
  refine (CN.out _).mono ?_
  rintro e w1 ⟨i0, i1, s, Q, m', c', k, rfl, hb1, hi⟩
  obtain ⟨⟨f0, f1, f2, f3⟩, k0, k1, k2, k3, hz⟩ := zf (W := (twW w (7) nm n tx l r (1) (an) sa A m c (1) (bn) sb B p d)) (n := w.heap.size + 1 + 1 + 1) (by simp) hb1
  have HI := Lib.hid hi
  have HB1 := Lib.hid hb1
  clear hi hb1
  go_wp2_with fail
  refine bodyPost_ret (v := .tuple #[.agg #[.int .i64 i0, .int .i64 i1, .string s, .slice Q m' c'], .int .i64 k]) (by simp [results, Tryz.results52, go_sem, k0, k1, k2, k3]) rfl ?_
  exact ev_pass (tw_below w _ _ _ _) HB1.out HI.out (by omega) (by simp)
set_option maxRecDepth 100000 in
set_option maxHeartbeats 8000000 in
theorem tw8_no (nm : ByteArray) (n : Int) (tx : ByteArray) (l r : Int) (ak an bk bn : Int) (sa sb : ByteArray) (hn : ¬ (ak = 1 ∧ bk = 1)) (A : Option Addr) (m c : Nat) (B : Option Addr) (p d : Nat) (w : World) : Calls Tryz.prog 52 #[.agg (tmC 8 nm n tx l r), .agg (vlC ak an sa A m c), .agg (vlC bk bn sb B p d)] w (EvPost none w) := by
  by_cases h1 : ak = 1
  · subst h1
    have e2 : (bk == 1) = false := by simpa using fun h => hn ⟨rfl, h⟩
    go_enter Tryz.func52, Tryz.ntmps52
    go_wp2_with fail
    refine bodyPost_ret (v := .tuple #[.agg #[.int .i64 0, .int .i64 0, .string e0, .slice none 0 0], .int .i64 402]) (by simp [results, Tryz.results52, go_sem, e0]) rfl (ev_err 402 rfl rfl (by decide) (tw_below w _ _ _ _))
  · have e1 : (ak == 1) = false := by simpa using h1
    go_enter Tryz.func52, Tryz.ntmps52
    go_wp2_with fail
    refine bodyPost_ret (v := .tuple #[.agg #[.int .i64 0, .int .i64 0, .string e0, .slice none 0 0], .int .i64 402]) (by simp [results, Tryz.results52, go_sem, e0]) rfl (ev_err 402 rfl rfl (by decide) (tw_below w _ _ _ _))
set_option maxRecDepth 100000 in
set_option maxHeartbeats 8000000 in
theorem tw8_yes (nm : ByteArray) (n : Int) (tx : ByteArray) (l r : Int) (an bn : Int) (sa sb : ByteArray) (A : Option Addr) (m c : Nat) (B : Option Addr) (p d : Nat) (w : World) : Calls Tryz.prog 52 #[.agg (tmC 8 nm n tx l r), .agg (vlC 1 an sa A m c), .agg (vlC 1 bn sb B p d)] w (EvPost (numV 8 an bn) w) := by
  have CN := Lib.hid (fun w => rnumbers_any 8 an bn (by decide) w)
  go_enter Tryz.func52, Tryz.ntmps52
  go_wp2_with fail
  refine (CN.out _).mono ?_
  rintro e w1 ⟨i0, i1, s, Q, m', c', k, rfl, hb1, hi⟩
  obtain ⟨⟨f0, f1, f2, f3⟩, k0, k1, k2, k3, hz⟩ := zf (W := (twW w (8) nm n tx l r (1) (an) sa A m c (1) (bn) sb B p d)) (n := w.heap.size + 1 + 1 + 1) (by simp) hb1
  have HI := Lib.hid hi
  have HB1 := Lib.hid hb1
  clear hi hb1
  go_wp2_with fail
  refine bodyPost_ret (v := .tuple #[.agg #[.int .i64 i0, .int .i64 i1, .string s, .slice Q m' c'], .int .i64 k]) (by simp [results, Tryz.results52, go_sem, k0, k1, k2, k3]) rfl ?_
  exact ev_pass (tw_below w _ _ _ _) HB1.out HI.out (by omega) (by simp)
set_option maxRecDepth 100000 in
set_option maxHeartbeats 8000000 in
theorem tw9_no (nm : ByteArray) (n : Int) (tx : ByteArray) (l r : Int) (ak an bk bn : Int) (sa sb : ByteArray) (hn : ¬ (ak = 1 ∧ bk = 1)) (A : Option Addr) (m c : Nat) (B : Option Addr) (p d : Nat) (w : World) : Calls Tryz.prog 52 #[.agg (tmC 9 nm n tx l r), .agg (vlC ak an sa A m c), .agg (vlC bk bn sb B p d)] w (EvPost none w) := by
  by_cases h1 : ak = 1
  · subst h1
    have e2 : (bk == 1) = false := by simpa using fun h => hn ⟨rfl, h⟩
    go_enter Tryz.func52, Tryz.ntmps52
    go_wp2_with fail
    refine bodyPost_ret (v := .tuple #[.agg #[.int .i64 0, .int .i64 0, .string e0, .slice none 0 0], .int .i64 402]) (by simp [results, Tryz.results52, go_sem, e0]) rfl (ev_err 402 rfl rfl (by decide) (tw_below w _ _ _ _))
  · have e1 : (ak == 1) = false := by simpa using h1
    go_enter Tryz.func52, Tryz.ntmps52
    go_wp2_with fail
    refine bodyPost_ret (v := .tuple #[.agg #[.int .i64 0, .int .i64 0, .string e0, .slice none 0 0], .int .i64 402]) (by simp [results, Tryz.results52, go_sem, e0]) rfl (ev_err 402 rfl rfl (by decide) (tw_below w _ _ _ _))
set_option maxRecDepth 100000 in
set_option maxHeartbeats 8000000 in
theorem tw9_yes (nm : ByteArray) (n : Int) (tx : ByteArray) (l r : Int) (an bn : Int) (sa sb : ByteArray) (A : Option Addr) (m c : Nat) (B : Option Addr) (p d : Nat) (w : World) : Calls Tryz.prog 52 #[.agg (tmC 9 nm n tx l r), .agg (vlC 1 an sa A m c), .agg (vlC 1 bn sb B p d)] w (EvPost (numV 9 an bn) w) := by
  have CN := Lib.hid (fun w => rnumbers_any 9 an bn (by decide) w)
  go_enter Tryz.func52, Tryz.ntmps52
  go_wp2_with fail
  refine (CN.out _).mono ?_
  rintro e w1 ⟨i0, i1, s, Q, m', c', k, rfl, hb1, hi⟩
  obtain ⟨⟨f0, f1, f2, f3⟩, k0, k1, k2, k3, hz⟩ := zf (W := (twW w (9) nm n tx l r (1) (an) sa A m c (1) (bn) sb B p d)) (n := w.heap.size + 1 + 1 + 1) (by simp) hb1
  have HI := Lib.hid hi
  have HB1 := Lib.hid hb1
  clear hi hb1
  go_wp2_with fail
  refine bodyPost_ret (v := .tuple #[.agg #[.int .i64 i0, .int .i64 i1, .string s, .slice Q m' c'], .int .i64 k]) (by simp [results, Tryz.results52, go_sem, k0, k1, k2, k3]) rfl ?_
  exact ev_pass (tw_below w _ _ _ _) HB1.out HI.out (by omega) (by simp)
set_option maxRecDepth 100000 in
set_option maxHeartbeats 8000000 in
theorem tw10_no (nm : ByteArray) (n : Int) (tx : ByteArray) (l r : Int) (ak an bk bn : Int) (sa sb : ByteArray) (hn : ¬ (ak = 1 ∧ bk = 1)) (A : Option Addr) (m c : Nat) (B : Option Addr) (p d : Nat) (w : World) : Calls Tryz.prog 52 #[.agg (tmC 10 nm n tx l r), .agg (vlC ak an sa A m c), .agg (vlC bk bn sb B p d)] w (EvPost none w) := by
  by_cases h1 : ak = 1
  · subst h1
    have e2 : (bk == 1) = false := by simpa using fun h => hn ⟨rfl, h⟩
    go_enter Tryz.func52, Tryz.ntmps52
    go_wp2_with fail
    refine bodyPost_ret (v := .tuple #[.agg #[.int .i64 0, .int .i64 0, .string e0, .slice none 0 0], .int .i64 402]) (by simp [results, Tryz.results52, go_sem, e0]) rfl (ev_err 402 rfl rfl (by decide) (tw_below w _ _ _ _))
  · have e1 : (ak == 1) = false := by simpa using h1
    go_enter Tryz.func52, Tryz.ntmps52
    go_wp2_with fail
    refine bodyPost_ret (v := .tuple #[.agg #[.int .i64 0, .int .i64 0, .string e0, .slice none 0 0], .int .i64 402]) (by simp [results, Tryz.results52, go_sem, e0]) rfl (ev_err 402 rfl rfl (by decide) (tw_below w _ _ _ _))
set_option maxRecDepth 100000 in
set_option maxHeartbeats 8000000 in
theorem tw10_yes (nm : ByteArray) (n : Int) (tx : ByteArray) (l r : Int) (an bn : Int) (sa sb : ByteArray) (A : Option Addr) (m c : Nat) (B : Option Addr) (p d : Nat) (w : World) : Calls Tryz.prog 52 #[.agg (tmC 10 nm n tx l r), .agg (vlC 1 an sa A m c), .agg (vlC 1 bn sb B p d)] w (EvPost (numV 10 an bn) w) := by
  have CN := Lib.hid (fun w => rnumbers_any 10 an bn (by decide) w)
  go_enter Tryz.func52, Tryz.ntmps52
  go_wp2_with fail
  refine (CN.out _).mono ?_
  rintro e w1 ⟨i0, i1, s, Q, m', c', k, rfl, hb1, hi⟩
  obtain ⟨⟨f0, f1, f2, f3⟩, k0, k1, k2, k3, hz⟩ := zf (W := (twW w (10) nm n tx l r (1) (an) sa A m c (1) (bn) sb B p d)) (n := w.heap.size + 1 + 1 + 1) (by simp) hb1
  have HI := Lib.hid hi
  have HB1 := Lib.hid hb1
  clear hi hb1
  go_wp2_with fail
  refine bodyPost_ret (v := .tuple #[.agg #[.int .i64 i0, .int .i64 i1, .string s, .slice Q m' c'], .int .i64 k]) (by simp [results, Tryz.results52, go_sem, k0, k1, k2, k3]) rfl ?_
  exact ev_pass (tw_below w _ _ _ _) HB1.out HI.out (by omega) (by simp)
set_option maxRecDepth 100000 in
set_option maxHeartbeats 8000000 in
theorem tw12_no (nm : ByteArray) (n : Int) (tx : ByteArray) (l r : Int) (ak an bk bn : Int) (sa sb : ByteArray) (hn : ¬ (ak = 1 ∧ bk = 1)) (A : Option Addr) (m c : Nat) (B : Option Addr) (p d : Nat) (w : World) : Calls Tryz.prog 52 #[.agg (tmC 12 nm n tx l r), .agg (vlC ak an sa A m c), .agg (vlC bk bn sb B p d)] w (EvPost none w) := by
  by_cases h1 : ak = 1
  · subst h1
    have e2 : (bk == 1) = false := by simpa using fun h => hn ⟨rfl, h⟩
    go_enter Tryz.func52, Tryz.ntmps52
    go_wp2_with fail
    refine bodyPost_ret (v := .tuple #[.agg #[.int .i64 0, .int .i64 0, .string e0, .slice none 0 0], .int .i64 402]) (by simp [results, Tryz.results52, go_sem, e0]) rfl (ev_err 402 rfl rfl (by decide) (tw_below w _ _ _ _))
  · have e1 : (ak == 1) = false := by simpa using h1
    go_enter Tryz.func52, Tryz.ntmps52
    go_wp2_with fail
    refine bodyPost_ret (v := .tuple #[.agg #[.int .i64 0, .int .i64 0, .string e0, .slice none 0 0], .int .i64 402]) (by simp [results, Tryz.results52, go_sem, e0]) rfl (ev_err 402 rfl rfl (by decide) (tw_below w _ _ _ _))
set_option maxRecDepth 100000 in
set_option maxHeartbeats 8000000 in
theorem tw12_yes (nm : ByteArray) (n : Int) (tx : ByteArray) (l r : Int) (an bn : Int) (sa sb : ByteArray) (A : Option Addr) (m c : Nat) (B : Option Addr) (p d : Nat) (w : World) : Calls Tryz.prog 52 #[.agg (tmC 12 nm n tx l r), .agg (vlC 1 an sa A m c), .agg (vlC 1 bn sb B p d)] w (EvPost (numV 12 an bn) w) := by
  have CN := Lib.hid (fun w => rnumbers_any 12 an bn (by decide) w)
  go_enter Tryz.func52, Tryz.ntmps52
  go_wp2_with fail
  refine (CN.out _).mono ?_
  rintro e w1 ⟨i0, i1, s, Q, m', c', k, rfl, hb1, hi⟩
  obtain ⟨⟨f0, f1, f2, f3⟩, k0, k1, k2, k3, hz⟩ := zf (W := (twW w (12) nm n tx l r (1) (an) sa A m c (1) (bn) sb B p d)) (n := w.heap.size + 1 + 1 + 1) (by simp) hb1
  have HI := Lib.hid hi
  have HB1 := Lib.hid hb1
  clear hi hb1
  go_wp2_with fail
  refine bodyPost_ret (v := .tuple #[.agg #[.int .i64 i0, .int .i64 i1, .string s, .slice Q m' c'], .int .i64 k]) (by simp [results, Tryz.results52, go_sem, k0, k1, k2, k3]) rfl ?_
  exact ev_pass (tw_below w _ _ _ _) HB1.out HI.out (by omega) (by simp)
set_option maxRecDepth 100000 in
set_option maxHeartbeats 8000000 in
theorem tw11_no (nm : ByteArray) (n : Int) (tx : ByteArray) (l r : Int) (ak an bk bn : Int) (sa sb : ByteArray) (hn : ak ≠ bk ∨ ak = 5) (A : Option Addr) (m c : Nat) (B : Option Addr) (p d : Nat) (w : World) : Calls Tryz.prog 52 #[.agg (tmC 11 nm n tx l r), .agg (vlC ak an sa A m c), .agg (vlC bk bn sb B p d)] w (EvPost none w) := by
  by_cases h1 : ak = bk
  · subst h1
    obtain rfl : ak = 5 := by
      rcases hn with h | h
      · exact absurd rfl h
      · exact h
    go_enter Tryz.func52, Tryz.ntmps52
    go_wp2_with fail
    refine bodyPost_ret (v := .tuple #[.agg #[.int .i64 0, .int .i64 0, .string e0, .slice none 0 0], .int .i64 402]) (by simp [results, Tryz.results52, go_sem, e0]) rfl (ev_err 402 rfl rfl (by decide) (tw_below w _ _ _ _))
  · have e1 : (ak == bk) = false := by simpa using h1
    go_enter Tryz.func52, Tryz.ntmps52
    go_wp2_with fail
    refine bodyPost_ret (v := .tuple #[.agg #[.int .i64 0, .int .i64 0, .string e0, .slice none 0 0], .int .i64 402]) (by simp [results, Tryz.results52, go_sem, e0]) rfl (ev_err 402 rfl rfl (by decide) (tw_below w _ _ _ _))
set_option maxRecDepth 100000 in
set_option maxHeartbeats 8000000 in
theorem tw13_no (nm : ByteArray) (n : Int) (tx : ByteArray) (l r : Int) (ak an bk bn : Int) (sa sb : ByteArray) (hn : ¬ (ak = 2 ∧ bk = 2)) (A : Option Addr) (m c : Nat) (B : Option Addr) (p d : Nat) (w : World) : Calls Tryz.prog 52 #[.agg (tmC 13 nm n tx l r), .agg (vlC ak an sa A m c), .agg (vlC bk bn sb B p d)] w (EvPost none w) := by
  by_cases h1 : ak = 2
  · subst h1
    have e2 : (bk == 2) = false := by simpa using fun h => hn ⟨rfl, h⟩
    go_enter Tryz.func52, Tryz.ntmps52
    go_wp2_with fail
    refine bodyPost_ret (v := .tuple #[.agg #[.int .i64 0, .int .i64 0, .string e0, .slice none 0 0], .int .i64 402]) (by simp [results, Tryz.results52, go_sem, e0]) rfl (ev_err 402 rfl rfl (by decide) (tw_below w _ _ _ _))
  · have e1 : (ak == 2) = false := by simpa using h1
    go_enter Tryz.func52, Tryz.ntmps52
    go_wp2_with fail
    refine bodyPost_ret (v := .tuple #[.agg #[.int .i64 0, .int .i64 0, .string e0, .slice none 0 0], .int .i64 402]) (by simp [results, Tryz.results52, go_sem, e0]) rfl (ev_err 402 rfl rfl (by decide) (tw_below w _ _ _ _))
set_option maxRecDepth 100000 in
set_option maxHeartbeats 8000000 in
theorem tw13_yes (nm : ByteArray) (n : Int) (tx : ByteArray) (l r : Int) (an bn : Int) (sa sb : ByteArray) (ha : an = 0 ∨ an = 1) (hb : bn = 0 ∨ bn = 1) (A : Option Addr) (m c : Nat) (B : Option Addr) (p d : Nat) (w : World) : Calls Tryz.prog 52 #[.agg (tmC 13 nm n tx l r), .agg (vlC 2 an sa A m c), .agg (vlC 2 bn sb B p d)] w (EvPost (twoV 13 ⟨2, an, sa, []⟩ ⟨2, bn, sb, []⟩) w) := by
  have CT := Lib.hid (fun b w => rtruth_any b w)
  rcases ha with rfl | rfl
  · rcases hb with rfl | rfl
    · go_enter Tryz.func52, Tryz.ntmps52
      go_wp2_with fail
      refine (CT.out false _).mono ?_
      rintro e w1 ⟨rfl, hb1⟩
      obtain ⟨⟨f0, f1, f2, f3⟩, k0, k1, k2, k3, hz⟩ := zf (W := (twW w (13) nm n tx l r (2) (0) sa A m c (2) (0) sb B p d)) (n := w.heap.size + 1 + 1 + 1) (by simp) hb1
      have B1 := Lib.hid (below_next (tw_below w _ _ _ _) hb1)
      clear hb1
      go_wp2_with fail
      refine bodyPost_ret (v := .tuple #[(tru false).val none 0, .int .i64 0]) (by simp [results, Tryz.results52, go_sem, e0, tru, Vl.val, k0, k1, k2, k3]) rfl (ev_one (x := tru false) (by simp [twoV]) rfl rfl (below_put4 B1.out (by omega) _ _ _ _))
    · go_enter Tryz.func52, Tryz.ntmps52
      go_wp2_with fail
      refine (CT.out false _).mono ?_
      rintro e w1 ⟨rfl, hb1⟩
      obtain ⟨⟨f0, f1, f2, f3⟩, k0, k1, k2, k3, hz⟩ := zf (W := (twW w (13) nm n tx l r (2) (0) sa A m c (2) (1) sb B p d)) (n := w.heap.size + 1 + 1 + 1) (by simp) hb1
      have B1 := Lib.hid (below_next (tw_below w _ _ _ _) hb1)
      clear hb1
      go_wp2_with fail
      refine bodyPost_ret (v := .tuple #[(tru false).val none 0, .int .i64 0]) (by simp [results, Tryz.results52, go_sem, e0, tru, Vl.val, k0, k1, k2, k3]) rfl (ev_one (x := tru false) (by simp [twoV]) rfl rfl (below_put4 B1.out (by omega) _ _ _ _))
  · rcases hb with rfl | rfl
    · go_enter Tryz.func52, Tryz.ntmps52
      go_wp2_with fail
      refine (CT.out false _).mono ?_
      rintro e w1 ⟨rfl, hb1⟩
      obtain ⟨⟨f0, f1, f2, f3⟩, k0, k1, k2, k3, hz⟩ := zf (W := (twW w (13) nm n tx l r (2) (1) sa A m c (2) (0) sb B p d)) (n := w.heap.size + 1 + 1 + 1) (by simp) hb1
      have B1 := Lib.hid (below_next (tw_below w _ _ _ _) hb1)
      clear hb1
      go_wp2_with fail
      refine bodyPost_ret (v := .tuple #[(tru false).val none 0, .int .i64 0]) (by simp [results, Tryz.results52, go_sem, e0, tru, Vl.val, k0, k1, k2, k3]) rfl (ev_one (x := tru false) (by simp [twoV]) rfl rfl (below_put4 B1.out (by omega) _ _ _ _))
    · go_enter Tryz.func52, Tryz.ntmps52
      go_wp2_with fail
      refine (CT.out true _).mono ?_
      rintro e w1 ⟨rfl, hb1⟩
      obtain ⟨⟨f0, f1, f2, f3⟩, k0, k1, k2, k3, hz⟩ := zf (W := (twW w (13) nm n tx l r (2) (1) sa A m c (2) (1) sb B p d)) (n := w.heap.size + 1 + 1 + 1) (by simp) hb1
      have B1 := Lib.hid (below_next (tw_below w _ _ _ _) hb1)
      clear hb1
      go_wp2_with fail
      refine bodyPost_ret (v := .tuple #[(tru true).val none 0, .int .i64 0]) (by simp [results, Tryz.results52, go_sem, e0, tru, Vl.val, k0, k1, k2, k3]) rfl (ev_one (x := tru true) (by simp [twoV]) rfl rfl (below_put4 B1.out (by omega) _ _ _ _))
set_option maxRecDepth 100000 in
set_option maxHeartbeats 8000000 in
theorem tw14_no (nm : ByteArray) (n : Int) (tx : ByteArray) (l r : Int) (ak an bk bn : Int) (sa sb : ByteArray) (hn : ¬ (ak = 2 ∧ bk = 2)) (A : Option Addr) (m c : Nat) (B : Option Addr) (p d : Nat) (w : World) : Calls Tryz.prog 52 #[.agg (tmC 14 nm n tx l r), .agg (vlC ak an sa A m c), .agg (vlC bk bn sb B p d)] w (EvPost none w) := by
  by_cases h1 : ak = 2
  · subst h1
    have e2 : (bk == 2) = false := by simpa using fun h => hn ⟨rfl, h⟩
    go_enter Tryz.func52, Tryz.ntmps52
    go_wp2_with fail
    refine bodyPost_ret (v := .tuple #[.agg #[.int .i64 0, .int .i64 0, .string e0, .slice none 0 0], .int .i64 402]) (by simp [results, Tryz.results52, go_sem, e0]) rfl (ev_err 402 rfl rfl (by decide) (tw_below w _ _ _ _))
  · have e1 : (ak == 2) = false := by simpa using h1
    go_enter Tryz.func52, Tryz.ntmps52
    go_wp2_with fail
    refine bodyPost_ret (v := .tuple #[.agg #[.int .i64 0, .int .i64 0, .string e0, .slice none 0 0], .int .i64 402]) (by simp [results, Tryz.results52, go_sem, e0]) rfl (ev_err 402 rfl rfl (by decide) (tw_below w _ _ _ _))
set_option maxRecDepth 100000 in
set_option maxHeartbeats 8000000 in
theorem tw14_yes (nm : ByteArray) (n : Int) (tx : ByteArray) (l r : Int) (an bn : Int) (sa sb : ByteArray) (ha : an = 0 ∨ an = 1) (hb : bn = 0 ∨ bn = 1) (A : Option Addr) (m c : Nat) (B : Option Addr) (p d : Nat) (w : World) : Calls Tryz.prog 52 #[.agg (tmC 14 nm n tx l r), .agg (vlC 2 an sa A m c), .agg (vlC 2 bn sb B p d)] w (EvPost (twoV 14 ⟨2, an, sa, []⟩ ⟨2, bn, sb, []⟩) w) := by
  have CT := Lib.hid (fun b w => rtruth_any b w)
  rcases ha with rfl | rfl
  · rcases hb with rfl | rfl
    · go_enter Tryz.func52, Tryz.ntmps52
      go_wp2_with fail
      refine (CT.out false _).mono ?_
      rintro e w1 ⟨rfl, hb1⟩
      obtain ⟨⟨f0, f1, f2, f3⟩, k0, k1, k2, k3, hz⟩ := zf (W := (twW w (14) nm n tx l r (2) (0) sa A m c (2) (0) sb B p d)) (n := w.heap.size + 1 + 1 + 1) (by simp) hb1
      have B1 := Lib.hid (below_next (tw_below w _ _ _ _) hb1)
      clear hb1
      go_wp2_with fail
      refine bodyPost_ret (v := .tuple #[(tru false).val none 0, .int .i64 0]) (by simp [results, Tryz.results52, go_sem, e0, tru, Vl.val, k0, k1, k2, k3]) rfl (ev_one (x := tru false) (by simp [twoV]) rfl rfl (below_put4 B1.out (by omega) _ _ _ _))
    · go_enter Tryz.func52, Tryz.ntmps52
      go_wp2_with fail
      refine (CT.out true _).mono ?_
      rintro e w1 ⟨rfl, hb1⟩
      obtain ⟨⟨f0, f1, f2, f3⟩, k0, k1, k2, k3, hz⟩ := zf (W := (twW w (14) nm n tx l r (2) (0) sa A m c (2) (1) sb B p d)) (n := w.heap.size + 1 + 1 + 1) (by simp) hb1
      have B1 := Lib.hid (below_next (tw_below w _ _ _ _) hb1)
      clear hb1
      go_wp2_with fail
      refine bodyPost_ret (v := .tuple #[(tru true).val none 0, .int .i64 0]) (by simp [results, Tryz.results52, go_sem, e0, tru, Vl.val, k0, k1, k2, k3]) rfl (ev_one (x := tru true) (by simp [twoV]) rfl rfl (below_put4 B1.out (by omega) _ _ _ _))
  · rcases hb with rfl | rfl
    · go_enter Tryz.func52, Tryz.ntmps52
      go_wp2_with fail
      refine (CT.out true _).mono ?_
      rintro e w1 ⟨rfl, hb1⟩
      obtain ⟨⟨f0, f1, f2, f3⟩, k0, k1, k2, k3, hz⟩ := zf (W := (twW w (14) nm n tx l r (2) (1) sa A m c (2) (0) sb B p d)) (n := w.heap.size + 1 + 1 + 1) (by simp) hb1
      have B1 := Lib.hid (below_next (tw_below w _ _ _ _) hb1)
      clear hb1
      go_wp2_with fail
      refine bodyPost_ret (v := .tuple #[(tru true).val none 0, .int .i64 0]) (by simp [results, Tryz.results52, go_sem, e0, tru, Vl.val, k0, k1, k2, k3]) rfl (ev_one (x := tru true) (by simp [twoV]) rfl rfl (below_put4 B1.out (by omega) _ _ _ _))
    · go_enter Tryz.func52, Tryz.ntmps52
      go_wp2_with fail
      refine (CT.out true _).mono ?_
      rintro e w1 ⟨rfl, hb1⟩
      obtain ⟨⟨f0, f1, f2, f3⟩, k0, k1, k2, k3, hz⟩ := zf (W := (twW w (14) nm n tx l r (2) (1) sa A m c (2) (1) sb B p d)) (n := w.heap.size + 1 + 1 + 1) (by simp) hb1
      have B1 := Lib.hid (below_next (tw_below w _ _ _ _) hb1)
      clear hb1
      go_wp2_with fail
      refine bodyPost_ret (v := .tuple #[(tru true).val none 0, .int .i64 0]) (by simp [results, Tryz.results52, go_sem, e0, tru, Vl.val, k0, k1, k2, k3]) rfl (ev_one (x := tru true) (by simp [twoV]) rfl rfl (below_put4 B1.out (by omega) _ _ _ _))
set_option maxRecDepth 100000 in
set_option maxHeartbeats 8000000 in
theorem tw17_no (nm : ByteArray) (n : Int) (tx : ByteArray) (l r : Int) (ak an bk bn : Int) (sa sb : ByteArray) (hn : ¬ (ak = 4 ∧ bk = 1)) (A : Option Addr) (m c : Nat) (B : Option Addr) (p d : Nat) (w : World) : Calls Tryz.prog 52 #[.agg (tmC 17 nm n tx l r), .agg (vlC ak an sa A m c), .agg (vlC bk bn sb B p d)] w (EvPost none w) := by
  by_cases h1 : ak = 4
  · subst h1
    have e2 : (bk == 1) = false := by simpa using fun h => hn ⟨rfl, h⟩
    go_enter Tryz.func52, Tryz.ntmps52
    go_wp2_with fail
    refine bodyPost_ret (v := .tuple #[.agg #[.int .i64 0, .int .i64 0, .string e0, .slice none 0 0], .int .i64 402]) (by simp [results, Tryz.results52, go_sem, e0]) rfl (ev_err 402 rfl rfl (by decide) (tw_below w _ _ _ _))
  · have e1 : (ak == 4) = false := by simpa using h1
    go_enter Tryz.func52, Tryz.ntmps52
    go_wp2_with fail
    refine bodyPost_ret (v := .tuple #[.agg #[.int .i64 0, .int .i64 0, .string e0, .slice none 0 0], .int .i64 402]) (by simp [results, Tryz.results52, go_sem, e0]) rfl (ev_err 402 rfl rfl (by decide) (tw_below w _ _ _ _))
set_option maxRecDepth 100000 in
set_option maxHeartbeats 8000000 in
theorem tw18_no (nm : ByteArray) (n : Int) (tx : ByteArray) (l r : Int) (ak an bk bn : Int) (sa sb : ByteArray) (hn : ¬ (ak = 4 ∧ bk = 1)) (A : Option Addr) (m c : Nat) (B : Option Addr) (p d : Nat) (w : World) : Calls Tryz.prog 52 #[.agg (tmC 18 nm n tx l r), .agg (vlC ak an sa A m c), .agg (vlC bk bn sb B p d)] w (EvPost none w) := by
  by_cases h1 : ak = 4
  · subst h1
    have e2 : (bk == 1) = false := by simpa using fun h => hn ⟨rfl, h⟩
    go_enter Tryz.func52, Tryz.ntmps52
    go_wp2_with fail
    refine bodyPost_ret (v := .tuple #[.agg #[.int .i64 0, .int .i64 0, .string e0, .slice none 0 0], .int .i64 402]) (by simp [results, Tryz.results52, go_sem, e0]) rfl (ev_err 402 rfl rfl (by decide) (tw_below w _ _ _ _))
  · have e1 : (ak == 4) = false := by simpa using h1
    go_enter Tryz.func52, Tryz.ntmps52
    go_wp2_with fail
    refine bodyPost_ret (v := .tuple #[.agg #[.int .i64 0, .int .i64 0, .string e0, .slice none 0 0], .int .i64 402]) (by simp [results, Tryz.results52, go_sem, e0]) rfl (ev_err 402 rfl rfl (by decide) (tw_below w _ _ _ _))
set_option maxRecDepth 100000 in
set_option maxHeartbeats 8000000 in
theorem tw19_no (nm : ByteArray) (n : Int) (tx : ByteArray) (l r : Int) (ak an bk bn : Int) (sa sb : ByteArray) (hn : ¬ (ak = 3 ∧ bk = 3)) (A : Option Addr) (m c : Nat) (B : Option Addr) (p d : Nat) (w : World) : Calls Tryz.prog 52 #[.agg (tmC 19 nm n tx l r), .agg (vlC ak an sa A m c), .agg (vlC bk bn sb B p d)] w (EvPost none w) := by
  by_cases h1 : ak = 3
  · subst h1
    have e2 : (bk == 3) = false := by simpa using fun h => hn ⟨rfl, h⟩
    go_enter Tryz.func52, Tryz.ntmps52
    go_wp2_with fail
    refine bodyPost_ret (v := .tuple #[.agg #[.int .i64 0, .int .i64 0, .string e0, .slice none 0 0], .int .i64 402]) (by simp [results, Tryz.results52, go_sem, e0]) rfl (ev_err 402 rfl rfl (by decide) (tw_below w _ _ _ _))
  · have e1 : (ak == 3) = false := by simpa using h1
    go_enter Tryz.func52, Tryz.ntmps52
    go_wp2_with fail
    refine bodyPost_ret (v := .tuple #[.agg #[.int .i64 0, .int .i64 0, .string e0, .slice none 0 0], .int .i64 402]) (by simp [results, Tryz.results52, go_sem, e0]) rfl (ev_err 402 rfl rfl (by decide) (tw_below w _ _ _ _))
set_option maxRecDepth 100000 in
set_option maxHeartbeats 8000000 in
theorem tw19_yes (nm : ByteArray) (n : Int) (tx : ByteArray) (l r : Int) (an bn : Int) (sa sb : ByteArray) (ha : sa.size ≤ 24) (hb : sb.size ≤ 24) (A : Option Addr) (m c : Nat) (B : Option Addr) (p d : Nat) (w : World) : Calls Tryz.prog 52 #[.agg (tmC 19 nm n tx l r), .agg (vlC 3 an sa A m c), .agg (vlC 3 bn sb B p d)] w (EvPost (if 24 < sa.size + sb.size then none else some (⟨3, 0, sa ++ sb, []⟩ : Vl)) w) := by
  by_cases h1 : 24 < sa.size + sb.size
  · have e1 : decide ((24 : Int) < (sa.size : Int) + (sb.size : Int)) = true := decide_eq_true (by omega)
    rw [if_pos h1]
    go_enter Tryz.func52, Tryz.ntmps52
    go_wp2_with fail
    refine bodyPost_ret (v := .tuple #[.agg #[.int .i64 0, .int .i64 0, .string e0, .slice none 0 0], .int .i64 405]) (by simp [results, Tryz.results52, go_sem, e0]) rfl (ev_err 405 rfl rfl (by decide) (tw_below w _ _ _ _))
  · have e1 : decide ((24 : Int) < (sa.size : Int) + (sb.size : Int)) = false := decide_eq_false (by omega)
    have e2 : ¬ 9223372036854775807 < sa.size + sb.size := by omega
    rw [if_neg h1]
    go_enter Tryz.func52, Tryz.ntmps52
    go_wp2_with fail
    refine bodyPost_ret (v := .tuple #[((⟨3, 0, sa ++ sb, []⟩ : Vl)).val none 0, .int .i64 0]) (by simp [results, Tryz.results52, go_sem, Vl.val]) rfl (ev_one (x := (⟨3, 0, sa ++ sb, []⟩ : Vl)) rfl rfl rfl (tw_below w _ _ _ _))
end Go.Proofs.YtbemdcbglpjmiaaGreatDoor
