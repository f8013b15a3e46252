/- Contracts: data.Same, slices.Clone[[]int64] on empty lists; term.apply on operands without lists. Contracts: term.apply on operands without lists: the other kinds. -/
import Derived.Test.YtbemdcbglpjmiaaGreatDoorFoC
namespace Go.Proofs.YtbemdcbglpjmiaaGreatDoor
open Go.RowKit

def applyF (k : Int) (a b : Vl) : Option Vl := if k = 15 ∨ k = 16 then oneV k a else twoV k a b
abbrev zeroC : Array Value := #[.int .i64 0, .int .i64 0, .string e0, .slice none 0 0]
abbrev cellsC (k n : Int) (s : ByteArray) : Array Value := #[.int .i64 k, .int .i64 n, .string s, .slice none 0 0]
/-- The world behind the head of term.apply. -/
abbrev apW (w : World) (ak an : Int) (sa : ByteArray) (bk bn : Int) (sb : ByteArray) : World :=
  ((w.alloc (.cells (cellsC ak an sa) 31)).alloc (.cells (cellsC bk bn sb) 31)).alloc (.cells zeroC 31)
theorem ap_below (w : World) (ak an : Int) (sa : ByteArray) (bk bn : Int) (sb : ByteArray) : Below w.heap.size w (apW w ak an sa bk bn sb) := below_push (below_push (below_new _ _) _) _
theorem ap_size (w : World) (ak an : Int) (sa : ByteArray) (bk bn : Int) (sb : ByteArray) : (apW w ak an sa bk bn sb).heap.size = w.heap.size + 3 := by simp [apW]
theorem ap_facts {w w1 : World} {ak an : Int} {sa : ByteArray} {bk bn : Int} {sb : ByteArray} (hb : Below (apW w ak an sa bk bn sb).heap.size (apW w ak an sa bk bn sb) w1) :
    (w1.frozen? ⟨w.heap.size + 1 + 1, 0, none⟩ = false ∧ w1.frozen? ⟨w.heap.size + 1 + 1, 1, none⟩ = false ∧ w1.frozen? ⟨w.heap.size + 1 + 1, 2, none⟩ = false ∧ w1.frozen? ⟨w.heap.size + 1 + 1, 3, none⟩ = false) ∧
    w1.cell? ⟨w.heap.size + 1 + 1, 0, none⟩ = some (.int .i64 0) ∧ w1.cell? ⟨w.heap.size + 1 + 1, 1, none⟩ = some (.int .i64 0) ∧ w1.cell? ⟨w.heap.size + 1 + 1, 2, none⟩ = some (.string e0) ∧ w1.cell? ⟨w.heap.size + 1 + 1, 3, none⟩ = some (.slice none 0 0) ∧ w.heap.size + 1 + 1 < w1.heap.size := by
  have hK : Blk (apW w ak an sa bk bn sb) (w.heap.size + 1 + 1) zeroC 31 := blk_next (by simp) _ _
  have K1 := hK.belowS hb
  exact ⟨⟨K1.frozen 0, K1.frozen 1, K1.frozen 2, K1.frozen 3⟩, K1.cell 0, K1.cell 1, K1.cell 2, K1.cell 3, K1.lt⟩
set_option maxRecDepth 100000 in
set_option maxHeartbeats 8000000 in
theorem clone_nil (w : World) : Calls Tryz.prog 118 #[.slice none 0 0] w (fun e w' => e = .returned (.slice none 0 0) ∧ w' = w) := by
  have he := fun W => Lib.run_eql_slice_nil (P := Tryz.prog) W 29 2 none 0 0 0 0 Tryz.underlying29
  go_enter Tryz.func118, Tryz.ntmps118
  go_wp2_with fail
  go_ret
  exact ⟨rfl, rfl⟩
set_option maxRecDepth 100000 in
set_option maxHeartbeats 8000000 in
theorem same_flat (ak an : Int) (sa : ByteArray) (bk bn : Int) (sb : ByteArray) (r : Bool) (hr : r = decide (ak = bk ∧ an = bn ∧ sa = sb)) (w : World) : Calls Tryz.prog 122 #[.agg #[.int .i64 ak, .int .i64 an, .string sa, .slice none 0 0], .agg #[.int .i64 bk, .int .i64 bn, .string sb, .slice none 0 0]] w
    (fun e w' => e = .returned (.bool r) ∧ Below w.heap.size w w') := by
  by_cases h1 : ak = bk
  · by_cases h2 : an = bn
    · by_cases h3 : sa = sb
      · obtain rfl : r = true := by rw [hr]; simp [h1, h2, h3]
        clear hr
        subst h1 h2 h3
        go_enter Tryz.func122, Tryz.ntmps122
        go_wp2_with fail
        refine wp_loop_rounds 1 ?_
        rw [rounds_succ]
        go_wp2_with fail
        go_ret
        exact ⟨rfl, below_push (below_new _ _) _⟩
      · obtain rfl : r = false := by rw [hr]; simp [h3]
        clear hr
        subst h1 h2
        have e3 : (sa.toList == sb.toList) = false := by
          cases hq : (sa.toList == sb.toList)
          · rfl
          · exact absurd (toList_eq' hq) h3
        go_enter Tryz.func122, Tryz.ntmps122
        go_wp2_with fail
        go_ret
        exact ⟨rfl, below_push (below_new _ _) _⟩
    · obtain rfl : r = false := by rw [hr]; simp [h2]
      clear hr
      subst h1
      have e2 : (an != bn) = true := by simpa using h2
      go_enter Tryz.func122, Tryz.ntmps122
      go_wp2_with fail
      go_ret
      exact ⟨rfl, below_push (below_new _ _) _⟩
  · obtain rfl : r = false := by rw [hr]; simp [h1]
    clear hr
    have e1 : (ak != bk) = true := by simpa using h1
    go_enter Tryz.func122, Tryz.ntmps122
    go_wp2_with fail
    go_ret
    exact ⟨rfl, below_push (below_new _ _) _⟩
set_option maxRecDepth 100000 in
set_option maxHeartbeats 8000000 in
theorem ap6_no (ak an : Int) (sa : ByteArray) (bk bn : Int) (sb : ByteArray) (hn : ¬ (ak = 1 ∧ bk = 1)) (w : World) : Calls Tryz.prog 73 #[.int .i64 6, .agg #[.int .i64 ak, .int .i64 an, .string sa, .slice none 0 0], .agg #[.int .i64 bk, .int .i64 bn, .string sb, .slice none 0 0]] w (EvPost none w) := by
  have CT := Lib.hid (fun b w => truth_any b w)
  have CW := Lib.hid (fun w => wrong_any w)
  by_cases h1 : ak = 1
  · subst h1
    have h2 : bk ≠ 1 := fun h => hn ⟨rfl, h⟩
    have e2 : (bk != 1) = true := by simpa using h2
    go_enter Tryz.func73, Tryz.ntmps73
    go_wp2_with fail
    refine (CW.out (apW w (1) (an) (sa) (bk) (bn) (sb))).mono ?_
    rintro e w1 ⟨i0, i1, s, Q, m, c, k, rfl, hb1, hi⟩
    obtain ⟨⟨f0, f1, f2, f3⟩, k0, k1, k2, k3, hz⟩ := ap_facts (ak := 1) (an := an) (sa := sa) (bk := bk) (bn := bn) (sb := sb) hb1
    have HI := Lib.hid hi
    have HB1 := Lib.hid hb1
    clear hi hb1
    go_wp2_with fail
    refine bodyPost_ret (v := .tuple #[.agg #[.int .i64 i0, .int .i64 i1, .string s, .slice Q m c], .int .i64 k]) (by simp [results, Tryz.results73, go_sem, k0, k1, k2, k3]) rfl ?_
    exact ev_pass (ap_below w (1) (an) (sa) (bk) (bn) (sb)) HB1.out HI.out (by omega) (by rw [ap_size]; omega)
  · have e1 : (ak != 1) = true := by simpa using h1
    go_enter Tryz.func73, Tryz.ntmps73
    go_wp2_with fail
    refine (CW.out (apW w (ak) (an) (sa) (bk) (bn) (sb))).mono ?_
    rintro e w1 ⟨i0, i1, s, Q, m, c, k, rfl, hb1, hi⟩
    obtain ⟨⟨f0, f1, f2, f3⟩, k0, k1, k2, k3, hz⟩ := ap_facts (ak := ak) (an := an) (sa := sa) (bk := bk) (bn := bn) (sb := sb) hb1
    have HI := Lib.hid hi
    have HB1 := Lib.hid hb1
    clear hi hb1
    go_wp2_with fail
    refine bodyPost_ret (v := .tuple #[.agg #[.int .i64 i0, .int .i64 i1, .string s, .slice Q m c], .int .i64 k]) (by simp [results, Tryz.results73, go_sem, k0, k1, k2, k3]) rfl ?_
    exact ev_pass (ap_below w (ak) (an) (sa) (bk) (bn) (sb)) HB1.out HI.out (by omega) (by rw [ap_size]; omega)
set_option maxRecDepth 100000 in
set_option maxHeartbeats 8000000 in
theorem ap6_yes (an : Int) (sa : ByteArray) (bn : Int) (sb : ByteArray) (w : World) : Calls Tryz.prog 73 #[.int .i64 6, .agg #[.int .i64 1, .int .i64 an, .string sa, .slice none 0 0], .agg #[.int .i64 1, .int .i64 bn, .string sb, .slice none 0 0]] w (EvPost (numV 6 an bn) w) := by
  have CN := Lib.hid (fun w => numbers_any 6 an bn (by decide) w)
  go_enter Tryz.func73, Tryz.ntmps73
  go_wp2_with fail
  refine (CN.out (apW w (1) (an) (sa) (1) (bn) (sb))).mono ?_
  rintro e w1 ⟨i0, i1, s, Q, m, c, k, rfl, hb1, hi⟩
  obtain ⟨⟨f0, f1, f2, f3⟩, k0, k1, k2, k3, hz⟩ := ap_facts (ak := 1) (an := an) (sa := sa) (bk := 1) (bn := bn) (sb := sb) hb1
  have HI := Lib.hid hi
  have HB1 := Lib.hid hb1
  clear hi hb1
  go_wp2_with fail
  refine bodyPost_ret (v := .tuple #[.agg #[.int .i64 i0, .int .i64 i1, .string s, .slice Q m c], .int .i64 k]) (by simp [results, Tryz.results73, go_sem, k0, k1, k2, k3]) rfl ?_
  exact ev_pass (ap_below w (1) (an) (sa) (1) (bn) (sb)) HB1.out HI.out (by omega) (by rw [ap_size]; omega)
set_option maxRecDepth 100000 in
set_option maxHeartbeats 8000000 in
theorem ap7_no (ak an : Int) (sa : ByteArray) (bk bn : Int) (sb : ByteArray) (hn : ¬ (ak = 1 ∧ bk = 1)) (w : World) : Calls Tryz.prog 73 #[.int .i64 7, .agg #[.int .i64 ak, .int .i64 an, .string sa, .slice none 0 0], .agg #[.int .i64 bk, .int .i64 bn, .string sb, .slice none 0 0]] w (EvPost none w) := by
  have CT := Lib.hid (fun b w => truth_any b w)
  have CW := Lib.hid (fun w => wrong_any w)
  by_cases h1 : ak = 1
  · subst h1
    have h2 : bk ≠ 1 := fun h => hn ⟨rfl, h⟩
    have e2 : (bk != 1) = true := by simpa using h2
    go_enter Tryz.func73, Tryz.ntmps73
    go_wp2_with fail
    refine (CW.out (apW w (1) (an) (sa) (bk) (bn) (sb))).mono ?_
    rintro e w1 ⟨i0, i1, s, Q, m, c, k, rfl, hb1, hi⟩
    obtain ⟨⟨f0, f1, f2, f3⟩, k0, k1, k2, k3, hz⟩ := ap_facts (ak := 1) (an := an) (sa := sa) (bk := bk) (bn := bn) (sb := sb) hb1
    have HI := Lib.hid hi
    have HB1 := Lib.hid hb1
    clear hi hb1
    go_wp2_with fail
    refine bodyPost_ret (v := .tuple #[.agg #[.int .i64 i0, .int .i64 i1, .string s, .slice Q m c], .int .i64 k]) (by simp [results, Tryz.results73, go_sem, k0, k1, k2, k3]) rfl ?_
    exact ev_pass (ap_below w (1) (an) (sa) (bk) (bn) (sb)) HB1.out HI.out (by omega) (by rw [ap_size]; omega)
  · have e1 : (ak != 1) = true := by simpa using h1
    go_enter Tryz.func73, Tryz.ntmps73
    go_wp2_with fail
    refine (CW.out (apW w (ak) (an) (sa) (bk) (bn) (sb))).mono ?_
    rintro e w1 ⟨i0, i1, s, Q, m, c, k, rfl, hb1, hi⟩
    obtain ⟨⟨f0, f1, f2, f3⟩, k0, k1, k2, k3, hz⟩ := ap_facts (ak := ak) (an := an) (sa := sa) (bk := bk) (bn := bn) (sb := sb) hb1
    have HI := Lib.hid hi
    have HB1 := Lib.hid hb1
    clear hi hb1
    go_wp2_with fail
    refine bodyPost_ret (v := .tuple #[.agg #[.int .i64 i0, .int .i64 i1, .string s, .slice Q m c], .int .i64 k]) (by simp [results, Tryz.results73, go_sem, k0, k1, k2, k3]) rfl ?_
    exact ev_pass (ap_below w (ak) (an) (sa) (bk) (bn) (sb)) HB1.out HI.out (by omega) (by rw [ap_size]; omega)
set_option maxRecDepth 100000 in
set_option maxHeartbeats 8000000 in
theorem ap7_yes (an : Int) (sa : ByteArray) (bn : Int) (sb : ByteArray) (w : World) : Calls Tryz.prog 73 #[.int .i64 7, .agg #[.int .i64 1, .int .i64 an, .string sa, .slice none 0 0], .agg #[.int .i64 1, .int .i64 bn, .string sb, .slice none 0 0]] w (EvPost (numV 7 an bn) w) := by
  have CN := Lib.hid (fun w => numbers_any 7 an bn (by decide) w)
  go_enter Tryz.func73, Tryz.ntmps73
  go_wp2_with fail
  refine (CN.out (apW w (1) (an) (sa) (1) (bn) (sb))).mono ?_
  rintro e w1 ⟨i0, i1, s, Q, m, c, k, rfl, hb1, hi⟩
  obtain ⟨⟨f0, f1, f2, f3⟩, k0, k1, k2, k3, hz⟩ := ap_facts (ak := 1) (an := an) (sa := sa) (bk := 1) (bn := bn) (sb := sb) hb1
  have HI := Lib.hid hi
  have HB1 := Lib.hid hb1
  clear hi hb1
  go_wp2_with fail
  refine bodyPost_ret (v := .tuple #[.agg #[.int .i64 i0, .int .i64 i1, .string s, .slice Q m c], .int .i64 k]) (by simp [results, Tryz.results73, go_sem, k0, k1, k2, k3]) rfl ?_
  exact ev_pass (ap_below w (1) (an) (sa) (1) (bn) (sb)) HB1.out HI.out (by omega) (by rw [ap_size]; omega)
set_option maxRecDepth 100000 in
set_option maxHeartbeats 8000000 in
theorem ap8_no (ak an : Int) (sa : ByteArray) (bk bn : Int) (sb : ByteArray) (hn : ¬ (ak = 1 ∧ bk = 1)) (w : World) : Calls Tryz.prog 73 #[.int .i64 8, .agg #[.int .i64 ak, .int .i64 an, .string sa, .slice none 0 0], .agg #[.int .i64 bk, .int .i64 bn, .string sb, .slice none 0 0]] w (EvPost none w) := by
  have CT := Lib.hid (fun b w => truth_any b w)
  have CW := Lib.hid (fun w => wrong_any w)
  by_cases h1 : ak = 1
  · subst h1
    have h2 : bk ≠ 1 := fun h => hn ⟨rfl, h⟩
    have e2 : (bk != 1) = true := by simpa using h2
    go_enter Tryz.func73, Tryz.ntmps73
    go_wp2_with fail
    refine (CW.out (apW w (1) (an) (sa) (bk) (bn) (sb))).mono ?_
    rintro e w1 ⟨i0, i1, s, Q, m, c, k, rfl, hb1, hi⟩
    obtain ⟨⟨f0, f1, f2, f3⟩, k0, k1, k2, k3, hz⟩ := ap_facts (ak := 1) (an := an) (sa := sa) (bk := bk) (bn := bn) (sb := sb) hb1
    have HI := Lib.hid hi
    have HB1 := Lib.hid hb1
    clear hi hb1
    go_wp2_with fail
    refine bodyPost_ret (v := .tuple #[.agg #[.int .i64 i0, .int .i64 i1, .string s, .slice Q m c], .int .i64 k]) (by simp [results, Tryz.results73, go_sem, k0, k1, k2, k3]) rfl ?_
    exact ev_pass (ap_below w (1) (an) (sa) (bk) (bn) (sb)) HB1.out HI.out (by omega) (by rw [ap_size]; omega)
  · have e1 : (ak != 1) = true := by simpa using h1
    go_enter Tryz.func73, Tryz.ntmps73
    go_wp2_with fail
    refine (CW.out (apW w (ak) (an) (sa) (bk) (bn) (sb))).mono ?_
    rintro e w1 ⟨i0, i1, s, Q, m, c, k, rfl, hb1, hi⟩
    obtain ⟨⟨f0, f1, f2, f3⟩, k0, k1, k2, k3, hz⟩ := ap_facts (ak := ak) (an := an) (sa := sa) (bk := bk) (bn := bn) (sb := sb) hb1
    have HI := Lib.hid hi
    have HB1 := Lib.hid hb1
    clear hi hb1
    go_wp2_with fail
    refine bodyPost_ret (v := .tuple #[.agg #[.int .i64 i0, .int .i64 i1, .string s, .slice Q m c], .int .i64 k]) (by simp [results, Tryz.results73, go_sem, k0, k1, k2, k3]) rfl ?_
    exact ev_pass (ap_below w (ak) (an) (sa) (bk) (bn) (sb)) HB1.out HI.out (by omega) (by rw [ap_size]; omega)
set_option maxRecDepth 100000 in
set_option maxHeartbeats 8000000 in
theorem ap8_yes (an : Int) (sa : ByteArray) (bn : Int) (sb : ByteArray) (w : World) : Calls Tryz.prog 73 #[.int .i64 8, .agg #[.int .i64 1, .int .i64 an, .string sa, .slice none 0 0], .agg #[.int .i64 1, .int .i64 bn, .string sb, .slice none 0 0]] w (EvPost (numV 8 an bn) w) := by
  have CN := Lib.hid (fun w => numbers_any 8 an bn (by decide) w)
  go_enter Tryz.func73, Tryz.ntmps73
  go_wp2_with fail
  refine (CN.out (apW w (1) (an) (sa) (1) (bn) (sb))).mono ?_
  rintro e w1 ⟨i0, i1, s, Q, m, c, k, rfl, hb1, hi⟩
  obtain ⟨⟨f0, f1, f2, f3⟩, k0, k1, k2, k3, hz⟩ := ap_facts (ak := 1) (an := an) (sa := sa) (bk := 1) (bn := bn) (sb := sb) hb1
  have HI := Lib.hid hi
  have HB1 := Lib.hid hb1
  clear hi hb1
  go_wp2_with fail
  refine bodyPost_ret (v := .tuple #[.agg #[.int .i64 i0, .int .i64 i1, .string s, .slice Q m c], .int .i64 k]) (by simp [results, Tryz.results73, go_sem, k0, k1, k2, k3]) rfl ?_
  exact ev_pass (ap_below w (1) (an) (sa) (1) (bn) (sb)) HB1.out HI.out (by omega) (by rw [ap_size]; omega)
set_option maxRecDepth 100000 in
set_option maxHeartbeats 8000000 in
theorem ap9_no (ak an : Int) (sa : ByteArray) (bk bn : Int) (sb : ByteArray) (hn : ¬ (ak = 1 ∧ bk = 1)) (w : World) : Calls Tryz.prog 73 #[.int .i64 9, .agg #[.int .i64 ak, .int .i64 an, .string sa, .slice none 0 0], .agg #[.int .i64 bk, .int .i64 bn, .string sb, .slice none 0 0]] w (EvPost none w) := by
  have CT := Lib.hid (fun b w => truth_any b w)
  have CW := Lib.hid (fun w => wrong_any w)
  by_cases h1 : ak = 1
  · subst h1
    have h2 : bk ≠ 1 := fun h => hn ⟨rfl, h⟩
    have e2 : (bk != 1) = true := by simpa using h2
    go_enter Tryz.func73, Tryz.ntmps73
    go_wp2_with fail
    refine (CW.out (apW w (1) (an) (sa) (bk) (bn) (sb))).mono ?_
    rintro e w1 ⟨i0, i1, s, Q, m, c, k, rfl, hb1, hi⟩
    obtain ⟨⟨f0, f1, f2, f3⟩, k0, k1, k2, k3, hz⟩ := ap_facts (ak := 1) (an := an) (sa := sa) (bk := bk) (bn := bn) (sb := sb) hb1
    have HI := Lib.hid hi
    have HB1 := Lib.hid hb1
    clear hi hb1
    go_wp2_with fail
    refine bodyPost_ret (v := .tuple #[.agg #[.int .i64 i0, .int .i64 i1, .string s, .slice Q m c], .int .i64 k]) (by simp [results, Tryz.results73, go_sem, k0, k1, k2, k3]) rfl ?_
    exact ev_pass (ap_below w (1) (an) (sa) (bk) (bn) (sb)) HB1.out HI.out (by omega) (by rw [ap_size]; omega)
  · have e1 : (ak != 1) = true := by simpa using h1
    go_enter Tryz.func73, Tryz.ntmps73
    go_wp2_with fail
    refine (CW.out (apW w (ak) (an) (sa) (bk) (bn) (sb))).mono ?_
    rintro e w1 ⟨i0, i1, s, Q, m, c, k, rfl, hb1, hi⟩
    obtain ⟨⟨f0, f1, f2, f3⟩, k0, k1, k2, k3, hz⟩ := ap_facts (ak := ak) (an := an) (sa := sa) (bk := bk) (bn := bn) (sb := sb) hb1
    have HI := Lib.hid hi
    have HB1 := Lib.hid hb1
    clear hi hb1
    go_wp2_with fail
    refine bodyPost_ret (v := .tuple #[.agg #[.int .i64 i0, .int .i64 i1, .string s, .slice Q m c], .int .i64 k]) (by simp [results, Tryz.results73, go_sem, k0, k1, k2, k3]) rfl ?_
    exact ev_pass (ap_below w (ak) (an) (sa) (bk) (bn) (sb)) HB1.out HI.out (by omega) (by rw [ap_size]; omega)
set_option maxRecDepth 100000 in
set_option maxHeartbeats 8000000 in
theorem ap9_yes (an : Int) (sa : ByteArray) (bn : Int) (sb : ByteArray) (w : World) : Calls Tryz.prog 73 #[.int .i64 9, .agg #[.int .i64 1, .int .i64 an, .string sa, .slice none 0 0], .agg #[.int .i64 1, .int .i64 bn, .string sb, .slice none 0 0]] w (EvPost (numV 9 an bn) w) := by
  have CN := Lib.hid (fun w => numbers_any 9 an bn (by decide) w)
  go_enter Tryz.func73, Tryz.ntmps73
  go_wp2_with fail
  refine (CN.out (apW w (1) (an) (sa) (1) (bn) (sb))).mono ?_
  rintro e w1 ⟨i0, i1, s, Q, m, c, k, rfl, hb1, hi⟩
  obtain ⟨⟨f0, f1, f2, f3⟩, k0, k1, k2, k3, hz⟩ := ap_facts (ak := 1) (an := an) (sa := sa) (bk := 1) (bn := bn) (sb := sb) hb1
  have HI := Lib.hid hi
  have HB1 := Lib.hid hb1
  clear hi hb1
  go_wp2_with fail
  refine bodyPost_ret (v := .tuple #[.agg #[.int .i64 i0, .int .i64 i1, .string s, .slice Q m c], .int .i64 k]) (by simp [results, Tryz.results73, go_sem, k0, k1, k2, k3]) rfl ?_
  exact ev_pass (ap_below w (1) (an) (sa) (1) (bn) (sb)) HB1.out HI.out (by omega) (by rw [ap_size]; omega)
set_option maxRecDepth 100000 in
set_option maxHeartbeats 8000000 in
theorem ap10_no (ak an : Int) (sa : ByteArray) (bk bn : Int) (sb : ByteArray) (hn : ¬ (ak = 1 ∧ bk = 1)) (w : World) : Calls Tryz.prog 73 #[.int .i64 10, .agg #[.int .i64 ak, .int .i64 an, .string sa, .slice none 0 0], .agg #[.int .i64 bk, .int .i64 bn, .string sb, .slice none 0 0]] w (EvPost none w) := by
  have CT := Lib.hid (fun b w => truth_any b w)
  have CW := Lib.hid (fun w => wrong_any w)
  by_cases h1 : ak = 1
  · subst h1
    have h2 : bk ≠ 1 := fun h => hn ⟨rfl, h⟩
    have e2 : (bk != 1) = true := by simpa using h2
    go_enter Tryz.func73, Tryz.ntmps73
    go_wp2_with fail
    refine (CW.out (apW w (1) (an) (sa) (bk) (bn) (sb))).mono ?_
    rintro e w1 ⟨i0, i1, s, Q, m, c, k, rfl, hb1, hi⟩
    obtain ⟨⟨f0, f1, f2, f3⟩, k0, k1, k2, k3, hz⟩ := ap_facts (ak := 1) (an := an) (sa := sa) (bk := bk) (bn := bn) (sb := sb) hb1
    have HI := Lib.hid hi
    have HB1 := Lib.hid hb1
    clear hi hb1
    go_wp2_with fail
    refine bodyPost_ret (v := .tuple #[.agg #[.int .i64 i0, .int .i64 i1, .string s, .slice Q m c], .int .i64 k]) (by simp [results, Tryz.results73, go_sem, k0, k1, k2, k3]) rfl ?_
    exact ev_pass (ap_below w (1) (an) (sa) (bk) (bn) (sb)) HB1.out HI.out (by omega) (by rw [ap_size]; omega)
  · have e1 : (ak != 1) = true := by simpa using h1
    go_enter Tryz.func73, Tryz.ntmps73
    go_wp2_with fail
    refine (CW.out (apW w (ak) (an) (sa) (bk) (bn) (sb))).mono ?_
    rintro e w1 ⟨i0, i1, s, Q, m, c, k, rfl, hb1, hi⟩
    obtain ⟨⟨f0, f1, f2, f3⟩, k0, k1, k2, k3, hz⟩ := ap_facts (ak := ak) (an := an) (sa := sa) (bk := bk) (bn := bn) (sb := sb) hb1
    have HI := Lib.hid hi
    have HB1 := Lib.hid hb1
    clear hi hb1
    go_wp2_with fail
    refine bodyPost_ret (v := .tuple #[.agg #[.int .i64 i0, .int .i64 i1, .string s, .slice Q m c], .int .i64 k]) (by simp [results, Tryz.results73, go_sem, k0, k1, k2, k3]) rfl ?_
    exact ev_pass (ap_below w (ak) (an) (sa) (bk) (bn) (sb)) HB1.out HI.out (by omega) (by rw [ap_size]; omega)
set_option maxRecDepth 100000 in
set_option maxHeartbeats 8000000 in
theorem ap10_yes (an : Int) (sa : ByteArray) (bn : Int) (sb : ByteArray) (w : World) : Calls Tryz.prog 73 #[.int .i64 10, .agg #[.int .i64 1, .int .i64 an, .string sa, .slice none 0 0], .agg #[.int .i64 1, .int .i64 bn, .string sb, .slice none 0 0]] w (EvPost (numV 10 an bn) w) := by
  have CN := Lib.hid (fun w => numbers_any 10 an bn (by decide) w)
  go_enter Tryz.func73, Tryz.ntmps73
  go_wp2_with fail
  refine (CN.out (apW w (1) (an) (sa) (1) (bn) (sb))).mono ?_
  rintro e w1 ⟨i0, i1, s, Q, m, c, k, rfl, hb1, hi⟩
  obtain ⟨⟨f0, f1, f2, f3⟩, k0, k1, k2, k3, hz⟩ := ap_facts (ak := 1) (an := an) (sa := sa) (bk := 1) (bn := bn) (sb := sb) hb1
  have HI := Lib.hid hi
  have HB1 := Lib.hid hb1
  clear hi hb1
  go_wp2_with fail
  refine bodyPost_ret (v := .tuple #[.agg #[.int .i64 i0, .int .i64 i1, .string s, .slice Q m c], .int .i64 k]) (by simp [results, Tryz.results73, go_sem, k0, k1, k2, k3]) rfl ?_
  exact ev_pass (ap_below w (1) (an) (sa) (1) (bn) (sb)) HB1.out HI.out (by omega) (by rw [ap_size]; omega)
set_option maxRecDepth 100000 in
set_option maxHeartbeats 8000000 in
theorem ap12_no (ak an : Int) (sa : ByteArray) (bk bn : Int) (sb : ByteArray) (hn : ¬ (ak = 1 ∧ bk = 1)) (w : World) : Calls Tryz.prog 73 #[.int .i64 12, .agg #[.int .i64 ak, .int .i64 an, .string sa, .slice none 0 0], .agg #[.int .i64 bk, .int .i64 bn, .string sb, .slice none 0 0]] w (EvPost none w) := by
  have CT := Lib.hid (fun b w => truth_any b w)
  have CW := Lib.hid (fun w => wrong_any w)
  by_cases h1 : ak = 1
  · subst h1
    have h2 : bk ≠ 1 := fun h => hn ⟨rfl, h⟩
    have e2 : (bk != 1) = true := by simpa using h2
    go_enter Tryz.func73, Tryz.ntmps73
    go_wp2_with fail
    refine (CW.out (apW w (1) (an) (sa) (bk) (bn) (sb))).mono ?_
    rintro e w1 ⟨i0, i1, s, Q, m, c, k, rfl, hb1, hi⟩
    obtain ⟨⟨f0, f1, f2, f3⟩, k0, k1, k2, k3, hz⟩ := ap_facts (ak := 1) (an := an) (sa := sa) (bk := bk) (bn := bn) (sb := sb) hb1
    have HI := Lib.hid hi
    have HB1 := Lib.hid hb1
    clear hi hb1
    go_wp2_with fail
    refine bodyPost_ret (v := .tuple #[.agg #[.int .i64 i0, .int .i64 i1, .string s, .slice Q m c], .int .i64 k]) (by simp [results, Tryz.results73, go_sem, k0, k1, k2, k3]) rfl ?_
    exact ev_pass (ap_below w (1) (an) (sa) (bk) (bn) (sb)) HB1.out HI.out (by omega) (by rw [ap_size]; omega)
  · have e1 : (ak != 1) = true := by simpa using h1
    go_enter Tryz.func73, Tryz.ntmps73
    go_wp2_with fail
    refine (CW.out (apW w (ak) (an) (sa) (bk) (bn) (sb))).mono ?_
    rintro e w1 ⟨i0, i1, s, Q, m, c, k, rfl, hb1, hi⟩
    obtain ⟨⟨f0, f1, f2, f3⟩, k0, k1, k2, k3, hz⟩ := ap_facts (ak := ak) (an := an) (sa := sa) (bk := bk) (bn := bn) (sb := sb) hb1
    have HI := Lib.hid hi
    have HB1 := Lib.hid hb1
    clear hi hb1
    go_wp2_with fail
    refine bodyPost_ret (v := .tuple #[.agg #[.int .i64 i0, .int .i64 i1, .string s, .slice Q m c], .int .i64 k]) (by simp [results, Tryz.results73, go_sem, k0, k1, k2, k3]) rfl ?_
    exact ev_pass (ap_below w (ak) (an) (sa) (bk) (bn) (sb)) HB1.out HI.out (by omega) (by rw [ap_size]; omega)
set_option maxRecDepth 100000 in
set_option maxHeartbeats 8000000 in
theorem ap12_yes (an : Int) (sa : ByteArray) (bn : Int) (sb : ByteArray) (w : World) : Calls Tryz.prog 73 #[.int .i64 12, .agg #[.int .i64 1, .int .i64 an, .string sa, .slice none 0 0], .agg #[.int .i64 1, .int .i64 bn, .string sb, .slice none 0 0]] w (EvPost (numV 12 an bn) w) := by
  have CN := Lib.hid (fun w => numbers_any 12 an bn (by decide) w)
  go_enter Tryz.func73, Tryz.ntmps73
  go_wp2_with fail
  refine (CN.out (apW w (1) (an) (sa) (1) (bn) (sb))).mono ?_
  rintro e w1 ⟨i0, i1, s, Q, m, c, k, rfl, hb1, hi⟩
  obtain ⟨⟨f0, f1, f2, f3⟩, k0, k1, k2, k3, hz⟩ := ap_facts (ak := 1) (an := an) (sa := sa) (bk := 1) (bn := bn) (sb := sb) hb1
  have HI := Lib.hid hi
  have HB1 := Lib.hid hb1
  clear hi hb1
  go_wp2_with fail
  refine bodyPost_ret (v := .tuple #[.agg #[.int .i64 i0, .int .i64 i1, .string s, .slice Q m c], .int .i64 k]) (by simp [results, Tryz.results73, go_sem, k0, k1, k2, k3]) rfl ?_
  exact ev_pass (ap_below w (1) (an) (sa) (1) (bn) (sb)) HB1.out HI.out (by omega) (by rw [ap_size]; omega)
end Go.Proofs.YtbemdcbglpjmiaaGreatDoor
namespace Go.Proofs.YtbemdcbglpjmiaaGreatDoor
open Go.RowKit

set_option maxRecDepth 100000 in
set_option maxHeartbeats 8000000 in
theorem ap11_no (ak an : Int) (sa : ByteArray) (bk bn : Int) (sb : ByteArray) (hn : ak ≠ bk ∨ ak = 5) (w : World) : Calls Tryz.prog 73 #[.int .i64 11, .agg #[.int .i64 ak, .int .i64 an, .string sa, .slice none 0 0], .agg #[.int .i64 bk, .int .i64 bn, .string sb, .slice none 0 0]] w (EvPost none w) := by
  have CT := Lib.hid (fun b w => truth_any b w)
  have CW := Lib.hid (fun w => wrong_any w)
  by_cases h1 : ak = bk
  · subst h1
    obtain rfl : ak = 5 := by
      rcases hn with h | h
      · exact absurd rfl h
      · exact h
    go_enter Tryz.func73, Tryz.ntmps73
    go_wp2_with fail
    refine (CW.out (apW w (5) (an) (sa) (5) (bn) (sb))).mono ?_
    rintro e w1 ⟨i0, i1, s, Q, m, c, k, rfl, hb1, hi⟩
    obtain ⟨⟨f0, f1, f2, f3⟩, k0, k1, k2, k3, hz⟩ := ap_facts (ak := 5) (an := an) (sa := sa) (bk := 5) (bn := bn) (sb := sb) hb1
    have HI := Lib.hid hi
    have HB1 := Lib.hid hb1
    clear hi hb1
    go_wp2_with fail
    refine bodyPost_ret (v := .tuple #[.agg #[.int .i64 i0, .int .i64 i1, .string s, .slice Q m c], .int .i64 k]) (by simp [results, Tryz.results73, go_sem, k0, k1, k2, k3]) rfl ?_
    exact ev_pass (ap_below w (5) (an) (sa) (5) (bn) (sb)) HB1.out HI.out (by omega) (by rw [ap_size]; omega)
  · have e1 : (ak != bk) = true := by simpa using h1
    go_enter Tryz.func73, Tryz.ntmps73
    go_wp2_with fail
    refine (CW.out (apW w (ak) (an) (sa) (bk) (bn) (sb))).mono ?_
    rintro e w1 ⟨i0, i1, s, Q, m, c, k, rfl, hb1, hi⟩
    obtain ⟨⟨f0, f1, f2, f3⟩, k0, k1, k2, k3, hz⟩ := ap_facts (ak := ak) (an := an) (sa := sa) (bk := bk) (bn := bn) (sb := sb) hb1
    have HI := Lib.hid hi
    have HB1 := Lib.hid hb1
    clear hi hb1
    go_wp2_with fail
    refine bodyPost_ret (v := .tuple #[.agg #[.int .i64 i0, .int .i64 i1, .string s, .slice Q m c], .int .i64 k]) (by simp [results, Tryz.results73, go_sem, k0, k1, k2, k3]) rfl ?_
    exact ev_pass (ap_below w (ak) (an) (sa) (bk) (bn) (sb)) HB1.out HI.out (by omega) (by rw [ap_size]; omega)
set_option maxRecDepth 100000 in
set_option maxHeartbeats 8000000 in
theorem ap11_yes (ak an : Int) (sa : ByteArray) (bn : Int) (sb : ByteArray) (r : Bool) (hr : r = decide (ak = ak ∧ an = bn ∧ sa = sb)) (hk : ak ≠ 5) (w : World) : Calls Tryz.prog 73 #[.int .i64 11, .agg #[.int .i64 ak, .int .i64 an, .string sa, .slice none 0 0], .agg #[.int .i64 ak, .int .i64 bn, .string sb, .slice none 0 0]] w (EvPost (some (tru r)) w) := by
  have CT := Lib.hid (fun b w => truth_any b w)
  have CW := Lib.hid (fun w => wrong_any w)
  have CS := Lib.hid (fun w => same_flat ak an sa ak bn sb r hr w)
  have e5 : (ak == 5) = false := by simpa using hk
  have HR := Lib.hid hr
  clear hr
  go_enter Tryz.func73, Tryz.ntmps73
  go_wp2_with fail
  refine (CS.out (apW w ak an sa ak bn sb)).mono ?_
  rintro e w1 ⟨rfl, hb1⟩
  obtain ⟨⟨f0, f1, f2, f3⟩, k0, k1, k2, k3, hz⟩ := ap_facts hb1
  have HB1 := Lib.hid hb1
  clear hb1 f0 f1 f2 f3 k0 k1 k2 k3 hz
  go_wp2_with fail
  refine (CT.out r w1).mono ?_
  rintro e w2 ⟨rfl, hb2⟩
  obtain ⟨⟨f0, f1, f2, f3⟩, k0, k1, k2, k3, hz⟩ := ap_facts (below_next HB1.out hb2)
  have B1 := Lib.hid (below_next (ap_below w ak an sa ak bn sb) (below_next HB1.out hb2))
  clear hb2
  go_wp2_with fail
  refine bodyPost_ret (v := .tuple #[(tru r).val none 0, .int .i64 0]) (by simp [results, Tryz.results73, go_sem, e0, tru, Vl.val, k0, k1, k2, k3]) rfl (ev_one (x := tru r) rfl rfl rfl (below_put4 B1.out (by omega) _ _ _ _))
set_option maxRecDepth 100000 in
set_option maxHeartbeats 8000000 in
theorem ap13_no (ak an : Int) (sa : ByteArray) (bk bn : Int) (sb : ByteArray) (hn : ¬ (ak = 2 ∧ bk = 2)) (w : World) : Calls Tryz.prog 73 #[.int .i64 13, .agg #[.int .i64 ak, .int .i64 an, .string sa, .slice none 0 0], .agg #[.int .i64 bk, .int .i64 bn, .string sb, .slice none 0 0]] w (EvPost none w) := by
  have CT := Lib.hid (fun b w => truth_any b w)
  have CW := Lib.hid (fun w => wrong_any w)
  by_cases h1 : ak = 2
  · subst h1
    have h2 : bk ≠ 2 := fun h => hn ⟨rfl, h⟩
    have e2 : (bk != 2) = true := by simpa using h2
    go_enter Tryz.func73, Tryz.ntmps73
    go_wp2_with fail
    refine (CW.out (apW w (2) (an) (sa) (bk) (bn) (sb))).mono ?_
    rintro e w1 ⟨i0, i1, s, Q, m, c, k, rfl, hb1, hi⟩
    obtain ⟨⟨f0, f1, f2, f3⟩, k0, k1, k2, k3, hz⟩ := ap_facts (ak := 2) (an := an) (sa := sa) (bk := bk) (bn := bn) (sb := sb) hb1
    have HI := Lib.hid hi
    have HB1 := Lib.hid hb1
    clear hi hb1
    go_wp2_with fail
    refine bodyPost_ret (v := .tuple #[.agg #[.int .i64 i0, .int .i64 i1, .string s, .slice Q m c], .int .i64 k]) (by simp [results, Tryz.results73, go_sem, k0, k1, k2, k3]) rfl ?_
    exact ev_pass (ap_below w (2) (an) (sa) (bk) (bn) (sb)) HB1.out HI.out (by omega) (by rw [ap_size]; omega)
  · have e1 : (ak != 2) = true := by simpa using h1
    go_enter Tryz.func73, Tryz.ntmps73
    go_wp2_with fail
    refine (CW.out (apW w (ak) (an) (sa) (bk) (bn) (sb))).mono ?_
    rintro e w1 ⟨i0, i1, s, Q, m, c, k, rfl, hb1, hi⟩
    obtain ⟨⟨f0, f1, f2, f3⟩, k0, k1, k2, k3, hz⟩ := ap_facts (ak := ak) (an := an) (sa := sa) (bk := bk) (bn := bn) (sb := sb) hb1
    have HI := Lib.hid hi
    have HB1 := Lib.hid hb1
    clear hi hb1
    go_wp2_with fail
    refine bodyPost_ret (v := .tuple #[.agg #[.int .i64 i0, .int .i64 i1, .string s, .slice Q m c], .int .i64 k]) (by simp [results, Tryz.results73, go_sem, k0, k1, k2, k3]) rfl ?_
    exact ev_pass (ap_below w (ak) (an) (sa) (bk) (bn) (sb)) HB1.out HI.out (by omega) (by rw [ap_size]; omega)
set_option maxRecDepth 100000 in
set_option maxHeartbeats 8000000 in
theorem ap13_yes (an : Int) (sa : ByteArray) (bn : Int) (sb : ByteArray) (ha : an = 0 ∨ an = 1) (hb : bn = 0 ∨ bn = 1) (w : World) : Calls Tryz.prog 73 #[.int .i64 13, .agg #[.int .i64 2, .int .i64 an, .string sa, .slice none 0 0], .agg #[.int .i64 2, .int .i64 bn, .string sb, .slice none 0 0]] w (EvPost (twoV 13 ⟨2, an, sa, []⟩ ⟨2, bn, sb, []⟩) w) := by
  have CT := Lib.hid (fun b w => truth_any b w)
  have CW := Lib.hid (fun w => wrong_any w)
  rcases ha with rfl | rfl
  · rcases hb with rfl | rfl
    · go_enter Tryz.func73, Tryz.ntmps73
      go_wp2_with fail
      refine (CT.out false _).mono ?_
      rintro e w1 ⟨rfl, hb1⟩
      obtain ⟨⟨f0, f1, f2, f3⟩, k0, k1, k2, k3, hz⟩ := ap_facts (ak := 2) (an := 0) (sa := sa) (bk := 2) (bn := 0) (sb := sb) hb1
      have B1 := Lib.hid (below_next (ap_below w (2) (0) (sa) (2) (0) (sb)) hb1)
      clear hb1
      go_wp2_with fail
      refine bodyPost_ret (v := .tuple #[(tru false).val none 0, .int .i64 0]) (by simp [results, Tryz.results73, go_sem, e0, tru, Vl.val, k0, k1, k2, k3]) rfl (ev_one (x := tru false) (by simp [twoV]) rfl rfl (below_put4 B1.out (by omega) _ _ _ _))
    · go_enter Tryz.func73, Tryz.ntmps73
      go_wp2_with fail
      refine (CT.out false _).mono ?_
      rintro e w1 ⟨rfl, hb1⟩
      obtain ⟨⟨f0, f1, f2, f3⟩, k0, k1, k2, k3, hz⟩ := ap_facts (ak := 2) (an := 0) (sa := sa) (bk := 2) (bn := 1) (sb := sb) hb1
      have B1 := Lib.hid (below_next (ap_below w (2) (0) (sa) (2) (1) (sb)) hb1)
      clear hb1
      go_wp2_with fail
      refine bodyPost_ret (v := .tuple #[(tru false).val none 0, .int .i64 0]) (by simp [results, Tryz.results73, go_sem, e0, tru, Vl.val, k0, k1, k2, k3]) rfl (ev_one (x := tru false) (by simp [twoV]) rfl rfl (below_put4 B1.out (by omega) _ _ _ _))
  · rcases hb with rfl | rfl
    · go_enter Tryz.func73, Tryz.ntmps73
      go_wp2_with fail
      refine (CT.out false _).mono ?_
      rintro e w1 ⟨rfl, hb1⟩
      obtain ⟨⟨f0, f1, f2, f3⟩, k0, k1, k2, k3, hz⟩ := ap_facts (ak := 2) (an := 1) (sa := sa) (bk := 2) (bn := 0) (sb := sb) hb1
      have B1 := Lib.hid (below_next (ap_below w (2) (1) (sa) (2) (0) (sb)) hb1)
      clear hb1
      go_wp2_with fail
      refine bodyPost_ret (v := .tuple #[(tru false).val none 0, .int .i64 0]) (by simp [results, Tryz.results73, go_sem, e0, tru, Vl.val, k0, k1, k2, k3]) rfl (ev_one (x := tru false) (by simp [twoV]) rfl rfl (below_put4 B1.out (by omega) _ _ _ _))
    · go_enter Tryz.func73, Tryz.ntmps73
      go_wp2_with fail
      refine (CT.out true _).mono ?_
      rintro e w1 ⟨rfl, hb1⟩
      obtain ⟨⟨f0, f1, f2, f3⟩, k0, k1, k2, k3, hz⟩ := ap_facts (ak := 2) (an := 1) (sa := sa) (bk := 2) (bn := 1) (sb := sb) hb1
      have B1 := Lib.hid (below_next (ap_below w (2) (1) (sa) (2) (1) (sb)) hb1)
      clear hb1
      go_wp2_with fail
      refine bodyPost_ret (v := .tuple #[(tru true).val none 0, .int .i64 0]) (by simp [results, Tryz.results73, go_sem, e0, tru, Vl.val, k0, k1, k2, k3]) rfl (ev_one (x := tru true) (by simp [twoV]) rfl rfl (below_put4 B1.out (by omega) _ _ _ _))
set_option maxRecDepth 100000 in
set_option maxHeartbeats 8000000 in
theorem ap14_no (ak an : Int) (sa : ByteArray) (bk bn : Int) (sb : ByteArray) (hn : ¬ (ak = 2 ∧ bk = 2)) (w : World) : Calls Tryz.prog 73 #[.int .i64 14, .agg #[.int .i64 ak, .int .i64 an, .string sa, .slice none 0 0], .agg #[.int .i64 bk, .int .i64 bn, .string sb, .slice none 0 0]] w (EvPost none w) := by
  have CT := Lib.hid (fun b w => truth_any b w)
  have CW := Lib.hid (fun w => wrong_any w)
  by_cases h1 : ak = 2
  · subst h1
    have h2 : bk ≠ 2 := fun h => hn ⟨rfl, h⟩
    have e2 : (bk != 2) = true := by simpa using h2
    go_enter Tryz.func73, Tryz.ntmps73
    go_wp2_with fail
    refine (CW.out (apW w (2) (an) (sa) (bk) (bn) (sb))).mono ?_
    rintro e w1 ⟨i0, i1, s, Q, m, c, k, rfl, hb1, hi⟩
    obtain ⟨⟨f0, f1, f2, f3⟩, k0, k1, k2, k3, hz⟩ := ap_facts (ak := 2) (an := an) (sa := sa) (bk := bk) (bn := bn) (sb := sb) hb1
    have HI := Lib.hid hi
    have HB1 := Lib.hid hb1
    clear hi hb1
    go_wp2_with fail
    refine bodyPost_ret (v := .tuple #[.agg #[.int .i64 i0, .int .i64 i1, .string s, .slice Q m c], .int .i64 k]) (by simp [results, Tryz.results73, go_sem, k0, k1, k2, k3]) rfl ?_
    exact ev_pass (ap_below w (2) (an) (sa) (bk) (bn) (sb)) HB1.out HI.out (by omega) (by rw [ap_size]; omega)
  · have e1 : (ak != 2) = true := by simpa using h1
    go_enter Tryz.func73, Tryz.ntmps73
    go_wp2_with fail
    refine (CW.out (apW w (ak) (an) (sa) (bk) (bn) (sb))).mono ?_
    rintro e w1 ⟨i0, i1, s, Q, m, c, k, rfl, hb1, hi⟩
    obtain ⟨⟨f0, f1, f2, f3⟩, k0, k1, k2, k3, hz⟩ := ap_facts (ak := ak) (an := an) (sa := sa) (bk := bk) (bn := bn) (sb := sb) hb1
    have HI := Lib.hid hi
    have HB1 := Lib.hid hb1
    clear hi hb1
    go_wp2_with fail
    refine bodyPost_ret (v := .tuple #[.agg #[.int .i64 i0, .int .i64 i1, .string s, .slice Q m c], .int .i64 k]) (by simp [results, Tryz.results73, go_sem, k0, k1, k2, k3]) rfl ?_
    exact ev_pass (ap_below w (ak) (an) (sa) (bk) (bn) (sb)) HB1.out HI.out (by omega) (by rw [ap_size]; omega)
set_option maxRecDepth 100000 in
set_option maxHeartbeats 8000000 in
theorem ap14_yes (an : Int) (sa : ByteArray) (bn : Int) (sb : ByteArray) (ha : an = 0 ∨ an = 1) (hb : bn = 0 ∨ bn = 1) (w : World) : Calls Tryz.prog 73 #[.int .i64 14, .agg #[.int .i64 2, .int .i64 an, .string sa, .slice none 0 0], .agg #[.int .i64 2, .int .i64 bn, .string sb, .slice none 0 0]] w (EvPost (twoV 14 ⟨2, an, sa, []⟩ ⟨2, bn, sb, []⟩) w) := by
  have CT := Lib.hid (fun b w => truth_any b w)
  have CW := Lib.hid (fun w => wrong_any w)
  rcases ha with rfl | rfl
  · rcases hb with rfl | rfl
    · go_enter Tryz.func73, Tryz.ntmps73
      go_wp2_with fail
      refine (CT.out false _).mono ?_
      rintro e w1 ⟨rfl, hb1⟩
      obtain ⟨⟨f0, f1, f2, f3⟩, k0, k1, k2, k3, hz⟩ := ap_facts (ak := 2) (an := 0) (sa := sa) (bk := 2) (bn := 0) (sb := sb) hb1
      have B1 := Lib.hid (below_next (ap_below w (2) (0) (sa) (2) (0) (sb)) hb1)
      clear hb1
      go_wp2_with fail
      refine bodyPost_ret (v := .tuple #[(tru false).val none 0, .int .i64 0]) (by simp [results, Tryz.results73, go_sem, e0, tru, Vl.val, k0, k1, k2, k3]) rfl (ev_one (x := tru false) (by simp [twoV]) rfl rfl (below_put4 B1.out (by omega) _ _ _ _))
    · go_enter Tryz.func73, Tryz.ntmps73
      go_wp2_with fail
      refine (CT.out true _).mono ?_
      rintro e w1 ⟨rfl, hb1⟩
      obtain ⟨⟨f0, f1, f2, f3⟩, k0, k1, k2, k3, hz⟩ := ap_facts (ak := 2) (an := 0) (sa := sa) (bk := 2) (bn := 1) (sb := sb) hb1
      have B1 := Lib.hid (below_next (ap_below w (2) (0) (sa) (2) (1) (sb)) hb1)
      clear hb1
      go_wp2_with fail
      refine bodyPost_ret (v := .tuple #[(tru true).val none 0, .int .i64 0]) (by simp [results, Tryz.results73, go_sem, e0, tru, Vl.val, k0, k1, k2, k3]) rfl (ev_one (x := tru true) (by simp [twoV]) rfl rfl (below_put4 B1.out (by omega) _ _ _ _))
  · rcases hb with rfl | rfl
    · go_enter Tryz.func73, Tryz.ntmps73
      go_wp2_with fail
      refine (CT.out true _).mono ?_
      rintro e w1 ⟨rfl, hb1⟩
      obtain ⟨⟨f0, f1, f2, f3⟩, k0, k1, k2, k3, hz⟩ := ap_facts (ak := 2) (an := 1) (sa := sa) (bk := 2) (bn := 0) (sb := sb) hb1
      have B1 := Lib.hid (below_next (ap_below w (2) (1) (sa) (2) (0) (sb)) hb1)
      clear hb1
      go_wp2_with fail
      refine bodyPost_ret (v := .tuple #[(tru true).val none 0, .int .i64 0]) (by simp [results, Tryz.results73, go_sem, e0, tru, Vl.val, k0, k1, k2, k3]) rfl (ev_one (x := tru true) (by simp [twoV]) rfl rfl (below_put4 B1.out (by omega) _ _ _ _))
    · go_enter Tryz.func73, Tryz.ntmps73
      go_wp2_with fail
      refine (CT.out true _).mono ?_
      rintro e w1 ⟨rfl, hb1⟩
      obtain ⟨⟨f0, f1, f2, f3⟩, k0, k1, k2, k3, hz⟩ := ap_facts (ak := 2) (an := 1) (sa := sa) (bk := 2) (bn := 1) (sb := sb) hb1
      have B1 := Lib.hid (below_next (ap_below w (2) (1) (sa) (2) (1) (sb)) hb1)
      clear hb1
      go_wp2_with fail
      refine bodyPost_ret (v := .tuple #[(tru true).val none 0, .int .i64 0]) (by simp [results, Tryz.results73, go_sem, e0, tru, Vl.val, k0, k1, k2, k3]) rfl (ev_one (x := tru true) (by simp [twoV]) rfl rfl (below_put4 B1.out (by omega) _ _ _ _))
set_option maxRecDepth 100000 in
set_option maxHeartbeats 8000000 in
theorem ap15_no (ak an : Int) (sa : ByteArray) (bk bn : Int) (sb : ByteArray) (hn : ak ≠ 2) (w : World) : Calls Tryz.prog 73 #[.int .i64 15, .agg #[.int .i64 ak, .int .i64 an, .string sa, .slice none 0 0], .agg #[.int .i64 bk, .int .i64 bn, .string sb, .slice none 0 0]] w (EvPost none w) := by
  have CT := Lib.hid (fun b w => truth_any b w)
  have CW := Lib.hid (fun w => wrong_any w)
  have e1 : (ak != 2) = true := by simpa using hn
  go_enter Tryz.func73, Tryz.ntmps73
  go_wp2_with fail
  refine (CW.out (apW w (ak) (an) (sa) (bk) (bn) (sb))).mono ?_
  rintro e w1 ⟨i0, i1, s, Q, m, c, k, rfl, hb1, hi⟩
  obtain ⟨⟨f0, f1, f2, f3⟩, k0, k1, k2, k3, hz⟩ := ap_facts (ak := ak) (an := an) (sa := sa) (bk := bk) (bn := bn) (sb := sb) hb1
  have HI := Lib.hid hi
  have HB1 := Lib.hid hb1
  clear hi hb1
  go_wp2_with fail
  refine bodyPost_ret (v := .tuple #[.agg #[.int .i64 i0, .int .i64 i1, .string s, .slice Q m c], .int .i64 k]) (by simp [results, Tryz.results73, go_sem, k0, k1, k2, k3]) rfl ?_
  exact ev_pass (ap_below w (ak) (an) (sa) (bk) (bn) (sb)) HB1.out HI.out (by omega) (by rw [ap_size]; omega)
set_option maxRecDepth 100000 in
set_option maxHeartbeats 8000000 in
theorem ap15_yes (an : Int) (sa : ByteArray) (bk bn : Int) (sb : ByteArray) (ha : an = 0 ∨ an = 1) (w : World) : Calls Tryz.prog 73 #[.int .i64 15, .agg #[.int .i64 2, .int .i64 an, .string sa, .slice none 0 0], .agg #[.int .i64 bk, .int .i64 bn, .string sb, .slice none 0 0]] w (EvPost (oneV 15 ⟨2, an, sa, []⟩) w) := by
  have CT := Lib.hid (fun b w => truth_any b w)
  have CW := Lib.hid (fun w => wrong_any w)
  rcases ha with rfl | rfl
  · go_enter Tryz.func73, Tryz.ntmps73
    go_wp2_with fail
    refine (CT.out true _).mono ?_
    rintro e w1 ⟨rfl, hb1⟩
    obtain ⟨⟨f0, f1, f2, f3⟩, k0, k1, k2, k3, hz⟩ := ap_facts (ak := 2) (an := 0) (sa := sa) (bk := bk) (bn := bn) (sb := sb) hb1
    have B1 := Lib.hid (below_next (ap_below w (2) (0) (sa) (bk) (bn) (sb)) hb1)
    clear hb1
    go_wp2_with fail
    refine bodyPost_ret (v := .tuple #[(tru true).val none 0, .int .i64 0]) (by simp [results, Tryz.results73, go_sem, e0, tru, Vl.val, k0, k1, k2, k3]) rfl (ev_one (x := tru true) (by simp [oneV]) rfl rfl (below_put4 B1.out (by omega) _ _ _ _))
  · go_enter Tryz.func73, Tryz.ntmps73
    go_wp2_with fail
    refine (CT.out false _).mono ?_
    rintro e w1 ⟨rfl, hb1⟩
    obtain ⟨⟨f0, f1, f2, f3⟩, k0, k1, k2, k3, hz⟩ := ap_facts (ak := 2) (an := 1) (sa := sa) (bk := bk) (bn := bn) (sb := sb) hb1
    have B1 := Lib.hid (below_next (ap_below w (2) (1) (sa) (bk) (bn) (sb)) hb1)
    clear hb1
    go_wp2_with fail
    refine bodyPost_ret (v := .tuple #[(tru false).val none 0, .int .i64 0]) (by simp [results, Tryz.results73, go_sem, e0, tru, Vl.val, k0, k1, k2, k3]) rfl (ev_one (x := tru false) (by simp [oneV]) rfl rfl (below_put4 B1.out (by omega) _ _ _ _))
set_option maxRecDepth 100000 in
set_option maxHeartbeats 8000000 in
theorem ap16_no (ak an : Int) (sa : ByteArray) (bk bn : Int) (sb : ByteArray) (hn : ak ≠ 3 ∧ ak ≠ 4) (w : World) : Calls Tryz.prog 73 #[.int .i64 16, .agg #[.int .i64 ak, .int .i64 an, .string sa, .slice none 0 0], .agg #[.int .i64 bk, .int .i64 bn, .string sb, .slice none 0 0]] w (EvPost none w) := by
  have CT := Lib.hid (fun b w => truth_any b w)
  have CW := Lib.hid (fun w => wrong_any w)
  have e1 : (ak == 3) = false := by simpa using hn.1
  have e2 : (ak == 4) = false := by simpa using hn.2
  go_enter Tryz.func73, Tryz.ntmps73
  go_wp2_with fail
  refine (CW.out (apW w (ak) (an) (sa) (bk) (bn) (sb))).mono ?_
  rintro e w1 ⟨i0, i1, s, Q, m, c, k, rfl, hb1, hi⟩
  obtain ⟨⟨f0, f1, f2, f3⟩, k0, k1, k2, k3, hz⟩ := ap_facts (ak := ak) (an := an) (sa := sa) (bk := bk) (bn := bn) (sb := sb) hb1
  have HI := Lib.hid hi
  have HB1 := Lib.hid hb1
  clear hi hb1
  go_wp2_with fail
  refine bodyPost_ret (v := .tuple #[.agg #[.int .i64 i0, .int .i64 i1, .string s, .slice Q m c], .int .i64 k]) (by simp [results, Tryz.results73, go_sem, k0, k1, k2, k3]) rfl ?_
  exact ev_pass (ap_below w (ak) (an) (sa) (bk) (bn) (sb)) HB1.out HI.out (by omega) (by rw [ap_size]; omega)
set_option maxRecDepth 100000 in
set_option maxHeartbeats 8000000 in
theorem ap16_text (an : Int) (sa : ByteArray) (bk bn : Int) (sb : ByteArray) (w : World) : Calls Tryz.prog 73 #[.int .i64 16, .agg #[.int .i64 3, .int .i64 an, .string sa, .slice none 0 0], .agg #[.int .i64 bk, .int .i64 bn, .string sb, .slice none 0 0]] w (EvPost (some (numL sa.size)) w) := by
  go_enter Tryz.func73, Tryz.ntmps73
  go_wp2_with fail
  refine bodyPost_ret (v := .tuple #[(numL sa.size).val none 0, .int .i64 0]) (by simp [results, Tryz.results73, go_sem, e0, numL, Vl.val]) rfl (ev_one (x := numL sa.size) rfl rfl rfl (below_push (below_push (below_new _ _) _) _))
set_option maxRecDepth 100000 in
set_option maxHeartbeats 8000000 in
theorem ap16_list (an : Int) (sa : ByteArray) (bk bn : Int) (sb : ByteArray) (w : World) : Calls Tryz.prog 73 #[.int .i64 16, .agg #[.int .i64 4, .int .i64 an, .string sa, .slice none 0 0], .agg #[.int .i64 bk, .int .i64 bn, .string sb, .slice none 0 0]] w (EvPost (some (numL 0)) w) := by
  go_enter Tryz.func73, Tryz.ntmps73
  go_wp2_with fail
  refine bodyPost_ret (v := .tuple #[(numL 0).val none 0, .int .i64 0]) (by simp [results, Tryz.results73, go_sem, e0, numL, Vl.val]) rfl (ev_one (x := numL 0) rfl rfl rfl (below_push (below_push (below_new _ _) _) _))
set_option maxRecDepth 100000 in
set_option maxHeartbeats 8000000 in
theorem ap17_no (ak an : Int) (sa : ByteArray) (bk bn : Int) (sb : ByteArray) (hn : ¬ (ak = 4 ∧ bk = 1)) (w : World) : Calls Tryz.prog 73 #[.int .i64 17, .agg #[.int .i64 ak, .int .i64 an, .string sa, .slice none 0 0], .agg #[.int .i64 bk, .int .i64 bn, .string sb, .slice none 0 0]] w (EvPost none w) := by
  have CT := Lib.hid (fun b w => truth_any b w)
  have CW := Lib.hid (fun w => wrong_any w)
  by_cases h1 : ak = 4
  · subst h1
    have h2 : bk ≠ 1 := fun h => hn ⟨rfl, h⟩
    have e2 : (bk != 1) = true := by simpa using h2
    go_enter Tryz.func73, Tryz.ntmps73
    go_wp2_with fail
    refine (CW.out (apW w (4) (an) (sa) (bk) (bn) (sb))).mono ?_
    rintro e w1 ⟨i0, i1, s, Q, m, c, k, rfl, hb1, hi⟩
    obtain ⟨⟨f0, f1, f2, f3⟩, k0, k1, k2, k3, hz⟩ := ap_facts (ak := 4) (an := an) (sa := sa) (bk := bk) (bn := bn) (sb := sb) hb1
    have HI := Lib.hid hi
    have HB1 := Lib.hid hb1
    clear hi hb1
    go_wp2_with fail
    refine bodyPost_ret (v := .tuple #[.agg #[.int .i64 i0, .int .i64 i1, .string s, .slice Q m c], .int .i64 k]) (by simp [results, Tryz.results73, go_sem, k0, k1, k2, k3]) rfl ?_
    exact ev_pass (ap_below w (4) (an) (sa) (bk) (bn) (sb)) HB1.out HI.out (by omega) (by rw [ap_size]; omega)
  · have e1 : (ak != 4) = true := by simpa using h1
    go_enter Tryz.func73, Tryz.ntmps73
    go_wp2_with fail
    refine (CW.out (apW w (ak) (an) (sa) (bk) (bn) (sb))).mono ?_
    rintro e w1 ⟨i0, i1, s, Q, m, c, k, rfl, hb1, hi⟩
    obtain ⟨⟨f0, f1, f2, f3⟩, k0, k1, k2, k3, hz⟩ := ap_facts (ak := ak) (an := an) (sa := sa) (bk := bk) (bn := bn) (sb := sb) hb1
    have HI := Lib.hid hi
    have HB1 := Lib.hid hb1
    clear hi hb1
    go_wp2_with fail
    refine bodyPost_ret (v := .tuple #[.agg #[.int .i64 i0, .int .i64 i1, .string s, .slice Q m c], .int .i64 k]) (by simp [results, Tryz.results73, go_sem, k0, k1, k2, k3]) rfl ?_
    exact ev_pass (ap_below w (ak) (an) (sa) (bk) (bn) (sb)) HB1.out HI.out (by omega) (by rw [ap_size]; omega)
set_option maxRecDepth 100000 in
set_option maxHeartbeats 8000000 in
theorem ap17_yes (an : Int) (sa : ByteArray) (bn : Int) (sb : ByteArray) (w : World) : Calls Tryz.prog 73 #[.int .i64 17, .agg #[.int .i64 4, .int .i64 an, .string sa, .slice none 0 0], .agg #[.int .i64 1, .int .i64 bn, .string sb, .slice none 0 0]] w (EvPost none w) := by
  by_cases h1 : bn < 0
  · have e1 : decide (bn < 0) = true := decide_eq_true h1
    go_enter Tryz.func73, Tryz.ntmps73
    go_wp2_with fail
    refine bodyPost_ret (v := .tuple #[.agg #[.int .i64 0, .int .i64 0, .string e0, .slice none 0 0], .int .i64 404]) (by simp [results, Tryz.results73, go_sem, e0]) rfl (ev_err 404 rfl rfl (by decide) (below_push (below_push (below_new _ _) _) _))
  · have e1 : decide (bn < 0) = false := decide_eq_false h1
    have e2 : decide (0 ≤ bn) = true := decide_eq_true (by omega)
    go_enter Tryz.func73, Tryz.ntmps73
    go_wp2_with fail
    refine bodyPost_ret (v := .tuple #[.agg #[.int .i64 0, .int .i64 0, .string e0, .slice none 0 0], .int .i64 404]) (by simp [results, Tryz.results73, go_sem, e0]) rfl (ev_err 404 rfl rfl (by decide) (below_push (below_push (below_new _ _) _) _))
set_option maxRecDepth 100000 in
set_option maxHeartbeats 8000000 in
theorem ap18_no (ak an : Int) (sa : ByteArray) (bk bn : Int) (sb : ByteArray) (hn : ¬ (ak = 4 ∧ bk = 1)) (w : World) : Calls Tryz.prog 73 #[.int .i64 18, .agg #[.int .i64 ak, .int .i64 an, .string sa, .slice none 0 0], .agg #[.int .i64 bk, .int .i64 bn, .string sb, .slice none 0 0]] w (EvPost none w) := by
  have CT := Lib.hid (fun b w => truth_any b w)
  have CW := Lib.hid (fun w => wrong_any w)
  by_cases h1 : ak = 4
  · subst h1
    have h2 : bk ≠ 1 := fun h => hn ⟨rfl, h⟩
    have e2 : (bk != 1) = true := by simpa using h2
    go_enter Tryz.func73, Tryz.ntmps73
    go_wp2_with fail
    refine (CW.out (apW w (4) (an) (sa) (bk) (bn) (sb))).mono ?_
    rintro e w1 ⟨i0, i1, s, Q, m, c, k, rfl, hb1, hi⟩
    obtain ⟨⟨f0, f1, f2, f3⟩, k0, k1, k2, k3, hz⟩ := ap_facts (ak := 4) (an := an) (sa := sa) (bk := bk) (bn := bn) (sb := sb) hb1
    have HI := Lib.hid hi
    have HB1 := Lib.hid hb1
    clear hi hb1
    go_wp2_with fail
    refine bodyPost_ret (v := .tuple #[.agg #[.int .i64 i0, .int .i64 i1, .string s, .slice Q m c], .int .i64 k]) (by simp [results, Tryz.results73, go_sem, k0, k1, k2, k3]) rfl ?_
    exact ev_pass (ap_below w (4) (an) (sa) (bk) (bn) (sb)) HB1.out HI.out (by omega) (by rw [ap_size]; omega)
  · have e1 : (ak != 4) = true := by simpa using h1
    go_enter Tryz.func73, Tryz.ntmps73
    go_wp2_with fail
    refine (CW.out (apW w (ak) (an) (sa) (bk) (bn) (sb))).mono ?_
    rintro e w1 ⟨i0, i1, s, Q, m, c, k, rfl, hb1, hi⟩
    obtain ⟨⟨f0, f1, f2, f3⟩, k0, k1, k2, k3, hz⟩ := ap_facts (ak := ak) (an := an) (sa := sa) (bk := bk) (bn := bn) (sb := sb) hb1
    have HI := Lib.hid hi
    have HB1 := Lib.hid hb1
    clear hi hb1
    go_wp2_with fail
    refine bodyPost_ret (v := .tuple #[.agg #[.int .i64 i0, .int .i64 i1, .string s, .slice Q m c], .int .i64 k]) (by simp [results, Tryz.results73, go_sem, k0, k1, k2, k3]) rfl ?_
    exact ev_pass (ap_below w (ak) (an) (sa) (bk) (bn) (sb)) HB1.out HI.out (by omega) (by rw [ap_size]; omega)
set_option maxRecDepth 100000 in
set_option maxHeartbeats 8000000 in
theorem ap19_no (ak an : Int) (sa : ByteArray) (bk bn : Int) (sb : ByteArray) (hn : ¬ (ak = 3 ∧ bk = 3)) (w : World) : Calls Tryz.prog 73 #[.int .i64 19, .agg #[.int .i64 ak, .int .i64 an, .string sa, .slice none 0 0], .agg #[.int .i64 bk, .int .i64 bn, .string sb, .slice none 0 0]] w (EvPost none w) := by
  have CT := Lib.hid (fun b w => truth_any b w)
  have CW := Lib.hid (fun w => wrong_any w)
  by_cases h1 : ak = 3
  · subst h1
    have h2 : bk ≠ 3 := fun h => hn ⟨rfl, h⟩
    have e2 : (bk != 3) = true := by simpa using h2
    go_enter Tryz.func73, Tryz.ntmps73
    go_wp2_with fail
    refine (CW.out (apW w (3) (an) (sa) (bk) (bn) (sb))).mono ?_
    rintro e w1 ⟨i0, i1, s, Q, m, c, k, rfl, hb1, hi⟩
    obtain ⟨⟨f0, f1, f2, f3⟩, k0, k1, k2, k3, hz⟩ := ap_facts (ak := 3) (an := an) (sa := sa) (bk := bk) (bn := bn) (sb := sb) hb1
    have HI := Lib.hid hi
    have HB1 := Lib.hid hb1
    clear hi hb1
    go_wp2_with fail
    refine bodyPost_ret (v := .tuple #[.agg #[.int .i64 i0, .int .i64 i1, .string s, .slice Q m c], .int .i64 k]) (by simp [results, Tryz.results73, go_sem, k0, k1, k2, k3]) rfl ?_
    exact ev_pass (ap_below w (3) (an) (sa) (bk) (bn) (sb)) HB1.out HI.out (by omega) (by rw [ap_size]; omega)
  · have e1 : (ak != 3) = true := by simpa using h1
    go_enter Tryz.func73, Tryz.ntmps73
    go_wp2_with fail
    refine (CW.out (apW w (ak) (an) (sa) (bk) (bn) (sb))).mono ?_
    rintro e w1 ⟨i0, i1, s, Q, m, c, k, rfl, hb1, hi⟩
    obtain ⟨⟨f0, f1, f2, f3⟩, k0, k1, k2, k3, hz⟩ := ap_facts (ak := ak) (an := an) (sa := sa) (bk := bk) (bn := bn) (sb := sb) hb1
    have HI := Lib.hid hi
    have HB1 := Lib.hid hb1
    clear hi hb1
    go_wp2_with fail
    refine bodyPost_ret (v := .tuple #[.agg #[.int .i64 i0, .int .i64 i1, .string s, .slice Q m c], .int .i64 k]) (by simp [results, Tryz.results73, go_sem, k0, k1, k2, k3]) rfl ?_
    exact ev_pass (ap_below w (ak) (an) (sa) (bk) (bn) (sb)) HB1.out HI.out (by omega) (by rw [ap_size]; omega)
set_option maxRecDepth 100000 in
set_option maxHeartbeats 8000000 in
theorem ap19_yes (an : Int) (sa : ByteArray) (bn : Int) (sb : ByteArray) (ha : sa.size ≤ 24) (hb : sb.size ≤ 24) (w : World) : Calls Tryz.prog 73 #[.int .i64 19, .agg #[.int .i64 3, .int .i64 an, .string sa, .slice none 0 0], .agg #[.int .i64 3, .int .i64 bn, .string sb, .slice none 0 0]] w (EvPost (if 24 < sa.size + sb.size then none else some (⟨3, 0, sa ++ sb, []⟩ : Vl)) w) := by
  by_cases h1 : 24 < sa.size + sb.size
  · have e1 : decide ((24 : Int) < (sa.size : Int) + (sb.size : Int)) = true := decide_eq_true (by omega)
    rw [if_pos h1]
    go_enter Tryz.func73, Tryz.ntmps73
    go_wp2_with fail
    refine bodyPost_ret (v := .tuple #[.agg #[.int .i64 0, .int .i64 0, .string e0, .slice none 0 0], .int .i64 405]) (by simp [results, Tryz.results73, go_sem, e0]) rfl (ev_err 405 rfl rfl (by decide) (below_push (below_push (below_new _ _) _) _))
  · have e1 : decide ((24 : Int) < (sa.size : Int) + (sb.size : Int)) = false := decide_eq_false (by omega)
    have e2 : ¬ 9223372036854775807 < sa.size + sb.size := by omega
    rw [if_neg h1]
    go_enter Tryz.func73, Tryz.ntmps73
    go_wp2_with fail
    refine bodyPost_ret (v := .tuple #[((⟨3, 0, sa ++ sb, []⟩ : Vl)).val none 0, .int .i64 0]) (by simp [results, Tryz.results73, go_sem, Vl.val]) rfl (ev_one (x := (⟨3, 0, sa ++ sb, []⟩ : Vl)) rfl rfl rfl (below_push (below_push (below_new _ _) _) _))
end Go.Proofs.YtbemdcbglpjmiaaGreatDoor
