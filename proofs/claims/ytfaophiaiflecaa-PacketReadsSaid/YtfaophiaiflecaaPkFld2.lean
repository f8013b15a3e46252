/- Contracts: packet.number[int64], packet.list, what they make to write (lists that are empty), packet.value. -/
import Derived.Test.YtfaophiaiflecaaPkWrite
import Derived.LoopN
namespace Go.Proofs.Ytfaophiaiflecaa
open Go.RowKit

abbrev n64W (b : Nat) : Value := .func (.func 89) #[] #[.pointer (some ⟨b, 0, none⟩)]
abbrev n64R (b : Nat) : Value := .func (.func 90) #[] #[.pointer (some ⟨b, 0, none⟩)]
abbrev l64W (b : Nat) : Value := .func (.func 91) #[] #[.pointer (some ⟨b, 0, none⟩), .pointer (some ⟨b + 1, 0, none⟩)]
abbrev l64R (b : Nat) : Value := .func (.func 92) #[] #[.pointer (some ⟨b + 1, 0, none⟩), .pointer (some ⟨b, 0, none⟩)]
abbrev lBW (b : Nat) : Value := .func (.func 85) #[] #[.pointer (some ⟨b, 0, none⟩), .pointer (some ⟨b + 1, 0, none⟩)]
abbrev lBR (b : Nat) : Value := .func (.func 86) #[] #[.pointer (some ⟨b + 1, 0, none⟩), .pointer (some ⟨b, 0, none⟩)]
def withN64 (w : World) (p : Addr) : World := (w.alloc (.cells #[.pointer (some p)] 106)).alloc (.cells #[n64W w.heap.size, n64R w.heap.size] 86)
def withL64 (w : World) (p : Addr) (f : Value) : World := ((w.alloc (.cells #[.pointer (some p)] 110)).alloc (.cells #[f] 108)).alloc (.cells #[l64W w.heap.size, l64R w.heap.size] 86)
def withLB (w : World) (p : Addr) (f : Value) : World := ((w.alloc (.cells #[.pointer (some p)] 94)).alloc (.cells #[f] 95)).alloc (.cells #[lBW w.heap.size, lBR w.heap.size] 86)
theorem number64_any (p : Addr) (w : World) :
    Calls Try.prog 83 #[.pointer (some p)] w fun e w' => e = .returned (.agg #[n64W w.heap.size, n64R w.heap.size]) ∧ w' = withN64 w p := by
  have hmf := mf Try.prog
  have hb := Blk.new (w.alloc (.cells #[.pointer (some p)] 106)) #[n64W w.heap.size, n64R w.heap.size] 86
  rw [World.size_alloc] at hb
  have Q0 := Lib.hid (hb.cell 0)
  have Q1 := Lib.hid (hb.cell 1)
  clear hb
  go_enter Try.func83, Try.ntmps83
  go_wp2_with fail
  have q0 := Q0.out
  have q1 := Q1.out
  exact bodyPost_ret (v := .agg #[n64W w.heap.size, n64R w.heap.size]) (by simp [results, Try.results83, go_sem, q0, q1]) rfl ⟨rfl, rfl⟩
theorem list64_any (p : Addr) (f : Nat) (w : World) :
    Calls Try.prog 84 #[.pointer (some p), .func (.func f) #[] #[]] w fun e w' => e = .returned (.agg #[l64W w.heap.size, l64R w.heap.size]) ∧ w' = withL64 w p (.func (.func f) #[] #[]) := by
  have hmf := mf Try.prog
  have hb := Blk.new ((w.alloc (.cells #[.pointer (some p)] 110)).alloc (.cells #[.func (.func f) #[] #[]] 108)) #[l64W w.heap.size, l64R w.heap.size] 86
  rw [World.size_alloc, World.size_alloc] at hb
  have Q0 := Lib.hid (hb.cell 0)
  have Q1 := Lib.hid (hb.cell 1)
  clear hb
  go_enter Try.func84, Try.ntmps84
  go_wp2_with fail
  have q0 := Q0.out
  have q1 := Q1.out
  exact bodyPost_ret (v := .agg #[l64W w.heap.size, l64R w.heap.size]) (by simp [results, Try.results84, go_sem, q0, q1]) rfl ⟨rfl, rfl⟩
theorem listB_any (p : Addr) (f : Nat) (w : World) :
    Calls Try.prog 57 #[.pointer (some p), .func (.func f) #[] #[]] w fun e w' => e = .returned (.agg #[lBW w.heap.size, lBR w.heap.size]) ∧ w' = withLB w p (.func (.func f) #[] #[]) := by
  have hmf := mf Try.prog
  have hb := Blk.new ((w.alloc (.cells #[.pointer (some p)] 94)).alloc (.cells #[.func (.func f) #[] #[]] 95)) #[lBW w.heap.size, lBR w.heap.size] 86
  rw [World.size_alloc, World.size_alloc] at hb
  have Q0 := Lib.hid (hb.cell 0)
  have Q1 := Lib.hid (hb.cell 1)
  clear hb
  go_enter Try.func57, Try.ntmps57
  go_wp2_with fail
  have q0 := Q0.out
  have q1 := Q1.out
  exact bodyPost_ret (v := .agg #[lBW w.heap.size, lBR w.heap.size]) (by simp [results, Try.results57, go_sem, q0, q1]) rfl ⟨rfl, rfl⟩
theorem number641_any (b : Nat) (p : Addr) (n : Int) (w : World) (hb : Blk w b #[.pointer (some p)] 106) (hp : w.cell? p = some (.int .i64 n)) (h1 : -9223372036854775808 ≤ n) (h2 : n ≤ 9223372036854775807) :
    Calls Try.prog 89 #[.pointer (some ⟨b, 0, none⟩)] w fun e w' => e = .returned (.string ⟨(numB n).toArray⟩) ∧ Below w.heap.size w w' := by
  have HN := Lib.hid (fun W => number_any n W h1 h2)
  obtain ⟨x0, _⟩ := blk1 hb
  clear h1 h2
  go_enter Try.func89, Try.ntmps89
  go_wp2_with fail
  refine (HN.out _).mono ?_
  rintro e w1 ⟨rfl, hb⟩
  have B1 := Lib.hid hb
  clear hb
  go_wp2_with fail
  go_ret
  exact ⟨rfl, B1.out⟩
set_option maxHeartbeats 800000 in
theorem list641_nil (b : Nat) (p : Addr) (A : Option Addr) (c : Nat) (x : Value) (w : World) (hb : Blk w b #[.pointer (some p)] 110) (hp : w.cell? p = some (.slice A 0 c)) :
    Calls Try.prog 91 #[.pointer (some ⟨b, 0, none⟩), x] w fun e w' => e = .returned (.string ⟨(numB 0).toArray⟩) ∧ Below w.heap.size w w' := by
  have HN := Lib.hid (fun W => number_any 0 W (by omega) (by omega))
  have hpl := World.block_lt_of_cell? w _ hp
  have KS := Lib.hid (fun W (hw : Below w.heap.size w W) => show W.cell? ⟨b, 0, none⟩ = some (.pointer (some p)) ∧ W.cell? p = some (.slice A 0 c) from ⟨(hw.cell (p := ⟨b, 0, none⟩) hb.lt).trans (hb.cell 0), (hw.cell hpl).trans hp⟩)
  obtain ⟨x0, x1⟩ := KS.out w (Below.refl _ _)
  clear hb hp hpl
  go_enter Try.func91, Try.ntmps91
  go_wp2_with fail
  refine (HN.out _).mono ?_
  rintro e w1 ⟨rfl, hb⟩
  have B1 := Lib.hid hb
  clear x0 x1 hb
  obtain ⟨x0, x1⟩ := KS.out w1 B1.out
  go_wp2_with fail
  refine wp_loop_rounds 1 ?_
  rw [rounds_succ]
  go_wp2_with fail
  go_ret
  exact ⟨rfl, B1.out⟩
set_option maxHeartbeats 800000 in
theorem listB1_nil (b : Nat) (p : Addr) (A : Option Addr) (c : Nat) (x : Value) (w : World) (hb : Blk w b #[.pointer (some p)] 94) (hp : w.cell? p = some (.slice A 0 c)) :
    Calls Try.prog 85 #[.pointer (some ⟨b, 0, none⟩), x] w fun e w' => e = .returned (.string ⟨(numB 0).toArray⟩) ∧ Below w.heap.size w w' := by
  have HN := Lib.hid (fun W => number_any 0 W (by omega) (by omega))
  have hpl := World.block_lt_of_cell? w _ hp
  have KS := Lib.hid (fun W (hw : Below w.heap.size w W) => show W.cell? ⟨b, 0, none⟩ = some (.pointer (some p)) ∧ W.cell? p = some (.slice A 0 c) from ⟨(hw.cell (p := ⟨b, 0, none⟩) hb.lt).trans (hb.cell 0), (hw.cell hpl).trans hp⟩)
  obtain ⟨x0, x1⟩ := KS.out w (Below.refl _ _)
  clear hb hp hpl
  go_enter Try.func85, Try.ntmps85
  go_wp2_with fail
  refine (HN.out _).mono ?_
  rintro e w1 ⟨rfl, hb⟩
  have B1 := Lib.hid hb
  clear x0 x1 hb
  obtain ⟨x0, x1⟩ := KS.out w1 B1.out
  go_wp2_with fail
  refine wp_loop_rounds 1 ?_
  rw [rounds_succ]
  go_wp2_with fail
  go_ret
  exact ⟨rfl, B1.out⟩
theorem size_withN64 (w : World) (p : Addr) : (withN64 w p).heap.size = w.heap.size + 2 := by unfold withN64; simp
theorem size_withL64 (w : World) (p : Addr) (f : Value) : (withL64 w p f).heap.size = w.heap.size + 3 := by unfold withL64; simp
theorem size_withLB (w : World) (p : Addr) (f : Value) : (withLB w p f).heap.size = w.heap.size + 3 := by unfold withLB; simp
theorem below_withN64 (w : World) (p : Addr) : Below w.heap.size w (withN64 w p) := ((Below.refl _ _).alloc (Nat.le_refl _) _).alloc (by simp) _
theorem below_withL64 (w : World) (p : Addr) (f : Value) : Below w.heap.size w (withL64 w p f) := below_allocS (below_allocS (below_allocS (Below.refl _ _) _) _) _
theorem below_withLB (w : World) (p : Addr) (f : Value) : Below w.heap.size w (withLB w p f) := below_allocS (below_allocS (below_allocS (Below.refl _ _) _) _) _
theorem blk_withN64 (w : World) (p : Addr) : Blk (withN64 w p) w.heap.size #[.pointer (some p)] 106 := (Blk.new w _ _).alloc _
theorem blk_withL64 (w : World) (p : Addr) (f : Value) : Blk (withL64 w p f) w.heap.size #[.pointer (some p)] 110 := ((Blk.new w _ _).alloc _).alloc _
theorem blk_withLB (w : World) (p : Addr) (f : Value) : Blk (withLB w p f) w.heap.size #[.pointer (some p)] 94 := ((Blk.new w _ _).alloc _).alloc _
set_option maxRecDepth 100000 in
set_option maxHeartbeats 1600000 in
theorem value_any (h o : Nat) (w : World) (t : TypeId) (cs : Array Value) (hb : Blk w h cs t) :
    Calls Try.prog 56 #[.pointer (some ⟨h, o, none⟩)] w fun e w' => ∃ (A : Option Addr) (b : Nat), e = .returned (.slice A 4 4) ∧ Rd w' A [numW b, numR b, n64W (b + 2), n64R (b + 2), txtW (b + 4), txtR (b + 4), l64W (b + 6), l64R (b + 6)] ∧
      Blk w' b #[.pointer (some ⟨h, o, none⟩)] 88 ∧ Blk w' (b + 2) #[.pointer (some ⟨h, o + 1, none⟩)] 106 ∧ Blk w' (b + 4) #[.pointer (some ⟨h, o + 2, none⟩)] 90 ∧ Blk w' (b + 6) #[.pointer (some ⟨h, o + 3, none⟩)] 110 ∧
      w.heap.size ≤ b ∧ Below w.heap.size w w' := by
  have hl := hb.lt
  go_enter Try.func56, Try.ntmps56
  go_wp2_with fail
  go_region_law (first
    | (go_simp; go_at_call 51; refine (numberInt_any _ _).mono ?_; rintro e wf ⟨rfl, rfl⟩; go_simp)
    | (go_simp; go_at_call 83; refine (number64_any _ _).mono ?_; rintro e wf ⟨rfl, rfl⟩; go_simp)
    | (go_simp; go_at_call 84; refine (list64_any _ _ _).mono ?_; rintro e wf ⟨rfl, rfl⟩; go_simp)
    | (go_simp; go_at_call 52; refine (text_any _ _).mono ?_; rintro e wf ⟨rfl, rfl⟩; go_simp))
  all_goals
    go_wp2_with fail
    go_ret
    have k0 := blk_withNum w.drew ⟨h, o, none⟩
    have s0 := size_withNum w.drew ⟨h, o, none⟩
    have l0 := below_withNum w.drew ⟨h, o, none⟩
    generalize withNum w.drew ⟨h, o, none⟩ = w1 at *
    have k1 := blk_withN64 w1 ⟨h, o + 1, none⟩
    have s1 := size_withN64 w1 ⟨h, o + 1, none⟩
    have l1 := below_withN64 w1 ⟨h, o + 1, none⟩
    generalize withN64 w1 ⟨h, o + 1, none⟩ = w2 at *
    have k2 := blk_withTxt w2 ⟨h, o + 2, none⟩
    have s2 := size_withTxt w2 ⟨h, o + 2, none⟩
    have l2 := below_withTxt w2 ⟨h, o + 2, none⟩
    generalize withTxt w2 ⟨h, o + 2, none⟩ = w3 at *
    have k3 := blk_withL64 w3 ⟨h, o + 3, none⟩ (.func (.func 82) #[] #[])
    have s3 := size_withL64 w3 ⟨h, o + 3, none⟩ (.func (.func 82) #[] #[])
    have l3 := below_withL64 w3 ⟨h, o + 3, none⟩ (.func (.func 82) #[] #[])
    generalize withL64 w3 ⟨h, o + 3, none⟩ (.func (.func 82) #[] #[]) = w4 at *
    have e0 : w.drew.heap.size = w.heap.size := rfl
    have e1 : w1.heap.size = w.heap.size + 2 := s0
    have e2 : w2.heap.size = w.heap.size + 4 := by rw [s1, e1]
    have e3 : w3.heap.size = w.heap.size + 6 := by rw [s2, e2]
    rw [e1] at k1
    rw [e2] at k2
    rw [e3] at k3
    rw [e1, e2, e3]
    have m1 := below_next l0 l1
    have m2 := below_next m1 l2
    have m3 := below_next m2 l3
    refine ⟨some ⟨w4.heap.size, 0, none⟩, w.heap.size, rfl, Rd.new w4 _ _, ?_, ?_, ?_, k3.alloc _, Nat.le_refl _, below_allocS (below_of_drew m3) _⟩
    · exact (((Blk.belowS k0 l1).belowS l2).belowS l3).alloc _
    · exact ((Blk.belowS k1 l2).belowS l3).alloc _
    · exact (Blk.belowS k2 l3).alloc _
end Go.Proofs.Ytfaophiaiflecaa
