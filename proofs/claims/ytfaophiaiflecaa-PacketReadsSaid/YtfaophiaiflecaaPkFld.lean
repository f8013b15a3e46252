/- Contracts: packet.number, packet.text, what they make, packet.frame. -/
import Derived.Test.YtfaophiaiflecaaPkF
import Derived.StillTailTactics
import Derived.Laws.EntriesVeiled
import Derived.RegionTactic
import Derived.Deep.RegionHeld3
import Derived.Deep.RegionLaw
import Derived.BigQuiet
namespace Go.Proofs.Ytfaophiaiflecaa
open Go.RowKit

theorem below_allocS {w w' : World} (h : Below w.heap.size w w') (o : Obj) : Below w.heap.size w (w'.alloc o) := h.alloc h.size o
theorem mf (P : Program) : ∀ (fn : Fn) (first cap : Array Value) (w : World), (Instr.makeFunc fn first cap).run P w = .ok (.func fn first cap) w := fun _ _ _ _ => rfl
/-- The two functions of a field of the kind number, over the box b; and of the kind text. -/
abbrev numW (b : Nat) : Value := .func (.func 75) #[] #[.pointer (some ⟨b, 0, none⟩)]
abbrev numR (b : Nat) : Value := .func (.func 77) #[] #[.pointer (some ⟨b, 0, none⟩)]
abbrev txtW (b : Nat) : Value := .func (.func 79) #[] #[.pointer (some ⟨b, 0, none⟩)]
abbrev txtR (b : Nat) : Value := .func (.func 80) #[] #[.pointer (some ⟨b, 0, none⟩)]
/-- The world behind the making of a field over p. -/
def withNum (w : World) (p : Addr) : World := (w.alloc (.cells #[.pointer (some p)] 88)).alloc (.cells #[numW w.heap.size, numR w.heap.size] 86)
def withTxt (w : World) (p : Addr) : World := (w.alloc (.cells #[.pointer (some p)] 90)).alloc (.cells #[txtW w.heap.size, txtR w.heap.size] 86)
theorem numberInt_any (p : Addr) (w : World) :
    Calls Try.prog 51 #[.pointer (some p)] w fun e w' => e = .returned (.agg #[numW w.heap.size, numR w.heap.size]) ∧ w' = withNum w p := by
  have hmf := mf Try.prog
  have hb := Blk.new (w.alloc (.cells #[.pointer (some p)] 88)) #[numW w.heap.size, numR w.heap.size] 86
  rw [World.size_alloc] at hb
  have q0 := hb.cell 0
  have q1 := hb.cell 1
  have Q0 := Lib.hid q0
  have Q1 := Lib.hid q1
  clear hb q0 q1
  go_enter Try.func51, Try.ntmps51
  go_wp2_with fail
  have q0 := Q0.out
  have q1 := Q1.out
  exact bodyPost_ret (v := .agg #[numW w.heap.size, numR w.heap.size]) (by simp [results, Try.results51, go_sem, q0, q1]) rfl ⟨rfl, rfl⟩
theorem text_any (p : Addr) (w : World) :
    Calls Try.prog 52 #[.pointer (some p)] w fun e w' => e = .returned (.agg #[txtW w.heap.size, txtR w.heap.size]) ∧ w' = withTxt w p := by
  have hmf := mf Try.prog
  have hb := Blk.new (w.alloc (.cells #[.pointer (some p)] 90)) #[txtW w.heap.size, txtR w.heap.size] 86
  rw [World.size_alloc] at hb
  have q0 := hb.cell 0
  have q1 := hb.cell 1
  have Q0 := Lib.hid q0
  have Q1 := Lib.hid q1
  clear hb q0 q1
  go_enter Try.func52, Try.ntmps52
  go_wp2_with fail
  have q0 := Q0.out
  have q1 := Q1.out
  exact bodyPost_ret (v := .agg #[txtW w.heap.size, txtR w.heap.size]) (by simp [results, Try.results52, go_sem, q0, q1]) rfl ⟨rfl, rfl⟩
theorem numberInt1_any (b : Nat) (p : Addr) (n : Int) (w : World) (hb : Blk w b #[.pointer (some p)] 88) (hp : w.cell? p = some (.int .i64 n)) (h1 : -9223372036854775808 ≤ n) (h2 : n ≤ 9223372036854775807) :
    Calls Try.prog 75 #[.pointer (some ⟨b, 0, none⟩)] w fun e w' => e = .returned (.string ⟨(numB n).toArray⟩) ∧ Below w.heap.size w w' := by
  have HN := Lib.hid (fun W => number_any n W h1 h2)
  obtain ⟨x0, _⟩ := blk1 hb
  clear h1 h2
  go_enter Try.func75, Try.ntmps75
  go_wp2_with fail
  refine (HN.out _).mono ?_
  rintro e w1 ⟨rfl, hb⟩
  have B1 := Lib.hid hb
  clear hb
  go_wp2_with fail
  go_ret
  exact ⟨rfl, B1.out⟩
set_option maxHeartbeats 800000 in
theorem text1_any (b : Nat) (p : Addr) (s : ByteArray) (w : World) (hb : Blk w b #[.pointer (some p)] 90) (hp : w.cell? p = some (.string s)) (hs : s.size ≤ 1000000000000) :
    Calls Try.prog 79 #[.pointer (some ⟨b, 0, none⟩)] w fun e w' => e = .returned (.string ⟨(txt s.data.toList).toArray⟩) ∧ Below w.heap.size w w' := by
  have HN := Lib.hid (fun W => number_any (s.size : Int) W (by omega) (by omega))
  have hpl := World.block_lt_of_cell? w _ hp
  have KS := Lib.hid (fun W (hw : Below w.heap.size w W) => show Below w.heap.size w W ∧ W.cell? ⟨b, 0, none⟩ = some (.pointer (some p)) ∧ W.cell? p = some (.string s) from ⟨hw, (hw.cell (p := ⟨b, 0, none⟩) hb.lt).trans (hb.cell 0), (hw.cell hpl).trans hp⟩)
  have hn := numB_le s.size
  have hz : (⟨(numB s.size).toArray⟩ : ByteArray).size ≤ 10 := hn
  have hv : (⟨(numB s.size).toArray⟩ : ByteArray) ++ s = ⟨(txt s.data.toList).toArray⟩ := by
    conv => lhs; rw [ba_mk s]
    rw [ba_app', ba_size]
    rfl
  have HV := Lib.hid hv
  have hlim : ¬ 9223372036854775807 < (⟨(numB s.size).toArray⟩ : ByteArray).size + s.size := by omega
  have hlim2 : ¬ 9223372036854775807 < (numB s.size).length + s.size := by omega
  clear hn hv hb hp hpl hz
  go_enter Try.func79, Try.ntmps79
  go_wp2_with fail
  go_region_held3 (fun W => Below w.heap.size w W ∧ W.cell? ⟨b, 0, none⟩ = some (.pointer (some p)) ∧ W.cell? p = some (.string s))
    (first
      | (exact KS.out _ ((Below.refl _ _).drew))
      | (exact KS.out _ (below_next (And.left (by assumption)) (by assumption))))
    (first
      | (go_at_call 76; (with_reducible refine (HN.out _).mono ?_); rintro e wf ⟨rfl, hbf⟩))
  all_goals
    have BF := Lib.hid (And.left (show Below w.heap.size w _ ∧ _ by assumption))
    go_wp2_with fail
    go_ret
    exact ⟨by rw [← HV.out]; rfl, BF.out⟩
theorem size_withNum (w : World) (p : Addr) : (withNum w p).heap.size = w.heap.size + 2 := by unfold withNum; simp
theorem size_withTxt (w : World) (p : Addr) : (withTxt w p).heap.size = w.heap.size + 2 := by unfold withTxt; simp
theorem below_withNum (w : World) (p : Addr) : Below w.heap.size w (withNum w p) := ((Below.refl _ _).alloc (Nat.le_refl _) _).alloc (by simp) _
theorem below_withTxt (w : World) (p : Addr) : Below w.heap.size w (withTxt w p) := ((Below.refl _ _).alloc (Nat.le_refl _) _).alloc (by simp) _
theorem blk_withNum (w : World) (p : Addr) : Blk (withNum w p) w.heap.size #[.pointer (some p)] 88 := (Blk.new w _ _).alloc _
theorem blk_withTxt (w : World) (p : Addr) : Blk (withTxt w p) w.heap.size #[.pointer (some p)] 90 := (Blk.new w _ _).alloc _
set_option maxRecDepth 100000 in
set_option maxHeartbeats 1600000 in
theorem frame_any (h : Nat) (w : World) (t : TypeId) (cs : Array Value) (hb : Blk w h cs t) (hsz : cs.size = 5) :
    Calls Try.prog 25 #[.pointer (some ⟨h, 0, none⟩)] w fun e w' => ∃ (A : Option Addr) (b : Nat), e = .returned (.slice A 5 5) ∧ Rd w' A [numW b, numR b, numW (b + 2), numR (b + 2), numW (b + 4), numR (b + 4), numW (b + 6), numR (b + 6), txtW (b + 8), txtR (b + 8)] ∧
      Blk w' b #[.pointer (some ⟨h, 0, none⟩)] 88 ∧ Blk w' (b + 2) #[.pointer (some ⟨h, 1, none⟩)] 88 ∧ Blk w' (b + 4) #[.pointer (some ⟨h, 2, none⟩)] 88 ∧ Blk w' (b + 6) #[.pointer (some ⟨h, 3, none⟩)] 88 ∧ Blk w' (b + 8) #[.pointer (some ⟨h, 4, none⟩)] 90 ∧
      w.heap.size ≤ b ∧ Below w.heap.size w w' ∧ ∀ ad, A = some ad → w.heap.size ≤ ad.block := by
  have hl := hb.lt
  go_enter Try.func25, Try.ntmps25
  go_wp2_with fail
  go_region_law (first
    | (go_simp; go_at_call 51; refine (numberInt_any _ _).mono ?_; rintro e wf ⟨rfl, rfl⟩; go_simp)
    | (go_simp; go_at_call 52; refine (text_any _ _).mono ?_; rintro e wf ⟨rfl, rfl⟩; go_simp))
  all_goals
    go_wp2_with fail
    go_ret
    have k0 := blk_withNum w.drew ⟨h, 0, none⟩
    have s0 := size_withNum w.drew ⟨h, 0, none⟩
    have l0 := below_withNum w.drew ⟨h, 0, none⟩
    generalize withNum w.drew ⟨h, 0, none⟩ = w1 at *
    have k1 := blk_withNum w1 ⟨h, 1, none⟩
    have s1 := size_withNum w1 ⟨h, 1, none⟩
    have l1 := below_withNum w1 ⟨h, 1, none⟩
    generalize withNum w1 ⟨h, 1, none⟩ = w2 at *
    have k2 := blk_withNum w2 ⟨h, 2, none⟩
    have s2 := size_withNum w2 ⟨h, 2, none⟩
    have l2 := below_withNum w2 ⟨h, 2, none⟩
    generalize withNum w2 ⟨h, 2, none⟩ = w3 at *
    have k3 := blk_withNum w3 ⟨h, 3, none⟩
    have s3 := size_withNum w3 ⟨h, 3, none⟩
    have l3 := below_withNum w3 ⟨h, 3, none⟩
    generalize withNum w3 ⟨h, 3, none⟩ = w4 at *
    have k4 := blk_withTxt w4 ⟨h, 4, none⟩
    have s4 := size_withTxt w4 ⟨h, 4, none⟩
    have l4 := below_withTxt w4 ⟨h, 4, none⟩
    generalize withTxt w4 ⟨h, 4, none⟩ = w5 at *
    have e0 : w.drew.heap.size = w.heap.size := rfl
    have e1 : w1.heap.size = w.heap.size + 2 := s0
    have e2 : w2.heap.size = w.heap.size + 4 := by rw [s1, e1]
    have e3 : w3.heap.size = w.heap.size + 6 := by rw [s2, e2]
    have e4 : w4.heap.size = w.heap.size + 8 := by rw [s3, e3]
    rw [e1] at k1
    rw [e2] at k2
    rw [e3] at k3
    rw [e4] at k4
    rw [e1, e2, e3, e4]
    have m1 := below_next l0 l1
    have m2 := below_next m1 l2
    have m3 := below_next m2 l3
    have m4 := below_next m3 l4
    refine ⟨some ⟨w5.heap.size, 0, none⟩, w.heap.size, rfl, Rd.new w5 _ _, ?_, ?_, ?_, ?_, k4.alloc _, Nat.le_refl _, below_allocS (below_of_drew m4) _, fun ad h => ?_⟩
    · exact ((((Blk.belowS k0 l1).belowS l2).belowS l3).belowS l4).alloc _
    · exact (((Blk.belowS k1 l2).belowS l3).belowS l4).alloc _
    · exact ((Blk.belowS k2 l3).belowS l4).alloc _
    · exact (Blk.belowS k3 l4).alloc _
    · have := m4.size
      injection h with h
      rw [← h]
      exact this
end Go.Proofs.Ytfaophiaiflecaa
