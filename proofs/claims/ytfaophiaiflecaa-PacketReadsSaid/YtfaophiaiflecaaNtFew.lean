/- Contract: reparteelaw38.few. -/
import Derived.Test.YtfaophiaiflecaaOpenNt2
import Derived.Test.YtfaophiaiflecaaNtD4
namespace Go.Proofs.Ytfaophiaiflecaa
open Go.RowKit
set_option linter.unusedVariables false

structure Few (x : Nt) : Prop where
  le : x.env.length ≤ 12
  env : ∀ b ∈ x.env, b.v.s.size ≤ 500 ∧ b.v.l.length ≤ 60 ∧ b.name.size ≤ 100
  ag : x.agent.size < 6000
  se : x.session.size < 6000
  pe : x.peer.size < 100
  s : x.v.s.size < 500
  l : x.v.l.length < 60
/-- A note's numbers are numbers. -/
structure NtI (x : Nt) : Prop where
  k : I64 x.kind
  seat : I64 x.seat
  proc : I64 x.proc
  vk : I64 x.v.kind
  vn : I64 x.v.n
  vi : ∀ n ∈ x.v.l, I64 n
  env : ∀ b ∈ x.env, I64 b.v.kind ∧ I64 b.v.n ∧ ∀ n ∈ b.v.l, I64 n
theorem NtR.i {x : Nt} (r : NtR x) : NtI x := ⟨r.k, r.seat, r.proc, r.v.k, r.v.n, r.v.i, fun b hb => ⟨(r.env b hb).2.k, (r.env b hb).2.n, (r.env b hb).2.i⟩⟩
theorem Few.ok {x : Nt} (h : Few x) (r : NtI x) : NtOk x :=
  ⟨r.k, r.seat, r.proc, by have := h.ag; omega, by have := h.se; omega, ⟨r.vk, r.vn, by have := h.s; omega, by have := h.l; omega, r.vi⟩, by have := h.le; omega,
    fun b hb => ⟨by have := (h.env b hb).2.2; omega, ⟨(r.env b hb).1, (r.env b hb).2.1, by have := (h.env b hb).1; omega, by have := (h.env b hb).2.1; omega, (r.env b hb).2.2⟩⟩⟩
theorem Few.at {x : Nt} {w : World} {A E : Option Addr} (h : Few x) (l : NtL w x A E) : NtAt w x A E :=
  ⟨l.a, l.e, by have := h.l; omega, by have := h.le; omega, fun b hb => by have := (h.env b hb).2.1; omega⟩
theorem dec_gt (a : Nat) (A : Int) (b : Nat) (h : A = a) : (decide (a < b) = true ∧ decide (A < (b : Int)) = true ∧ Hid (a < b)) ∨ (decide (a < b) = false ∧ decide (A < (b : Int)) = false ∧ Hid (b ≤ a)) := by
  subst h
  by_cases h : a < b
  · exact .inl ⟨by simp [h], by simp; exact h, Lib.hid h⟩
  · exact .inr ⟨by simp; omega, by simp; omega, Lib.hid (by omega)⟩
theorem dec_lt (b a : Nat) (A : Int) (h : A = a) : (decide (b < a) = true ∧ decide ((b : Int) < A) = true ∧ Hid (b < a)) ∨ (decide (b < a) = false ∧ decide ((b : Int) < A) = false ∧ Hid (a ≤ b)) := by
  subst h
  by_cases h : b < a
  · exact .inl ⟨by simp [h], by simp; exact h, Lib.hid h⟩
  · exact .inr ⟨by simp; omega, by simp; omega, Lib.hid (by omega)⟩
theorem dec_le (b a : Nat) (A : Int) (h : A = a) : (decide (b ≤ a) = true ∧ decide ((b : Int) ≤ A) = true ∧ Hid (b ≤ a)) ∨ (decide (b ≤ a) = false ∧ decide ((b : Int) ≤ A) = false ∧ Hid (a < b)) := by
  subst h
  by_cases h : b ≤ a
  · exact .inl ⟨by simp [h], by simp; exact h, Lib.hid h⟩
  · exact .inr ⟨by simp; omega, by simp; omega, Lib.hid (by omega)⟩
def FewPost (x : Nt) (w : World) (e : Ending) (w' : World) : Prop := ∃ r, e = .returned (.bool r) ∧ (r = true → Few x) ∧ Below w.heap.size w w'
set_option maxRecDepth 100000 in
set_option maxHeartbeats 6400000 in
theorem few_any (x : Nt) (A : Option Addr) (c : Nat) (E : Option Addr) (d : Nat) (w : World) (hL : NtL w x A E) :
    Calls Try.prog 13 #[.agg (x.cells A c E d)] w (FewPost x w) := by
  obtain ⟨k, ag, se, st, pe, la, v, pr, en⟩ := x
  simp only [Nt.cells]
  obtain ⟨vk, vn, vs, vl⟩ := v
  dsimp only
  obtain ⟨W0, hW0⟩ : ∃ W0, W0 = w.alloc (.cells #[.int .i64 k, .string ag, .string se, .int .i64 st, .string pe, .string la, .int .i64 vk, .int .i64 vn, .string vs, .slice A vl.length c, .int .i64 pr, .slice E en.length d] 41) := ⟨_, rfl⟩
  have BF := Lib.hid (show Below w.heap.size w W0 by rw [hW0]; exact below_allocS (Below.refl _ _) _)
  have HB := Lib.hid (show Blk W0 w.heap.size #[.int .i64 k, .string ag, .string se, .int .i64 st, .string pe, .string la, .int .i64 vk, .int .i64 vn, .string vs, .slice A vl.length c, .int .i64 pr, .slice E en.length d] 41 by rw [hW0]; exact Blk.new w _ _)
  have HE := Lib.hid (show Env W0 E en from hL.e.below BF.out)
  have HW := Lib.hid hW0
  clear hW0 hL
  go_enter Try.func13, Try.ntmps13
  go_upto_region 1 with fail
  rw [← HW.out]
  have x1 : W0.cell? ⟨w.heap.size, 1, none⟩ = some (.string ag) := HB.out.cell 1
  have x2 : W0.cell? ⟨w.heap.size, 2, none⟩ = some (.string se) := HB.out.cell 2
  have x4 : W0.cell? ⟨w.heap.size, 4, none⟩ = some (.string pe) := HB.out.cell 4
  have x8 : W0.cell? ⟨w.heap.size, 8, none⟩ = some (.string vs) := HB.out.cell 8
  have x9 : W0.cell? ⟨w.heap.size, 9, none⟩ = some (.slice A vl.length c) := HB.out.cell 9
  have x11 : W0.cell? ⟨w.heap.size, 11, none⟩ = some (.slice E en.length d) := HB.out.cell 11
  go_wp2_with fail
  go_loop [3] (fun i => ∃ k : Nat, k ≤ en.length ∧ k ≤ 20 ∧ i = .int .i64 k ∧ Hid (∀ b ∈ en.take k, b.v.s.size ≤ 500 ∧ b.v.l.length ≤ 60 ∧ b.name.size ≤ 100)) (fun i => 20 - (intOf i).toNat)
  case atStart => exact ⟨0, Nat.zero_le _, Nat.zero_le _, rfl, Lib.hid (by simp)⟩
  case round =>
    obtain ⟨k, hk, hk20, rfl, hP⟩ := hrel
    by_cases hin : k < en.length ∧ k < 20
    · obtain ⟨h1, h2⟩ := hin
      have d1 : decide ((k : Int) < (en.length : Int)) = true := by simp; omega
      have d2 : decide ((k : Int) < 20) = true := by simp; omega
      obtain ⟨F, hF⟩ := env_at HE.out
      obtain ⟨bb, off, rfl, hbb, _, hcs⟩ := hF k h1
      obtain ⟨c0, _, _, c3, c4⟩ := hcs k h1
      have c3' : W0.cell? ⟨bb, off + k * 5 + 1 + 2, none⟩ = some (.string en[k].v.s) := c3
      have c4' : W0.cell? ⟨bb, off + k * 5 + 1 + 3, none⟩ = some (.slice (F k).1 en[k].v.l.length (F k).2) := c4
      have HST := Lib.hid (fun (hq : en[k].v.s.size ≤ 500 ∧ en[k].v.l.length ≤ 60 ∧ en[k].name.size ≤ 100) => show ∀ b ∈ en.take (k + 1), b.v.s.size ≤ 500 ∧ b.v.l.length ≤ 60 ∧ b.name.size ≤ 100 by
        intro b hb
        rw [List.take_succ_eq_append_getElem h1] at hb
        rcases List.mem_append.1 hb with hb | hb
        · exact hP.out b hb
        · rw [List.mem_singleton.1 hb]; exact hq)
      clear hF hcs
      generalize en[k] = b at *
      generalize F k = Fk at *
      obtain ⟨FA, Fc⟩ := Fk
      dsimp only at *
      rcases dec_gt 500 500 b.v.s.size rfl with ⟨e1, e1', H1⟩ | ⟨e1, e1', H1⟩
      · go_wp2_with fail
        go_ret
        exact ⟨false, rfl, by simp, BF.out⟩
      rcases dec_gt 60 60 b.v.l.length rfl with ⟨e2, e2', H2⟩ | ⟨e2, e2', H2⟩
      · go_wp2_with fail
        go_ret
        exact ⟨false, rfl, by simp, BF.out⟩
      rcases dec_gt 100 100 b.name.size rfl with ⟨e3, e3', H3⟩ | ⟨e3, e3', H3⟩
      · go_wp2_with fail
        go_ret
        exact ⟨false, rfl, by simp, BF.out⟩
      go_wp2_with fail
      go_round
      case rel => exact ⟨k + 1, by omega, by omega, by go_num, Lib.hid (HST.out ⟨H1.out, H2.out, H3.out⟩)⟩
      case measure => simp [intOf]; omega
    · have HFIN := Lib.hid (fun (h : en.length ≤ 12) => show ∀ b ∈ en, b.v.s.size ≤ 500 ∧ b.v.l.length ≤ 60 ∧ b.name.size ≤ 100 by
        have h := hP.out
        rw [List.take_of_length_le (by omega)] at h
        exact h)
      by_cases hb : en.length ≤ k
      rotate_left
      · obtain rfl : k = 20 := by omega
        have d1 : decide ((20 : Int) < (en.length : Int)) = true := by simp; omega
        have e1 : decide (en.length ≤ 12) = false := by simp; omega
        have e1' : decide ((en.length : Int) ≤ 12) = false := by simp; omega
        clear hP hin
        go_wp2_with fail
        go_ret
        exact ⟨false, rfl, by simp, BF.out⟩
      have d1 : decide ((k : Int) < (en.length : Int)) = false := by simp; omega
      clear hP hin
      rcases dec_le en.length 12 12 rfl with ⟨e1, e1', H1⟩ | ⟨e1, e1', H1⟩
      rotate_left
      · go_wp2_with fail
        go_ret
        exact ⟨false, rfl, by simp, BF.out⟩
      rcases dec_lt ag.size 6000 6000 rfl with ⟨e2, e2', H2⟩ | ⟨e2, e2', H2⟩
      rotate_left
      · go_wp2_with fail
        go_ret
        exact ⟨false, rfl, by simp, BF.out⟩
      rcases dec_lt se.size 6000 6000 rfl with ⟨e3, e3', H3⟩ | ⟨e3, e3', H3⟩
      rotate_left
      · go_wp2_with fail
        go_ret
        exact ⟨false, rfl, by simp, BF.out⟩
      rcases dec_lt pe.size 100 100 rfl with ⟨e4, e4', H4⟩ | ⟨e4, e4', H4⟩
      rotate_left
      · go_wp2_with fail
        go_ret
        exact ⟨false, rfl, by simp, BF.out⟩
      rcases dec_lt vs.size 500 500 rfl with ⟨e5, e5', H5⟩ | ⟨e5, e5', H5⟩
      rotate_left
      · go_wp2_with fail
        go_ret
        exact ⟨false, rfl, by simp, BF.out⟩
      rcases dec_lt vl.length 60 60 rfl with ⟨e6, e6', H6⟩ | ⟨e6, e6', H6⟩
      rotate_left
      · go_wp2_with fail
        go_ret
        exact ⟨false, rfl, by simp, BF.out⟩
      go_wp2_with fail
      go_ret
      exact ⟨true, rfl, fun _ => ⟨H1.out, HFIN.out H1.out, H2.out, H3.out, H4.out, H5.out, H6.out⟩, BF.out⟩
end Go.Proofs.Ytfaophiaiflecaa
