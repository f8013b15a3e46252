/- Contract: packet.note. -/
import Derived.Test.YtfaophiaiflecaaPkFld2
import Derived.Deep.DeepCutAuto
namespace Go.Proofs.Ytfaophiaiflecaa
open Go.RowKit

theorem infoField : (Try.prog.info? 86).map (fun i => (i.zero, i.size, i.bytes)) = some (some (.agg #[.nilFunc, .nilFunc]), 2, 16) := by kernel_rfl
/-- The twelve fields of a note that lies at the block h. -/
def NotePost (h : Nat) (w : World) (e : Ending) (w' : World) : Prop := ∃ (A : Option Addr) (b v u c : Nat), e = .returned (.slice A 12 c) ∧
      Rd w' A [numW b, numR b, txtW (b + 2), txtR (b + 2), txtW (b + 4), txtR (b + 4), numW (b + 6), numR (b + 6), txtW (b + 8), txtR (b + 8), txtW (b + 10), txtR (b + 10), numW v, numR v, n64W (v + 2), n64R (v + 2), txtW (v + 4), txtR (v + 4), l64W (v + 6), l64R (v + 6), numW u, numR u, lBW (u + 2), lBR (u + 2)] ∧
      Blk w' b #[.pointer (some ⟨h, 0, none⟩)] 88 ∧ Blk w' (b + 2) #[.pointer (some ⟨h, 1, none⟩)] 90 ∧ Blk w' (b + 4) #[.pointer (some ⟨h, 2, none⟩)] 90 ∧ Blk w' (b + 6) #[.pointer (some ⟨h, 3, none⟩)] 88 ∧ Blk w' (b + 8) #[.pointer (some ⟨h, 4, none⟩)] 90 ∧ Blk w' (b + 10) #[.pointer (some ⟨h, 5, none⟩)] 90 ∧
      Blk w' v #[.pointer (some ⟨h, 6, none⟩)] 88 ∧ Blk w' (v + 2) #[.pointer (some ⟨h, 7, none⟩)] 106 ∧ Blk w' (v + 4) #[.pointer (some ⟨h, 8, none⟩)] 90 ∧ Blk w' (v + 6) #[.pointer (some ⟨h, 9, none⟩)] 110 ∧
      Blk w' u #[.pointer (some ⟨h, 10, none⟩)] 88 ∧ Blk w' (u + 2) #[.pointer (some ⟨h, 11, none⟩)] 94 ∧ Below w.heap.size w w'
set_option maxRecDepth 100000 in
set_option maxHeartbeats 3200000 in
theorem note_any (h : Nat) (w : World) (t : TypeId) (cs : Array Value) (hb : Blk w h cs t) :
    Calls Try.prog 29 #[.pointer (some ⟨h, 0, none⟩)] w (NotePost h w) := by
  obtain ⟨i0, hi0, hz0, hz1, hz2⟩ := info_parts infoField
  have hl := hb.lt
  have HB := Lib.hid hb
  clear hb
  go_enter Try.func29, Try.ntmps29
  go_wp2_with fail
  go_region_law (first
    | (go_simp; go_at_call 51; refine (numberInt_any _ _).mono ?_; rintro e wf ⟨rfl, rfl⟩; go_simp)
    | (go_simp; go_at_call 52; refine (text_any _ _).mono ?_; rintro e wf ⟨rfl, rfl⟩; go_simp))
  all_goals
    have k0 := blk_withNum w.drew ⟨h, 0, none⟩
    have s0 := size_withNum w.drew ⟨h, 0, none⟩
    have l0 := below_withNum w.drew ⟨h, 0, none⟩
    generalize withNum w.drew ⟨h, 0, none⟩ = w1 at *
    have k1 := blk_withTxt w1 ⟨h, 1, none⟩
    have s1 := size_withTxt w1 ⟨h, 1, none⟩
    have l1 := below_withTxt w1 ⟨h, 1, none⟩
    generalize withTxt w1 ⟨h, 1, none⟩ = w2 at *
    have k2 := blk_withTxt w2 ⟨h, 2, none⟩
    have s2 := size_withTxt w2 ⟨h, 2, none⟩
    have l2 := below_withTxt w2 ⟨h, 2, none⟩
    generalize withTxt w2 ⟨h, 2, none⟩ = w3 at *
    have k3 := blk_withNum w3 ⟨h, 3, none⟩
    have s3 := size_withNum w3 ⟨h, 3, none⟩
    have l3 := below_withNum w3 ⟨h, 3, none⟩
    generalize withNum w3 ⟨h, 3, none⟩ = w4 at *
    have k4 := blk_withTxt w4 ⟨h, 4, none⟩
    have s4 := size_withTxt w4 ⟨h, 4, none⟩
    have l4 := below_withTxt w4 ⟨h, 4, none⟩
    generalize withTxt w4 ⟨h, 4, none⟩ = w5 at *
    have k5 := blk_withTxt w5 ⟨h, 5, none⟩
    have s5 := size_withTxt w5 ⟨h, 5, none⟩
    have l5 := below_withTxt w5 ⟨h, 5, none⟩
    generalize withTxt w5 ⟨h, 5, none⟩ = w6 at *
    have e1 : w1.heap.size = w.heap.size + 2 := s0
    have e2 : w2.heap.size = w.heap.size + 4 := by rw [s1, e1]
    have e3 : w3.heap.size = w.heap.size + 6 := by rw [s2, e2]
    have e4 : w4.heap.size = w.heap.size + 8 := by rw [s3, e3]
    have e5 : w5.heap.size = w.heap.size + 10 := by rw [s4, e4]
    have e6 : w6.heap.size = w.heap.size + 12 := by rw [s5, e5]
    rw [e1] at k1
    rw [e2] at k2
    rw [e3] at k3
    rw [e4] at k4
    rw [e5] at k5
    rw [e1, e2, e3, e4, e5]
    have m1 := below_next l0 l1
    have m2 := below_next m1 l2
    have m3 := below_next m2 l3
    have m4 := below_next m3 l4
    have m5 := below_next m4 l5
    have K0 := Lib.hid ((Blk.belowS (Blk.belowS (Blk.belowS (Blk.belowS (Blk.belowS k0 l1) l2) l3) l4) l5))
    have K1 := Lib.hid ((Blk.belowS (Blk.belowS (Blk.belowS (Blk.belowS k1 l2) l3) l4) l5))
    have K2 := Lib.hid ((Blk.belowS (Blk.belowS (Blk.belowS k2 l3) l4) l5))
    have K3 := Lib.hid ((Blk.belowS (Blk.belowS k3 l4) l5))
    have K4 := Lib.hid ((Blk.belowS k4 l5))
    have K5 := Lib.hid (k5)
    have M5 := Lib.hid (below_of_drew m5)
    have HB6 := Lib.hid (HB.out.belowS M5.out)
    clear k0 k1 k2 k3 k4 k5 s0 s1 s2 s3 s4 s5 l0 l1 l2 l3 l4 l5 e1 e2 e3 e4 e5 m1 m2 m3 m4 m5
    have E6 := Lib.hid e6
    clear e6
    obtain ⟨W7, hW7⟩ : ∃ W, W = w6.alloc (.cells #[numW w.heap.size, numR w.heap.size, txtW (w.heap.size + 2), txtR (w.heap.size + 2), txtW (w.heap.size + 4), txtR (w.heap.size + 4), numW (w.heap.size + 6), numR (w.heap.size + 6), txtW (w.heap.size + 8), txtR (w.heap.size + 8), txtW (w.heap.size + 10), txtR (w.heap.size + 10)] 86) := ⟨_, rfl⟩
    have O7 := Lib.hid (show W7.ownsRow w6.heap.size 86 2 (.slice (some ⟨w6.heap.size, 0, none⟩) 6 6) 6 [numW w.heap.size, numR w.heap.size, txtW (w.heap.size + 2), txtR (w.heap.size + 2), txtW (w.heap.size + 4), txtR (w.heap.size + 4), numW (w.heap.size + 6), numR (w.heap.size + 6), txtW (w.heap.size + 8), txtR (w.heap.size + 8), txtW (w.heap.size + 10), txtR (w.heap.size + 10)] by
      rw [hW7]; exact World.ownsRow_lit w6 _ 6 (Nat.le_refl _) (by unfold maxLen; omega) rfl)
    have L7 := Lib.hid (show Below w6.heap.size w6 W7 by rw [hW7]; exact below_allocS (Below.refl _ _) _)
    have HW7 := Lib.hid hW7
    clear hW7
    go_upto_region 2 with fail
    rw [← HW7.out]
    have HB7 := Lib.hid (HB6.out.belowS L7.out)
    have CV := Lib.hid (value_any h 6 W7 t cs HB7.out)
    go_wp2_with fail
    refine CV.out.mono ?_
    rintro e w8 ⟨A2, v, rfl, hA2, q0, q1, q2, q3, hge, hb8⟩
    have HGE := Lib.hid hge
    have RD8 := Lib.hid hA2
    have Q0 := Lib.hid q0
    have Q1 := Lib.hid q1
    have Q2 := Lib.hid q2
    have Q3 := Lib.hid q3
    have L8 := Lib.hid hb8
    have O8 := Lib.hid (O7.out.kept (⟨hb8.os, hb8.tape, hb8.output, hb8.size, fun j hj _ => hb8.block j hj⟩ : W7.grownBy w8 none) (.inr (by simp [Value.ownBlock])))
    have hs8 : w6.heap.size ≤ w8.heap.size := Nat.le_trans L7.out.size hb8.size
    clear hA2 q0 q1 q2 q3 hge hb8 CV
    go_upto_region 3 with (at_builtin; refine wpList_app _ rfl _ _ _ rfl w6.heap.size 86 i0 _ 2 16 Try.underlying54 hi0 hz0 hz1 hz2 rfl (by omega) (.slice (some ⟨w6.heap.size, 0, none⟩) 6 6) 6 _ rfl O8.out A2 4 4 _ rfl RD8.out rfl (by simp [Value.oneCell']) (by omega) (by unfold maxLen; omega) hs8 ?_; intro A3 c3 w9 hle9 hown9 hg9 hat9)
    have HG9 := Lib.hid hg9
    have ha3 : ∃ ga, (Value.slice A3 (6 + 4) c3).ownBlock = some ga ∧ ga < w9.heap.size ∧ w6.heap.size ≤ ga ∧ (ga = w6.heap.size ∨ ga = w8.heap.size) := by
      rcases hat9 with e | e
      · exact ⟨_, e, (hown9.lt _ e).2, (hown9.lt _ e).1, .inl rfl⟩
      · exact ⟨_, e, (hown9.lt _ e).2, (hown9.lt _ e).1, .inr rfl⟩
    obtain ⟨ga, hga, hga1, hga2, hga3⟩ := ha3
    have HGA := Lib.hid hga
    have LX := Lib.hid (fun o => show Below w9.heap.size w9 ((withLB (withNum w9.drew ⟨h, 10, none⟩) ⟨h, 11, none⟩ (.func (.func 58) #[] #[])).alloc o) from
      below_allocS (below_of_drew (below_next (below_withNum w9.drew ⟨h, 10, none⟩) (below_withLB (withNum w9.drew ⟨h, 10, none⟩) ⟨h, 11, none⟩ (.func (.func 58) #[] #[])))) o)
    have OX := Lib.hid (fun o => hown9.kept (⟨(LX.out o).os, (LX.out o).tape, (LX.out o).output, (LX.out o).size, fun j hj _ => (LX.out o).block j hj⟩ : w9.grownBy _ none) (.inr (by rw [hga]; simp)))
    have RX := Lib.hid (fun cs => Rd.new (withLB (withNum w9.drew ⟨h, 10, none⟩) ⟨h, 11, none⟩ (.func (.func 58) #[] #[])) cs 86)
    have hs9 : w6.heap.size ≤ w9.heap.size := Nat.le_trans hs8 hg9.size
    have HSX := Lib.hid (fun o => Nat.le_trans hs9 (LX.out o).size)
    clear hown9 hg9 hat9 hga
    go_region_law (first
      | (refine step_app _ (by rfl) _ _ _ (by rfl) w6.heap.size 86 i0 _ 2 16 Try.underlying54 hi0 hz0 hz1 hz2 rfl (by omega) (.slice A3 (6 + 4) c3) (6 + 4) _ (by rfl) (OX.out _) (some ⟨(withLB (withNum w9.drew ⟨h, 10, none⟩) ⟨h, 11, none⟩ (.func (.func 58) #[] #[])).heap.size, 0, none⟩) 2 2 _ (by rfl) (RX.out _) rfl (by simp [Value.oneCell']) (by omega) (by unfold maxLen; omega) (HSX.out _) ?_; intro A4 c4 w14 hle14 hown14 hg14 hat14)
      | (go_simp; go_at_call 51; refine (numberInt_any _ _).mono ?_; rintro e wf ⟨rfl, rfl⟩; go_simp)
      | (go_simp; go_at_call 57; refine (listB_any _ _ _).mono ?_; rintro e wf ⟨rfl, rfl⟩; go_simp))
    all_goals
      go_wp2_with fail
      go_ret
      have E9 := size_withNum w9.drew ⟨h, 10, none⟩
      have e9 : w9.drew.heap.size = w9.heap.size := rfl
      rw [e9] at E9
      rw [E9] at hown14
      have hlX := fun o => (LX.out o).size
      have hge := HGE.out
      have hL7 := L7.out.size
      have h67 : W7.heap.size = w6.heap.size + 1 := by rw [HW7.out]; simp
      have hwE := E6.out
      have KU0 := (((blk_withNum w9.drew ⟨h, 10, none⟩).belowS (below_withLB (withNum w9.drew ⟨h, 10, none⟩) ⟨h, 11, none⟩ (.func (.func 58) #[] #[]))).alloc (.cells #[numW w9.heap.size, numR w9.heap.size, lBW (withNum w9.drew ⟨h, 10, none⟩).heap.size, lBR (withNum w9.drew ⟨h, 10, none⟩).heap.size] 86)).grown hg14 (by rw [HGA.out]; intro e; injection e with e; rw [e9] at e; omega)
      have KU1 := ((blk_withLB (withNum w9.drew ⟨h, 10, none⟩) ⟨h, 11, none⟩ (.func (.func 58) #[] #[])).alloc (.cells #[numW w9.heap.size, numR w9.heap.size, lBW (withNum w9.drew ⟨h, 10, none⟩).heap.size, lBR (withNum w9.drew ⟨h, 10, none⟩).heap.size] 86)).grown hg14 (by rw [HGA.out, E9]; intro e; injection e with e; omega)
      rw [E9] at KU1
      have old : ∀ {x : Nat} {cs : Array Value} {t : TypeId}, Blk w6 x cs t → Blk w14 x cs t := fun {x cs t} k => by
        have hx := k.lt
        exact (((((k.belowS L7.out).belowS L8.out).grown HG9.out (by simp [Value.ownBlock]; omega)).belowS (LX.out _)).grown hg14 (by rw [HGA.out]; intro e; injection e with e; omega))
      have mid : ∀ {x : Nat} {cs : Array Value} {t : TypeId}, w6.heap.size < x → Blk w8 x cs t → Blk w14 x cs t := fun {x cs t} hx k => by
        have hx2 := k.lt
        exact (((k.grown HG9.out (by simp [Value.ownBlock]; omega)).belowS (LX.out _)).grown hg14 (by rw [HGA.out]; intro e; injection e with e; omega))
      have BW := (((below_next (below_next M5.out L7.out) L8.out).grown HG9.out (Nat.le_trans (by omega) hs8) (fun j hj => by simp [Value.ownBlock] at hj; omega)).trans ((LX.out (.cells #[numW w9.heap.size, numR w9.heap.size, lBW (withNum w9.drew ⟨h, 10, none⟩).heap.size, lBR (withNum w9.drew ⟨h, 10, none⟩).heap.size] 86)).mono (Nat.le_trans (by omega) hs9))).grown hg14 (Nat.le_trans (by omega) (HSX.out _)) (fun j hj => by rw [HGA.out] at hj; injection hj with hj; omega)
      exact ⟨A4, w.heap.size, v, w9.heap.size, c4, rfl, own_rd hown14, old K0.out, old K1.out, old K2.out, old K3.out, old K4.out, old K5.out, mid (by omega) Q0.out, mid (by omega) Q1.out, mid (by omega) Q2.out, mid (by omega) Q3.out, KU0, KU1, BW⟩
end Go.Proofs.Ytfaophiaiflecaa
