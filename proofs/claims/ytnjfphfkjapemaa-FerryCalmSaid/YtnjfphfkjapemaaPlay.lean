/- Contract: reparteelaw40.played. -/
import Derived.Test.YtnjfphfkjapemaaEvSend
import Derived.Test.YtnjfphfkjapemaaEvFrames
import Derived.Test.YtnjfphfkjapemaaEvHear
import Derived.Test.YtnjfphfkjapemaaEvLost
namespace Go.Proofs.Ytnjfphfkjapemaa
open Go.RowKit

set_option maxRecDepth 100000 in
set_option maxHeartbeats 20000000 in
theorem played_any (A : Option Addr) (l : List Int) (c : Nat) (w : World) (ha : Rd w A (l.map (.int .i64))) (hl : l.length ≤ 100) :
    Calls Try.prog 19 #[.slice A l.length c] w (PlayedPost w (playF (nsOf l) l.length).1 (playF (nsOf l) l.length).2) := by
  have p0 : PS ((w.alloc (.cells #[.int .i64 0, .slice none 0 0, .int .i64 0, .slice none 0 0, .slice none 0 0, .slice none 0 0, .int .i64 0, .slice none 0 0, .int .i64 0, .slice none 0 0, .slice none 0 0, .slice none 0 0] 42)).alloc (.cells #[.int .i64 0, .slice none 0 0, .int .i64 0, .slice none 0 0, .slice none 0 0, .slice none 0 0, .int .i64 0, .slice none 0 0, .int .i64 0, .slice none 0 0, .slice none 0 0, .slice none 0 0] 42)) (w.heap.size + 1 + 1) (w.heap.size + 1) 0 6 sd0 sd0 := ps_start w
  obtain ⟨W0, hW0⟩ : ∃ W0, W0 = (w.alloc (.cells #[.int .i64 0, .slice none 0 0, .int .i64 0, .slice none 0 0, .slice none 0 0, .slice none 0 0, .int .i64 0, .slice none 0 0, .int .i64 0, .slice none 0 0, .slice none 0 0, .slice none 0 0] 42)).alloc (.cells #[.int .i64 0, .slice none 0 0, .int .i64 0, .slice none 0 0, .slice none 0 0, .slice none 0 0, .int .i64 0, .slice none 0 0, .int .i64 0, .slice none 0 0, .slice none 0 0, .slice none 0 0] 42) := ⟨_, rfl⟩
  rw [← hW0] at p0
  have P0 := Lib.hid p0
  obtain ⟨i0, hi0, hz0, hz1, hz2⟩ := info_parts infoStr
  have Z0 := Lib.hid (show W0.heap.size = w.heap.size + 1 + 1 by rw [hW0]; simp)
  have BW := Lib.hid (show Below w.heap.size w W0 by rw [hW0]; exact ((Below.refl _ _).alloc (Nat.le_refl _) _).alloc (by simp) _)
  have BZ := Lib.hid (show Blk W0 w.heap.size #[.int .i64 0, .slice none 0 0, .int .i64 0, .slice none 0 0, .slice none 0 0, .slice none 0 0, .int .i64 0, .slice none 0 0, .int .i64 0, .slice none 0 0, .slice none 0 0, .slice none 0 0] 42 by rw [hW0]; exact (Blk.new w _ _).alloc _)
  have HW0 := Lib.hid hW0
  have HA := Lib.hid ha
  clear hW0 ha p0
  go_enter Try.func19, Try.ntmps19
  go_wp2_with fail
  rw [← HW0.out]
  generalize hg : w.heap.size + 1 = g at *
  have HG := Lib.hid hg
  clear hg
  generalize hbs : w.heap.size = base0 at *
  go_loopw [5] (fun i wr => ∃ (k : Nat), k ≤ l.length ∧ i = .int .i64 k ∧ Hid (PS wr (g + 1) g 0 6 (playF (nsOf l) k).1 (playF (nsOf l) k).2) ∧ Hid (Below g W0 wr)) (fun i _ => l.length - (intOf i).toNat)
  case atStart => exact ⟨0, by omega, rfl, Lib.hid P0.out, Lib.hid (Below.refl _ _)⟩
  case round =>
    obtain ⟨k, hk, rfl, hP, hB⟩ := hrel
    by_cases hlt : k < l.length
    · obtain ⟨ib, io, rfl, hib, hcs⟩ := (HA.out).at_ (i := k) (by simpa using hlt)
      have hib2 : ib < base0 := by rw [← hbs]; exact hib
      have hib3 : ib < g := by have := HG.out; omega
      have c0 := (hB.out.cell (p := ⟨ib, io + k, none⟩) hib3).trans ((BW.out.cell (p := ⟨ib, io + k, none⟩) hib2).trans (hcs k (.int .i64 l[k]) (by simp [hlt])))
      clear hib3 hcs
      have hd8 : nsOf l k / 2 % 8 < 2 ∨ (2 ≤ nsOf l k / 2 % 8 ∧ nsOf l k / 2 % 8 < 4) ∨ (4 ≤ nsOf l k / 2 % 8 ∧ nsOf l k / 2 % 8 < 7) ∨ nsOf l k / 2 % 8 = 7 := by omega
      have HD8 := Lib.hid hd8
      clear hd8
      go_upto_block 1 with fail
      rcases HD8.out with hv | hv | hv | hv
      · refine ev_lift (evSend _ l W0 wr g base0 ib io c k _ _ _ _ _ _ _ _ _ _ _ _ _ _ _ _ _ _ _ _ _ _ _ _ _ _ _ _ _ _ _ _ _ _ _ _ _ _ _ _ _ _ _ _ _ _ _ _ _ _ _ _ _ _ _ _ _ _ _ _ _ _ _ _ _ _ _ _ _ _ _ _ _ _ _ _ _ _ _ _ _ _ _ _ _ _ _ _ _ _ _ _ _ _ _ _ _ _ _ _ _ _ _ _ _ _ _ _ _ _ _ _ _ _ _ _ _ _ _ _ _ _ _ _ _ _ _ _ _ _ _ _ _ _ _ _ _ _ _ _ _ _ _ _ _ _ _ _ _ _ _ _ _ _ _ _ _ _ _ _ _ _ _ _ _ _ _ _ _ _ _ _ _ _ _ _ _ _ _ _ _ _ _ _ _ _ _ _ _ _ _ _ hlt hl c0 hP hB hv ?_)
        intros
        rename_i hp' hb'
        have HP' := Lib.hid hp'
        have HB' := Lib.hid hb'
        clear hp' hb' c0 hv
        go_wp2_with fail
        exact ⟨⟨k + 1, by omega, by go_num, HP', HB'⟩, by simp [intOf]; omega⟩
      · refine ev_lift (evFrames _ l W0 wr g base0 ib io c k _ _ _ _ _ _ _ _ _ _ _ _ _ _ _ _ _ _ _ _ _ _ _ _ _ _ _ _ _ _ _ _ _ _ _ _ _ _ _ _ _ _ _ _ _ _ _ _ _ _ _ _ _ _ _ _ _ _ _ _ _ _ _ _ _ _ _ _ _ _ _ _ _ _ _ _ _ _ _ _ _ _ _ _ _ _ _ _ _ _ _ _ _ _ _ _ _ _ _ _ _ _ _ _ _ _ _ _ _ _ _ _ _ _ _ _ _ _ _ _ _ _ _ _ _ _ _ _ _ _ _ _ _ _ _ _ _ _ _ _ _ _ _ _ _ _ _ _ _ _ _ _ _ _ _ _ _ _ _ _ _ _ _ _ _ _ _ _ _ _ _ _ _ _ _ _ _ _ _ _ _ _ _ _ _ _ _ _ _ _ _ _ hlt hl c0 hP hB hv ?_)
        intros
        rename_i hp' hb'
        have HP' := Lib.hid hp'
        have HB' := Lib.hid hb'
        clear hp' hb' c0 hv
        go_wp2_with fail
        exact ⟨⟨k + 1, by omega, by go_num, HP', HB'⟩, by simp [intOf]; omega⟩
      · refine ev_lift (evHear _ l W0 wr g base0 ib io c k _ _ _ _ _ _ _ _ _ _ _ _ _ _ _ _ _ _ _ _ _ _ _ _ _ _ _ _ _ _ _ _ _ _ _ _ _ _ _ _ _ _ _ _ _ _ _ _ _ _ _ _ _ _ _ _ _ _ _ _ _ _ _ _ _ _ _ _ _ _ _ _ _ _ _ _ _ _ _ _ _ _ _ _ _ _ _ _ _ _ _ _ _ _ _ _ _ _ _ _ _ _ _ _ _ _ _ _ _ _ _ _ _ _ _ _ _ _ _ _ _ _ _ _ _ _ _ _ _ _ _ _ _ _ _ _ _ _ _ _ _ _ _ _ _ _ _ _ _ _ _ _ _ _ _ _ _ _ _ _ _ _ _ _ _ _ _ _ _ _ _ _ _ _ _ _ _ _ _ _ _ _ _ _ _ _ _ _ _ _ _ _ hlt hl c0 hP hB hv ?_)
        intros
        rename_i hp' hb'
        have HP' := Lib.hid hp'
        have HB' := Lib.hid hb'
        clear hp' hb' c0 hv
        go_wp2_with fail
        exact ⟨⟨k + 1, by omega, by go_num, HP', HB'⟩, by simp [intOf]; omega⟩
      · refine ev_lift (evLost _ l W0 wr g base0 ib io c k _ _ _ _ _ _ _ _ _ _ _ _ _ _ _ _ _ _ _ _ _ _ _ _ _ _ _ _ _ _ _ _ _ _ _ _ _ _ _ _ _ _ _ _ _ _ _ _ _ _ _ _ _ _ _ _ _ _ _ _ _ _ _ _ _ _ _ _ _ _ _ _ _ _ _ _ _ _ _ _ _ _ _ _ _ _ _ _ _ _ _ _ _ _ _ _ _ _ _ _ _ _ _ _ _ _ _ _ _ _ _ _ _ _ _ _ _ _ _ _ _ _ _ _ _ _ _ _ _ _ _ _ _ _ _ _ _ _ _ _ _ _ _ _ _ _ _ _ _ _ _ _ _ _ _ _ _ _ _ _ _ _ _ _ _ _ _ _ _ _ _ _ _ _ _ _ _ _ _ _ _ _ _ _ _ _ _ _ _ _ _ _ hlt hl c0 hP hB hv ?_)
        intros
        rename_i hp' hb'
        have HP' := Lib.hid hp'
        have HB' := Lib.hid hb'
        clear hp' hb' c0 hv
        go_wp2_with fail
        exact ⟨⟨k + 1, by omega, by go_num, HP', HB'⟩, by simp [intOf]; omega⟩
    · have hke : k = l.length := by omega
      subst hke
      obtain ⟨sa, hsa⟩ : ∃ x, x = (playF (nsOf l) l.length).1 := ⟨_, rfl⟩
      obtain ⟨sb, hsb⟩ : ∃ x, x = (playF (nsOf l) l.length).2 := ⟨_, rfl⟩
      rw [← hsa, ← hsb] at hP
      have HSA := Lib.hid hsa
      have HSB := Lib.hid hsb
      clear hsa hsb
      obtain ⟨A0, A1, A2, A3, B0, B1, B2, B3, c0, c1, c2, c3, d0, d1, d2, d3, ht, hr, hgb⟩ := hP.out
      have HR := Lib.hid hr
      have hlg : base0 < g := by have := HG.out; omega
      have BZ2 := BZ.out.below hB.out hlg
      obtain ⟨m0, m1, m2, m3, m4, m5, n0, n1, n2, n3, n4, n5⟩ := two12 ht
      have e0 : wr.cell? ⟨base0, 0, none⟩ = some (.int .i64 0) := BZ2.cell 0
      have e1 : wr.cell? ⟨base0, 1, none⟩ = some (.slice none 0 0) := BZ2.cell 1
      have e2 : wr.cell? ⟨base0, 2, none⟩ = some (.int .i64 0) := BZ2.cell 2
      have e3 : wr.cell? ⟨base0, 3, none⟩ = some (.slice none 0 0) := BZ2.cell 3
      have e4 : wr.cell? ⟨base0, 4, none⟩ = some (.slice none 0 0) := BZ2.cell 4
      have e5 : wr.cell? ⟨base0, 5, none⟩ = some (.slice none 0 0) := BZ2.cell 5
      have e6 : wr.cell? ⟨base0, 6, none⟩ = some (.int .i64 0) := BZ2.cell 6
      have e7 : wr.cell? ⟨base0, 7, none⟩ = some (.slice none 0 0) := BZ2.cell 7
      have e8 : wr.cell? ⟨base0, 8, none⟩ = some (.int .i64 0) := BZ2.cell 8
      have e9 : wr.cell? ⟨base0, 9, none⟩ = some (.slice none 0 0) := BZ2.cell 9
      have e10 : wr.cell? ⟨base0, 10, none⟩ = some (.slice none 0 0) := BZ2.cell 10
      have e11 : wr.cell? ⟨base0, 11, none⟩ = some (.slice none 0 0) := BZ2.cell 11
      have z0 := BZ2.frozen 0
      have z1 := BZ2.frozen 1
      have z2 := BZ2.frozen 2
      have z3 := BZ2.frozen 3
      have z4 := BZ2.frozen 4
      have z5 := BZ2.frozen 5
      have z6 := BZ2.frozen 6
      have z7 := BZ2.frozen 7
      have z8 := BZ2.frozen 8
      have z9 := BZ2.frozen 9
      have z10 := BZ2.frozen 10
      have z11 := BZ2.frozen 11
      clear ht hr hP
      have BF := Lib.hid (blk_set12 BZ2 (.int .i64 sa.fy.base) (.slice A0 sa.fy.sent.length c0) (.int .i64 sa.fy.want) (.slice A1 sa.sent.length c1) (.slice A2 sa.heard.length c2) (.slice A3 sa.way.length c3) (.int .i64 sb.fy.base) (.slice B0 sb.fy.sent.length d0) (.int .i64 sb.fy.want) (.slice B1 sb.sent.length d1) (.slice B2 sb.heard.length d2) (.slice B3 sb.way.length d3))
      clear BZ2
      go_wp2_with fail
      have q0 := BF.out.cell 0
      have q1 := BF.out.cell 1
      have q2 := BF.out.cell 2
      have q3 := BF.out.cell 3
      have q4 := BF.out.cell 4
      have q5 := BF.out.cell 5
      have q6 := BF.out.cell 6
      have q7 := BF.out.cell 7
      have q8 := BF.out.cell 8
      have q9 := BF.out.cell 9
      have q10 := BF.out.cell 10
      have q11 := BF.out.cell 11
      refine bodyPost_ret (v := .tuple #[.agg #[.int .i64 sa.fy.base, .slice A0 sa.fy.sent.length c0, .int .i64 sa.fy.want, .slice A1 sa.sent.length c1, .slice A2 sa.heard.length c2, .slice A3 sa.way.length c3, .int .i64 sb.fy.base, .slice B0 sb.fy.sent.length d0, .int .i64 sb.fy.want, .slice B1 sb.sent.length d1, .slice B2 sb.heard.length d2, .slice B3 sb.way.length d3], .bool true]) (by simp [results, Try.results19, go_sem, q0, q1, q2, q3, q4, q5, q6, q7, q8, q9, q10, q11]) rfl ⟨A0, A1, A2, A3, B0, B1, B2, B3, c0, c1, c2, c3, d0, d1, d2, d3, by rw [← HSA.out, ← HSB.out], ?_, ?_⟩
      · rw [← HSA.out, ← HSB.out, hbs, show base0 + 2 = g + 1 by have := HG.out; omega]
        have hlg1 : base0 < g + 1 := by omega
        repeat (refine PSR.setg ?_ hlg1 _)
        exact HR.out
      · rw [hbs]
        repeat (refine Below.setCell ?_ (Nat.le_refl base0) _)
        exact BW.out.trans (hB.out.mono (Nat.le_of_lt hlg))
end Go.Proofs.Ytnjfphfkjapemaa
