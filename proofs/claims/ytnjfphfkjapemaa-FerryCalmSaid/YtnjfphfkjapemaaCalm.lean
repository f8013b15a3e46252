/- Contract: reparteelaw40.FerryCalm returns true. -/
import Derived.Test.YtnjfphfkjapemaaPlay
import Derived.Test.YtnjfphfkjapemaaFyFirst
import Derived.Test.YtnjfphfkjapemaaBegins
import Derived.Test.YtnjfphfkjapemaaCalmR
import Derived.Deep.RegionLaw
import Derived.Deep.DeepCutAuto
namespace Go.Proofs.Ytnjfphfkjapemaa
open Go.RowKit

theorem two_new (w : World) (a b c d e f a' b' c' d' e' f' : Value) : Two (w.alloc (.cells #[a, b, c, d, e, f, a', b', c', d', e', f'] 42)) w.heap.size 0 6 [a, b, c, d, e, f] [a', b', c', d', e', f'] := by
  refine ⟨.inl ⟨rfl, rfl⟩, rfl, rfl, _, Blk.new w _ _, rfl, fun j hj => ?_, fun j hj => ?_⟩
  · rcases j with _ | _ | _ | _ | _ | _ | j <;> first | rfl | omega
  · rcases j with _ | _ | _ | _ | _ | _ | j <;> first | rfl | omega
set_option maxRecDepth 100000 in
set_option maxHeartbeats 20000000 in
theorem calm_any (A : Option Addr) (l : List Int) (c : Nat) (w : World) (ha : Rd w A (l.map (.int .i64))) (hm : l.length ≤ 9223372036854775807) :
    Calls Try.prog 5 #[.slice A l.length c] w fun e w' => e = .returned (.bool true) ∧ Below w.heap.size w w' := by
  have HA := Lib.hid (fun W (hb : Below w.heap.size w W) => ha.below hb)
  clear ha
  go_enter Try.func5, Try.ntmps5
  go_wp2_with fail
  refine (first_any _).mono ?_
  rintro e w1 ⟨rfl, hb1⟩
  have BF1 := Lib.hid hb1
  clear hb1
  by_cases hl : l.length ≤ 60
  · have hd : decide ((60 : Int) < (l.length : Int)) = false := by simp; omega
    have hd2 : decide (60 < l.length) = false := by simp; omega
    have CP := Lib.hid (played_any A l c w1 (HA.out w1 BF1.out) (by omega))
    go_wp2_with fail
    refine CP.out.mono ?_
    clear CP
    rintro e w2 ⟨A0, A1, A2, A3, B0, B1, B2, B3, c0, c1, c2, c3, d0, d1, d2, d3, rfl, hr, hb2⟩
    obtain ⟨hlk, hl1, hl2⟩ := playF_ok (nsOf l) l.length (by omega)
    obtain ⟨sa, hsa⟩ : ∃ x, x = (playF (nsOf l) l.length).1 := ⟨_, rfl⟩
    obtain ⟨sb, hsb⟩ : ∃ x, x = (playF (nsOf l) l.length).2 := ⟨_, rfl⟩
    have HLK : Hid ((Lk sa sb ∧ Lk sb sa) ∧ sa.sent.length ≤ 60 ∧ sb.sent.length ≤ 60) := Lib.hid (by rw [hsa, hsb]; exact ⟨hlk, by omega, by omega⟩)
    rw [← hsa, ← hsb] at hr ⊢
    have HP0 := Lib.hid (PSN.start hr (.cells #[.int .i64 sa.fy.base, .slice A0 sa.fy.sent.length c0, .int .i64 sa.fy.want, .slice A1 sa.sent.length c1, .slice A2 sa.heard.length c2, .slice A3 sa.way.length c3, .int .i64 sb.fy.base, .slice B0 sb.fy.sent.length d0, .int .i64 sb.fy.want, .slice B1 sb.sent.length d1, .slice B2 sb.heard.length d2, .slice B3 sb.way.length d3] 42))
    have HB2 := Lib.hid (below_next BF1.out hb2)
    have hka : sa.fy.sent.length ≤ 60 := by obtain ⟨_, _, _, h3, _⟩ := HLK.out.1.1.base; have := HLK.out.2.1; omega
    have hkb : sb.fy.sent.length ≤ 60 := by obtain ⟨_, _, _, h3, _⟩ := HLK.out.1.2.base; have := HLK.out.2.2; omega
    clear hsa hsb hlk hr hb2 hl1 hl2
    go_upto_region 6 with fail
    have hX0 := two_new w2 (.int .i64 sa.fy.base) (.slice A0 sa.fy.sent.length c0) (.int .i64 sa.fy.want) (.slice A1 sa.sent.length c1) (.slice A2 sa.heard.length c2) (.slice A3 sa.way.length c3) (.int .i64 sb.fy.base) (.slice B0 sb.fy.sent.length d0) (.int .i64 sb.fy.want) (.slice B1 sb.sent.length d1) (.slice B2 sb.heard.length d2) (.slice B3 sb.way.length d3)
    have HCS : Hid (CS _ (w1.heap.size + 2) w2.heap.size 0 6 sa sb) := Lib.hid ⟨A0, A1, A2, A3, B0, B1, B2, B3, c0, c1, c2, c3, d0, d1, d2, d3, hX0, HP0.out⟩
    obtain ⟨m0, m1, m2, m3, m4, m5, n0, n1, n2, n3, n4, n5⟩ := two12 hX0
    have HB3 := Lib.hid (Below.alloc (Below.refl _ _) (Nat.le_refl w2.heap.size) (.cells #[.int .i64 sa.fy.base, .slice A0 sa.fy.sent.length c0, .int .i64 sa.fy.want, .slice A1 sa.sent.length c1, .slice A2 sa.heard.length c2, .slice A3 sa.way.length c3, .int .i64 sb.fy.base, .slice B0 sb.fy.sent.length d0, .int .i64 sb.fy.want, .slice B1 sb.sent.length d1, .slice B2 sb.heard.length d2, .slice B3 sb.way.length d3] 42) : Below w2.heap.size w2 _)
    clear hX0 HP0
    generalize w2.alloc (.cells #[.int .i64 sa.fy.base, .slice A0 sa.fy.sent.length c0, .int .i64 sa.fy.want, .slice A1 sa.sent.length c1, .slice A2 sa.heard.length c2, .slice A3 sa.way.length c3, .int .i64 sb.fy.base, .slice B0 sb.fy.sent.length d0, .int .i64 sb.fy.want, .slice B1 sb.sent.length d1, .slice B2 sb.heard.length d2, .slice B3 sb.way.length d3] 42) = W3 at *
    have hq1 : IntKind.i64.wrap ((sa.fy.sent.length : Int) + (sb.fy.sent.length : Int)) = (sa.fy.sent.length : Int) + (sb.fy.sent.length : Int) := IntWalk.i64_in _ (by omega)
    have hq2 : IntKind.i64.wrap ((sa.fy.sent.length : Int) + (sb.fy.sent.length : Int) + 1) = ((sa.fy.sent.length + sb.fy.sent.length + 1 : Nat) : Int) := by rw [IntWalk.i64_in _ (by omega)]; omega
    go_wp2_with fail
    rw [show ((sa.fy.sent.length : Int) + (sb.fy.sent.length : Int) + 1) = ((sa.fy.sent.length + sb.fy.sent.length + 1 : Nat) : Int) by omega]
    generalize hRR : sa.fy.sent.length + sb.fy.sent.length + 1 = R at *
    have HRR := Lib.hid hRR
    have hR200 : R ≤ 200 := by omega
    clear hRR hq1 hq2 m0 m1 m2 m3 m4 m5 n0 n1 n2 n3 n4 n5
    have HBW := Lib.hid (HB2.out.trans (HB3.out.mono (show w.heap.size ≤ w2.heap.size from HB2.out.size)))
    have HBase := Lib.hid (show w.heap.size ≤ w1.heap.size + 2 by have := BF1.out.size; omega)
    have HBg := Lib.hid (show w.heap.size ≤ w2.heap.size from HB2.out.size)
    have HLR := Lib.hid (fun r => rounds_ok (sa, sb) (by have := HLK.out.2.1; show sa.sent.length ≤ 1000; omega) (by have := HLK.out.2.2; show sb.sent.length ≤ 1000; omega) HLK.out.1 r)
    have HEND := Lib.hid (calm_end (sa, sb) (by have := HLK.out.2.1; show sa.sent.length ≤ 1000; omega) (by have := HLK.out.2.2; show sb.sent.length ≤ 1000; omega) HLK.out.1.1 HLK.out.1.2)
    have HSZ := Lib.hid HLK.out.2
    clear HB3 HB2 HLK hka hkb
    generalize w2.heap.size = g at *
    generalize w1.heap.size + 2 = base at *
    go_loopw [6] (fun s wx => ∃ (r : Nat), r ≤ R ∧ s = .int .i64 r ∧ Hid (CS wx base g 0 6 (rounds r (sa, sb)).1 (rounds r (sa, sb)).2) ∧ Hid (Below w.heap.size w wx)) (fun s _ => R - (intOf s).toNat)
    case atStart => exact ⟨0, by omega, rfl, HCS, HBW⟩
    case round =>
      obtain ⟨r, hr, rfl, hP, hB⟩ := hrel
      obtain ⟨y, hy⟩ : ∃ y, y = rounds r (sa, sb) := ⟨_, rfl⟩
      by_cases hlt : r < R
      · obtain ⟨hl, h1, h2⟩ := HLR.out r
        rw [← hy] at hl h1 h2 hP
        have HY := Lib.hid (show rounds (r + 1) (sa, sb) = round y by rw [hy]; rfl)
        have HL := Lib.hid hl
        have HS := Lib.hid (show y.1.sent.length ≤ 60 ∧ y.2.sent.length ≤ 60 by rw [h1, h2]; exact HSZ.out)
        clear hl h1 h2 hy
        have hd3 : decide ((r : Int) < (R : Int)) = true := by simp; omega
        have hd4 : decide (r < R) = true := by simp; omega
        go_upto_block 1 with fail
        refine ev_lift (calmR _ w.heap.size base g w _ y _ _ _ _ _ _ _ _ _ _ _ _ _ _ _ _ _ _ _ _ _ _ _ _ _ _ _ _ _ _ _ _ _ _ _ _ _ _ _ _ _ _ _ _ _ _ _ _ _ _ _ _ _ _ _ _ _ _ _ _ _ _ _ _ _ _ _ _ _ _ _ _ _ _ _ _ _ _ _ _ _ _ _ _ _ _ _ _ _ _ _ _ _ _ _ _ _ _ _ _ _ _ _ _ _ _ _ _ _ _ _ _ _ _ _ _ _ _ _ _ _ _ _ _ _ _ _ HL.out.1 HL.out.2 HS.out.1 HS.out.2 HBase.out HBg.out hP hB ?_)
        intros
        rename_i hp' hb'
        have HP' := Lib.hid hp'
        have HB' := Lib.hid hb'
        clear hp' hb' hP hB
        go_wp2_with fail
        exact ⟨⟨r + 1, by omega, by go_num, by rw [HY.out]; exact HP', HB'⟩, by simp [intOf]; omega⟩
      · have hre : r = R := by omega
        subst hre
        have he := HEND.out
        have hrr := HRR.out
        have hrk := HLR.out r
        have hyy : rounds (sa.fy.sent.length + sb.fy.sent.length + 1) (sa, sb) = y := by rw [hrr, hy]
        have he2 : y.1.heard = y.2.sent ∧ y.2.heard = y.1.sent ∧ y.1.fy.sent = [] ∧ y.2.fy.sent = [] := by
          have h := he
          simp only [] at h
          rw [hyy] at h
          exact h
        rw [← hy] at hP hrk
        obtain ⟨e1, e2, e3, e4⟩ := he2
        have hz1 : y.1.heard.length ≤ 60 := by rw [e1, hrk.2.2]; exact HSZ.out.2
        have hz2 : y.2.heard.length ≤ 60 := by rw [e2, hrk.2.1]; exact HSZ.out.1
        obtain ⟨A0', A1', A2', A3', B0', B1', B2', B3', c0', c1', c2', c3', d0', d1', d2', d3', ht, hq⟩ := hP.out
        have CS1 := Lib.hid (fun W (hb : Below wr.heap.size wr W) => same_n A2' B1' y.1.heard y.1.heard.length y.2.sent.length c2' d1' rfl (by rw [e1]) W (own_rd (hq.p.below hb).rm.r2) (by have h := own_rd (hq.p.below hb).ro.r1; rw [← e1] at h; exact h) (by omega))
        have CS2 := Lib.hid (fun W (hb : Below wr.heap.size wr W) => same_n B2' A1' y.2.heard y.2.heard.length y.1.sent.length d2' c1' rfl (by rw [e2]) W (own_rd (hq.p.below hb).ro.r2) (by have h := own_rd (hq.p.below hb).rm.r1; rw [← e2] at h; exact h) (by omega))
        have KS := Lib.hid (fun W (hb : Below wr.heap.size wr W) => show W.cell? ⟨g, 1, none⟩ = some (.slice A0' 0 c0') ∧ W.cell? ⟨g, 3, none⟩ = some (.slice A1' y.1.sent.length c1') ∧ W.cell? ⟨g, 4, none⟩ = some (.slice A2' y.1.heard.length c2') ∧ W.cell? ⟨g, 7, none⟩ = some (.slice B0' 0 d0') ∧ W.cell? ⟨g, 9, none⟩ = some (.slice B1' y.2.sent.length d1') ∧ W.cell? ⟨g, 10, none⟩ = some (.slice B2' y.2.heard.length d2') by
          obtain ⟨x0, x1, x2, x3, x4, x5, x6, x7, x8, x9, x10, x11⟩ := two12 (ht.below hb)
          rw [e3] at x1
          rw [e4] at x7
          exact ⟨x1, x3, x4, x7, x9, x10⟩)
        have hgl := ht.lt
        clear e1 e2 e3 e4 hz1 hz2 he hrr hrk hyy hP ht hq hy
        obtain ⟨x1, x3, x4, x7, x9, x10⟩ := KS.out wr (Below.refl _ _)
        have hd3 : decide ((r : Int) < (r : Int)) = false := by simp
        have hd4 : decide (r < r) = false := by simp
        go_wp2_with fail
        refine (CS1.out _ (Below.refl _ _)).mono ?_
        rintro e w5 ⟨rfl, hb5⟩
        have HB5 := Lib.hid hb5
        clear x1 x3 x4 x7 x9 x10
        obtain ⟨x1, x3, x4, x7, x9, x10⟩ := KS.out w5 hb5
        clear hb5
        go_wp2_with fail
        refine (CS2.out _ HB5.out).mono ?_
        rintro e w6 ⟨rfl, hb6⟩
        have HB6 := Lib.hid (below_next HB5.out hb6)
        clear x1 x3 x4 x7 x9 x10 hb6
        obtain ⟨x1, x3, x4, x7, x9, x10⟩ := KS.out w6 HB6.out
        go_wp2_with fail
        go_ret
        exact ⟨rfl, below_next hB.out HB6.out⟩
  · have hd : decide ((60 : Int) < (l.length : Int)) = true := by simp; omega
    have hd2 : decide (60 < l.length) = true := by simp; omega
    go_wp2_with fail
    go_ret
    exact ⟨rfl, BF1.out⟩
end Go.Proofs.Ytnjfphfkjapemaa
