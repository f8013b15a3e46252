/- Contract: reparteelaw40.FerryOrder returns true. -/
import Derived.Test.YtnjfphfkjapemaaPlay
import Derived.Test.YtnjfphfkjapemaaBegins
import Derived.Test.YtnjfphfkjapemaaFyFirst
import Derived.Deep.RegionHeld3
namespace Go.Proofs.Ytnjfphfkjapemaa
open Go.RowKit

theorem blk6 {w : World} {h : Nat} {t : TypeId} {a b c d e f : Value} (hb : Blk w h #[a, b, c, d, e, f] t) :
    w.cell? ⟨h, 0, none⟩ = some a ∧ w.cell? ⟨h, 1, none⟩ = some b ∧ w.cell? ⟨h, 2, none⟩ = some c ∧ w.cell? ⟨h, 3, none⟩ = some d ∧ w.cell? ⟨h, 4, none⟩ = some e ∧ w.cell? ⟨h, 5, none⟩ = some f := ⟨hb.cell 0, hb.cell 1, hb.cell 2, hb.cell 3, hb.cell 4, hb.cell 5⟩
theorem blk_new2 (w : World) (o : Obj) (cs : Array Value) (t : TypeId) : Blk ((w.alloc o).alloc (.cells cs t)) (w.heap.size + 1) cs t := by
  have h := Blk.new (w.alloc o) cs t
  rwa [World.size_alloc] at h
theorem blk12 {w : World} {h : Nat} {t : TypeId} {a b c d e f a' b' c' d' e' f' : Value} (hb : Blk w h #[a, b, c, d, e, f, a', b', c', d', e', f'] t) :
    w.cell? ⟨h, 0, none⟩ = some a ∧ w.cell? ⟨h, 1, none⟩ = some b ∧ w.cell? ⟨h, 2, none⟩ = some c ∧ w.cell? ⟨h, 3, none⟩ = some d ∧ w.cell? ⟨h, 4, none⟩ = some e ∧ w.cell? ⟨h, 5, none⟩ = some f ∧
    w.cell? ⟨h, 6, none⟩ = some a' ∧ w.cell? ⟨h, 7, none⟩ = some b' ∧ w.cell? ⟨h, 8, none⟩ = some c' ∧ w.cell? ⟨h, 9, none⟩ = some d' ∧ w.cell? ⟨h, 10, none⟩ = some e' ∧ w.cell? ⟨h, 11, none⟩ = some f' :=
  ⟨hb.cell 0, hb.cell 1, hb.cell 2, hb.cell 3, hb.cell 4, hb.cell 5, hb.cell 6, hb.cell 7, hb.cell 8, hb.cell 9, hb.cell 10, hb.cell 11⟩
set_option maxRecDepth 100000 in
set_option maxHeartbeats 8000000 in
theorem order_any (A : Option Addr) (l : List Int) (c : Nat) (w : World) (ha : Rd w A (l.map (.int .i64))) (hm : l.length ≤ 9223372036854775807) :
    Calls Try.prog 4 #[.slice A l.length c] w fun e w' => e = .returned (.bool true) ∧ Below w.heap.size w w' := by
  have HA := Lib.hid (fun W (hb : Below w.heap.size w W) => ha.below hb)
  clear ha
  go_enter Try.func4, Try.ntmps4
  go_wp2_with fail
  refine (first_any _).mono ?_
  rintro e w1 ⟨rfl, hb1⟩
  have BF1 := Lib.hid hb1
  clear hb1
  by_cases hl : l.length ≤ 100
  · have hd : decide ((100 : Int) < (l.length : Int)) = false := by simp; omega
    have hd2 : decide (100 < l.length) = false := by simp; omega
    have CP := Lib.hid (played_any A l c w1 (HA.out w1 BF1.out) hl)
    go_wp2_with fail
    refine CP.out.mono ?_
    clear CP
    rintro e w2 ⟨A0, A1, A2, A3, B0, B1, B2, B3, c0, c1, c2, c3, d0, d1, d2, d3, rfl, hr, hb2⟩
    obtain ⟨hlk, hl1, hl2⟩ := playF_ok (nsOf l) l.length (by omega)
    obtain ⟨sa, hsa⟩ : ∃ x, x = (playF (nsOf l) l.length).1 := ⟨_, rfl⟩
    obtain ⟨sb, hsb⟩ : ∃ x, x = (playF (nsOf l) l.length).2 := ⟨_, rfl⟩
    have HLK : Hid ((Lk sa sb ∧ Lk sb sa) ∧ sa.sent.length ≤ 100 ∧ sb.sent.length ≤ 100) := Lib.hid (by rw [hsa, hsb]; exact ⟨hlk, by omega, by omega⟩)
    rw [← hsa, ← hsb] at hr ⊢
    have HR := Lib.hid hr
    have HB2 := Lib.hid (below_next BF1.out hb2)
    clear hsa hsb hlk hr hb2 hl1 hl2
    go_wp2_with fail
    go_loopw [5] (fun i wr => ∃ (k : Nat), k ≤ 2 ∧ i = .int .i64 k ∧ Hid (Below w2.heap.size w2 wr) ∧ Hid (Blk wr w2.heap.size #[.int .i64 sa.fy.base, .slice A0 sa.fy.sent.length c0, .int .i64 sa.fy.want, .slice A1 sa.sent.length c1, .slice A2 sa.heard.length c2, .slice A3 sa.way.length c3, .int .i64 sb.fy.base, .slice B0 sb.fy.sent.length d0, .int .i64 sb.fy.want, .slice B1 sb.sent.length d1, .slice B2 sb.heard.length d2, .slice B3 sb.way.length d3] 42)) (fun i _ => 2 - (intOf i).toNat)
    case atStart => exact ⟨0, by omega, rfl, Lib.hid (below_allocS (Below.refl _ _) _), Lib.hid (Blk.new _ _ _)⟩
    case round =>
      obtain ⟨k, hk, rfl, hB, hX⟩ := hrel
      by_cases hlt : k < 2
      · obtain ⟨x0, x1, x2, x3, x4, x5, x6, x7, x8, x9, x10, x11⟩ := blk12 hX.out
        have hk2 : k = 0 ∨ k = 1 := by omega
        have hxl := hX.out.lt
        go_upto_region 11 with fail
        go_cut [6, 7] (fun s6 s7 wx => ∃ (ga gb : Nat) (a b : Sd) (F0 F1 F2 F3 G0 G1 G2 G3 : Option Addr) (e0 e1 e2 e3 f0 f1 f2 f3 : Nat), s6 = .pointer (some ⟨ga, 0, none⟩) ∧ s7 = .pointer (some ⟨gb, 0, none⟩) ∧
          Hid (Lk a b ∧ a.sent.length ≤ 100) ∧ Hid (PSR wx (w1.heap.size + 2) a b F0 F1 F2 F3 G0 G1 G2 G3 e0 e1 e2 e3 f0 f1 f2 f3) ∧
          Hid (Blk wx ga #[.int .i64 a.fy.base, .slice F0 a.fy.sent.length e0, .int .i64 a.fy.want, .slice F1 a.sent.length e1, .slice F2 a.heard.length e2, .slice F3 a.way.length e3] 41) ∧
          Hid (Blk wx gb #[.int .i64 b.fy.base, .slice G0 b.fy.sent.length f0, .int .i64 b.fy.want, .slice G1 b.sent.length f1, .slice G2 b.heard.length f2, .slice G3 b.way.length f3] 41) ∧
          Hid (Below w2.heap.size w2 wx) ∧ Hid (Blk wx w2.heap.size #[.int .i64 sa.fy.base, .slice A0 sa.fy.sent.length c0, .int .i64 sa.fy.want, .slice A1 sa.sent.length c1, .slice A2 sa.heard.length c2, .slice A3 sa.way.length c3, .int .i64 sb.fy.base, .slice B0 sb.fy.sent.length d0, .int .i64 sb.fy.want, .slice B1 sb.sent.length d1, .slice B2 sb.heard.length d2, .slice B3 sb.way.length d3] 42))
        case first =>
          rcases hk2 with rfl | rfl
          · go_region
            all_goals
              go_wp2_with fail
              go_meet
              have hbx := fun o1 o2 => (below_allocS (below_allocS hB.out o1) o2).drew
              exact ⟨_, _, sa, sb, A0, A1, A2, A3, B0, B1, B2, B3, c0, c1, c2, c3, d0, d1, d2, d3, rfl, rfl, Lib.hid ⟨HLK.out.1.1, HLK.out.2.1⟩, Lib.hid (HR.out.below (hbx _ _)), Lib.hid (by first | exact ((Blk.new wr _ _).alloc _).drew | exact (blk_new2 wr _ _ _).drew), Lib.hid (by first | exact ((Blk.new wr _ _).alloc _).drew | exact (blk_new2 wr _ _ _).drew), Lib.hid (hbx _ _), Lib.hid ((hX.out.alloc _).alloc _).drew⟩
          · go_region
            all_goals
              go_wp2_with fail
              go_meet
              have hbx := fun o1 o2 => (below_allocS (below_allocS hB.out o1) o2).drew
              exact ⟨_, _, sb, sa, B0, B1, B2, B3, A0, A1, A2, A3, d0, d1, d2, d3, c0, c1, c2, c3, rfl, rfl, Lib.hid ⟨HLK.out.1.2, HLK.out.2.2⟩, Lib.hid (HR.out.below (hbx _ _)).swap, Lib.hid (by first | exact ((Blk.new wr _ _).alloc _).drew | exact (blk_new2 wr _ _ _).drew), Lib.hid (by first | exact ((Blk.new wr _ _).alloc _).drew | exact (blk_new2 wr _ _ _).drew), Lib.hid (hbx _ _), Lib.hid ((hX.out.alloc _).alloc _).drew⟩
        case rest =>
          obtain ⟨ga, gb, a, b, F0, F1, F2, F3, G0, G1, G2, G3, e0, e1, e2, e3, f0, f1, f2, f3, rfl, rfl, hlk, hr2, hga, hgb, hb2, hX2⟩ := hcut
          clear x0 x1 x2 x3 x4 x5 x6 x7 x8 x9 x10 x11 hX hB hxl hk2
          obtain ⟨i0, hi0, hz0, hz1, hz2⟩ := info_parts infoStr
          obtain ⟨m, hm1, hm2, hm3, hm4⟩ := hlk.out.1.base
          have hwant := hlk.out.1.want
          have hlen := hlk.out.1.len
          have hsz := hlk.out.2
          have hls := hr2.out.rm.l1
          have hcut := fun W => run_cutS (P := Try.prog) 22 9 i0 1 Try.underlying22 hi0 hz1 F1 a.sent.length e1 m (m : Int) rfl (by omega) W
          have hq : IntKind.i64.wrap ((m : Int) + (a.fy.sent.length : Int)) = (a.sent.length : Int) := by rw [IntWalk.i64_in _ (by omega)]; omega
          have hd3 : decide ((b.heard.length : Int) < (m : Int)) = false := by simp; omega
          have hd4 : decide (b.heard.length < m) = false := by simp; omega
          have CB := Lib.hid (fun W (hb : Below wc.heap.size wc W) => begins_any G2 F1 b.heard a.sent f2 e1 W (own_rd (hr2.out.below hb).ro.r2) (own_rd (hr2.out.below hb).rm.r1) hlen hlk.out.1.pre hls (by omega))
          have CS := Lib.hid (fun W (hb : Below wc.heap.size wc W) => same_n F0 (cutS F1 e1 m 1) a.fy.sent a.fy.sent.length (a.sent.length - m) e0 (e1 - m) rfl (by omega) W (hr2.out.below hb).rm.r0
            (show Rd W _ (a.fy.sent.map .string) by have h := (own_rd (hr2.out.below hb).rm.r1).cutS m 1 a.sent.length (by simp) hls; rw [Nat.mul_one, ← List.map_drop, ← hm4] at h; exact h) (by omega))
          have KS := Lib.hid (fun W (hb : Below wc.heap.size wc W) => show Below wc.heap.size wc W ∧ W.cell? ⟨ga, 0, none⟩ = some (.int .i64 (m : Int)) ∧ W.cell? ⟨ga, 1, none⟩ = some (.slice F0 a.fy.sent.length e0) ∧ W.cell? ⟨ga, 3, none⟩ = some (.slice F1 a.sent.length e1) ∧ W.cell? ⟨gb, 2, none⟩ = some (.int .i64 (b.heard.length : Int)) ∧ W.cell? ⟨gb, 4, none⟩ = some (.slice G2 b.heard.length f2) from by
            obtain ⟨y0, y1, y2, y3, y4, y5⟩ := blk6 (hga.out.belowS hb)
            obtain ⟨z0, z1, z2, z3, z4, z5⟩ := blk6 (hgb.out.belowS hb)
            rw [hm1] at y0
            rw [hwant] at z2
            exact ⟨hb, y0, y1, y3, z2, z4⟩)
          have hgal := hga.out.lt
          have hgbl := hgb.out.lt
          clear hm1 hwant hm4 hlen
          go_upto_region 12 with fail
          go_cut [81] (fun s81 wx => s81 = .bool false ∧ Hid (Below wc.heap.size wc wx))
          case first =>
            go_region_held3 (fun W => Below wc.heap.size wc W ∧ W.cell? ⟨ga, 0, none⟩ = some (.int .i64 (m : Int)) ∧ W.cell? ⟨ga, 1, none⟩ = some (.slice F0 a.fy.sent.length e0) ∧ W.cell? ⟨ga, 3, none⟩ = some (.slice F1 a.sent.length e1) ∧ W.cell? ⟨gb, 2, none⟩ = some (.int .i64 (b.heard.length : Int)) ∧ W.cell? ⟨gb, 4, none⟩ = some (.slice G2 b.heard.length f2))
              (first
                | (exact KS.out _ ((Below.refl _ _).drew))
                | (exact KS.out _ (below_next (And.left (by assumption)) (by assumption))))
              (first
                | (go_at_call 20; (with_reducible refine (CB.out _ (And.left (by assumption))).mono ?_); rintro e wf ⟨rfl, hbf⟩)
                | (go_at_call 21; (with_reducible refine (CS.out _ (And.left (by assumption))).mono ?_); rintro e wf ⟨rfl, hbf⟩))
            all_goals
              have BF := Lib.hid (And.left (show Below wc.heap.size wc _ ∧ _ by assumption))
              go_wp2_with fail
              go_meet
              exact ⟨rfl, BF⟩
          case rest =>
            obtain ⟨rfl, hbx⟩ := hcut
            go_wp2_with fail
            refine ⟨⟨k + 1, by omega, by go_num, Lib.hid (below_next hb2.out hbx.out), Lib.hid (hX2.out.belowS hbx.out)⟩, by simp [intOf]; omega⟩
      · go_wp2_with fail
        go_ret
        exact ⟨rfl, below_next HB2.out hB.out⟩
  · have hd : decide ((100 : Int) < (l.length : Int)) = true := by simp; omega
    have hd2 : decide (100 < l.length) = true := by simp; omega
    go_wp2_with fail
    go_ret
    exact ⟨rfl, BF1.out⟩
end Go.Proofs.Ytnjfphfkjapemaa
