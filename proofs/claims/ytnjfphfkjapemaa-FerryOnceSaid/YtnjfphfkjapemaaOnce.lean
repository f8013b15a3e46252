/- Contract: reparteelaw40.FerryOnce returns true. -/
import Derived.Test.YtnjfphfkjapemaaOrder
import Derived.Test.YtnjfphfkjapemaaFyMore
import Derived.Deep.RegionLaw
import Derived.Deep.DeepCutAuto
namespace Go.Proofs.Ytnjfphfkjapemaa
open Go.RowKit

abbrev sZZ : ByteArray := ⟨#[122, 122]⟩
theorem hear_keep (x : Fy) (k f t q : Int) (s : ByteArray) (hm : x.may = true) (h1 : ¬ (k = 1 ∧ q = x.want)) (h2 : ¬ (k = 2 ∧ x.base < q ∧ q ≤ x.base + x.sent.length)) : hearF x ⟨k, f, t, q, s⟩ = (x, ⟨#[]⟩, false) := by
  unfold hearF
  rw [if_pos hm]
  by_cases hk : k = 1
  · rw [if_pos hk, if_neg (fun h => h1 ⟨hk, h⟩)]
  · rw [if_neg hk, if_neg h2]
theorem hear_new (x : Fy) (f t : Int) (s : ByteArray) (hm : x.may = true) : hearF x ⟨1, f, t, x.want, s⟩ = (⟨x.base, x.sent, x.want + 1⟩, s, true) := by
  unfold hearF
  rw [if_pos hm]
  simp
/-- The ferry of a side that was played: small numbers. -/
def FyOk (x : Fy) : Prop := ∃ m n : Nat, x.base = m ∧ x.want = n ∧ m ≤ 1000 ∧ n ≤ 1000 ∧ x.sent.length ≤ 100 ∧ x.may = true
theorem fyOk {a b : Sd} (h : Lk a b) (g : Lk b a) (h1 : a.sent.length ≤ 100) (h2 : b.sent.length ≤ 100) : FyOk a.fy := by
  obtain ⟨m, e1, e2, e3, _⟩ := h.base
  exact ⟨m, a.heard.length, e1, g.want, by have := h.len; omega, by have := g.len; omega, by omega, h.may g (by omega) (by omega)⟩
set_option maxRecDepth 100000 in
set_option maxHeartbeats 8000000 in
theorem once_any (A : Option Addr) (l : List Int) (c : Nat) (which : Int) (w : World) (ha : Rd w A (l.map (.int .i64))) (hm : l.length ≤ 9223372036854775807) (hwh : -9223372036854775808 ≤ which ∧ which ≤ 9223372036854775807) :
    Calls Try.prog 6 #[.slice A l.length c, .int .i64 which] w fun e w' => e = .returned (.bool true) ∧ Below w.heap.size w w' := by
  have HA := Lib.hid (fun W (hb : Below w.heap.size w W) => ha.below hb)
  have HWH := Lib.hid hwh
  clear ha hwh
  go_enter Try.func6, Try.ntmps6
  go_wp2_with fail
  refine (first_any _).mono ?_
  rintro e w1 ⟨rfl, hb1⟩
  have BF1 := Lib.hid hb1
  clear hb1
  by_cases hl : l.length ≤ 60
  · have hd : decide ((60 : Int) < (l.length : Int)) = false := by simp; omega
    have hd2 : decide (60 < l.length) = false := by simp; omega
    have CP := Lib.hid (played_any A l c w1 (HA.out w1 BF1.out) (by omega))
    go_wp2_with fail
    refine CP.out.mono ?_
    clear CP
    rintro e w2 ⟨A0, A1, A2, A3, B0, B1, B2, B3, c0, c1, c2, c3, d0, d1, d2, d3, rfl, hr, hb2⟩
    obtain ⟨hlk, hl1, hl2⟩ := playF_ok (nsOf l) l.length (by omega)
    obtain ⟨sa, hsa⟩ : ∃ x, x = (playF (nsOf l) l.length).1 := ⟨_, rfl⟩
    obtain ⟨sb, hsb⟩ : ∃ x, x = (playF (nsOf l) l.length).2 := ⟨_, rfl⟩
    have HLK : Hid (FyOk sa.fy ∧ FyOk sb.fy) := Lib.hid (by rw [hsa, hsb]; exact ⟨fyOk hlk.1 hlk.2 (by omega) (by omega), fyOk hlk.2 hlk.1 (by omega) (by omega)⟩)
    rw [← hsa, ← hsb] at hr ⊢
    have HR := Lib.hid hr
    have HB2 := Lib.hid (below_next BF1.out hb2)
    clear hsa hsb hlk hr hb2 hl1 hl2
    go_wp2_with fail
    go_loopw [7] (fun i wr => ∃ (k : Nat), k ≤ 2 ∧ i = .int .i64 k ∧ Hid (Below w2.heap.size w2 wr) ∧ Hid (Blk wr w2.heap.size #[.int .i64 sa.fy.base, .slice A0 sa.fy.sent.length c0, .int .i64 sa.fy.want, .slice A1 sa.sent.length c1, .slice A2 sa.heard.length c2, .slice A3 sa.way.length c3, .int .i64 sb.fy.base, .slice B0 sb.fy.sent.length d0, .int .i64 sb.fy.want, .slice B1 sb.sent.length d1, .slice B2 sb.heard.length d2, .slice B3 sb.way.length d3] 42)) (fun i _ => 2 - (intOf i).toNat)
    case atStart => exact ⟨0, by omega, rfl, Lib.hid (below_allocS (Below.refl _ _) _), Lib.hid (Blk.new _ _ _)⟩
    case round =>
      obtain ⟨k, hk, rfl, hB, hX⟩ := hrel
      by_cases hlt : k < 2
      · obtain ⟨x0, x1, x2, x3, x4, x5, x6, x7, x8, x9, x10, x11⟩ := blk12 hX.out
        have hk2 : k = 0 ∨ k = 1 := by omega
        have hxl := hX.out.lt
        go_upto_region 9 with fail
        go_cut [8] (fun s8 wx => ∃ (g8 m n : Nat) (L : List ByteArray) (F : Option Addr) (e : Nat), s8 = .pointer (some ⟨g8, 0, none⟩) ∧ m ≤ 1000 ∧ n ≤ 1000 ∧ L.length ≤ 100 ∧ Hid (Fy.may ⟨m, L, n⟩ = true) ∧
          Hid (Blk wx g8 #[.int .i64 (m : Int), .slice F L.length e, .int .i64 (n : Int)] 24) ∧ Hid (∀ W, Below wx.heap.size wx W → Strs W F L) ∧
          Hid (Below w2.heap.size w2 wx) ∧ Hid (Blk wx w2.heap.size #[.int .i64 sa.fy.base, .slice A0 sa.fy.sent.length c0, .int .i64 sa.fy.want, .slice A1 sa.sent.length c1, .slice A2 sa.heard.length c2, .slice A3 sa.way.length c3, .int .i64 sb.fy.base, .slice B0 sb.fy.sent.length d0, .int .i64 sb.fy.want, .slice B1 sb.sent.length d1, .slice B2 sb.heard.length d2, .slice B3 sb.way.length d3] 42))
        case first =>
          have hbx := fun o1 => below_allocS hB.out o1
          rcases hk2 with rfl | rfl
          · obtain ⟨m, n, e1, e2, e3, e4, e5, e6⟩ := HLK.out.1
            as_aux_lemma =>
            go_wp2_with fail
            go_meet
            refine ⟨_, m, n, sa.fy.sent, A0, c0, rfl, e3, e4, e5, Lib.hid (by rw [← e1, ← e2]; exact e6), Lib.hid ?_, Lib.hid (fun W hb => (HR.out.below (below_next (hbx _) hb)).rm.r0), Lib.hid (hbx _), Lib.hid (hX.out.alloc _)⟩
            rw [← e1, ← e2]
            exact Blk.new _ _ _
          · obtain ⟨m, n, e1, e2, e3, e4, e5, e6⟩ := HLK.out.2
            as_aux_lemma =>
            go_wp2_with fail
            go_meet
            refine ⟨_, m, n, sb.fy.sent, B0, d0, rfl, e3, e4, e5, Lib.hid (by rw [← e1, ← e2]; exact e6), Lib.hid ?_, Lib.hid (fun W hb => (HR.out.below (below_next (hbx _) hb)).ro.r0), Lib.hid (hbx _), Lib.hid (hX.out.alloc _)⟩
            rw [← e1, ← e2]
            exact Blk.new _ _ _
        case rest =>
          obtain ⟨g8, m, n, L, F, e, rfl, hm1, hn1, hL1, hmay, hg8, hS, hB3, hX3⟩ := hcut
          clear x0 x1 x2 x3 x4 x5 x6 x7 x8 x9 x10 x11 hX hB hxl hk2
          obtain ⟨y0, y1, y2⟩ := blk3 hg8.out
          have hgl := hg8.out.lt
          have hq1 : IntKind.i64.wrap ((n : Int) + 1) = (n : Int) + 1 := IntWalk.i64_in _ (by omega)
          go_wp2_with fail
          refine (low_any which ((n : Int) + 1) _ (by omega)).mono ?_
          rintro e w1 ⟨rfl, rfl⟩
          have hlow := lowF_lt which ((n : Int) + 1) (by omega)
          obtain ⟨q, hq⟩ : ∃ q : Nat, lowF which ((n : Int) + 1) = q := ⟨(lowF which ((n : Int) + 1)).toNat, by omega⟩
          rw [hq] at hlow ⊢
          have hqn : q ≤ n := by omega
          clear hq hlow
          clear y0 y1 y2
          go_upto_region 11 with fail
          go_cut [10, 11, 12] (fun s10 s11 s12 wx => ∃ (g10 : Nat) (m' n' : Int) (G : Option Addr) (f : Nat) (s : ByteArray) (came : Bool), s10 = .pointer (some ⟨g10, 0, none⟩) ∧ s11 = .string s ∧ s12 = .bool came ∧
            ((q = n ∧ came = true ∧ s = sZZ) ∨ (q ≠ n ∧ came = false ∧ m' = m ∧ n' = n)) ∧ Hid (∃ M : List ByteArray, Blk wx g10 #[.int .i64 m', .slice G M.length f, .int .i64 n'] 24 ∧ (came = false → M = L) ∧ Strs wx G M ∧ M.length ≤ f) ∧ Hid (Below wc.heap.size wc wx))
          case first =>
            obtain ⟨y0, y1, y2⟩ := blk3 hg8.out
            have C := hear_any m F L e n 1 0 0 q sZZ wc (hS.out _ (Below.refl _ _)) (by omega)
            by_cases hqe : q = n
            · subst hqe
              rw [show hearF ⟨(m : Int), L, (q : Int)⟩ ⟨1, 0, 0, (q : Int), sZZ⟩ = (⟨m, L, q + 1⟩, sZZ, true) from hear_new ⟨(m : Int), L, (q : Int)⟩ 0 0 sZZ hmay.out] at C
              have C' := Lib.hid C
              clear C
              as_aux_lemma =>
              go_wp2_with fail
              refine C'.out.mono ?_
              rintro e2 w2' ⟨b', A', L', c', v', rfl, hF, hle', hs', hb'⟩
              have HBb := Lib.hid hb'
              have HSs := Lib.hid hs'
              clear hb' hs'
              go_wp2_with fail
              go_meet
              exact ⟨_, b', v', A', c', sZZ, true, rfl, rfl, rfl, .inl (by simp), Lib.hid ⟨L', Blk.new _ _ _, (fun h => by cases h), HSs.out.alloc _, hle'⟩, Lib.hid (below_allocS HBb.out _)⟩
            · rw [show hearF ⟨(m : Int), L, (n : Int)⟩ ⟨1, 0, 0, (q : Int), sZZ⟩ = (⟨m, L, n⟩, ⟨#[]⟩, false) from hear_keep ⟨(m : Int), L, (n : Int)⟩ 1 0 0 q sZZ hmay.out (by simp; omega) (by simp)] at C
              have C' := Lib.hid C
              clear C
              as_aux_lemma =>
              go_wp2_with fail
              refine C'.out.mono ?_
              rintro e2 w2' ⟨b', A', L', c', v', rfl, hF, hle', hs', hb'⟩
              obtain ⟨rfl, hLL, rfl⟩ := Fy.mk.inj hF.out
              have HBb := Lib.hid hb'
              have HSs := Lib.hid hs'
              have HLL := Lib.hid hLL
              clear hb' hs' hLL hF
              go_wp2_with fail
              go_meet
              exact ⟨_, m, n, A', c', ⟨#[]⟩, false, rfl, rfl, rfl, .inr ⟨hqe, rfl, rfl, rfl⟩, Lib.hid ⟨L', Blk.new _ _ _, (fun _ => HLL.out), HSs.out.alloc _, hle'⟩, Lib.hid (below_allocS HBb.out _)⟩
          case rest =>
            obtain ⟨g10, m', n', G, f, s, came, rfl, rfl, rfl, hcm, hM, hbx⟩ := hcut
            have hS4 := Lib.hid (fun W (hb : Below wc.heap.size wc W) => hS.out W (below_next hbx.out hb))
            have hg84 := Lib.hid (hg8.out.belowS hbx.out)
            have hB4 := Lib.hid (below_next hB3.out hbx.out)
            have hX4 := Lib.hid (hX3.out.belowS hbx.out)
            clear hS hg8 hB3 hX3 hbx
            go_upto_region 12 with fail
            go_cut [78] (fun s78 wx => s78 = .bool false ∧ Hid (Below wc.heap.size wc wx))
            case first =>
              obtain ⟨y0, y1, y2⟩ := blk3 hg84.out
              obtain ⟨M, hb1, hb2, hb3, hb4⟩ := hM.out
              obtain ⟨z0, z1, z2⟩ := blk3 hb1
              rcases hcm with ⟨rfl, rfl, rfl⟩ | ⟨hne, rfl, rfl, rfl⟩
              · clear hb1 hb2 hb3
                as_aux_lemma =>
                go_wp2_with fail
                go_meet
                exact ⟨rfl, Lib.hid (Below.refl _ _)⟩
              · have hME := hb2 rfl
                subst hME
                have C := Lib.hid (sameFy_any m m F G M M e f n n wc (hS4.out _ (Below.refl _ _)) hb3 (by omega))
                clear hb1 hb2 hb3
                have hqb : ((q : Int) == (n : Int)) = false := by simp; omega
                have hqb2 : (q == n) = false := by simp; omega
                as_aux_lemma =>
                go_wp2_with fail
                refine C.out.mono ?_
                rintro e2 w2' ⟨rfl, hb'⟩
                rw [sameF_self]
                have HBb := Lib.hid hb'
                clear hb'
                go_wp2_with fail
                go_meet
                exact ⟨rfl, HBb⟩
            case rest =>
              obtain ⟨rfl, hbx⟩ := hcut
              have hS5 := Lib.hid (fun W (hb : Below wc.heap.size wc W) => hS4.out W (below_next hbx.out hb))
              have hg85 := Lib.hid (hg84.out.belowS hbx.out)
              have hB5 := Lib.hid (below_next hB4.out hbx.out)
              have hX5 := Lib.hid (hX4.out.belowS hbx.out)
              clear hS4 hg84 hB4 hX4 hbx hM hcm
              go_upto_region 14 with fail
              go_cut [13] (fun s13 wx => ∃ (g13 : Nat) (G : Option Addr) (f : Nat), s13 = .pointer (some ⟨g13, 0, none⟩) ∧ Hid (Blk wx g13 #[.int .i64 (m : Int), .slice G L.length f, .int .i64 (n : Int)] 24) ∧ Hid (Strs wx G L) ∧ L.length ≤ f ∧ Hid (Below wc.heap.size wc wx))
              case first =>
                obtain ⟨y0, y1, y2⟩ := blk3 hg85.out
                have hgl8 := hg85.out.lt
                have hq2 : IntKind.i64.wrap ((m : Int) + 1) = (m : Int) + 1 := IntWalk.i64_in _ (by omega)
                have hlow := lowF_lt which ((m : Int) + 1) (by omega)
                obtain ⟨p, hp⟩ : ∃ p : Nat, lowF which ((m : Int) + 1) = p := ⟨(lowF which ((m : Int) + 1)).toNat, by omega⟩
                rw [hp] at hlow
                have hpm : p ≤ m := by omega
                have HLO := Lib.hid hp
                clear hlow hp
                have CH := Lib.hid (fun W (hb : Below wc.heap.size wc W) => show Calls Try.prog 12 #[.agg #[.int .i64 (m : Int), .slice F L.length e, .int .i64 (n : Int)], .agg #[.int .i64 2, .int .i64 0, .int .i64 0, .int .i64 (p : Int), .string ⟨#[]⟩]] W (OutH W (⟨(m : Int), L, (n : Int)⟩, ⟨#[]⟩, false)) by
                  have C := hear_any m F L e n 2 0 0 (p : Int) ⟨#[]⟩ W (hS5.out _ hb) (by omega)
                  rw [hear_keep ⟨(m : Int), L, (n : Int)⟩ 2 0 0 (p : Int) ⟨#[]⟩ hmay.out (by simp) (by simp; omega)] at C
                  exact C)
                go_region_law (first
                  | (go_simp; go_at_call 8; refine (low_any _ _ _ (by omega)).mono ?_; rintro e2 w2' ⟨rfl, rfl⟩; rw [HLO.out]; go_simp)
                  | (go_simp; go_at_call 12; refine (CH.out _ ((below_allocS (Below.refl _ _) _).drew)).mono ?_; rintro e2 w2' ⟨b', A', L', c', v', rfl, hF, hle', hs', hb2'⟩; have hb2 := below_of_alloc (below_of_drew hb2'); have GH := Lib.hid ((Blk.new wc #[.int .i64 0, .slice none 0 0, .int .i64 0] 24).drew.belowS hb2'); have HSS := Lib.hid hs'; have HLE := Lib.hid hle'; obtain ⟨z0, z1, z2⟩ := blk3 GH.out; obtain ⟨v0, v1, v2⟩ := blk3f GH.out; have hcase : wc.heap.size < w2'.heap.size := GH.out.lt; clear hs' hle'; go_simp)
                  | (go_simp; go_at_call 12; refine (CH.out _ ((Below.refl _ _).drew)).mono ?_; rintro e2 w2' ⟨b', A', L', c', v', rfl, hF, hle', hs', hb2'⟩; have hb2 := below_of_drew hb2'; have HSS := Lib.hid hs'; have HLE := Lib.hid hle'; clear hs' hle'; go_simp))
                all_goals
                  as_aux_lemma =>
                  go_wp2_with fail
                  go_meet
                  obtain ⟨rfl, hLL, rfl⟩ := Fy.mk.inj hF.out
                  subst hLL
                  first
                    | (have hG := GH.out
                       clear GH
                       have hG3 := ((hG.set_ 0 (.int .i64 (m : Int))).set_ 1 (.slice A' L'.length c')).set_ 2 (.int .i64 (n : Int))
                       have b3 := ((hb2.setCell (p := ⟨wc.heap.size, 0, none⟩) (Nat.le_refl _) (.int .i64 (m : Int))).setCell (p := ⟨wc.heap.size, 1, none⟩) (Nat.le_refl _) (.slice A' L'.length c')).setCell (p := ⟨wc.heap.size, 2, none⟩) (Nat.le_refl _) (.int .i64 (n : Int))
                       exact ⟨wc.heap.size, A', c', rfl, Lib.hid hG3, Lib.hid (strs_set3 HSS.out wc.heap.size _ _ _ _ _ hG (by intro i s h; rcases i with _ | _ | _ | i <;> simp at h)), HLE.out, Lib.hid b3⟩)
                    | exact ⟨w2'.heap.size, A', c', rfl, Lib.hid (Blk.new w2' _ _), Lib.hid (HSS.out.alloc _), HLE.out, Lib.hid (below_allocS hb2 _)⟩
              case rest =>
                obtain ⟨ga, Ga, fa, rfl, hga, hsa, hfa, hbx⟩ := hcut
                have hS6 := Lib.hid (fun W (hb : Below wc.heap.size wc W) => hS5.out W (below_next hbx.out hb))
                have hg86 := Lib.hid (hg85.out.belowS hbx.out)
                have hB6 := Lib.hid (below_next hB5.out hbx.out)
                have hX6 := Lib.hid (hX5.out.belowS hbx.out)
                clear hS5 hg85 hB5 hX5 hbx
                go_upto_region 15 with fail
                go_cut [16] (fun s13 wx => ∃ (g13 : Nat) (G : Option Addr) (f : Nat), s13 = .pointer (some ⟨g13, 0, none⟩) ∧ Hid (Blk wx g13 #[.int .i64 (m : Int), .slice G L.length f, .int .i64 (n : Int)] 24) ∧ Hid (Strs wx G L) ∧ L.length ≤ f ∧ Hid (Below wc.heap.size wc wx))
                case first =>
                  obtain ⟨y0, y1, y2⟩ := blk3 hg86.out
                  have hgl8 := hg86.out.lt
                  have hq2 : IntKind.i64.wrap ((m : Int) + (L.length : Int)) = (m : Int) + (L.length : Int) := IntWalk.i64_in _ (by omega)
                  have hq3 : IntKind.i64.wrap ((m : Int) + (L.length : Int) + 1) = (m : Int) + (L.length : Int) + 1 := IntWalk.i64_in _ (by omega)
                  have CH := Lib.hid (fun W (hb : Below wc.heap.size wc W) => show Calls Try.prog 12 #[.agg #[.int .i64 (m : Int), .slice F L.length e, .int .i64 (n : Int)], .agg #[.int .i64 2, .int .i64 0, .int .i64 0, .int .i64 ((m : Int) + (L.length : Int) + 1), .string ⟨#[]⟩]] W (OutH W (⟨(m : Int), L, (n : Int)⟩, ⟨#[]⟩, false)) by
                    have C := hear_any m F L e n 2 0 0 ((m : Int) + (L.length : Int) + 1) ⟨#[]⟩ W (hS6.out _ hb) (by omega)
                    rw [hear_keep ⟨(m : Int), L, (n : Int)⟩ 2 0 0 ((m : Int) + (L.length : Int) + 1) ⟨#[]⟩ hmay.out (by simp) (by simp; omega)] at C
                    exact C)
                  have C := CH.out _ (Below.refl _ _)
                  clear CH
                  have C' := Lib.hid C
                  clear C
                  as_aux_lemma =>
                  go_wp2_with fail
                  refine C'.out.mono ?_
                  rintro e2 w2' ⟨b', A', L', c', v', rfl, hF, hle', hs', hb'⟩
                  obtain ⟨rfl, hLL, rfl⟩ := Fy.mk.inj hF.out
                  have HBb := Lib.hid hb'
                  have HSs := Lib.hid hs'
                  subst hLL
                  clear hb' hs' hF
                  go_wp2_with fail
                  go_meet
                  exact ⟨_, A', c', rfl, Lib.hid (Blk.new _ _ _), Lib.hid (HSs.out.alloc _), hle', Lib.hid (below_allocS HBb.out _)⟩
                case rest =>
                  obtain ⟨gb, Gb, fb, rfl, hgb, hsb, hfb, hbx⟩ := hcut
                  have hS7 := Lib.hid (fun W (hb : Below wc.heap.size wc W) => hS6.out W (below_next hbx.out hb))
                  have hg87 := Lib.hid (hg86.out.belowS hbx.out)
                  have hB7 := Lib.hid (below_next hB6.out hbx.out)
                  have hX7 := Lib.hid (hX6.out.belowS hbx.out)
                  have hga' := Lib.hid (hga.out.belowS hbx.out)
                  have hsa' := Lib.hid (hsa.out.below hbx.out)
                  clear hga hsa
                  have hga := hga'
                  have hsa := hsa'
                  clear hga' hsa'
                  clear hS6 hg86 hB6 hX6 hbx
                  go_upto_region 16 with fail
                  go_cut [19] (fun s13 wx => ∃ (g13 : Nat) (G : Option Addr) (f : Nat), s13 = .pointer (some ⟨g13, 0, none⟩) ∧ Hid (Blk wx g13 #[.int .i64 (m : Int), .slice G L.length f, .int .i64 (n : Int)] 24) ∧ Hid (Strs wx G L) ∧ L.length ≤ f ∧ Hid (Below wc.heap.size wc wx))
                  case first =>
                    obtain ⟨y0, y1, y2⟩ := blk3 hg87.out
                    have hgl8 := hg87.out.lt
                    have hlow := lowF_lt which 5 (by omega)
                    obtain ⟨p, hp⟩ : ∃ p : Nat, lowF which 5 = p := ⟨(lowF which 5).toNat, by omega⟩
                    rw [hp] at hlow
                    have hpm : p < 5 := by omega
                    have hq2 : IntKind.i64.wrap (3 + (p : Int)) = 3 + (p : Int) := IntWalk.i64_in _ (by omega)
                    have HLO := Lib.hid hp
                    clear hlow hp
                    have CH := Lib.hid (fun W (hb : Below wc.heap.size wc W) => show Calls Try.prog 12 #[.agg #[.int .i64 (m : Int), .slice F L.length e, .int .i64 (n : Int)], .agg #[.int .i64 (3 + (p : Int)), .int .i64 0, .int .i64 0, .int .i64 (n : Int), .string ⟨#[]⟩]] W (OutH W (⟨(m : Int), L, (n : Int)⟩, ⟨#[]⟩, false)) by
                      have C := hear_any m F L e n (3 + (p : Int)) 0 0 (n : Int) ⟨#[]⟩ W (hS7.out _ hb) (by omega)
                      rw [hear_keep ⟨(m : Int), L, (n : Int)⟩ (3 + (p : Int)) 0 0 (n : Int) ⟨#[]⟩ hmay.out (by simp; omega) (by simp; omega)] at C
                      exact C)
                    go_region_law (first
                      | (go_simp; go_at_call 8; refine (low_any _ _ _ (by omega)).mono ?_; rintro e2 w2' ⟨rfl, rfl⟩; rw [HLO.out]; go_simp)
                      | (go_simp; go_at_call 12; refine (CH.out _ ((below_allocS (Below.refl _ _) _).drew)).mono ?_; rintro e2 w2' ⟨b', A', L', c', v', rfl, hF, hle', hs', hb2'⟩; have hb2 := below_of_alloc (below_of_drew hb2'); have GH := Lib.hid ((Blk.new wc #[.int .i64 0, .slice none 0 0, .int .i64 0] 24).drew.belowS hb2'); have HSS := Lib.hid hs'; have HLE := Lib.hid hle'; obtain ⟨z0, z1, z2⟩ := blk3 GH.out; obtain ⟨v0, v1, v2⟩ := blk3f GH.out; have hcase : wc.heap.size < w2'.heap.size := GH.out.lt; clear hs' hle'; go_simp)
                      | (go_simp; go_at_call 12; refine (CH.out _ ((Below.refl _ _).drew)).mono ?_; rintro e2 w2' ⟨b', A', L', c', v', rfl, hF, hle', hs', hb2'⟩; have hb2 := below_of_drew hb2'; have HSS := Lib.hid hs'; have HLE := Lib.hid hle'; clear hs' hle'; go_simp))
                    all_goals
                      as_aux_lemma =>
                      go_wp2_with fail
                      go_meet
                      obtain ⟨rfl, hLL, rfl⟩ := Fy.mk.inj hF.out
                      subst hLL
                      first
                        | (have hG := GH.out
                           clear GH
                           have hG3 := ((hG.set_ 0 (.int .i64 (m : Int))).set_ 1 (.slice A' L'.length c')).set_ 2 (.int .i64 (n : Int))
                           have b3 := ((hb2.setCell (p := ⟨wc.heap.size, 0, none⟩) (Nat.le_refl _) (.int .i64 (m : Int))).setCell (p := ⟨wc.heap.size, 1, none⟩) (Nat.le_refl _) (.slice A' L'.length c')).setCell (p := ⟨wc.heap.size, 2, none⟩) (Nat.le_refl _) (.int .i64 (n : Int))
                           exact ⟨wc.heap.size, A', c', rfl, Lib.hid hG3, Lib.hid (strs_set3 HSS.out wc.heap.size _ _ _ _ _ hG (by intro i s h; rcases i with _ | _ | _ | i <;> simp at h)), HLE.out, Lib.hid b3⟩)
                        | exact ⟨w2'.heap.size, A', c', rfl, Lib.hid (Blk.new w2' _ _), Lib.hid (HSS.out.alloc _), HLE.out, Lib.hid (below_allocS hb2 _)⟩
                  case rest =>
                    obtain ⟨gc, Gc, fc, rfl, hgc, hsc, hfc, hbx⟩ := hcut
                    have hS8 := Lib.hid (fun W (hb : Below wc.heap.size wc W) => hS7.out W (below_next hbx.out hb))
                    have hg88 := Lib.hid (hg87.out.belowS hbx.out)
                    have hB8 := Lib.hid (below_next hB7.out hbx.out)
                    have hX8 := Lib.hid (hX7.out.belowS hbx.out)
                    have hga' := Lib.hid (hga.out.belowS hbx.out)
                    have hsa' := Lib.hid (hsa.out.below hbx.out)
                    clear hga hsa
                    have hga := hga'
                    have hsa := hsa'
                    clear hga' hsa'
                    have hgb' := Lib.hid (hgb.out.belowS hbx.out)
                    have hsb' := Lib.hid (hsb.out.below hbx.out)
                    clear hgb hsb
                    have hgb := hgb'
                    have hsb := hsb'
                    clear hgb' hsb'
                    clear hS7 hg87 hB7 hX7 hbx
                    obtain ⟨y0, y1, y2⟩ := blk3 hg88.out
                    obtain ⟨p0, p1, p2⟩ := blk3 hga.out
                    obtain ⟨q0, q1, q2⟩ := blk3 hgb.out
                    obtain ⟨r0, r1, r2⟩ := blk3 hgc.out
                    have CS := Lib.hid (fun W (hb : Below wc.heap.size wc W) (G : Option Addr) (f : Nat) (hs : Strs W G L) => show Calls Try.prog 16 #[.agg #[.int .i64 (m : Int), .slice G L.length f, .int .i64 (n : Int)], .agg #[.int .i64 (m : Int), .slice F L.length e, .int .i64 (n : Int)]] W (fun e w' => e = .returned (.bool true) ∧ Below W.heap.size W w') by
                      have C := sameFy_any m m G F L L f e n n W hs (hS8.out _ hb) (by omega)
                      rw [sameF_self] at C
                      exact C)
                    as_aux_lemma =>
                    go_wp2_with fail
                    refine (CS.out _ (Below.refl _ _) _ _ hsa.out).mono ?_
                    rintro e2 u1 ⟨rfl, hb'⟩
                    have HBu := Lib.hid hb'
                    clear hb' y0 y1 y2 p0 p1 p2 q0 q1 q2 r0 r1 r2
                    obtain ⟨y0, y1, y2⟩ := blk3 (hg88.out.belowS HBu.out)
                    obtain ⟨q0, q1, q2⟩ := blk3 (hgb.out.belowS HBu.out)
                    obtain ⟨r0, r1, r2⟩ := blk3 (hgc.out.belowS HBu.out)
                    go_wp2_with fail
                    refine (CS.out _ HBu.out _ _ (hsb.out.below HBu.out)).mono ?_
                    rintro e2 u2 ⟨rfl, hb'⟩
                    have HBv := Lib.hid (below_next HBu.out hb')
                    clear hb' y0 y1 y2 q0 q1 q2 r0 r1 r2
                    obtain ⟨y0, y1, y2⟩ := blk3 (hg88.out.belowS HBv.out)
                    obtain ⟨r0, r1, r2⟩ := blk3 (hgc.out.belowS HBv.out)
                    go_wp2_with fail
                    refine (CS.out _ HBv.out _ _ (hsc.out.below HBv.out)).mono ?_
                    rintro e2 u3 ⟨rfl, hb'⟩
                    have HBz := Lib.hid (below_next HBv.out hb')
                    clear hb' y0 y1 y2 r0 r1 r2
                    go_wp2_with fail
                    exact ⟨⟨k + 1, by omega, by go_num, Lib.hid (below_next hB8.out HBz.out), Lib.hid (hX8.out.belowS HBz.out)⟩, by simp [intOf]; omega⟩
      · go_wp2_with fail
        go_ret
        exact ⟨rfl, below_next HB2.out hB.out⟩
  · have hd : decide ((60 : Int) < (l.length : Int)) = true := by simp; omega
    have hd2 : decide (60 < l.length) = true := by simp; omega
    go_wp2_with fail
    go_ret
    exact ⟨rfl, BF1.out⟩
end Go.Proofs.Ytnjfphfkjapemaa
