/- The walk of the law FerryTells. -/
import Derived.Test.YtnjfphfkjapemaaFyFirst
import Derived.Deep.DeepCutAuto
namespace Go.Proofs.Ytnjfphfkjapemaa
open Go.RowKit

theorem framesF_len (x : Fy) (f t : Int) : (framesF x f t).length ≤ 9 := by
  unfold framesF
  split <;> simp [dataOf]; omega
theorem sendF_len (f : Fy) (s : ByteArray) : (sendF f s).1.sent.length ≤ f.sent.length + 1 := by
  unfold sendF
  split <;> simp
theorem hearF_len (f : Fy) (m : Fm) : (hearF f m).1.sent.length ≤ f.sent.length := by
  unfold hearF
  split
  · split
    · split <;> simp
    · split <;> simp
  · simp
theorem frow_get (L : List Fm) (j m : Nat) (h : j < L.length) (hm : m < 5) : (frow L)[j * 5 + m]? = some ((fcells L[j])[m]'hm) := by
  induction L generalizing j with
  | nil => simp at h
  | cons a t ih =>
    have e : frow (a :: t) = fcells a ++ frow t := rfl
    have el : (fcells a).length = 5 := rfl
    rw [e]
    cases j with
    | zero =>
      rw [List.getElem?_append_left (by omega)]
      simp [List.getElem?_eq_getElem (show m < (fcells a).length by omega)]
    | succ j =>
      rw [List.getElem?_append_right (by omega), el, show (j + 1) * 5 + m - 5 = j * 5 + m by omega]
      exact ih j (by simpa using h)
theorem two_new (w : World) (cs ds : Array Value) (t u : TypeId) : Blk ((w.alloc (.cells cs t)).alloc (.cells ds u)) w.heap.size cs t ∧ Blk ((w.alloc (.cells cs t)).alloc (.cells ds u)) (w.heap.size + 1) ds u ∧ Below w.heap.size w ((w.alloc (.cells cs t)).alloc (.cells ds u)) := by
  refine ⟨(Blk.new w _ _).alloc _, ?_, ((Below.refl _ _).alloc (Nat.le_refl _) _).alloc (by simp) _⟩
  have := Blk.new (w.alloc (.cells cs t)) ds u
  rwa [World.size_alloc] at this
set_option maxRecDepth 100000 in
set_option maxHeartbeats 4000000 in
theorem tells_walk (b : Int) (A : Option Addr) (l : List ByteArray) (c : Nat) (v : Int) (raw : Bool) (body : ByteArray) (k f t q : Int) (s : ByteArray) (fr to_ : Int) (w : World) (ha : Strs w A l) (hc : l.length ≤ c) :
    Calls Try.prog 3 #[.agg #[.int .i64 b, .slice A l.length c, .int .i64 v], .bool raw, .string body, .agg #[.int .i64 k, .int .i64 f, .int .i64 t, .int .i64 q, .string s], .int .i64 fr, .int .i64 to_] w
      fun e w' => e = .returned (.bool true) ∧ Below w.heap.size w w' := by
  obtain ⟨W0, hW0⟩ : ∃ W0, W0 = (w.alloc (.cells #[.int .i64 b, .slice A l.length c, .int .i64 v] 24)).alloc (.cells #[.int .i64 k, .int .i64 f, .int .i64 t, .int .i64 q, .string s] 26) := ⟨_, rfl⟩
  have B0 := Lib.hid (show Below w.heap.size w W0 by rw [hW0]; exact ((Below.refl _ _).alloc (Nat.le_refl _) _).alloc (by simp) _)
  have F0 := Lib.hid (show Blk W0 w.heap.size #[.int .i64 b, .slice A l.length c, .int .i64 v] 24 by rw [hW0]; exact (Blk.new w _ _).alloc _)
  have M0 := Lib.hid (show Blk W0 (w.heap.size + 1) #[.int .i64 k, .int .i64 f, .int .i64 t, .int .i64 q, .string s] 26 by
    rw [hW0]
    have := Blk.new (w.alloc (.cells #[.int .i64 b, .slice A l.length c, .int .i64 v] 24)) #[.int .i64 k, .int .i64 f, .int .i64 t, .int .i64 q, .string s] 26
    rw [World.size_alloc] at this
    exact this)
  have S0 := Lib.hid (ha.below B0.out)
  have Z0 := Lib.hid (show W0.heap.size = w.heap.size + 1 + 1 by rw [hW0]; simp)
  have HW := Lib.hid hW0
  have HA := Lib.hid ha
  clear hW0 ha
  go_enter Try.func3, Try.ntmps3
  go_wp2_with fail
  rw [← HW.out]
  refine (first_any _).mono ?_
  rintro e w1 ⟨rfl, hb1⟩
  have B1 := Lib.hid (below_next B0.out hb1)
  have F1 := Lib.hid (F0.out.belowS hb1)
  have M1 := Lib.hid (M0.out.belowS hb1)
  have S1 := Lib.hid (S0.out.below hb1)
  have hs1 := hb1.size
  rw [Z0.out] at hs1
  clear hb1
  obtain ⟨x0, x1, x2⟩ := blk3 F1.out
  obtain ⟨m0, m1, m2, m3, m4⟩ := blk5 M1.out
  go_upto_region 3 with fail
  go_cut [13, 14] (fun s13 s14 wx => ∃ g h : Nat, s13 = .pointer (some ⟨g, 0, none⟩) ∧ s14 = .pointer (some ⟨h, 0, none⟩) ∧ Hid (Blk wx g #[.int .i64 b, .slice A l.length c, .int .i64 v] 24) ∧ Hid (Blk wx h #[.int .i64 k, .int .i64 f, .int .i64 t, .int .i64 q, .string s] 26) ∧
    w1.heap.size ≤ g ∧ w1.heap.size ≤ h ∧ Hid (Below w1.heap.size w1 wx))
  case first =>
    have n0 := World.new_ne w1 _ x0
    have n1 := World.new_ne w1 _ x1
    have n2 := World.new_ne w1 _ x2
    have n3 := World.new_ne w1 _ m0
    have n4 := World.new_ne w1 _ m1
    have n5 := World.new_ne w1 _ m2
    have n6 := World.new_ne w1 _ m3
    have n7 := World.new_ne w1 _ m4
    go_region_held3 (fun W => W.cell? ⟨w.heap.size, 0, none⟩ = some (.int .i64 b) ∧ W.cell? ⟨w.heap.size, 1, none⟩ = some (.slice A l.length c) ∧ W.cell? ⟨w.heap.size, 2, none⟩ = some (.int .i64 v) ∧
        W.cell? ⟨w.heap.size + 1, 0, none⟩ = some (.int .i64 k) ∧ W.cell? ⟨w.heap.size + 1, 1, none⟩ = some (.int .i64 f) ∧ W.cell? ⟨w.heap.size + 1, 2, none⟩ = some (.int .i64 t) ∧ W.cell? ⟨w.heap.size + 1, 3, none⟩ = some (.int .i64 q) ∧ W.cell? ⟨w.heap.size + 1, 4, none⟩ = some (.string s))
      (go_keep) (fail)
    all_goals
      go_wp2_with fail
      go_meet
      first
        | exact ⟨w1.heap.size, w1.heap.size + 1, rfl, rfl, Lib.hid (two_new w1 _ _ _ _).1, Lib.hid (two_new w1 _ _ _ _).2.1, Nat.le_refl _, by omega, Lib.hid (two_new w1 _ _ _ _).2.2.drew⟩
        | exact ⟨w1.heap.size + 1, w1.heap.size, rfl, rfl, Lib.hid (two_new w1 _ _ _ _).2.1, Lib.hid (two_new w1 _ _ _ _).1, by omega, Nat.le_refl _, Lib.hid (two_new w1 _ _ _ _).2.2.drew⟩
  case rest =>
    obtain ⟨g, h, rfl, rfl, G, H, hg, hh, BX⟩ := hcut
    have BW := Lib.hid (below_next B1.out BX.out)
    have FW := Lib.hid (F1.out.belowS BX.out)
    have MW := Lib.hid (M1.out.belowS BX.out)
    have hgh : g ≠ h := by
      rintro rfl
      have h1 := G.out
      have h2 := H.out
      unfold Blk at h1 h2
      rw [h1] at h2
      injection h2 with h2
      injection h2 with h2 _
      have := congrArg Array.size h2
      simp at this
    clear x0 x1 x2 m0 m1 m2 m3 m4 B1 F1 M1 S1 BX B0 F0 M0 S0
    obtain ⟨x0, x1, x2⟩ := blk3 FW.out
    obtain ⟨m0, m1, m2, m3, m4⟩ := blk5 MW.out
    obtain ⟨g0, g1, g2⟩ := blk3 G.out
    obtain ⟨fg0, fg1, fg2⟩ := blk3f G.out
    obtain ⟨h0, h1, h2, h3, h4⟩ := blk5 H.out
    have fh0 := H.out.frozen 0
    have fh3 := H.out.frozen 3
    have ng : g ≠ w.heap.size := by omega
    have nh : h ≠ w.heap.size + 1 := by omega
    have ng' : w.heap.size ≠ g := by omega
    have nh' : w.heap.size + 1 ≠ h := by omega
    have hgw := G.out.lt
    have hhw := H.out.lt
    go_upto_if 33 with fail
    go_cut [] (fun wx => ∃ B' V' K' Q' : Int, Hid (Blk wx g #[.int .i64 B', .slice A l.length c, .int .i64 V'] 24) ∧ Hid (Blk wx h #[.int .i64 K', .int .i64 f, .int .i64 t, .int .i64 Q', .string s] 26) ∧ Hid (Below w.heap.size w wx) ∧ w1.heap.size ≤ wx.heap.size)
    case first =>
      cases raw
      · go_upto_region 5 with fail
        go_cut [] (fun wx => Hid (Blk wx g #[.int .i64 (lowF b 9), .slice A l.length c, .int .i64 (lowF v 5)] 24) ∧ Hid (Blk wx h #[.int .i64 k, .int .i64 f, .int .i64 t, .int .i64 q, .string s] 26) ∧ Hid (Below w1.heap.size wc wx) ∧ w1.heap.size ≤ wx.heap.size)
        case first =>
          go_region_held3 (fun W => W.cell? ⟨w.heap.size, 0, none⟩ = some (.int .i64 b) ∧ W.cell? ⟨w.heap.size, 2, none⟩ = some (.int .i64 v)) (go_keep) ((go_at_call 8; refine (low_any _ _ _ (by omega)).mono ?_; rintro e w' ⟨rfl, rfl⟩))
          all_goals
            go_wp2_with fail
            go_meet
            exact ⟨Lib.hid ((G.out.set_ 0 _).set_ 2 _).drew, Lib.hid ((H.out.far (by simp; omega) _).far (by simp; omega) _).drew, Lib.hid ((((Below.refl _ _).setCell (by simp; omega) _).setCell (by simp; omega) _).drew), by simp; omega⟩
        case rest =>
          obtain ⟨G2, H2, BC2, hz2⟩ := hcut
          have BW2 := Lib.hid (BW.out.trans (BC2.out.mono (by omega)))
          have MW2 := Lib.hid (MW.out.below BC2.out (by omega))
          clear m0 m1 m2 m3 m4 h0 h1 h2 h3 h4 fh0 fh3 x0 x1 x2 g0 g1 g2 fg0 fg1 fg2
          obtain ⟨m0, m1, m2, m3, m4⟩ := blk5 MW2.out
          obtain ⟨h0, h1, h2, h3, h4⟩ := blk5 H2.out
          have fh0 := H2.out.frozen 0
          have fh3 := H2.out.frozen 3
          go_upto_region 6 with fail
          go_region_held3 (fun W => W.cell? ⟨w.heap.size + 1, 0, none⟩ = some (.int .i64 k) ∧ W.cell? ⟨w.heap.size + 1, 3, none⟩ = some (.int .i64 q)) (go_keep) ((go_at_call 8; refine (low_any _ _ _ (by omega)).mono ?_; rintro e w' ⟨rfl, rfl⟩))
          all_goals
            go_wp2_with fail
            go_meet
            exact ⟨lowF b 9, lowF v 5, lowF k 4, lowF q 14, Lib.hid ((G2.out.far (by simp; omega) _).far (by simp; omega) _).drew, Lib.hid ((H2.out.set_ 0 _).set_ 3 _).drew, Lib.hid (((BW2.out.setCell (by simp; omega) _).setCell (by simp; omega) _).drew), by simp; omega⟩
      · go_wp2_with fail
        go_meet
        exact ⟨b, v, k, q, G, H, BW, by omega⟩
    case rest =>
      obtain ⟨B', V', K', Q', G3, H3, BW3, hz3⟩ := hcut
      have S3 := Lib.hid (HA.out.below BW3.out)
      clear g0 g1 g2 fg0 fg1 fg2 h0 h1 h2 h3 h4 fh0 fh3 x0 x1 x2 m0 m1 m2 m3 m4
      obtain ⟨g0, g1, g2⟩ := blk3 G3.out
      obtain ⟨h0, h1, h2, h3, h4⟩ := blk5 H3.out
      go_wp2_with fail
      refine (few_any _ _ _ _ _ _).mono ?_
      rintro e w4 ⟨rfl, hb4⟩
      have BW4 := Lib.hid (below_next BW3.out hb4)
      by_cases hl60 : l.length ≤ 60
      · have hd : decide (l.length ≤ 60) = true := decide_eq_true hl60
        rw [hd]
        have G4 := Lib.hid (G3.out.belowS hb4)
        have H4 := Lib.hid (H3.out.belowS hb4)
        have S4 := Lib.hid (S3.out.below hb4)
        clear hd hb4 g0 g1 g2 h0 h1 h2 h3 h4
        rcases hP : sendF ⟨B', l, V'⟩ body with ⟨⟨pb, pl, pv⟩, pe⟩
        rcases hQ : hearF ⟨B', l, V'⟩ ⟨K', f, t, Q', s⟩ with ⟨⟨qb, ql, qv⟩, qs, qt⟩
        have HP := Lib.hid hP
        have HQ := Lib.hid hQ
        clear hP hQ
        obtain ⟨g0, g1, g2⟩ := blk3 G4.out
        obtain ⟨h0, h1, h2, h3, h4⟩ := blk5 H4.out
        go_wp2_with fail
        have C := send_any B' A l c V' body _ S4.out (by omega)
        rw [HP.out] at C
        refine C.mono ?_
        clear C
        rintro e w5 ⟨b5, A5, L5, c5, v5, rfl, hF5, hle5, hs5, hb5⟩
        obtain ⟨e1, e2, e3⟩ := Fy.mk.inj hF5.out
        obtain rfl := e1.symm
        obtain rfl := e2.symm
        obtain rfl := e3.symm
        clear hF5 g0 g1 g2 h0 h1 h2 h3 h4
        have D5 := Lib.hid (show Below w4.heap.size w4 (w5.alloc (.cells #[.int .i64 pb, .slice A5 pl.length c5, .int .i64 pv] 24)) from hb5.alloc hb5.size _)
        have G5 := Lib.hid (G4.out.belowS D5.out)
        have H5 := Lib.hid (H4.out.belowS D5.out)
        have S5 := Lib.hid (S4.out.below D5.out)
        have BW5 := Lib.hid (below_next BW4.out D5.out)
        have R5 := Lib.hid (show Blk (w5.alloc (.cells #[.int .i64 pb, .slice A5 pl.length c5, .int .i64 pv] 24)) w5.heap.size #[.int .i64 pb, .slice A5 pl.length c5, .int .i64 pv] 24 from Blk.new _ _ _)
        have T5 := Lib.hid (show Strs (w5.alloc (.cells #[.int .i64 pb, .slice A5 pl.length c5, .int .i64 pv] 24)) A5 pl from hs5.alloc _)
        clear hs5 hb5
        obtain ⟨g0, g1, g2⟩ := blk3 G5.out
        obtain ⟨h0, h1, h2, h3, h4⟩ := blk5 H5.out
        go_wp2_with fail
        have C := sendR_any B' A l c V' body _ S5.out (by omega)
        rw [HP.out] at C
        refine C.mono ?_
        clear C
        rintro e w6 ⟨b6, A6, L6, c6, v6, rfl, hF6, hle6, hs6, hb6⟩
        obtain ⟨e1, e2, e3⟩ := Fy.mk.inj hF6.out
        obtain rfl := e1.symm
        obtain rfl := e2.symm
        obtain rfl := e3.symm
        clear hF6 g0 g1 g2 h0 h1 h2 h3 h4
        have D6 := Lib.hid (show Below (w5.alloc (.cells #[.int .i64 pb, .slice A5 pl.length c5, .int .i64 pv] 24)).heap.size (w5.alloc (.cells #[.int .i64 pb, .slice A5 pl.length c5, .int .i64 pv] 24)) (w6.alloc (.cells #[.int .i64 pb, .slice A6 pl.length c6, .int .i64 pv] 24)) from hb6.alloc hb6.size _)
        have G6 := Lib.hid (G5.out.belowS D6.out)
        have H6 := Lib.hid (H5.out.belowS D6.out)
        have S6 := Lib.hid (S5.out.below D6.out)
        have BW6 := Lib.hid (below_next BW5.out D6.out)
        have R6 := Lib.hid (show Blk (w6.alloc (.cells #[.int .i64 pb, .slice A6 pl.length c6, .int .i64 pv] 24)) w6.heap.size #[.int .i64 pb, .slice A6 pl.length c6, .int .i64 pv] 24 from Blk.new _ _ _)
        have T6 := Lib.hid (show Strs (w6.alloc (.cells #[.int .i64 pb, .slice A6 pl.length c6, .int .i64 pv] 24)) A6 pl from hs6.alloc _)
        clear hs6 hb6
        obtain ⟨g0, g1, g2⟩ := blk3 G6.out
        obtain ⟨h0, h1, h2, h3, h4⟩ := blk5 H6.out
        go_wp2_with fail
        have C := hear_any B' A l c V' K' f t Q' s _ S6.out (by omega)
        rw [HQ.out] at C
        refine C.mono ?_
        clear C
        rintro e w7 ⟨b7, A7, L7, c7, v7, rfl, hF7, hle7, hs7, hb7⟩
        obtain ⟨e1, e2, e3⟩ := Fy.mk.inj hF7.out
        obtain rfl := e1.symm
        obtain rfl := e2.symm
        obtain rfl := e3.symm
        clear hF7 g0 g1 g2 h0 h1 h2 h3 h4
        have D7 := Lib.hid (show Below (w6.alloc (.cells #[.int .i64 pb, .slice A6 pl.length c6, .int .i64 pv] 24)).heap.size (w6.alloc (.cells #[.int .i64 pb, .slice A6 pl.length c6, .int .i64 pv] 24)) (w7.alloc (.cells #[.int .i64 qb, .slice A7 ql.length c7, .int .i64 qv] 24)) from hb7.alloc hb7.size _)
        have G7 := Lib.hid (G6.out.belowS D7.out)
        have H7 := Lib.hid (H6.out.belowS D7.out)
        have S7 := Lib.hid (S6.out.below D7.out)
        have BW7 := Lib.hid (below_next BW6.out D7.out)
        have R7 := Lib.hid (show Blk (w7.alloc (.cells #[.int .i64 qb, .slice A7 ql.length c7, .int .i64 qv] 24)) w7.heap.size #[.int .i64 qb, .slice A7 ql.length c7, .int .i64 qv] 24 from Blk.new _ _ _)
        have T7 := Lib.hid (show Strs (w7.alloc (.cells #[.int .i64 qb, .slice A7 ql.length c7, .int .i64 qv] 24)) A7 ql from hs7.alloc _)
        clear hs7 hb7
        obtain ⟨g0, g1, g2⟩ := blk3 G7.out
        obtain ⟨h0, h1, h2, h3, h4⟩ := blk5 H7.out
        go_wp2_with fail
        have C := hearR_any B' A l c V' K' f t Q' s _ S7.out (by omega) hc
        rw [HQ.out] at C
        refine C.mono ?_
        clear C
        rintro e w8 ⟨b8, A8, L8, c8, v8, rfl, hF8, hle8, hs8, hb8⟩
        obtain ⟨e1, e2, e3⟩ := Fy.mk.inj hF8.out
        obtain rfl := e1.symm
        obtain rfl := e2.symm
        obtain rfl := e3.symm
        clear hF8 g0 g1 g2 h0 h1 h2 h3 h4
        have D8 := Lib.hid (show Below (w7.alloc (.cells #[.int .i64 qb, .slice A7 ql.length c7, .int .i64 qv] 24)).heap.size (w7.alloc (.cells #[.int .i64 qb, .slice A7 ql.length c7, .int .i64 qv] 24)) (w8.alloc (.cells #[.int .i64 qb, .slice A8 ql.length c8, .int .i64 qv] 24)) from hb8.alloc hb8.size _)
        have G8 := Lib.hid (G7.out.belowS D8.out)
        have H8 := Lib.hid (H7.out.belowS D8.out)
        have S8 := Lib.hid (S7.out.below D8.out)
        have BW8 := Lib.hid (below_next BW7.out D8.out)
        have R8 := Lib.hid (show Blk (w8.alloc (.cells #[.int .i64 qb, .slice A8 ql.length c8, .int .i64 qv] 24)) w8.heap.size #[.int .i64 qb, .slice A8 ql.length c8, .int .i64 qv] 24 from Blk.new _ _ _)
        have T8 := Lib.hid (show Strs (w8.alloc (.cells #[.int .i64 qb, .slice A8 ql.length c8, .int .i64 qv] 24)) A8 ql from hs8.alloc _)
        clear hs8 hb8
        obtain ⟨g0, g1, g2⟩ := blk3 G8.out
        obtain ⟨h0, h1, h2, h3, h4⟩ := blk5 H8.out
        obtain ⟨W8, hW8⟩ : ∃ W, W = (w8.alloc (.cells #[.int .i64 qb, .slice A8 ql.length c8, .int .i64 qv] 24)) := ⟨_, rfl⟩
        rw [← hW8] at G8 H8 S8 BW8 R8 T8
        have R7 := Lib.hid (show Blk W8 w7.heap.size _ _ by rw [hW8]; exact R7.out.belowS D8.out)
        have R6 := Lib.hid (show Blk W8 w6.heap.size _ _ by rw [hW8]; exact (R6.out.belowS D7.out).belowS D8.out)
        have R5 := Lib.hid (show Blk W8 w5.heap.size _ _ by rw [hW8]; exact ((R5.out.belowS D6.out).belowS D7.out).belowS D8.out)
        have T7 := Lib.hid (show Strs W8 A7 ql by rw [hW8]; exact T7.out.below D8.out)
        have T6 := Lib.hid (show Strs W8 A6 pl by rw [hW8]; exact (T6.out.below D7.out).below D8.out)
        have T5 := Lib.hid (show Strs W8 A5 pl by rw [hW8]; exact ((T5.out.below D6.out).below D7.out).below D8.out)
        have HW8 := Lib.hid hW8
        clear hW8 D5 D6 D7 D8 G5 G6 G7 H5 H6 H7 S5 S6 S7 BW5 BW6 BW7 G4 H4 S4 BW4 G3 H3 S3 BW3 g0 g1 g2 h0 h1 h2 h3 h4
        have hFRl := framesF_len ⟨B', l, V'⟩ fr to_
        have hpl : pl.length ≤ l.length + 1 := by have := sendF_len ⟨B', l, V'⟩ body; rw [HP.out] at this; exact this
        have hql : ql.length ≤ l.length := by have := hearF_len ⟨B', l, V'⟩ ⟨K', f, t, Q', s⟩; rw [HQ.out] at this; exact this
        generalize hFR : framesF ⟨B', l, V'⟩ fr to_ = FR at *
        have CF : ∀ W, Below W8.heap.size W8 W → Calls Try.prog 14 #[.agg #[.int .i64 B', .slice A l.length c, .int .i64 V'], .int .i64 fr, .int .i64 to_] W (OutF W FR) := fun W hb => by rw [← hFR]; exact frames_any B' A l c V' fr to_ W (S8.out.below hb) (by omega)
        have CR : ∀ W, Below W8.heap.size W8 W → Calls Try.prog 15 #[.agg #[.int .i64 B', .slice A l.length c, .int .i64 V'], .int .i64 fr, .int .i64 to_] W (OutF W FR) := fun W hb => by rw [← hFR]; exact framesR_any B' A l c V' fr to_ W (S8.out.below hb) (by omega)
        have HCF := Lib.hid CF
        have HCR := Lib.hid CR
        clear CF CR hFR
        obtain ⟨g0, g1, g2⟩ := blk3 G8.out
        go_upto_region 13 with fail
        rw [← HW8.out]
        go_cut [25, 26] (fun s25 s26 wx => ∃ (Af Ar : Option Addr) (cf cr : Nat), s25 = .slice Af FR.length cf ∧ s26 = .slice Ar FR.length cr ∧ Hid (Rd wx Af (frow FR)) ∧ Hid (Rd wx Ar (frow FR)) ∧ Hid (Below W8.heap.size W8 wx))
        case first =>
          go_region_held3 (fun W => W.cell? ⟨g, 0, none⟩ = some (.int .i64 B') ∧ W.cell? ⟨g, 1, none⟩ = some (.slice A l.length c) ∧ W.cell? ⟨g, 2, none⟩ = some (.int .i64 V'))
            (first | go_keep | (exact blk3 (G8.out.belowS HBf)) | (exact blk3 (G8.out.belowS HBr)))
            (first
              | (go_at_call 14; refine (HCF.out _ (by first | exact (Below.refl _ _).drew | exact HBr)).mono ?_; rintro e wf ⟨Af, Lf, cf, rfl, hLf, hlef, hownf, hbf⟩; obtain rfl := hLf.out; have HBf : Below W8.heap.size W8 wf := (by first | exact below_of_drew hbf | exact below_next HBr hbf))
              | (go_at_call 15; refine (HCR.out _ (by first | exact (Below.refl _ _).drew | exact HBf)).mono ?_; rintro e wr ⟨Ar, Lr, cr, rfl, hLr, hler, hownr, hbr⟩; obtain rfl := hLr.out; have HBr : Below W8.heap.size W8 wr := (by first | exact below_of_drew hbr | exact below_next HBf hbr)))
          all_goals
            go_wp2_with fail
            go_meet
            exact ⟨Af, Ar, cf, cr, rfl, rfl, Lib.hid ((own_rd hownf).below hbr), Lib.hid (own_rd hownr), Lib.hid HBr⟩
        case rest =>
          obtain ⟨Af, Ar, cf, cr, rfl, rfl, RF, RR, BZ⟩ := hcut
          obtain ⟨a0, a1, a2⟩ := blk3 (R5.out.belowS BZ.out)
          obtain ⟨b0, b1, b2⟩ := blk3 (R6.out.belowS BZ.out)
          clear g0 g1 g2
          go_wp2_with fail
          refine (sameFy_any _ _ _ _ _ _ _ _ _ _ _ (T5.out.below BZ.out) (T6.out.below BZ.out) (by omega)).mono ?_
          rintro e w9 ⟨rfl, hb9⟩
          rw [sameF_self]
          have B9 := Lib.hid (below_next BZ.out hb9)
          have RF9 := Lib.hid (RF.out.below hb9)
          have RR9 := Lib.hid (RR.out.below hb9)
          clear hb9 a0 a1 a2 b0 b1 b2
          obtain ⟨a0, a1, a2⟩ := blk3 (R7.out.belowS B9.out)
          obtain ⟨b0, b1, b2⟩ := blk3 (R8.out.belowS B9.out)
          go_wp2_with fail
          refine (sameFy_any _ _ _ _ _ _ _ _ _ _ _ (T7.out.below B9.out) (T8.out.below B9.out) (by omega)).mono ?_
          rintro e w10 ⟨rfl, hb10⟩
          rw [sameF_self]
          have B10 := Lib.hid (below_next B9.out hb10)
          have RF10 := Lib.hid (RF9.out.below hb10)
          have RR10 := Lib.hid (RR9.out.below hb10)
          clear hb10 a0 a1 a2 b0 b1 b2
          obtain ⟨g0, g1, g2⟩ := blk3 (G8.out.belowS B10.out)
          go_wp2_with fail
          go_loopw [27] (fun i wr => ∃ (j n : Nat), j ≤ FR.length ∧ i = .int .i64 j ∧ wr = w10.drewN n) (fun i _ => FR.length - (intOf i).toNat)
          case atStart => exact ⟨0, 0, by omega, rfl, rfl⟩
          case round =>
            obtain ⟨j, n, hj, rfl, rfl⟩ := hrel
            by_cases hlt : j < FR.length
            · obtain ⟨bf, of_, hAf, _, hcf⟩ := rd_cells RF10.out (by rw [frow_len]; omega)
              obtain ⟨br, or_, hAr, _, hcr⟩ := rd_cells RR10.out (by rw [frow_len]; omega)
              subst hAf hAr
              have p0 := hcf (j * 5 + 0) _ (frow_get FR j 0 hlt (by omega))
              have p1 := hcf (j * 5 + 1) _ (frow_get FR j 1 hlt (by omega))
              have p2 := hcf (j * 5 + 2) _ (frow_get FR j 2 hlt (by omega))
              have p3 := hcf (j * 5 + 3) _ (frow_get FR j 3 hlt (by omega))
              have p4 := hcf (j * 5 + 4) _ (frow_get FR j 4 hlt (by omega))
              rw [← Nat.add_assoc] at p1 p2 p3 p4
              rw [Nat.add_zero] at p0
              simp only [fcells, List.getElem_cons_zero, List.getElem_cons_succ] at p0 p1 p2 p3 p4
              have z0 := hcr (j * 5 + 0) _ (frow_get FR j 0 hlt (by omega))
              have z1 := hcr (j * 5 + 1) _ (frow_get FR j 1 hlt (by omega))
              have z2 := hcr (j * 5 + 2) _ (frow_get FR j 2 hlt (by omega))
              have z3 := hcr (j * 5 + 3) _ (frow_get FR j 3 hlt (by omega))
              have z4 := hcr (j * 5 + 4) _ (frow_get FR j 4 hlt (by omega))
              rw [← Nat.add_assoc] at z1 z2 z3 z4
              rw [Nat.add_zero] at z0
              simp only [fcells, List.getElem_cons_zero, List.getElem_cons_succ] at z0 z1 z2 z3 z4
              clear hcf hcr
              go_wp2_with fail
              go_quiet (fail)
              go_wp2_with fail
              go_roundw
              case rel => exact ⟨j + 1, _, by omega, by go_num, rfl⟩
              case measure => simp [intOf]; omega
            · go_wp2_with fail
              go_region_held3 (fun W => W.cell? ⟨g, 0, none⟩ = some (.int .i64 B') ∧ W.cell? ⟨g, 1, none⟩ = some (.slice A l.length c) ∧ W.cell? ⟨g, 2, none⟩ = some (.int .i64 V'))
                (first | go_keep | (exact blk3 ((G8.out.belowS B10.out).belowS HB1')) | (exact blk3 ((G8.out.belowS B10.out).belowS HB2')))
                (first
                  | (go_at_call 17; refine (may_any _ _ _ _ _ _).mono ?_; rintro e wf ⟨rfl, hbf⟩; have HB1' : Below w10.heap.size w10 wf := (by first | exact below_of_drewN (below_of_drew hbf) | exact below_of_drewN hbf | exact below_next HB2' hbf))
                  | (go_at_call 18; refine (mayR_any _ _ _ _ _ _).mono ?_; rintro e wr2 ⟨rfl, hbr⟩; have HB2' : Below w10.heap.size w10 wr2 := (by first | exact below_of_drewN (below_of_drew hbr) | exact below_of_drewN hbr | exact below_next HB1' hbr)))
              all_goals
                go_wp2_with fail
                go_ret
                refine ⟨ret_bool (by simp), ?_⟩
                first
                  | exact below_next (below_next BW8.out B10.out) HB2'
                  | exact below_next (below_next BW8.out B10.out) HB1'
      · have hd : decide (l.length ≤ 60) = false := decide_eq_false hl60
        rw [hd]
        go_wp2_with fail
        go_ret
        exact ⟨rfl, BW4.out⟩
end Go.Proofs.Ytnjfphfkjapemaa
