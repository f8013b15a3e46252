/- One frame comes to the side that does not send it (k = 1): FerryCalm's innermost loop's body. -/
import Derived.Test.YtnjfphfkjapemaaCalmC
namespace Go.Proofs.Ytnjfphfkjapemaa
open Go.RowKit

set_option maxRecDepth 100000 in
set_option maxHeartbeats 20000000 in
theorem calmF1 (KK : Act → World → Prop) (B base g i c : Nat) (W0 wr : World) (me other : Sd) (A : Option Addr) (L : List Fm) (v0 v1 v2 v4 v5 v6 v10 v11 v12 v13 v14 v15 v16 v17 v18 v19 v20 v21 v22 v23 v24 v25 v26 v27 v28 v29 v30 v31 v32 v33 v34 v35 v36 v37 v38 v39 v40 v41 v42 v43 v44 v45 v46 v47 v48 v49 v50 v51 v52 v53 v54 v55 v56 v57 v58 v59 v60 v61 v62 v63 v64 v65 v66 v67 v68 v69 v70 v71 v72 v73 v74 v75 v76 v77 v78 v79 v80 v81 v82 v83 v84 v85 v86 v87 v88 v89 v90 v91 v92 v93 v94 v95 v96 v97 v98 v99 v100 v101 v102 v103 v104 v105 v106 v107 v108 v109 v110 v111 v112 v113 v114 v115 v116 v117 v118 v119 v120 v121 v122 v123 v124 v125 v126 v127 : Value) (hi : i < L.length) (hL : L.length ≤ 100) (hsl : me.fy.sent.length ≤ 100) (hhl : me.heard.length ≤ 100) (hBb : B ≤ base) (hBg : B ≤ g)
    (hP : Hid (CS wr base g 0 6 me other)) (hF : Hid (FR wr A c L)) (hB : Hid (Below B W0 wr))
    (hQ : ∀ (u10 u11 u12 u55 u56 u57 u58 u59 u60 u61 u62 u63 u64 u65 u66 u67 u68 u69 u70 u71 u72 u73 u74 u75 u76 u77 u78 u79 u80 u81 u82 u83 u84 u85 u86 u87 u88 u89 u90 u91 u92 : Value) (w' : World), CS w' base g 0 6 (hearS me L[i]) other → FR w' A c L → Below B W0 w' → KK ⟨#[v0, v1, v2, .pointer (some ⟨g, 0, none⟩), v4, v5, v6, .int .i64 1, .slice A L.length c, .int .i64 (i : Int), u10, u11, u12, v13, v14, v15, v16, v17, v18, v19, v20, v21, v22, v23, v24, v25, v26, v27, v28, v29, v30, v31, v32, v33, v34, v35, v36, v37, v38, v39, v40, v41, v42, v43, v44, v45, v46, v47, v48, v49, v50, v51, v52, v53, v54, u55, u56, u57, u58, u59, u60, u61, u62, u63, u64, u65, u66, u67, u68, u69, u70, u71, u72, u73, u74, u75, u76, u77, u78, u79, u80, u81, u82, u83, u84, u85, u86, u87, u88, u89, u90, u91, u92, v93, v94, v95, v96, v97, v98, v99, v100, v101, v102, v103, v104, v105, v106, v107, v108, v109, v110, v111, v112, v113, v114, v115, v116, v117, v118, v119, v120, v121, v122, v123, v124, v125, v126, v127], []⟩ w') :
    (kidAt (codeOf Try.f5) [1, 1, 1, 1, 1, 0, 1, 0, 0, 1, 0, 0, 1, 0, 0, 1, 0, 0, 1, 1, 0, 0, 1, 0]).wp Try.prog (evPost KK) ⟨#[v0, v1, v2, .pointer (some ⟨g, 0, none⟩), v4, v5, v6, .int .i64 1, .slice A L.length c, .int .i64 (i : Int), v10, v11, v12, v13, v14, v15, v16, v17, v18, v19, v20, v21, v22, v23, v24, v25, v26, v27, v28, v29, v30, v31, v32, v33, v34, v35, v36, v37, v38, v39, v40, v41, v42, v43, v44, v45, v46, v47, v48, v49, v50, v51, v52, v53, v54, v55, v56, v57, v58, v59, v60, v61, v62, v63, v64, v65, v66, v67, v68, v69, v70, v71, v72, v73, v74, v75, v76, v77, v78, v79, v80, v81, v82, v83, v84, v85, v86, v87, v88, v89, v90, v91, v92, v93, v94, v95, v96, v97, v98, v99, v100, v101, v102, v103, v104, v105, v106, v107, v108, v109, v110, v111, v112, v113, v114, v115, v116, v117, v118, v119, v120, v121, v122, v123, v124, v125, v126, v127], []⟩ wr := by
  obtain ⟨i0, hi0, hz0, hz1, hz2⟩ := info_parts infoStr
  have HQ := Lib.hid hQ
  clear hQ
  dsimp only [kidAt, kid, codeOf, Try.f5, List.foldl]
  obtain ⟨A0, A1, A2, A3, B0, B1, B2, B3, c0, c1, c2, c3, d0, d1, d2, d3, ht, hr⟩ := hP.out
  have HT := Lib.hid (show Two wr g 0 6 [.int .i64 me.fy.base, .slice A0 me.fy.sent.length c0, .int .i64 me.fy.want, .slice A1 me.sent.length c1, .slice A2 me.heard.length c2, .slice A3 me.way.length c3] (sdCells other B0 B1 B2 B3 d0 d1 d2 d3) from ht)
  have HR := Lib.hid hr
  have hgl := ht.lt
  obtain ⟨⟨m0, m1, m2, m4⟩, p0, p1, p2, p4⟩ := two60 HT.out
  have HBb := Lib.hid hBb
  have HBg := Lib.hid hBg
  clear ht hr hP hBb hBg
  obtain ⟨bF, hbF⟩ := hF.out
  obtain ⟨fb, fo, hA, hfb, hcf⟩ := (own_rd hbF).at_ (i := 0) (by rw [frow_len]; omega)
  subst hA
  have f0 := hcf (i * 5 + 0) _ (frow_get' L i 0 hi (by omega))
  have f1 := hcf (i * 5 + 1) _ (frow_get' L i 1 hi (by omega))
  have f2 := hcf (i * 5 + 2) _ (frow_get' L i 2 hi (by omega))
  have f3 := hcf (i * 5 + 3) _ (frow_get' L i 3 hi (by omega))
  have f4 := hcf (i * 5 + 4) _ (frow_get' L i 4 hi (by omega))
  rw [← Nat.add_assoc] at f1 f2 f3 f4
  rw [Nat.add_zero] at f0
  simp only [fcells, List.getElem_cons_zero, List.getElem_cons_succ] at f0 f1 f2 f3 f4
  have hhe : hearS me L[i] = ⟨(hearF me.fy L[i]).1, me.sent, if (hearF me.fy L[i]).2.2 then me.heard ++ [(hearF me.fy L[i]).2.1] else me.heard, me.way⟩ := rfl
  have HHE := Lib.hid hhe
  clear hcf hhe hbF
  generalize L[i] = m at *
  have CH := Lib.hid (fun W (hb : Below wr.heap.size wr W) => hear2_any me.fy.base A0 me.fy.sent c0 me.fy.want m.kind m.from_ m.to m.seq m.body W (HR.out.p.below hb).rm.r0 (by omega))
  rcases hrr : hearF me.fy m with ⟨f', s', is'⟩
  have hrr2 : hearF ⟨me.fy.base, me.fy.sent, me.fy.want⟩ ⟨m.kind, m.from_, m.to, m.seq, m.body⟩ = (f', s', is') := hrr
  rw [hrr2] at CH
  rw [hrr] at HHE
  clear hrr hrr2
  have qk : IntKind.i64.wrap 0 = 0 := by decide
  go_upto_region 17 with fail
  go_cut [10, 11, 12] from 55 to 92 (fun s14 s15 s16 wx => ∃ (h : Nat) (A' : Option Addr) (c' : Nat), s14 = .pointer (some ⟨h, 0, none⟩) ∧ s15 = .string s' ∧ s16 = .bool is' ∧ Hid (Blk wx h #[.int .i64 f'.base, .slice A' f'.sent.length c', .int .i64 f'.want] 24) ∧ f'.sent.length ≤ c' ∧ Hid (Strs wx A' f'.sent) ∧ Hid (∀ ad, A' = some ad → wr.heap.size ≤ ad.block) ∧ Hid (Below wr.heap.size wr wx))
  case first =>
    go_region_law (first
      | (go_simp; go_at_call 12; refine (CH.out _ ((below_allocS (Below.refl _ _) _).drew)).mono ?_; rintro e w2 ⟨b2, A', L', c', v2, rfl, hF, hle', hs', hfr, hb2'⟩; have hb2 := below_of_alloc (below_of_drew hb2'); have GH := Lib.hid ((Blk.new wr #[.int .i64 0, .slice none 0 0, .int .i64 0] 24).drew.belowS hb2'); obtain ⟨z0, z1, z2⟩ := blk3 GH.out; obtain ⟨v0, v1, v2⟩ := blk3f GH.out; have hcase : wr.heap.size < w2.heap.size := GH.out.lt; go_simp)
      | (go_simp; go_at_call 12; refine (CH.out _ ((Below.refl _ _).drew)).mono ?_; rintro e w2 ⟨b2, A', L', c', v2, rfl, hF, hle', hs', hfr, hb2'⟩; have hb2 := below_of_drew hb2'; go_simp))
    all_goals
      as_aux_lemma =>
      go_wp2_with fail
      go_meet
      obtain ⟨rfl, rfl, rfl⟩ := Fy.mk.inj hF.out
      first
        | (have hG := GH.out
           clear GH
           have hfr2 : ∀ ad, A' = some ad → wr.heap.size + 1 ≤ ad.block := fun ad h => by have := hfr ad h; simpa using this
           have hG3 := ((hG.set_ 0 (.int .i64 f'.base)).set_ 1 (.slice A' f'.sent.length c')).set_ 2 (.int .i64 f'.want)
           have s1 := strs_kept hs' (grown_setCell w2 ⟨wr.heap.size, 0, none⟩ (.int .i64 f'.base)) (fresh_ne hfr2 (Nat.lt_succ_self _))
           have s2 := strs_kept s1 (grown_setCell _ ⟨wr.heap.size, 1, none⟩ (.slice A' f'.sent.length c')) (fresh_ne hfr2 (Nat.lt_succ_self _))
           have s3 := strs_kept s2 (grown_setCell _ ⟨wr.heap.size, 2, none⟩ (.int .i64 f'.want)) (fresh_ne hfr2 (Nat.lt_succ_self _))
           have b3 := ((hb2.setCell (p := ⟨wr.heap.size, 0, none⟩) (Nat.le_refl _) (.int .i64 f'.base)).setCell (p := ⟨wr.heap.size, 1, none⟩) (Nat.le_refl _) (.slice A' f'.sent.length c')).setCell (p := ⟨wr.heap.size, 2, none⟩) (Nat.le_refl _) (.int .i64 f'.want)
           exact ⟨wr.heap.size, A', c', rfl, rfl, rfl, Lib.hid hG3, hle', Lib.hid s3, Lib.hid (fun ad h => by have := hfr2 ad h; omega), Lib.hid b3⟩)
        | exact ⟨w2.heap.size, A', c', rfl, rfl, rfl, Lib.hid (Blk.new w2 _ _), hle', Lib.hid (hs'.alloc _), Lib.hid hfr, Lib.hid (below_allocS hb2 _)⟩
  case rest =>
    obtain ⟨h, A', c', rfl, rfl, rfl, hB5, hle5, hS5, hfr5, hb5⟩ := hcut
    clear m0 m1 m2 m4 p0 p1 p2 p4 f0 f1 f2 f3 f4
    generalize (some (⟨fb, fo, none⟩ : Addr)) = A at *
    have R5 := Lib.hid (HR.out.fy hb5.out f' A' c' hS5.out hle5 hfr5.out)
    have T5 := Lib.hid (HT.out.below hb5.out)
    have F5 := Lib.hid (hF.out.below hb5.out)
    have HB5 := Lib.hid (hB.out.trans (hb5.out.mono (show B ≤ _ by have := HBg.out; omega)))
    have hgl5 := T5.out.lt
    obtain ⟨q0, q1, q2⟩ := blk3 hB5.out
    obtain ⟨⟨m0, m1, m2, m4⟩, p0, p1, p2, p4⟩ := two60 T5.out
    go_upto_region 19 with fail
    have R6 := Lib.hid (((R5.out.setg (p := ⟨g, 0, none⟩) rfl (.int .i64 f'.base)).setg (p := ⟨g, 1, none⟩) rfl (.slice A' f'.sent.length c')).setg (p := ⟨g, 2, none⟩) rfl (.int .i64 f'.want))
    have T6 := Lib.hid (show Two (((wc.setCell ⟨g, 0, none⟩ (.int .i64 f'.base)).setCell ⟨g, 1, none⟩ (.slice A' f'.sent.length c')).setCell ⟨g, 2, none⟩ (.int .i64 f'.want)) g 0 6 _ _ from (((T5.out.set 0 (by omega) (.int .i64 f'.base)).set 1 (by omega) (.slice A' f'.sent.length c')).set 2 (by omega) (.int .i64 f'.want)))
    have hbg : B ≤ g := HBg.out
    have HB6 := Lib.hid (((HB5.out.setCell (p := ⟨g, 0, none⟩) hbg (.int .i64 f'.base)).setCell (p := ⟨g, 1, none⟩) hbg (.slice A' f'.sent.length c')).setCell (p := ⟨g, 2, none⟩) hbg (.int .i64 f'.want))
    have F6 := Lib.hid (((F5.out.set (p := ⟨g, 0, none⟩) (F5.out.two T5.out) (.int .i64 f'.base)).set (p := ⟨g, 1, none⟩) (F5.out.two T5.out) (.slice A' f'.sent.length c')).set (p := ⟨g, 2, none⟩) (F5.out.two T5.out) (.int .i64 f'.want))
    generalize ((wc.setCell ⟨g, 0, none⟩ (.int .i64 f'.base)).setCell ⟨g, 1, none⟩ (.slice A' f'.sent.length c')).setCell ⟨g, 2, none⟩ (.int .i64 f'.want) = W6 at *
    clear m0 m1 m2 m4 p0 p1 p2 p4 q0 q1 q2 hB5
    obtain ⟨⟨m0, m1, m2, m4⟩, p0, p1, p2, p4⟩ := two60 T6.out
    cases is' with
    | false =>
      as_aux_lemma =>
      go_wp2_with fail
      refine HQ.out _ _ _ _ _ _ _ _ _ _ _ _ _ _ _ _ _ _ _ _ _ _ _ _ _ _ _ _ _ _ _ _ _ _ _ _ _ _ _ _ _  _ ?_ F6.out HB6.out
      rw [HHE.out]
      exact ⟨A', A1, A2, A3, B0, B1, B2, B3, c', c1, c2, c3, d0, d1, d2, d3, T6.out, R6.out⟩
    | true =>
      as_aux_lemma =>
      have O6 := Lib.hid (show W6.ownsRow base 9 1 (.slice A2 me.heard.length c2) me.heard.length (me.heard.map .string) from R6.out.p.rm.r2)
      have hgo : some g ≠ (Value.slice A2 me.heard.length c2).ownBlock := fun e => R6.out.far (blkOf A2) (by simp) (by rw [← blkOf_own A2 me.heard.length c2]; exact e.symm)
      have hz6 : base ≤ W6.heap.size := R6.out.p.size
      have hgl6 := T6.out.lt
      have h16 : (me.heard.length + 1) * 16 ≤ 140737488355328 := by omega
      have h63 : me.heard.length + 1 ≤ maxLen := by unfold maxLen; omega
      go_wp2_with (at_builtin; refine wpList_app _ rfl _ _ _ rfl base 9 i0 _ 1 16 Try.underlying22 hi0 hz0 hz1 hz2 rfl (by omega) (.slice A2 me.heard.length c2) me.heard.length (me.heard.map .string) rfl (O6.out.alloc _) (some ⟨W6.heap.size, 0, none⟩) 1 1 [.string s'] rfl (Rd.new W6 #[.string s'] 9) rfl (oneCell_string _) h16 h63 (by simp; omega) ?_; intro A7 c7 w7 hle7 hown7 hg7 hat7; have T7 := Lib.hid ((T6.out.below ((Below.refl _ _).alloc (Nat.le_refl _) (.cells #[.string s'] 9))).grown hg7 hgo); obtain ⟨⟨s0, s1, s2, s4⟩, r0, r1, r2, r4⟩ := two60 T7.out)
      have e1 : me.heard.length + 1 = (me.heard ++ [s']).length := by simp
      have hown8 : w7.ownsRow base 9 1 (.slice A7 (me.heard ++ [s']).length c7) (me.heard ++ [s']).length ((me.heard ++ [s']).map .string) := by simpa using hown7
      have P8 := ((R6.out.below ((Below.refl _ _).alloc (Nat.le_refl _) (.cells #[.string s'] 9))).app2 (me.heard ++ [s']) A7 c7 hown8 (by simpa using hle7) hg7 (by rw [blkOf_own, blkOf_own] at hat7; exact hat7)).setg (p := ⟨g, 4, none⟩) rfl (.slice A7 (me.heard.length + 1) c7)
      have T8 : Two (w7.setCell ⟨g, 4, none⟩ (.slice A7 (me.heard.length + 1) c7)) g 0 6 _ _ := T7.out.set 4 (by omega) (.slice A7 (me.heard.length + 1) c7)
      have F7 := ((F6.out.below ((Below.refl _ _).alloc (Nat.le_refl _) (.cells #[.string s'] 9))).kept hg7 (by rw [blkOf_own]; exact F6.out.nes O6.out))
      have F8 := F7.set (p := ⟨g, 4, none⟩) (F7.two T7.out) (.slice A7 (me.heard.length + 1) c7)
      have HB8 := (((HB6.out.alloc (by omega) _).grown hg7 (by simp; have := HBb.out; omega) (fun j hj => by have := (O6.out.lt j hj).1; have := HBb.out; omega)).setCell (p := ⟨g, 4, none⟩) hbg (.slice A7 (me.heard.length + 1) c7))
      rw [e1] at T8 P8 HB8 F8 ⊢
      refine HQ.out _ _ _ _ _ _ _ _ _ _ _ _ _ _ _ _ _ _ _ _ _ _ _ _ _ _ _ _ _ _ _ _ _ _ _ _ _ _ _ _ _  _ ?_ F8 HB8
      rw [HHE.out]
      exact ⟨A', A1, A7, A3, B0, B1, B2, B3, c', c1, c7, c3, d0, d1, d2, d3, T8, P8⟩
end Go.Proofs.Ytnjfphfkjapemaa
