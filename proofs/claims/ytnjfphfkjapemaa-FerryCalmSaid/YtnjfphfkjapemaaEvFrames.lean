/- The round of `played` for one kind of event: frames. -/
import Derived.Test.YtnjfphfkjapemaaPlayC
namespace Go.Proofs.Ytnjfphfkjapemaa
open Go.RowKit

set_option maxRecDepth 100000 in
set_option maxHeartbeats 20000000 in
theorem evFrames (KK : Act → World → Prop) (l : List Int) (W0 wr : World) (g base0 ib io c k : Nat) (v1 v3 v6 v7 v8 v9 v10 v11 v12 v13 v14 v15 v16 v17 v18 v19 v20 v21 v22 v23 v24 v25 v26 v27 v28 v29 v30 v31 v32 v33 v34 v35 v36 v37 v38 v39 v40 v41 v42 v43 v44 v45 v46 v47 v48 v49 v50 v51 v52 v53 v54 v55 v56 v57 v58 v59 v60 v61 v62 v63 v64 v65 v66 v67 v68 v69 v70 v71 v72 v73 v74 v75 v76 v77 v78 v79 v80 v81 v82 v83 v84 v85 v86 v87 v88 v89 v90 v91 v92 v93 v94 v95 v96 v97 v98 v99 v100 v101 v102 v103 v104 v105 v106 v107 v108 v109 v110 v111 v112 v113 v114 v115 v116 v117 v118 v119 v120 v121 v122 v123 v124 v125 v126 v127 v128 v129 v130 v131 v132 v133 v134 v135 v136 v137 v138 v139 v140 v141 v142 v143 v144 v145 v146 v147 v148 v149 v150 v151 v152 v153 v154 v155 v156 v157 v158 v159 v160 v161 v162 v163 v164 v165 v166 v167 v168 v169 v170 v171 v172 v173 v174 v175 v176 v177 v178 v179 v180 v181 v182 v183 v184 v185 v186 v187 v188 v189 v190 v191 v192 v193 v194 v195 : Value) (hlt : k < l.length) (hl : l.length ≤ 100)
    (c0 : wr.cell? ⟨ib, io + k, none⟩ = some (.int .i64 l[k])) (hP : Hid (PS wr (g + 1) g 0 6 (playF (nsOf l) k).1 (playF (nsOf l) k).2)) (hB : Hid (Below g W0 wr)) (hvk : 2 ≤ nsOf l k / 2 % 8 ∧ nsOf l k / 2 % 8 < 4)
    (hQ : ∀ (u3 u6 u7 u8 u9 u10 u11 u12 u13 u14 u15 u16 u17 u18 u19 u20 u21 u22 u23 u24 u25 u26 u27 u28 u29 u30 u31 u32 u33 u34 u35 u36 u37 u38 u39 u40 u41 u42 u43 u44 u45 u46 u47 u48 u49 u50 u51 u52 u53 u54 u55 u56 u57 u58 u59 u60 u61 u62 u63 u64 u65 u66 u67 u68 u69 u70 u71 u72 u73 u74 u75 u76 u77 u78 u79 u80 u81 u82 u83 u84 u85 u86 u87 u88 u89 u90 u91 u92 u93 u94 u95 u96 u97 u98 u99 u100 u101 u102 u103 u104 u105 u106 u107 u108 u109 u110 u111 u112 u113 u114 u115 u116 u117 u118 u119 u120 u121 u122 u123 u124 u125 u126 u127 u128 u129 u130 u131 u132 u133 u134 u135 u136 u137 u138 u139 u140 u141 u142 u143 u144 u145 u146 u147 u148 u149 u150 u151 u152 u153 u154 u155 u156 u157 u158 u159 u160 u161 u162 u163 u164 u165 u166 u167 u168 u169 u170 u171 u172 u173 u174 u175 u176 u177 u178 u179 u180 u181 u182 u183 u184 u185 u186 u187 u188 u189 u190 u191 u192 u193 u194 : Value) (w' : World), PS w' (g + 1) g 0 6 (playF (nsOf l) (k + 1)).1 (playF (nsOf l) (k + 1)).2 → Below g W0 w' → KK ⟨#[.slice (some ⟨ib, io, none⟩) l.length c, v1, .pointer (some ⟨base0, 0, none⟩), u3, .pointer (some ⟨g, 0, none⟩), .int .i64 (k : Int), u6, u7, u8, u9, u10, u11, u12, u13, u14, u15, u16, u17, u18, u19, u20, u21, u22, u23, u24, u25, u26, u27, u28, u29, u30, u31, u32, u33, u34, u35, u36, u37, u38, u39, u40, u41, u42, u43, u44, u45, u46, u47, u48, u49, u50, u51, u52, u53, u54, u55, u56, u57, u58, u59, u60, u61, u62, u63, u64, u65, u66, u67, u68, u69, u70, u71, u72, u73, u74, u75, u76, u77, u78, u79, u80, u81, u82, u83, u84, u85, u86, u87, u88, u89, u90, u91, u92, u93, u94, u95, u96, u97, u98, u99, u100, u101, u102, u103, u104, u105, u106, u107, u108, u109, u110, u111, u112, u113, u114, u115, u116, u117, u118, u119, u120, u121, u122, u123, u124, u125, u126, u127, u128, u129, u130, u131, u132, u133, u134, u135, u136, u137, u138, u139, u140, u141, u142, u143, u144, u145, u146, u147, u148, u149, u150, u151, u152, u153, u154, u155, u156, u157, u158, u159, u160, u161, u162, u163, u164, u165, u166, u167, u168, u169, u170, u171, u172, u173, u174, u175, u176, u177, u178, u179, u180, u181, u182, u183, u184, u185, u186, u187, u188, u189, u190, u191, u192, u193, u194, v195], []⟩ w') :
    (kidAt (codeOf Try.f19) [1, 1, 0, 1, 0, 0, 1, 0]).wp Try.prog (evPost KK) ⟨#[.slice (some ⟨ib, io, none⟩) l.length c, v1, .pointer (some ⟨base0, 0, none⟩), v3, .pointer (some ⟨g, 0, none⟩), .int .i64 (k : Int), v6, v7, v8, v9, v10, v11, v12, v13, v14, v15, v16, v17, v18, v19, v20, v21, v22, v23, v24, v25, v26, v27, v28, v29, v30, v31, v32, v33, v34, v35, v36, v37, v38, v39, v40, v41, v42, v43, v44, v45, v46, v47, v48, v49, v50, v51, v52, v53, v54, v55, v56, v57, v58, v59, v60, v61, v62, v63, v64, v65, v66, v67, v68, v69, v70, v71, v72, v73, v74, v75, v76, v77, v78, v79, v80, v81, v82, v83, v84, v85, v86, v87, v88, v89, v90, v91, v92, v93, v94, v95, v96, v97, v98, v99, v100, v101, v102, v103, v104, v105, v106, v107, v108, v109, v110, v111, v112, v113, v114, v115, v116, v117, v118, v119, v120, v121, v122, v123, v124, v125, v126, v127, v128, v129, v130, v131, v132, v133, v134, v135, v136, v137, v138, v139, v140, v141, v142, v143, v144, v145, v146, v147, v148, v149, v150, v151, v152, v153, v154, v155, v156, v157, v158, v159, v160, v161, v162, v163, v164, v165, v166, v167, v168, v169, v170, v171, v172, v173, v174, v175, v176, v177, v178, v179, v180, v181, v182, v183, v184, v185, v186, v187, v188, v189, v190, v191, v192, v193, v194, v195], []⟩ wr := by
  obtain ⟨i0, hi0, hz0, hz1, hz2⟩ := info_parts infoStr
  have HQ := Lib.hid hQ
  clear hQ
  dsimp only [kidAt, kid, codeOf, Try.f19, List.foldl]
  have hlow := lowF_lt l[k] 1048576 (by omega)
  obtain ⟨n, hn⟩ : ∃ n : Nat, lowF l[k] 1048576 = n := ⟨(lowF l[k] 1048576).toNat, by omega⟩
  rw [hn] at hlow
  have hns : nsOf l k = n := by
    unfold nsOf
    rw [List.getD_eq_getElem?_getD, List.getElem?_eq_getElem hlt]
    show (lowF l[k] 1048576).toNat = n
    rw [hn]; rfl
  have HNS := Lib.hid hns
  have HN := Lib.hid hn
  have hn1 : (n : Int) ≤ 9223372036854775807 := by have := hlow.2; omega
  have HBN : Bnd n := ⟨by have := hlow.2; omega⟩
  rw [hns] at hvk
  have HVK := Lib.hid hvk
  clear hns hn hlow hvk
  go_wp2_with fail
  refine (low_any _ _ _ (by omega)).mono ?_
  rintro e w1 ⟨rfl, rfl⟩
  rw [HN.out]
  go_upto_region 7 with fail
  go_cut [7, 8, 9] from 17 to 194 (fun s7 s8 s9 wx => ∃ (kk mo oo : Nat), s7 = .int .i64 kk ∧ s8 = .pointer (some ⟨g, mo, none⟩) ∧ s9 = .pointer (some ⟨g, oo, none⟩) ∧ ((kk = 0 ∧ n % 2 = 0 ∧ mo = 0 ∧ oo = 6) ∨ (kk = 1 ∧ n % 2 = 1 ∧ mo = 6 ∧ oo = 0)) ∧ Hid (PS wx (g + 1) g 0 6 (playF (nsOf l) k).1 (playF (nsOf l) k).2) ∧ Hid (Below g W0 wx))
  case first =>
    rcases Nat.mod_two_eq_zero_or_one n with hp2 | hp2
    · rw [show (n : Int) % 2 = 0 by omega]
      have HP2 := Lib.hid hp2
      clear hp2
      as_aux_lemma =>
      go_quiet (fail)
      go_wp2_with fail
      go_meet
      exact ⟨0, 0, 6, rfl, rfl, rfl, .inl ⟨rfl, HP2.out, rfl, rfl⟩, Lib.hid (hP.out.below (below_drewN (Below.refl _ _) _)), Lib.hid (below_drewN hB.out _)⟩
    · rw [show (n : Int) % 2 = 1 by omega]
      have HP2 := Lib.hid hp2
      clear hp2
      as_aux_lemma =>
      go_quiet (fail)
      go_wp2_with fail
      go_meet
      exact ⟨1, 6, 0, rfl, rfl, rfl, .inr ⟨rfl, HP2.out, rfl, rfl⟩, Lib.hid (hP.out.below (below_drewN (Below.refl _ _) _)), Lib.hid (below_drewN hB.out _)⟩
  case rest =>
    obtain ⟨kk, mo, oo, rfl, rfl, rfl, hor, hP2, hB2⟩ := hcut
    obtain ⟨me, other, hps, hlk, hlk', hs1, hs2, hw1, hw2, hfin⟩ := orient (nsOf l) k n kk mo oo g (g + 1) wc HNS.out (by omega) hor hP2.out
    have HFIN := Lib.hid hfin
    have HLK := Lib.hid hlk
    have HLK' := Lib.hid hlk'
    have HPS := Lib.hid hps
    have HOR := Lib.hid hor
    have hkk : kk ≤ 1 := by omega
    clear hfin hlk hlk' hps hor hP hB hP2 c0
    obtain ⟨A0, A1, A2, A3, B0, B1, B2, B3, c0, c1, c2, c3, d0, d1, d2, d3, ht, hr, hgb⟩ := HPS.out
    have HT := Lib.hid ht
    have HR := Lib.hid hr
    have hgl := ht.lt
    obtain ⟨m0, m1, m2, m3, m4, m5⟩ := two6 ht
    clear ht hr
    go_upto_if 40 with fail
    have HAT : Hid (atOf n me = if me.way.length = 0 then 0 else n / 16 % me.way.length) := Lib.hid rfl
    have hatl : 0 < me.way.length → atOf n me < me.way.length := fun h => by rw [HAT.out, if_neg (by omega)]; exact Nat.mod_lt _ h
    generalize hav : atOf n me = av at *
    have HAV := Lib.hid hav
    have HATL := Lib.hid hatl
    clear hav hatl
    go_cut [10] from 17 to 194 (fun s10 wx => s10 = .int .i64 av ∧ Hid (wc = wx))
    case first =>
      generalize me.way.length = wl at *
      by_cases hw0 : wl = 0
      · have hz : av = 0 := by rw [HAT.out, if_pos hw0]
        have HZ := Lib.hid hz
        clear hz
        subst hw0
        clear m0 m1 m2 m3 m4 hn1
        as_aux_lemma =>
        go_wp2_with fail
        go_meet
        exact ⟨by rw [HZ.out]; rfl, Lib.hid rfl⟩
      · have hz : av = n / 16 % wl := by rw [HAT.out, if_neg hw0]
        have HZ := Lib.hid hz
        have hwp : 0 < wl := by omega
        clear hz hw0 m0 m1 m2 m3 m4 hn1
        as_aux_lemma =>
        go_wp2_with fail
        go_meet
        exact ⟨by rw [HZ.out]; simp; exact at_core _ _ HBN, Lib.hid rfl⟩
    case rest =>
      obtain ⟨rfl, hwc⟩ := hcut
      obtain rfl := hwc.out
      go_upto_block 2 with fail
      have hv := HVK.out
      have hv2 : n / 2 % 8 = 2 ∨ n / 2 % 8 = 3 := by omega
      have HV := Lib.hid hv
      clear hv
      obtain ⟨j0, hj0, jz0, jz1, jz2⟩ := info_parts infoFrame
      obtain ⟨x0, x1, x2, x3, x4, x5⟩ := two6 HT.out.swap
      obtain ⟨y0, y1, y2, y3, y4, y5⟩ := two6f HT.out.swap
      have hsl : me.fy.sent.length ≤ 100 := by obtain ⟨_, _, _, h3, _⟩ := HLK.out.base; omega
      have HEV := Lib.hid (show evF k n kk me other = (me, { other with way := other.way ++ framesF me.fy kk (1 - kk) }) by unfold evF; rw [if_neg (by have := HV.out; omega), if_pos HV.out.2])
      have HFR := Lib.hid (fun W (hb : Below wc.heap.size wc W) => frames_any me.fy.base A0 me.fy.sent c0 me.fy.want kk (1 - kk) W (HR.out.below hb).rm.r0 (by omega))
      have q1 : IntKind.i64.wrap (1 - (kk : Int)) = 1 - (kk : Int) := IntWalk.i64_in _ (by omega)
      have hw900 : other.way.length ≤ 900 := by omega
      rcases hv2 with hv | hv
      ·
        rw [show (n : Int) / 2 % 8 = 2 by omega]
        clear hv hn1 m3 m4 m5 x0 x1 x2 x3 x4
        go_upto_region 24 with fail
        go_region_law (first
          | (refine step_app _ (by rfl) _ _ _ (by rfl) (g + 1) 26 j0 _ 5 48 Try.underlying35 hj0 jz0 jz1 jz2 rfl (by omega) (.slice B3 other.way.length d3) other.way.length (frow other.way) (by rfl) OB2.out A6 L6.length c6 (frow L6) (by rfl) RD6.out (frow_len _) (frow_one _) h48 h63 (by exact hz2') ?_; intro A7 c7 w3 hle7 hown7 hg7 hat7; have T3 := Lib.hid (T2.out.grown hg7 hgo7); obtain ⟨s0, s1, s2, s3, s4, s5⟩ := two6 T3.out.swap; obtain ⟨r0, r1, r2, r3, r4, r5⟩ := two6f T3.out.swap)
          | (go_simp; go_at_call 14; refine (HFR.out _ ((Below.refl _ _).drew)).mono ?_; rintro e w2 ⟨A6, L6, c6, rfl, hL6, hle6, hown6, hb6'⟩; have hb6 := below_of_drew hb6'; have HL6 := Lib.hid hL6.out; have h9 : L6.length ≤ 9 := (by rw [hL6.out]; exact framesF_le _ _ _); have R2 := Lib.hid (HR.out.below hb6); have T2 := Lib.hid (HT.out.below hb6); have OB2 := Lib.hid R2.out.ro.r3; have RD6 := Lib.hid (own_rd hown6); have hz2' := R2.out.size; have h48 : (other.way.length + L6.length) * 48 ≤ 140737488355328 := (by omega); have h63 : other.way.length + L6.length ≤ maxLen := (by unfold maxLen; omega); have hgo7 : some g ≠ (Value.slice B3 other.way.length d3).ownBlock := (fun e => by have := (OB2.out.lt g e.symm).1; omega); obtain ⟨z0, z1, z2, z3, z4, z5⟩ := two6 T2.out.swap; obtain ⟨v0, v1, v2, v3, v4, v5⟩ := two6f T2.out.swap; go_simp))
        all_goals
          as_aux_lemma =>
          go_wp2_with fail
          have e1 : other.way.length + L6.length = (other.way ++ L6).length := by simp
          have hown8 : w3.ownsRow (g + 1) 26 5 (.slice A7 (other.way ++ L6).length c7) (other.way ++ L6).length (frow (other.way ++ L6)) := by rw [← e1, frow_append]; exact hown7
          have P3 := ((R2.out.swap.app3 (other.way ++ L6) A7 c7 hown8 (by rw [← e1]; exact hle7) hg7 (by rw [blkOf_own, blkOf_own] at hat7; exact hat7)).setg (p := ⟨g, oo + 5, none⟩) hgb (.slice A7 (other.way.length + L6.length) c7)).swap
          have T4 := (T3.out.swap.set 5 (by omega) (.slice A7 (other.way.length + L6.length) c7)).swap
          have hbg : g ≤ g := Nat.le_refl g
          refine HQ.out _ _ _ _ _ _ _ _ _ _ _ _ _ _ _ _ _ _ _ _ _ _ _ _ _ _ _ _ _ _ _ _ _ _ _ _ _ _ _ _ _ _ _ _ _ _ _ _ _ _ _ _ _ _ _ _ _ _ _ _ _ _ _ _ _ _ _ _ _ _ _ _ _ _ _ _ _ _ _ _ _ _ _ _ _ _ _ _ _ _ _ _ _ _ _ _ _ _ _ _ _ _ _ _ _ _ _ _ _ _ _ _ _ _ _ _ _ _ _ _ _ _ _ _ _ _ _ _ _ _ _ _ _ _ _ _ _ _ _ _ _ _ _ _ _ _ _ _ _ _ _ _ _ _ _ _ _ _ _ _ _ _ _ _ _ _ _ _ _ _ _ _ _ _ _ _ _ _ _ _ _ _ _ _ _ _ _ _ _ _ _ (HFIN.out _ ?_) (((hB2.out.trans (hb6.mono (by omega))).grown hg7 (by omega) (fun j hj => by have := (OB2.out.lt j hj).1; omega)).setCell hbg _)
          rw [HEV.out, ← HL6.out]
          rw [e1] at T4 P3 ⊢
          exact ⟨A0, A1, A2, A3, B0, B1, B2, A7, c0, c1, c2, c3, d0, d1, d2, c7, T4, P3, hgb⟩
      ·
        rw [show (n : Int) / 2 % 8 = 3 by omega]
        clear hv hn1 m3 m4 m5 x0 x1 x2 x3 x4
        go_upto_region 24 with fail
        go_region_law (first
          | (refine step_app _ (by rfl) _ _ _ (by rfl) (g + 1) 26 j0 _ 5 48 Try.underlying35 hj0 jz0 jz1 jz2 rfl (by omega) (.slice B3 other.way.length d3) other.way.length (frow other.way) (by rfl) OB2.out A6 L6.length c6 (frow L6) (by rfl) RD6.out (frow_len _) (frow_one _) h48 h63 (by exact hz2') ?_; intro A7 c7 w3 hle7 hown7 hg7 hat7; have T3 := Lib.hid (T2.out.grown hg7 hgo7); obtain ⟨s0, s1, s2, s3, s4, s5⟩ := two6 T3.out.swap; obtain ⟨r0, r1, r2, r3, r4, r5⟩ := two6f T3.out.swap)
          | (go_simp; go_at_call 14; refine (HFR.out _ ((Below.refl _ _).drew)).mono ?_; rintro e w2 ⟨A6, L6, c6, rfl, hL6, hle6, hown6, hb6'⟩; have hb6 := below_of_drew hb6'; have HL6 := Lib.hid hL6.out; have h9 : L6.length ≤ 9 := (by rw [hL6.out]; exact framesF_le _ _ _); have R2 := Lib.hid (HR.out.below hb6); have T2 := Lib.hid (HT.out.below hb6); have OB2 := Lib.hid R2.out.ro.r3; have RD6 := Lib.hid (own_rd hown6); have hz2' := R2.out.size; have h48 : (other.way.length + L6.length) * 48 ≤ 140737488355328 := (by omega); have h63 : other.way.length + L6.length ≤ maxLen := (by unfold maxLen; omega); have hgo7 : some g ≠ (Value.slice B3 other.way.length d3).ownBlock := (fun e => by have := (OB2.out.lt g e.symm).1; omega); obtain ⟨z0, z1, z2, z3, z4, z5⟩ := two6 T2.out.swap; obtain ⟨v0, v1, v2, v3, v4, v5⟩ := two6f T2.out.swap; go_simp))
        all_goals
          as_aux_lemma =>
          go_wp2_with fail
          have e1 : other.way.length + L6.length = (other.way ++ L6).length := by simp
          have hown8 : w3.ownsRow (g + 1) 26 5 (.slice A7 (other.way ++ L6).length c7) (other.way ++ L6).length (frow (other.way ++ L6)) := by rw [← e1, frow_append]; exact hown7
          have P3 := ((R2.out.swap.app3 (other.way ++ L6) A7 c7 hown8 (by rw [← e1]; exact hle7) hg7 (by rw [blkOf_own, blkOf_own] at hat7; exact hat7)).setg (p := ⟨g, oo + 5, none⟩) hgb (.slice A7 (other.way.length + L6.length) c7)).swap
          have T4 := (T3.out.swap.set 5 (by omega) (.slice A7 (other.way.length + L6.length) c7)).swap
          have hbg : g ≤ g := Nat.le_refl g
          refine HQ.out _ _ _ _ _ _ _ _ _ _ _ _ _ _ _ _ _ _ _ _ _ _ _ _ _ _ _ _ _ _ _ _ _ _ _ _ _ _ _ _ _ _ _ _ _ _ _ _ _ _ _ _ _ _ _ _ _ _ _ _ _ _ _ _ _ _ _ _ _ _ _ _ _ _ _ _ _ _ _ _ _ _ _ _ _ _ _ _ _ _ _ _ _ _ _ _ _ _ _ _ _ _ _ _ _ _ _ _ _ _ _ _ _ _ _ _ _ _ _ _ _ _ _ _ _ _ _ _ _ _ _ _ _ _ _ _ _ _ _ _ _ _ _ _ _ _ _ _ _ _ _ _ _ _ _ _ _ _ _ _ _ _ _ _ _ _ _ _ _ _ _ _ _ _ _ _ _ _ _ _ _ _ _ _ _ _ _ _ _ _ _ (HFIN.out _ ?_) (((hB2.out.trans (hb6.mono (by omega))).grown hg7 (by omega) (fun j hj => by have := (OB2.out.lt j hj).1; omega)).setCell hbg _)
          rw [HEV.out, ← HL6.out]
          rw [e1] at T4 P3 ⊢
          exact ⟨A0, A1, A2, A3, B0, B1, B2, A7, c0, c1, c2, c3, d0, d1, d2, c7, T4, P3, hgb⟩
end Go.Proofs.Ytnjfphfkjapemaa
