/- The round of `played` for one kind of event: hear. -/
import Derived.Test.YtnjfphfkjapemaaPlayC
namespace Go.Proofs.Ytnjfphfkjapemaa
open Go.RowKit

set_option maxRecDepth 100000 in
set_option maxHeartbeats 20000000 in
theorem evHear (KK : Act → World → Prop) (l : List Int) (W0 wr : World) (g base0 ib io c k : Nat) (v1 v3 v6 v7 v8 v9 v10 v11 v12 v13 v14 v15 v16 v17 v18 v19 v20 v21 v22 v23 v24 v25 v26 v27 v28 v29 v30 v31 v32 v33 v34 v35 v36 v37 v38 v39 v40 v41 v42 v43 v44 v45 v46 v47 v48 v49 v50 v51 v52 v53 v54 v55 v56 v57 v58 v59 v60 v61 v62 v63 v64 v65 v66 v67 v68 v69 v70 v71 v72 v73 v74 v75 v76 v77 v78 v79 v80 v81 v82 v83 v84 v85 v86 v87 v88 v89 v90 v91 v92 v93 v94 v95 v96 v97 v98 v99 v100 v101 v102 v103 v104 v105 v106 v107 v108 v109 v110 v111 v112 v113 v114 v115 v116 v117 v118 v119 v120 v121 v122 v123 v124 v125 v126 v127 v128 v129 v130 v131 v132 v133 v134 v135 v136 v137 v138 v139 v140 v141 v142 v143 v144 v145 v146 v147 v148 v149 v150 v151 v152 v153 v154 v155 v156 v157 v158 v159 v160 v161 v162 v163 v164 v165 v166 v167 v168 v169 v170 v171 v172 v173 v174 v175 v176 v177 v178 v179 v180 v181 v182 v183 v184 v185 v186 v187 v188 v189 v190 v191 v192 v193 v194 v195 : Value) (hlt : k < l.length) (hl : l.length ≤ 100)
    (c0 : wr.cell? ⟨ib, io + k, none⟩ = some (.int .i64 l[k])) (hP : Hid (PS wr (g + 1) g 0 6 (playF (nsOf l) k).1 (playF (nsOf l) k).2)) (hB : Hid (Below g W0 wr)) (hvk : 4 ≤ nsOf l k / 2 % 8 ∧ nsOf l k / 2 % 8 < 7)
    (hQ : ∀ (u3 u6 u7 u8 u9 u10 u11 u12 u13 u14 u15 u16 u17 u18 u19 u20 u21 u22 u23 u24 u25 u26 u27 u28 u29 u30 u31 u32 u33 u34 u35 u36 u37 u38 u39 u40 u41 u42 u43 u44 u45 u46 u47 u48 u49 u50 u51 u52 u53 u54 u55 u56 u57 u58 u59 u60 u61 u62 u63 u64 u65 u66 u67 u68 u69 u70 u71 u72 u73 u74 u75 u76 u77 u78 u79 u80 u81 u82 u83 u84 u85 u86 u87 u88 u89 u90 u91 u92 u93 u94 u95 u96 u97 u98 u99 u100 u101 u102 u103 u104 u105 u106 u107 u108 u109 u110 u111 u112 u113 u114 u115 u116 u117 u118 u119 u120 u121 u122 u123 u124 u125 u126 u127 u128 u129 u130 u131 u132 u133 u134 u135 u136 u137 u138 u139 u140 u141 u142 u143 u144 u145 u146 u147 u148 u149 u150 u151 u152 u153 u154 u155 u156 u157 u158 u159 u160 u161 u162 u163 u164 u165 u166 u167 u168 u169 u170 u171 u172 u173 u174 u175 u176 u177 u178 u179 u180 u181 u182 u183 u184 u185 u186 u187 u188 u189 u190 u191 u192 u193 u194 : Value) (w' : World), PS w' (g + 1) g 0 6 (playF (nsOf l) (k + 1)).1 (playF (nsOf l) (k + 1)).2 → Below g W0 w' → KK ⟨#[.slice (some ⟨ib, io, none⟩) l.length c, v1, .pointer (some ⟨base0, 0, none⟩), u3, .pointer (some ⟨g, 0, none⟩), .int .i64 (k : Int), u6, u7, u8, u9, u10, u11, u12, u13, u14, u15, u16, u17, u18, u19, u20, u21, u22, u23, u24, u25, u26, u27, u28, u29, u30, u31, u32, u33, u34, u35, u36, u37, u38, u39, u40, u41, u42, u43, u44, u45, u46, u47, u48, u49, u50, u51, u52, u53, u54, u55, u56, u57, u58, u59, u60, u61, u62, u63, u64, u65, u66, u67, u68, u69, u70, u71, u72, u73, u74, u75, u76, u77, u78, u79, u80, u81, u82, u83, u84, u85, u86, u87, u88, u89, u90, u91, u92, u93, u94, u95, u96, u97, u98, u99, u100, u101, u102, u103, u104, u105, u106, u107, u108, u109, u110, u111, u112, u113, u114, u115, u116, u117, u118, u119, u120, u121, u122, u123, u124, u125, u126, u127, u128, u129, u130, u131, u132, u133, u134, u135, u136, u137, u138, u139, u140, u141, u142, u143, u144, u145, u146, u147, u148, u149, u150, u151, u152, u153, u154, u155, u156, u157, u158, u159, u160, u161, u162, u163, u164, u165, u166, u167, u168, u169, u170, u171, u172, u173, u174, u175, u176, u177, u178, u179, u180, u181, u182, u183, u184, u185, u186, u187, u188, u189, u190, u191, u192, u193, u194, v195], []⟩ w') :
    (kidAt (codeOf Try.f19) [1, 1, 0, 1, 0, 0, 1, 0]).wp Try.prog (evPost KK) ⟨#[.slice (some ⟨ib, io, none⟩) l.length c, v1, .pointer (some ⟨base0, 0, none⟩), v3, .pointer (some ⟨g, 0, none⟩), .int .i64 (k : Int), v6, v7, v8, v9, v10, v11, v12, v13, v14, v15, v16, v17, v18, v19, v20, v21, v22, v23, v24, v25, v26, v27, v28, v29, v30, v31, v32, v33, v34, v35, v36, v37, v38, v39, v40, v41, v42, v43, v44, v45, v46, v47, v48, v49, v50, v51, v52, v53, v54, v55, v56, v57, v58, v59, v60, v61, v62, v63, v64, v65, v66, v67, v68, v69, v70, v71, v72, v73, v74, v75, v76, v77, v78, v79, v80, v81, v82, v83, v84, v85, v86, v87, v88, v89, v90, v91, v92, v93, v94, v95, v96, v97, v98, v99, v100, v101, v102, v103, v104, v105, v106, v107, v108, v109, v110, v111, v112, v113, v114, v115, v116, v117, v118, v119, v120, v121, v122, v123, v124, v125, v126, v127, v128, v129, v130, v131, v132, v133, v134, v135, v136, v137, v138, v139, v140, v141, v142, v143, v144, v145, v146, v147, v148, v149, v150, v151, v152, v153, v154, v155, v156, v157, v158, v159, v160, v161, v162, v163, v164, v165, v166, v167, v168, v169, v170, v171, v172, v173, v174, v175, v176, v177, v178, v179, v180, v181, v182, v183, v184, v185, v186, v187, v188, v189, v190, v191, v192, v193, v194, v195], []⟩ wr := by
  obtain ⟨i0, hi0, hz0, hz1, hz2⟩ := info_parts infoStr
  have HQ := Lib.hid hQ
  clear hQ
  dsimp only [kidAt, kid, codeOf, Try.f19, List.foldl]
  have hlow := lowF_lt l[k] 1048576 (by omega)
  obtain ⟨n, hn⟩ : ∃ n : Nat, lowF l[k] 1048576 = n := ⟨(lowF l[k] 1048576).toNat, by omega⟩
  rw [hn] at hlow
  have hns : nsOf l k = n := by
    unfold nsOf
    rw [List.getD_eq_getElem?_getD, List.getElem?_eq_getElem hlt]
    show (lowF l[k] 1048576).toNat = n
    rw [hn]; rfl
  have HNS := Lib.hid hns
  have HN := Lib.hid hn
  have hn1 : (n : Int) ≤ 9223372036854775807 := by have := hlow.2; omega
  have HBN : Bnd n := ⟨by have := hlow.2; omega⟩
  rw [hns] at hvk
  have HVK := Lib.hid hvk
  clear hns hn hlow hvk
  go_wp2_with fail
  refine (low_any _ _ _ (by omega)).mono ?_
  rintro e w1 ⟨rfl, rfl⟩
  rw [HN.out]
  go_upto_region 7 with fail
  go_cut [7, 8, 9] from 17 to 194 (fun s7 s8 s9 wx => ∃ (kk mo oo : Nat), s7 = .int .i64 kk ∧ s8 = .pointer (some ⟨g, mo, none⟩) ∧ s9 = .pointer (some ⟨g, oo, none⟩) ∧ ((kk = 0 ∧ n % 2 = 0 ∧ mo = 0 ∧ oo = 6) ∨ (kk = 1 ∧ n % 2 = 1 ∧ mo = 6 ∧ oo = 0)) ∧ Hid (PS wx (g + 1) g 0 6 (playF (nsOf l) k).1 (playF (nsOf l) k).2) ∧ Hid (Below g W0 wx))
  case first =>
    rcases Nat.mod_two_eq_zero_or_one n with hp2 | hp2
    · rw [show (n : Int) % 2 = 0 by omega]
      have HP2 := Lib.hid hp2
      clear hp2
      as_aux_lemma =>
      go_quiet (fail)
      go_wp2_with fail
      go_meet
      exact ⟨0, 0, 6, rfl, rfl, rfl, .inl ⟨rfl, HP2.out, rfl, rfl⟩, Lib.hid (hP.out.below (below_drewN (Below.refl _ _) _)), Lib.hid (below_drewN hB.out _)⟩
    · rw [show (n : Int) % 2 = 1 by omega]
      have HP2 := Lib.hid hp2
      clear hp2
      as_aux_lemma =>
      go_quiet (fail)
      go_wp2_with fail
      go_meet
      exact ⟨1, 6, 0, rfl, rfl, rfl, .inr ⟨rfl, HP2.out, rfl, rfl⟩, Lib.hid (hP.out.below (below_drewN (Below.refl _ _) _)), Lib.hid (below_drewN hB.out _)⟩
  case rest =>
    obtain ⟨kk, mo, oo, rfl, rfl, rfl, hor, hP2, hB2⟩ := hcut
    obtain ⟨me, other, hps, hlk, hlk', hs1, hs2, hw1, hw2, hfin⟩ := orient (nsOf l) k n kk mo oo g (g + 1) wc HNS.out (by omega) hor hP2.out
    have HFIN := Lib.hid hfin
    have HLK := Lib.hid hlk
    have HLK' := Lib.hid hlk'
    have HPS := Lib.hid hps
    have HOR := Lib.hid hor
    have hkk : kk ≤ 1 := by omega
    clear hfin hlk hlk' hps hor hP hB hP2 c0
    obtain ⟨A0, A1, A2, A3, B0, B1, B2, B3, c0, c1, c2, c3, d0, d1, d2, d3, ht, hr, hgb⟩ := HPS.out
    have HT := Lib.hid ht
    have HR := Lib.hid hr
    have hgl := ht.lt
    obtain ⟨m0, m1, m2, m3, m4, m5⟩ := two6 ht
    clear ht hr
    go_upto_if 40 with fail
    have HAT : Hid (atOf n me = if me.way.length = 0 then 0 else n / 16 % me.way.length) := Lib.hid rfl
    have hatl : 0 < me.way.length → atOf n me < me.way.length := fun h => by rw [HAT.out, if_neg (by omega)]; exact Nat.mod_lt _ h
    generalize hav : atOf n me = av at *
    have HAV := Lib.hid hav
    have HATL := Lib.hid hatl
    clear hav hatl
    go_cut [10] from 17 to 194 (fun s10 wx => s10 = .int .i64 av ∧ Hid (wc = wx))
    case first =>
      generalize me.way.length = wl at *
      by_cases hw0 : wl = 0
      · have hz : av = 0 := by rw [HAT.out, if_pos hw0]
        have HZ := Lib.hid hz
        clear hz
        subst hw0
        clear m0 m1 m2 m3 m4 hn1
        as_aux_lemma =>
        go_wp2_with fail
        go_meet
        exact ⟨by rw [HZ.out]; rfl, Lib.hid rfl⟩
      · have hz : av = n / 16 % wl := by rw [HAT.out, if_neg hw0]
        have HZ := Lib.hid hz
        have hwp : 0 < wl := by omega
        clear hz hw0 m0 m1 m2 m3 m4 hn1
        as_aux_lemma =>
        go_wp2_with fail
        go_meet
        exact ⟨by rw [HZ.out]; simp; exact at_core _ _ HBN, Lib.hid rfl⟩
    case rest =>
      obtain ⟨rfl, hwc⟩ := hcut
      obtain rfl := hwc.out
      go_upto_block 2 with fail
      have hv := HVK.out
      have hv2 : n / 2 % 8 = 4 ∨ n / 2 % 8 = 5 ∨ n / 2 % 8 = 6 := by omega
      have HV := Lib.hid hv
      clear hv
      obtain ⟨j0, hj0, jz0, jz1, jz2⟩ := info_parts infoFrame
      have hw900 : me.way.length ≤ 900 := by omega
      have hsl : me.fy.sent.length ≤ 100 := by obtain ⟨_, _, _, h3, _⟩ := HLK.out.base; omega
      have hhl : me.heard.length ≤ 100 := by have := HLK'.out.len; omega
      have HEV := Lib.hid (show evF k n kk me other = (hearAt n me, other) by unfold evF; rw [if_neg (by have := HV.out; omega), if_neg (by have := HV.out; omega), if_pos HV.out.2])
      rw [show (n : Int) / 2 % 8 = ((n / 2 % 8 : Nat) : Int) by omega]
      generalize n / 2 % 8 = v at *
      have b0 : ((v : Int) == 0) = false := by simp; omega
      have b1 : ((v : Int) == 1) = false := by simp; omega
      have b2 : ((v : Int) == 2) = false := by simp; omega
      have b3 : ((v : Int) == 3) = false := by simp; omega
      have e0 : (v == 0) = false := by simp; omega
      have e1 : (v == 1) = false := by simp; omega
      have e2 : (v == 2) = false := by simp; omega
      have e3 : (v == 3) = false := by simp; omega
      have HV2 := Lib.hid hv2
      clear hv2 hn1
      go_upto_if 132 with fail
      go_cut [132] from 17 to 194 (fun s132 wx => s132 = .bool true ∧ Hid (wc = wx))
      case first =>
        clear m0 m1 m2 m3 m4 m5
        rcases HV2.out with rfl | rfl | rfl
        all_goals
          as_aux_lemma =>
          go_wp2_with fail
          go_meet
          exact ⟨rfl, Lib.hid rfl⟩
      case rest =>
      obtain ⟨rfl, hwc⟩ := hcut
      obtain rfl := hwc.out
      clear hwc b0 b1 b2 b3 e0 e1 e2 e3
      by_cases hw0 : me.way.length = 0
      · have hd0 : ((me.way.length : Int) == 0) = true := by simp; exact List.eq_nil_of_length_eq_zero hw0
        have hd1 : (me.way.length == 0) = true := by simp; exact List.eq_nil_of_length_eq_zero hw0
        have hd2 : me.way = [] := List.eq_nil_of_length_eq_zero hw0
        have hhe : hearAt n me = me := by
          unfold hearAt
          rw [hd2]
          rfl
        have HHE := Lib.hid hhe
        clear hhe hd2 hw0
        clear m0 m1 m2 m3 m4
        as_aux_lemma =>
        go_wp2_with fail
        refine HQ.out _ _ _ _ _ _ _ _ _ _ _ _ _ _ _ _ _ _ _ _ _ _ _ _ _ _ _ _ _ _ _ _ _ _ _ _ _ _ _ _ _ _ _ _ _ _ _ _ _ _ _ _ _ _ _ _ _ _ _ _ _ _ _ _ _ _ _ _ _ _ _ _ _ _ _ _ _ _ _ _ _ _ _ _ _ _ _ _ _ _ _ _ _ _ _ _ _ _ _ _ _ _ _ _ _ _ _ _ _ _ _ _ _ _ _ _ _ _ _ _ _ _ _ _ _ _ _ _ _ _ _ _ _ _ _ _ _ _ _ _ _ _ _ _ _ _ _ _ _ _ _ _ _ _ _ _ _ _ _ _ _ _ _ _ _ _ _ _ _ _ _ _ _ _ _ _ _ _ _ _ _ _ _ _ _ _ _ _ _ _ _ (HFIN.out _ ?_) hB2.out
        rw [HEV.out, HHE.out]
        exact HPS.out
      · have hav : av < me.way.length := HATL.out (by omega)
        have hd0 : ((me.way.length : Int) == 0) = false := by simp; exact fun e => hw0 (by rw [e]; rfl)
        have hd1 : (me.way.length == 0) = false := by simp; exact fun e => hw0 (by rw [e]; rfl)
        obtain ⟨fb, fo, hA3, hfb, hcf⟩ := (own_rd HR.out.rm.r3).at_ (i := 0) (by rw [frow_len]; omega)
        subst hA3
        have f0 := hcf (av * 5 + 0) _ (frow_get' me.way av 0 hav (by omega))
        have f1 := hcf (av * 5 + 1) _ (frow_get' me.way av 1 hav (by omega))
        have f2 := hcf (av * 5 + 2) _ (frow_get' me.way av 2 hav (by omega))
        have f3 := hcf (av * 5 + 3) _ (frow_get' me.way av 3 hav (by omega))
        have f4 := hcf (av * 5 + 4) _ (frow_get' me.way av 4 hav (by omega))
        rw [← Nat.add_assoc] at f1 f2 f3 f4
        rw [Nat.add_zero] at f0
        simp only [fcells, List.getElem_cons_zero, List.getElem_cons_succ] at f0 f1 f2 f3 f4
        have hhe : hearAt n me = ⟨(hearF me.fy me.way[av]).1, me.sent, if (hearF me.fy me.way[av]).2.2 then me.heard ++ [(hearF me.fy me.way[av]).2.1] else me.heard, if n / 1024 % 2 = 0 then cutAt me.way av else me.way⟩ := by
          unfold hearAt
          rw [HAV.out, List.getElem?_eq_getElem hav]
        have HHE := Lib.hid hhe
        have hl3 := HR.out.rm.l3
        clear hcf hhe hw0
        generalize me.way[av] = m at *
        have CH := Lib.hid (fun W (hb : Below wc.heap.size wc W) => hear2_any me.fy.base A0 me.fy.sent c0 me.fy.want m.kind m.from_ m.to m.seq m.body W (HR.out.below hb).rm.r0 (by omega))
        rcases hrr : hearF me.fy m with ⟨f', s', is'⟩
        have hrr2 : hearF ⟨me.fy.base, me.fy.sent, me.fy.want⟩ ⟨m.kind, m.from_, m.to, m.seq, m.body⟩ = (f', s', is') := hrr
        rw [hrr2] at CH
        rw [hrr] at HHE
        clear hrr hrr2
        clear m3 m4
        go_upto_region 29 with fail
        go_cut [14, 15, 16] from 17 to 194 (fun s14 s15 s16 wx => ∃ (h : Nat) (A' : Option Addr) (c' : Nat), s14 = .pointer (some ⟨h, 0, none⟩) ∧ s15 = .string s' ∧ s16 = .bool is' ∧ Hid (Blk wx h #[.int .i64 f'.base, .slice A' f'.sent.length c', .int .i64 f'.want] 24) ∧ f'.sent.length ≤ c' ∧ Hid (Strs wx A' f'.sent) ∧ Hid (∀ ad, A' = some ad → wc.heap.size ≤ ad.block) ∧ Hid (Below wc.heap.size wc wx))
        case first =>
          go_region_law (first
            | (go_simp; go_at_call 12; refine (CH.out _ ((below_allocS (Below.refl _ _) _).drew)).mono ?_; rintro e w2 ⟨b2, A', L', c', v2, rfl, hF, hle', hs', hfr, hb2'⟩; have hb2 := below_of_alloc (below_of_drew hb2'); have GH := Lib.hid ((Blk.new wc #[.int .i64 0, .slice none 0 0, .int .i64 0] 24).drew.belowS hb2'); obtain ⟨z0, z1, z2⟩ := blk3 GH.out; obtain ⟨v0, v1, v2⟩ := blk3f GH.out; have hcase : wc.heap.size < w2.heap.size := GH.out.lt; go_simp)
            | (go_simp; go_at_call 12; refine (CH.out _ ((Below.refl _ _).drew)).mono ?_; rintro e w2 ⟨b2, A', L', c', v2, rfl, hF, hle', hs', hfr, hb2'⟩; have hb2 := below_of_drew hb2'; go_simp))
          all_goals
            as_aux_lemma =>
            go_wp2_with fail
            go_meet
            obtain ⟨rfl, rfl, rfl⟩ := Fy.mk.inj hF.out
            first
              | (have hG := GH.out
                 clear GH
                 have hfr2 : ∀ ad, A' = some ad → wc.heap.size + 1 ≤ ad.block := fun ad h => by have := hfr ad h; simpa using this
                 have hG3 := ((hG.set_ 0 (.int .i64 f'.base)).set_ 1 (.slice A' f'.sent.length c')).set_ 2 (.int .i64 f'.want)
                 have s1 := strs_kept hs' (grown_setCell w2 ⟨wc.heap.size, 0, none⟩ (.int .i64 f'.base)) (fresh_ne hfr2 (Nat.lt_succ_self _))
                 have s2 := strs_kept s1 (grown_setCell _ ⟨wc.heap.size, 1, none⟩ (.slice A' f'.sent.length c')) (fresh_ne hfr2 (Nat.lt_succ_self _))
                 have s3 := strs_kept s2 (grown_setCell _ ⟨wc.heap.size, 2, none⟩ (.int .i64 f'.want)) (fresh_ne hfr2 (Nat.lt_succ_self _))
                 have b3 := ((hb2.setCell (p := ⟨wc.heap.size, 0, none⟩) (Nat.le_refl _) (.int .i64 f'.base)).setCell (p := ⟨wc.heap.size, 1, none⟩) (Nat.le_refl _) (.slice A' f'.sent.length c')).setCell (p := ⟨wc.heap.size, 2, none⟩) (Nat.le_refl _) (.int .i64 f'.want)
                 exact ⟨wc.heap.size, A', c', rfl, rfl, rfl, Lib.hid hG3, hle', Lib.hid s3, Lib.hid (fun ad h => by have := hfr2 ad h; omega), Lib.hid b3⟩)
              | exact ⟨w2.heap.size, A', c', rfl, rfl, rfl, Lib.hid (Blk.new w2 _ _), hle', Lib.hid (hs'.alloc _), Lib.hid hfr, Lib.hid (below_allocS hb2 _)⟩
        case rest =>
          obtain ⟨h, A', c', rfl, rfl, rfl, hB5, hle5, hS5, hfr5, hb5⟩ := hcut
          clear m0 m1 m2 m5 f0 f1 f2 f3 f4 hd0 hd1
          generalize (some (⟨fb, fo, none⟩ : Addr)) = A3 at *
          have R5 := Lib.hid (HR.out.fy hb5.out f' A' c' hS5.out hle5 hfr5.out)
          have T5 := Lib.hid (HT.out.below hb5.out)
          have HB5 := Lib.hid (hB2.out.trans (hb5.out.mono (show g ≤ _ by omega)))
          have hgl5 := T5.out.lt
          obtain ⟨q0, q1, q2⟩ := blk3 hB5.out
          obtain ⟨m0, m1, m2, m3, m4, m5⟩ := two6 T5.out
          obtain ⟨p0, p1, p2, p3, p4, p5⟩ := two6f T5.out
          go_upto_if 162 with fail
          have R6 := Lib.hid (((R5.out.setg (p := ⟨g, mo, none⟩) hgb (.int .i64 f'.base)).setg (p := ⟨g, mo + 1, none⟩) hgb (.slice A' f'.sent.length c')).setg (p := ⟨g, mo + 2, none⟩) hgb (.int .i64 f'.want))
          have T6 := Lib.hid (((T5.out.set 0 (by omega) (.int .i64 f'.base)).set 1 (by omega) (.slice A' f'.sent.length c')).set 2 (by omega) (.int .i64 f'.want))
          have hbg : g ≤ g := Nat.le_refl g
          have HB6 := Lib.hid (((HB5.out.setCell (p := ⟨g, mo, none⟩) hbg (.int .i64 f'.base)).setCell (p := ⟨g, mo + 1, none⟩) hbg (.slice A' f'.sent.length c')).setCell (p := ⟨g, mo + 2, none⟩) hbg (.int .i64 f'.want))
          rw [Nat.add_zero] at T6
          generalize ((wc.setCell ⟨g, mo, none⟩ (.int .i64 f'.base)).setCell ⟨g, mo + 1, none⟩ (.slice A' f'.sent.length c')).setCell ⟨g, mo + 2, none⟩ (.int .i64 f'.want) = W6 at *
          clear m0 m1 m2 m3 m4 m5 p0 p1 p2 p3 p4 p5 q0 q1 q2 hB5
          go_cut [16] from 17 to 194 (fun s16 wx => s16 = .bool is' ∧ ∃ (H : List ByteArray) (A8 : Option Addr) (c8 : Nat), Hid (H = if is' then me.heard ++ [s'] else me.heard) ∧ Hid (Two wx g mo oo (sdCells ⟨f', me.sent, H, me.way⟩ A' A1 A8 A3 c' c1 c8 c3) (sdCells other B0 B1 B2 B3 d0 d1 d2 d3)) ∧ Hid (PSR wx (g + 1) ⟨f', me.sent, H, me.way⟩ other A' A1 A8 A3 B0 B1 B2 B3 c' c1 c8 c3 d0 d1 d2 d3) ∧ Hid (Below g W0 wx))
          case first =>
            obtain ⟨m0, m1, m2, m3, m4, m5⟩ := two6 T6.out
            obtain ⟨p0, p1, p2, p3, p4, p5⟩ := two6f T6.out
            cases is' with
            | false =>
              as_aux_lemma =>
              go_wp2_with fail
              go_meet
              exact ⟨rfl, me.heard, A2, c2, Lib.hid rfl, T6, R6, HB6⟩
            | true =>
              as_aux_lemma =>
              have hz6 : g + 1 ≤ W6.heap.size := R6.out.size
              have O6 := Lib.hid (show W6.ownsRow (g + 1) 9 1 (.slice A2 me.heard.length c2) me.heard.length (me.heard.map .string) from R6.out.rm.r2)
              have hgo : some g ≠ (Value.slice A2 me.heard.length c2).ownBlock := fun e => by have := (O6.out.lt g e.symm).1; omega
              have h16 : (me.heard.length + 1) * 16 ≤ 140737488355328 := by omega
              have h63 : me.heard.length + 1 ≤ maxLen := by unfold maxLen; omega
              go_wp2_with (at_builtin; refine wpList_app _ rfl _ _ _ rfl (g + 1) 9 i0 _ 1 16 Try.underlying22 hi0 hz0 hz1 hz2 rfl (by omega) (.slice A2 me.heard.length c2) me.heard.length (me.heard.map .string) rfl (O6.out.alloc _) (some ⟨W6.heap.size, 0, none⟩) 1 1 [.string s'] rfl (Rd.new W6 #[.string s'] 9) rfl (oneCell_string _) h16 h63 (by simp; omega) ?_; intro A7 c7 w7 hle7 hown7 hg7 hat7; have T7 := Lib.hid ((T6.out.below ((Below.refl _ _).alloc (Nat.le_refl _) (.cells #[.string s'] 9))).grown hg7 hgo); obtain ⟨s0, s1, s2, s3, s4, s5⟩ := two6 T7.out; obtain ⟨r0, r1, r2, r3, r4, r5⟩ := two6f T7.out)
              go_meet
              have e1 : me.heard.length + 1 = (me.heard ++ [s']).length := by simp
              have hown8 : w7.ownsRow (g + 1) 9 1 (.slice A7 (me.heard ++ [s']).length c7) (me.heard ++ [s']).length ((me.heard ++ [s']).map .string) := by simpa using hown7
              have P8 := ((R6.out.below ((Below.refl _ _).alloc (Nat.le_refl _) (.cells #[.string s'] 9))).app2 (me.heard ++ [s']) A7 c7 hown8 (by simpa using hle7) hg7 (by rw [blkOf_own, blkOf_own] at hat7; exact hat7)).setg (p := ⟨g, mo + 4, none⟩) hgb (.slice A7 (me.heard.length + 1) c7)
              have T8 := T7.out.set 4 (by omega) (.slice A7 (me.heard.length + 1) c7)
              have HB8 := Lib.hid (((HB6.out.alloc (by omega) _).grown hg7 (by simp; omega) (fun j hj => by have := (O6.out.lt j hj).1; omega)).setCell (p := ⟨g, mo + 4, none⟩) hbg (.slice A7 (me.heard.length + 1) c7))
              rw [e1] at T8 P8 HB8 ⊢
              exact ⟨rfl, me.heard ++ [s'], A7, c7, Lib.hid rfl, Lib.hid T8, Lib.hid P8, HB8⟩
          case rest =>
            obtain ⟨rfl, H, A8, c8, hH, hT8, hR8, hB8⟩ := hcut
            have HHE2 := Lib.hid (show hearAt n me = ⟨f', me.sent, H, if n / 1024 % 2 = 0 then cutAt me.way av else me.way⟩ by rw [hH.out]; exact HHE.out)
            clear hH HHE
            have HT9 := Lib.hid (show Two wc g mo oo [.int .i64 f'.base, .slice A' f'.sent.length c', .int .i64 f'.want, .slice A1 me.sent.length c1, .slice A8 H.length c8, .slice A3 me.way.length c3] (sdCells other B0 B1 B2 B3 d0 d1 d2 d3) from hT8.out)
            obtain ⟨m0, m1, m2, m3, m4, m5⟩ := two6 HT9.out
            obtain ⟨p0, p1, p2, p3, p4, p5⟩ := two6f HT9.out
            have hgl8 := hT8.out.lt
            clear m0 m1 m2 m3 m4
            go_upto_if 176 with fail
            have hn0 : n / 1024 % 2 = 0 ∨ n / 1024 % 2 = 1 := by omega
            rcases hn0 with hn0 | hn0
            ·
              rw [at_core2 n 0 HBN hn0]
              rw [if_pos hn0] at HHE2
              clear hn0
              have hcuta := fun W => run_cut0 (P := Try.prog) 35 26 Try.underlying35 j0 hj0 A3 me.way.length c3 av (av : Int) rfl (by omega) W
              have hcutb := fun W => run_cutS (P := Try.prog) 35 26 j0 5 Try.underlying35 hj0 jz1 A3 me.way.length c3 (av + 1) ((av : Int) + 1) (by omega) (by omega) W
              have q1 : IntKind.i64.wrap ((av : Int) + 1) = (av : Int) + 1 := IntWalk.i64_in _ (by omega)
              have RW := Lib.hid (fun W (hb : Below wc.heap.size wc W) => own_rd (hR8.out.below hb).rm.r3)
              have hla : (frow (me.way.take av)).length = av * 5 := by rw [frow_len, List.length_take, Nat.min_eq_left (by omega)]
              have hlb : (frow (me.way.drop (av + 1))).length = (me.way.length - (av + 1)) * 5 := by rw [frow_len, List.length_drop]
              have RDA := Lib.hid (fun W (hb : Below wc.heap.size wc W) => show Rd W A3 (frow (me.way.take av)) by rw [frow_take]; exact (RW.out W hb).take _)
              have RDB := Lib.hid (fun W (hb : Below wc.heap.size wc W) => show Rd W (cutS A3 c3 (av + 1) 5) (frow (me.way.drop (av + 1))) by rw [frow_drop]; exact (RW.out W hb).cutS (av + 1) 5 me.way.length (frow_len _) hl3)
              have HLA := Lib.hid hla
              have HLB := Lib.hid hlb
              have h48a : (0 + av) * 48 ≤ 140737488355328 := by omega
              have h63a : 0 + av ≤ maxLen := by unfold maxLen; omega
              have h48b : (av + (me.way.length - (av + 1))) * 48 ≤ 140737488355328 := by omega
              have h63b : av + (me.way.length - (av + 1)) ≤ maxLen := by unfold maxLen; omega
              have hwp : 0 < me.way.length := by omega
              clear hla hlb
              go_upto_region 34 with fail
              go_region_law (first
                | (refine step_app _ (by rfl) _ _ _ (by rfl) wc.heap.size 26 j0 _ 5 48 Try.underlying35 hj0 jz0 jz1 jz2 rfl (by omega) (.slice A6 av c6) av (frow (me.way.take av)) (by rfl) O6.out (cutS A3 c3 (av + 1) 5) (me.way.length - (av + 1)) (c3 - (av + 1)) (frow (me.way.drop (av + 1))) (by rfl) (RDB.out _ HB6.out) HLB.out (frow_one _) h48b h63b (by exact HB6.out.size) ?_; intro A7 c7 w3 hle7 hown7 hg7 hat7; have HB7 := Lib.hid (HB6.out.grown hg7 (by exact HB6.out.size) (fun j hj => (O6.out.lt j hj).1)); obtain ⟨s0, s1, s2, s3, s4, s5⟩ := two6 (HT9.out.below HB7.out); obtain ⟨r0, r1, r2, r3, r4, r5⟩ := two6f (HT9.out.below HB7.out))
                | (refine step_app _ (by rfl) _ _ _ (by rfl) wc.heap.size 26 j0 _ 5 48 Try.underlying35 hj0 jz0 jz1 jz2 rfl (by omega) (.slice none 0 0) 0 [] (by rfl) (World.ownsRow_nil _ _ _ _) A3 av c3 (frow (me.way.take av)) (by rfl) (RDA.out _ ((Below.refl _ _).drew)) HLA.out (frow_one _) h48a h63a (by exact Nat.le_refl _) ?_; intro A6 c6 w2 hle6 hown6 hg6 hat6; have O6 := Lib.hid (show w2.ownsRow wc.heap.size 26 5 (.slice A6 av c6) av (frow (me.way.take av)) by simpa using hown6); have HB6 := Lib.hid (below_of_drew (below_grown_none hg6)); obtain ⟨z0, z1, z2, z3, z4, z5⟩ := two6 (HT9.out.below HB6.out); obtain ⟨v0, v1, v2, v3, v4, v5⟩ := two6f (HT9.out.below HB6.out)))
              all_goals
                as_aux_lemma =>
                go_wp2_with fail
                have el : (cutAt me.way av).length = av + (me.way.length - (av + 1)) := by unfold cutAt; rw [List.length_append, List.length_take, List.length_drop, Nat.min_eq_left (by omega)]
                have hown8 : w3.ownsRow wc.heap.size 26 5 (.slice A7 (cutAt me.way av).length c7) (cutAt me.way av).length (frow (cutAt me.way av)) := by rw [el]; unfold cutAt; rw [frow_append]; exact hown7
                have P3 := (hR8.out.way HB7.out (cutAt me.way av) A7 c7 hown8 (by rw [el]; exact hle7)).setg (p := ⟨g, mo + 5, none⟩) hgb (.slice A7 (av + (me.way.length - (av + 1))) c7)
                have T4 := (HT9.out.below HB7.out).set 5 (by omega) (.slice A7 (av + (me.way.length - (av + 1))) c7)
                refine HQ.out _ _ _ _ _ _ _ _ _ _ _ _ _ _ _ _ _ _ _ _ _ _ _ _ _ _ _ _ _ _ _ _ _ _ _ _ _ _ _ _ _ _ _ _ _ _ _ _ _ _ _ _ _ _ _ _ _ _ _ _ _ _ _ _ _ _ _ _ _ _ _ _ _ _ _ _ _ _ _ _ _ _ _ _ _ _ _ _ _ _ _ _ _ _ _ _ _ _ _ _ _ _ _ _ _ _ _ _ _ _ _ _ _ _ _ _ _ _ _ _ _ _ _ _ _ _ _ _ _ _ _ _ _ _ _ _ _ _ _ _ _ _ _ _ _ _ _ _ _ _ _ _ _ _ _ _ _ _ _ _ _ _ _ _ _ _ _ _ _ _ _ _ _ _ _ _ _ _ _ _ _ _ _ _ _ _ _ _ _ _ _ (HFIN.out _ ?_) ((hB8.out.trans (HB7.out.mono (by omega))).setCell hbg _)
                rw [HEV.out, HHE2.out]
                rw [← el] at T4 P3 ⊢
                exact ⟨A', A1, A8, A7, B0, B1, B2, B3, c', c1, c8, c7, d0, d1, d2, d3, T4, P3, hgb⟩
            · as_aux_lemma =>
              rw [at_core2 n 1 HBN hn0]
              rw [if_neg (by omega)] at HHE2
              clear hn0
              go_wp2_with fail
              refine HQ.out _ _ _ _ _ _ _ _ _ _ _ _ _ _ _ _ _ _ _ _ _ _ _ _ _ _ _ _ _ _ _ _ _ _ _ _ _ _ _ _ _ _ _ _ _ _ _ _ _ _ _ _ _ _ _ _ _ _ _ _ _ _ _ _ _ _ _ _ _ _ _ _ _ _ _ _ _ _ _ _ _ _ _ _ _ _ _ _ _ _ _ _ _ _ _ _ _ _ _ _ _ _ _ _ _ _ _ _ _ _ _ _ _ _ _ _ _ _ _ _ _ _ _ _ _ _ _ _ _ _ _ _ _ _ _ _ _ _ _ _ _ _ _ _ _ _ _ _ _ _ _ _ _ _ _ _ _ _ _ _ _ _ _ _ _ _ _ _ _ _ _ _ _ _ _ _ _ _ _ _ _ _ _ _ _ _ _ _ _ _ _ (HFIN.out _ ?_) hB8.out
              rw [HEV.out, HHE2.out]
              exact ⟨A', A1, A8, A3, B0, B1, B2, B3, c', c1, c8, c3, d0, d1, d2, d3, hT8.out, hR8.out, hgb⟩
end Go.Proofs.Ytnjfphfkjapemaa
