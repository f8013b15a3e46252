/- All frames of one side come to the other one (k = 1): the body of FerryCalm's loop over the sides. -/
import Derived.Test.YtnjfphfkjapemaaCalmF1
namespace Go.Proofs.Ytnjfphfkjapemaa
open Go.RowKit

set_option maxRecDepth 100000 in
set_option maxHeartbeats 20000000 in
theorem calmH1 (KK : Act → World → Prop) (B base g : Nat) (W0 wr : World) (me other : Sd) (v0 v1 v2 v4 v5 v6 v8 v9 v10 v11 v12 v13 v14 v15 v16 v17 v18 v19 v20 v21 v22 v23 v24 v25 v26 v27 v28 v29 v30 v31 v32 v33 v34 v35 v36 v37 v38 v39 v40 v41 v42 v43 v44 v45 v46 v47 v48 v49 v50 v51 v52 v53 v54 v55 v56 v57 v58 v59 v60 v61 v62 v63 v64 v65 v66 v67 v68 v69 v70 v71 v72 v73 v74 v75 v76 v77 v78 v79 v80 v81 v82 v83 v84 v85 v86 v87 v88 v89 v90 v91 v92 v93 v94 v95 v96 v97 v98 v99 v100 v101 v102 v103 v104 v105 v106 v107 v108 v109 v110 v111 v112 v113 v114 v115 v116 v117 v118 v119 v120 v121 v122 v123 v124 v125 v126 v127 : Value) (hlk : Lk other me) (hlk' : Lk me other) (hm : me.sent.length ≤ 60) (ho : other.sent.length ≤ 60) (hBb : B ≤ base) (hBg : B ≤ g)
    (hP : Hid (CS wr base g 0 6 me other)) (hB : Hid (Below B W0 wr))
    (hQ : ∀ (u8 u9 u10 u11 u12 u47 u48 u49 u50 u51 u52 u53 u54 u55 u56 u57 u58 u59 u60 u61 u62 u63 u64 u65 u66 u67 u68 u69 u70 u71 u72 u73 u74 u75 u76 u77 u78 u79 u80 u81 u82 u83 u84 u85 u86 u87 u88 u89 u90 u91 u92 : Value) (w' : World), CS w' base g 0 6 (half 1 other me) other → Below B W0 w' → KK ⟨#[v0, v1, v2, .pointer (some ⟨g, 0, none⟩), v4, v5, v6, .int .i64 1, u8, u9, u10, u11, u12, v13, v14, v15, v16, v17, v18, v19, v20, v21, v22, v23, v24, v25, v26, v27, v28, v29, v30, v31, v32, v33, v34, v35, v36, v37, v38, v39, v40, v41, v42, v43, v44, v45, v46, u47, u48, u49, u50, u51, u52, u53, u54, u55, u56, u57, u58, u59, u60, u61, u62, u63, u64, u65, u66, u67, u68, u69, u70, u71, u72, u73, u74, u75, u76, u77, u78, u79, u80, u81, u82, u83, u84, u85, u86, u87, u88, u89, u90, u91, u92, v93, v94, v95, v96, v97, v98, v99, v100, v101, v102, v103, v104, v105, v106, v107, v108, v109, v110, v111, v112, v113, v114, v115, v116, v117, v118, v119, v120, v121, v122, v123, v124, v125, v126, v127], []⟩ w') :
    (kidAt (codeOf Try.f5) [1, 1, 1, 1, 1, 0, 1, 0, 0, 1, 0, 0, 1, 0, 0, 1, 0]).wp Try.prog (evPost KK) ⟨#[v0, v1, v2, .pointer (some ⟨g, 0, none⟩), v4, v5, v6, .int .i64 1, v8, v9, v10, v11, v12, v13, v14, v15, v16, v17, v18, v19, v20, v21, v22, v23, v24, v25, v26, v27, v28, v29, v30, v31, v32, v33, v34, v35, v36, v37, v38, v39, v40, v41, v42, v43, v44, v45, v46, v47, v48, v49, v50, v51, v52, v53, v54, v55, v56, v57, v58, v59, v60, v61, v62, v63, v64, v65, v66, v67, v68, v69, v70, v71, v72, v73, v74, v75, v76, v77, v78, v79, v80, v81, v82, v83, v84, v85, v86, v87, v88, v89, v90, v91, v92, v93, v94, v95, v96, v97, v98, v99, v100, v101, v102, v103, v104, v105, v106, v107, v108, v109, v110, v111, v112, v113, v114, v115, v116, v117, v118, v119, v120, v121, v122, v123, v124, v125, v126, v127], []⟩ wr := by
  have HQ := Lib.hid hQ
  clear hQ
  dsimp only [kidAt, kid, codeOf, Try.f5, List.foldl]
  obtain ⟨A0, A1, A2, A3, B0, B1, B2, B3, c0, c1, c2, c3, d0, d1, d2, d3, ht, hr⟩ := hP.out
  have HT := Lib.hid (show Two wr g 6 0 [.int .i64 other.fy.base, .slice B0 other.fy.sent.length d0, .int .i64 other.fy.want, .slice B1 other.sent.length d1, .slice B2 other.heard.length d2, .slice B3 other.way.length d3] (sdCells me A0 A1 A2 A3 c0 c1 c2 c3) from ht.swap)
  have HR := Lib.hid hr
  have hgl := ht.lt
  obtain ⟨⟨m0, m1, m2, m4⟩, p0, p1, p2, p4⟩ := two66 HT.out
  have HBb := Lib.hid hBb
  have HBg := Lib.hid hBg
  have hfs : other.fy.sent.length ≤ 60 := by obtain ⟨_, _, _, h3, _⟩ := hlk.base; omega
  have CF := Lib.hid (frames_any other.fy.base B0 other.fy.sent d0 other.fy.want 1 0 wr HR.out.p.ro.r0 (by omega))
  have HOK := Lib.hid (fun m (h : m ∈ framesF other.fy 1 0) => framesF_ok hlk hlk' (hlk.may hlk' (by omega) (by omega)) h)
  have HLK := Lib.hid hlk
  have HLK' := Lib.hid hlk'
  have HSZ := Lib.hid (And.intro hm ho)
  clear ht hr hBb hBg hlk hlk' hm ho hfs
  go_wp2_with fail
  refine CF.out.mono ?_
  rintro e w2 ⟨A, L, c, rfl, hL, hle, hown, hb2⟩
  have hL9 : L.length ≤ 9 := by rw [hL.out]; exact framesF_le _ _ _
  have HB2 := Lib.hid (hB.out.trans (hb2.mono (show B ≤ wr.heap.size by have := HBg.out; omega)))
  have HP2 := Lib.hid (hP.out.below hb2)
  have HF2 : Hid (FR w2 A c L) := Lib.hid ⟨_, hown⟩
  clear hown hb2 CF m0 m1 m2 m4 p0 p1 p2 p4 hle hgl
  go_wp2_with fail
  go_loopw [9] (fun s wx => ∃ (j : Nat), j ≤ L.length ∧ s = .int .i64 j ∧ Hid (CS wx base g 0 6 ((L.take j).foldl hearS me) other) ∧ Hid (FR wx A c L) ∧ Hid (Below B W0 wx)) (fun s _ => L.length - (intOf s).toNat)
  case atStart => exact ⟨0, by omega, rfl, HP2, HF2, HB2⟩
  case round =>
    obtain ⟨j, hj, rfl, hP3, hF3, hB3⟩ := hrel
    by_cases hlt : j < L.length
    · obtain ⟨me', hme⟩ : ∃ x, x = (L.take j).foldl hearS me := ⟨_, rfl⟩
      obtain ⟨r1, r2, r3, r4, r5⟩ := hears other (by have := HSZ.out.2; omega) (L.take j) me (fun m h => HOK.out m (by rw [← hL.out]; exact List.mem_of_mem_take h)) (by have := HSZ.out.1; omega) HLK.out HLK'.out
      have hnx : (L.take (j + 1)).foldl hearS me = hearS ((L.take j).foldl hearS me) L[j] := by rw [List.take_succ_eq_append_getElem hlt, List.foldl_append]; rfl
      rw [← hme] at hP3 r1 r2 r3 hnx
      have HNX := Lib.hid hnx
      have hs1 : me'.fy.sent.length ≤ 100 := by obtain ⟨_, _, _, h3, _⟩ := r2.base; have := HSZ.out.1; rw [r3] at h3; omega
      have hs2 : me'.heard.length ≤ 100 := by have := r1.len; have := HSZ.out.2; omega
      clear r1 r2 r3 r4 r5 hme hnx
      go_upto_block 5 with fail
      refine ev_lift (calmF1 _ B base g j c W0 _ me' other A L _ _ _ _ _ _ _ _ _ _ _ _ _ _ _ _ _ _ _ _ _ _ _ _ _ _ _ _ _ _ _ _ _ _ _ _ _ _ _ _ _ _ _ _ _ _ _ _ _ _ _ _ _ _ _ _ _ _ _ _ _ _ _ _ _ _ _ _ _ _ _ _ _ _ _ _ _ _ _ _ _ _ _ _ _ _ _ _ _ _ _ _ _ _ _ _ _ _ _ _ _ _ _ _ _ _ _ _ _ _ _ _ _ _ _ _ _ _ _ _ _ _ _ _  hlt (by omega) hs1 hs2 HBb.out HBg.out hP3 hF3 hB3 ?_)
      intros
      rename_i hp' hf' hb'
      have HP' := Lib.hid hp'
      have HF' := Lib.hid hf'
      have HB' := Lib.hid hb'
      clear hp' hf' hb' hP3 hF3 hB3 hs1 hs2
      go_wp2_with fail
      exact ⟨⟨j + 1, by omega, by go_num, by rw [HNX.out]; exact HP', HF', HB'⟩, by simp [intOf]; omega⟩
    · have hje : j = L.length := by omega
      subst hje
      go_wp2_with fail
      refine HQ.out _ _ _ _ _ _ _ _ _ _ _ _ _ _ _ _ _ _ _ _ _ _ _ _ _ _ _ _ _ _ _ _ _ _ _ _ _ _ _ _ _ _ _ _ _ _ _ _ _ _ _  _ ?_ hB3.out
      have e : half 1 other me = (L.take L.length).foldl hearS me := by rw [List.take_length, hL.out]; rfl
      rw [e]
      exact hP3.out
end Go.Proofs.Ytnjfphfkjapemaa
