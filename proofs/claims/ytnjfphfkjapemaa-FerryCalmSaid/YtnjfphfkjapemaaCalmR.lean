/- One round: all frames of the first side come, then all frames of the second side: the body of FerryCalm's outermost loop. -/
import Derived.Test.YtnjfphfkjapemaaCalmH0
import Derived.Test.YtnjfphfkjapemaaCalmH1
namespace Go.Proofs.Ytnjfphfkjapemaa
open Go.RowKit

/-- The two sides behind k halves of a round. -/
def halves (k : Nat) (y : Sd × Sd) : Sd × Sd := if k = 0 then y else if k = 1 then (y.1, half 0 y.1 y.2) else round y
set_option maxRecDepth 100000 in
set_option maxHeartbeats 20000000 in
theorem calmR (KK : Act → World → Prop) (B base g : Nat) (W0 wr : World) (y : Sd × Sd) (v0 v1 v2 v4 v5 v6 v7 v8 v9 v10 v11 v12 v13 v14 v15 v16 v17 v18 v19 v20 v21 v22 v23 v24 v25 v26 v27 v28 v29 v30 v31 v32 v33 v34 v35 v36 v37 v38 v39 v40 v41 v42 v43 v44 v45 v46 v47 v48 v49 v50 v51 v52 v53 v54 v55 v56 v57 v58 v59 v60 v61 v62 v63 v64 v65 v66 v67 v68 v69 v70 v71 v72 v73 v74 v75 v76 v77 v78 v79 v80 v81 v82 v83 v84 v85 v86 v87 v88 v89 v90 v91 v92 v93 v94 v95 v96 v97 v98 v99 v100 v101 v102 v103 v104 v105 v106 v107 v108 v109 v110 v111 v112 v113 v114 v115 v116 v117 v118 v119 v120 v121 v122 v123 v124 v125 v126 v127 : Value) (hlk : Lk y.1 y.2) (hlk' : Lk y.2 y.1) (h1 : y.1.sent.length ≤ 60) (h2 : y.2.sent.length ≤ 60) (hBb : B ≤ base) (hBg : B ≤ g)
    (hP : Hid (CS wr base g 0 6 y.1 y.2)) (hB : Hid (Below B W0 wr))
    (hQ : ∀ (u7 u8 u9 u10 u11 u12 u43 u44 u45 u46 u47 u48 u49 u50 u51 u52 u53 u54 u55 u56 u57 u58 u59 u60 u61 u62 u63 u64 u65 u66 u67 u68 u69 u70 u71 u72 u73 u74 u75 u76 u77 u78 u79 u80 u81 u82 u83 u84 u85 u86 u87 u88 u89 u90 u91 u92 : Value) (w' : World), CS w' base g 0 6 (round y).1 (round y).2 → Below B W0 w' → KK ⟨#[v0, v1, v2, .pointer (some ⟨g, 0, none⟩), v4, v5, v6, u7, u8, u9, u10, u11, u12, v13, v14, v15, v16, v17, v18, v19, v20, v21, v22, v23, v24, v25, v26, v27, v28, v29, v30, v31, v32, v33, v34, v35, v36, v37, v38, v39, v40, v41, v42, u43, u44, u45, u46, u47, u48, u49, u50, u51, u52, u53, u54, u55, u56, u57, u58, u59, u60, u61, u62, u63, u64, u65, u66, u67, u68, u69, u70, u71, u72, u73, u74, u75, u76, u77, u78, u79, u80, u81, u82, u83, u84, u85, u86, u87, u88, u89, u90, u91, u92, v93, v94, v95, v96, v97, v98, v99, v100, v101, v102, v103, v104, v105, v106, v107, v108, v109, v110, v111, v112, v113, v114, v115, v116, v117, v118, v119, v120, v121, v122, v123, v124, v125, v126, v127], []⟩ w') :
    (kidAt (codeOf Try.f5) [1, 1, 1, 1, 1, 0, 1, 0, 0, 1, 0]).wp Try.prog (evPost KK) ⟨#[v0, v1, v2, .pointer (some ⟨g, 0, none⟩), v4, v5, v6, v7, v8, v9, v10, v11, v12, v13, v14, v15, v16, v17, v18, v19, v20, v21, v22, v23, v24, v25, v26, v27, v28, v29, v30, v31, v32, v33, v34, v35, v36, v37, v38, v39, v40, v41, v42, v43, v44, v45, v46, v47, v48, v49, v50, v51, v52, v53, v54, v55, v56, v57, v58, v59, v60, v61, v62, v63, v64, v65, v66, v67, v68, v69, v70, v71, v72, v73, v74, v75, v76, v77, v78, v79, v80, v81, v82, v83, v84, v85, v86, v87, v88, v89, v90, v91, v92, v93, v94, v95, v96, v97, v98, v99, v100, v101, v102, v103, v104, v105, v106, v107, v108, v109, v110, v111, v112, v113, v114, v115, v116, v117, v118, v119, v120, v121, v122, v123, v124, v125, v126, v127], []⟩ wr := by
  have HQ := Lib.hid hQ
  have HBase := Lib.hid hBb
  have HBg := Lib.hid hBg
  have HL := Lib.hid (And.intro hlk hlk')
  have HS := Lib.hid (And.intro h1 h2)
  clear hQ hBb hBg hlk hlk' h1 h2
  dsimp only [kidAt, kid, codeOf, Try.f5, List.foldl]
  go_wp2_with fail
  go_loopw [7] (fun s wx => ∃ (k : Nat), k ≤ 2 ∧ s = .int .i64 k ∧ Hid (CS wx base g 0 6 (halves k y).1 (halves k y).2) ∧ Hid (Below B W0 wx)) (fun s _ => 2 - (intOf s).toNat)
  case atStart => exact ⟨0, by omega, rfl, hP, hB⟩
  case round =>
    obtain ⟨k, hk, rfl, hP2, hB2⟩ := hrel
    by_cases hlk : k < 2
    · have hk2 : k = 0 ∨ k = 1 := by omega
      go_upto_block 3 with fail
      rcases hk2 with rfl | rfl
      · refine ev_lift (calmH0 _ B base g W0 _ y.2 y.1 _ _ _ _ _ _ _ _ _ _ _ _ _ _ _ _ _ _ _ _ _ _ _ _ _ _ _ _ _ _ _ _ _ _ _ _ _ _ _ _ _ _ _ _ _ _ _ _ _ _ _ _ _ _ _ _ _ _ _ _ _ _ _ _ _ _ _ _ _ _ _ _ _ _ _ _ _ _ _ _ _ _ _ _ _ _ _ _ _ _ _ _ _ _ _ _ _ _ _ _ _ _ _ _ _ _ _ _ _ _ _ _ _ _ _ _ _ _ _ _ _ _ _ _ _ _  HL.out.1 HL.out.2 HS.out.2 HS.out.1 HBase.out HBg.out (Lib.hid (CS.swap hP2.out)) hB2 ?_)
        intros
        rename_i hp' hb'
        have HP' := Lib.hid hp'
        have HB' := Lib.hid hb'
        clear hp' hb' hP2 hB2 hP hB
        go_wp2_with fail
        exact ⟨⟨1, by omega, by go_num, Lib.hid (CS.swap HP'.out), HB'⟩, by simp [intOf]⟩
      · have hh := half_ok 0 y.1 y.2 (by have := HS.out.1; omega) (by have := HS.out.2; omega) HL.out.1 HL.out.2
        refine ev_lift (calmH1 _ B base g W0 _ y.1 (half 0 y.1 y.2) _ _ _ _ _ _ _ _ _ _ _ _ _ _ _ _ _ _ _ _ _ _ _ _ _ _ _ _ _ _ _ _ _ _ _ _ _ _ _ _ _ _ _ _ _ _ _ _ _ _ _ _ _ _ _ _ _ _ _ _ _ _ _ _ _ _ _ _ _ _ _ _ _ _ _ _ _ _ _ _ _ _ _ _ _ _ _ _ _ _ _ _ _ _ _ _ _ _ _ _ _ _ _ _ _ _ _ _ _ _ _ _ _ _ _ _ _ _ _ _ _ _ _ _ _ _  hh.2.1 hh.1 HS.out.1 (by rw [hh.2.2.1]; exact HS.out.2) HBase.out HBg.out hP2 hB2 ?_)
        intros
        rename_i hp' hb'
        have HP' := Lib.hid hp'
        have HB' := Lib.hid hb'
        clear hp' hb' hP2 hB2 hP hB hh
        go_wp2_with fail
        exact ⟨⟨2, by omega, by go_num, HP', HB'⟩, by simp [intOf]⟩
    · have hke : k = 2 := by omega
      subst hke
      go_wp2_with fail
      exact HQ.out _ _ _ _ _ _ _ _ _ _ _ _ _ _ _ _ _ _ _ _ _ _ _ _ _ _ _ _ _ _ _ _ _ _ _ _ _ _ _ _ _ _ _ _ _ _ _ _ _ _ _ _ _ _ _ _  _ hP2.out hB2.out
end Go.Proofs.Ytnjfphfkjapemaa
