/- Contract: reparteeref36.ReadNote. -/
import Derived.Test.YtfaophiaiflecaaNtRd4
import Derived.Test.YtfaophiaiflecaaNtRText3
import Derived.Test.YtfaophiaiflecaaNtLaw2
namespace Go.Proofs.Ytfaophiaiflecaa
open Go.RowKit
set_option linter.unusedVariables false

theorem may_env {x : Nt} (h : mayF x = true) : x.env.length ≤ 20 := by
  rw [mayF, Bool.and_eq_true, decide_eq_true_eq] at h
  obtain ⟨h1, h2⟩ := h
  have he := congrArg Nt.env h2
  by_cases k8 : x.kind = 8
  · unfold okF at h1
    rw [if_neg (by omega), if_neg (by omega), if_neg (by omega), if_neg (by omega), if_neg (by omega), if_pos k8] at h1
    simp only [prB, envF, Bool.and_eq_true, decide_eq_true_eq] at h1
    omega
  · unfold onlyF at he
    split at he
    · rw [he]; simp
    split at he
    · rw [he]; simp
    split at he
    · rw [he]; simp
    split at he
    · rw [he]; simp
    split at he
    · rw [he]; simp
    · rename_i n1 n2 n3 n4 n5
      unfold okF at h1
      rw [if_neg n1, if_neg n2, if_neg n3, if_neg n4, if_neg n5, if_neg k8] at h1
      cases h1
theorem rn_none {s : ByteArray} (h : oneNt s.data.toList = none) : readNoteF s = (zNt, 3800) := by
  unfold readNoteF
  split
  · rfl
  · rw [h]
theorem rn_more {s : ByteArray} {x : Nt} {r : List UInt8} (h : oneNt s.data.toList = some (x, r)) (hr : r ≠ []) : readNoteF s = (zNt, 3800) := by
  unfold readNoteF
  split
  · rfl
  · rw [h]
    dsimp only
    rw [if_neg (fun e => hr e.1)]
theorem rn_size {s : ByteArray} {x : Nt} (h : oneNt s.data.toList = some (x, [])) : s.data.toList = noteB x := by
  have := (oneNt_fore h).1
  rwa [List.append_nil] at this
theorem rn_bad {s : ByteArray} {x : Nt} (h : oneNt s.data.toList = some (x, [])) (ht : (noteTF x).2 ≠ 0) : readNoteF s = (zNt, 3800) := by
  have hs := rn_size h
  have hz := ba_size s
  unfold noteTF at ht
  unfold readNoteF
  split
  · rfl
  · rename_i h4
    rw [h]
    dsimp only
    rw [if_neg]
    rintro ⟨_, hm⟩
    rw [if_pos hm] at ht
    split at ht
    · rename_i h5
      rw [hz, hs] at h4
      omega
    · exact ht rfl
theorem rn_ok {s : ByteArray} {x : Nt} (h : oneNt s.data.toList = some (x, [])) (ht : (noteTF x).2 = 0) : readNoteF s = (x, 0) ∧ (noteTF x).1 = s := by
  have hs := rn_size h
  have hz := ba_size s
  unfold noteTF at ht ⊢
  split at ht
  · rename_i hm
    rw [if_pos hm]
    split at ht
    · cases ht
    · rename_i h5
      rw [if_neg h5]
      constructor
      · unfold readNoteF
        rw [if_neg (by rw [hz, hs]; exact h5), h]
        dsimp only
        rw [if_pos ⟨rfl, hm⟩]
      · show (⟨(noteB x).toArray⟩ : ByteArray) = s
        rw [← hs]
  · cases ht
set_option maxRecDepth 100000 in
set_option maxHeartbeats 16000000 in
theorem rreadNote_any (s : ByteArray) (w : World) (hs : s.size ≤ 1000000) :
    Calls Try.prog 21 #[.string s] w fun e w' => ∃ A c E d, e = .returned (.tuple #[.agg ((readNoteF s).1.cells A c E d), .int .i64 (readNoteF s).2]) ∧ NtAt w' (readNoteF s).1 A E ∧ Below w.heap.size w w' := by
  obtain ⟨W0, hW0⟩ : ∃ W0, W0 = (w.alloc (.cells #[.int .i64 0, .string ⟨#[]⟩, .string ⟨#[]⟩, .int .i64 0, .string ⟨#[]⟩, .string ⟨#[]⟩, .int .i64 0, .int .i64 0, .string ⟨#[]⟩, .slice none 0 0, .int .i64 0, .slice none 0 0] 41)).alloc (.cells #[.string s, .bool false] 79) := ⟨_, rfl⟩
  have e0 : W0.heap.size = w.heap.size + 2 := by rw [hW0]; simp
  have HB0 := Lib.hid (show Below w.heap.size w W0 by rw [hW0]; exact below_allocS (below_allocS (Below.refl _ _) _) _)
  have HZ0 := Lib.hid (show Blk W0 w.heap.size #[.int .i64 0, .string ⟨#[]⟩, .string ⟨#[]⟩, .int .i64 0, .string ⟨#[]⟩, .string ⟨#[]⟩, .int .i64 0, .int .i64 0, .string ⟨#[]⟩, .slice none 0 0, .int .i64 0, .slice none 0 0] 41 by rw [hW0]; exact (Blk.new w _ _).alloc _)
  have HR0 := Lib.hid (show Blk W0 (w.heap.size + 1) #[.string s, .bool false] 79 by
    have h := Blk.new (w.alloc (.cells #[.int .i64 0, .string ⟨#[]⟩, .string ⟨#[]⟩, .int .i64 0, .string ⟨#[]⟩, .string ⟨#[]⟩, .int .i64 0, .int .i64 0, .string ⟨#[]⟩, .slice none 0 0, .int .i64 0, .slice none 0 0] 41)) #[.string s, .bool false] 79
    rw [World.size_alloc] at h
    rw [hW0]; exact h)
  have HW := Lib.hid hW0
  clear hW0
  have C1 := Lib.hid (rnote_any (w.heap.size + 1) s false W0 HR0.out hs)
  have HN := Lib.hid (fun h => rn_none (s := s) h)
  have HM := Lib.hid (fun x r h hr => rn_more (s := s) (x := x) (r := r) h hr)
  have HBD := Lib.hid (fun x h hr => rn_bad (s := s) (x := x) h hr)
  have HOK := Lib.hid (fun x h hr => rn_ok (s := s) (x := x) h hr)
  generalize readNoteF s = res at *
  go_enter Try.func21, Try.ntmps21
  go_wp2_with fail
  rw [← HW.out]
  refine C1.out.mono ?_
  rintro e w1 ⟨⟨xk, xag, xse, xst, xpe, xla, ⟨xvk, xvn, xvs, xvl⟩, xpr, xen⟩, A, c, E, d, s', b', rfl, st, hnx, hq1, hq2, hq3, hok, rb⟩
  dsimp only [Nt.cells]
  have B1 := Lib.hid (HB0.out.grown rb.gr HB0.out.size (fun k hk => by injection hk with hk; omega))
  have hl1 := rb.blk.lt
  have HZ1 := Lib.hid (HZ0.out.grown rb.gr (by simp))
  have HR1 := Lib.hid rb.blk
  have HST := Lib.hid st
  have HX1 := Lib.hid (hnx.below (below_allocS (Below.refl _ _) (.cells #[.int .i64 xk, .string xag, .string xse, .int .i64 xst, .string xpe, .string xla, .int .i64 xvk, .int .i64 xvn, .string xvs, .slice A xvl.length c, .int .i64 xpr, .slice E xen.length d] 41)))
  have HAT := Lib.hid (HX1.out.at hq1 hq2 hq3)
  have HQ := Lib.hid (show _ ∧ _ ∧ _ from ⟨hq1, hq2, hq3⟩)
  have HV1 := Lib.hid (Blk.new w1 #[.int .i64 xk, .string xag, .string xse, .int .i64 xst, .string xpe, .string xla, .int .i64 xvk, .int .i64 xvn, .string xvs, .slice A xvl.length c, .int .i64 xpr, .slice E xen.length d] 41)
  have CT := Lib.hid (noteText_any ⟨xk, xag, xse, xst, xpe, xla, ⟨xvk, xvn, xvs, xvl⟩, xpr, xen⟩ A E c d (w1.alloc (.cells #[.int .i64 xk, .string xag, .string xse, .int .i64 xst, .string xpe, .string xla, .int .i64 xvk, .int .i64 xvn, .string xvs, .slice A xvl.length c, .int .i64 xpr, .slice E xen.length d] 41)) HAT.out (fun hm => hok (may_env hm)))
  dsimp only [Nt.cells] at CT
  clear st hnx hq1 hq2 hq3 hok rb C1
  rcases hTF : noteTF ⟨xk, xag, xse, xst, xpe, xla, ⟨xvk, xvn, xvs, xvl⟩, xpr, xen⟩ with ⟨t, ec⟩
  rw [hTF] at CT
  have HTF := Lib.hid hTF
  clear hTF
  go_wp2_with fail
  refine CT.out.mono ?_
  rintro e w2 ⟨rfl, hb2⟩
  have B2 := Lib.hid (below_next (below_allocS B1.out _) hb2)
  have HZ2 := Lib.hid ((HZ1.out.alloc _).belowS hb2)
  have HR2 := Lib.hid ((HR1.out.alloc _).belowS hb2)
  have HV2 := Lib.hid (HV1.out.belowS hb2)
  have HX2 := Lib.hid (HX1.out.below hb2)
  obtain ⟨r0, r1, _, _⟩ := blk2' HR2.out
  have hl2 := HR2.out.lt
  clear hb2 CT
  have z0 : w2.cell? ⟨w.heap.size, 0, none⟩ = some (.int .i64 0) := HZ2.out.cell 0
  have v0 : w2.frozen? ⟨w.heap.size, 0, none⟩ = false := HZ2.out.frozen 0
  have z1 : w2.cell? ⟨w.heap.size, 1, none⟩ = some (.string ⟨#[]⟩) := HZ2.out.cell 1
  have v1 : w2.frozen? ⟨w.heap.size, 1, none⟩ = false := HZ2.out.frozen 1
  have z2 : w2.cell? ⟨w.heap.size, 2, none⟩ = some (.string ⟨#[]⟩) := HZ2.out.cell 2
  have v2 : w2.frozen? ⟨w.heap.size, 2, none⟩ = false := HZ2.out.frozen 2
  have z3 : w2.cell? ⟨w.heap.size, 3, none⟩ = some (.int .i64 0) := HZ2.out.cell 3
  have v3 : w2.frozen? ⟨w.heap.size, 3, none⟩ = false := HZ2.out.frozen 3
  have z4 : w2.cell? ⟨w.heap.size, 4, none⟩ = some (.string ⟨#[]⟩) := HZ2.out.cell 4
  have v4 : w2.frozen? ⟨w.heap.size, 4, none⟩ = false := HZ2.out.frozen 4
  have z5 : w2.cell? ⟨w.heap.size, 5, none⟩ = some (.string ⟨#[]⟩) := HZ2.out.cell 5
  have v5 : w2.frozen? ⟨w.heap.size, 5, none⟩ = false := HZ2.out.frozen 5
  have z6 : w2.cell? ⟨w.heap.size, 6, none⟩ = some (.int .i64 0) := HZ2.out.cell 6
  have v6 : w2.frozen? ⟨w.heap.size, 6, none⟩ = false := HZ2.out.frozen 6
  have z7 : w2.cell? ⟨w.heap.size, 7, none⟩ = some (.int .i64 0) := HZ2.out.cell 7
  have v7 : w2.frozen? ⟨w.heap.size, 7, none⟩ = false := HZ2.out.frozen 7
  have z8 : w2.cell? ⟨w.heap.size, 8, none⟩ = some (.string ⟨#[]⟩) := HZ2.out.cell 8
  have v8 : w2.frozen? ⟨w.heap.size, 8, none⟩ = false := HZ2.out.frozen 8
  have z9 : w2.cell? ⟨w.heap.size, 9, none⟩ = some (.slice none 0 0) := HZ2.out.cell 9
  have v9 : w2.frozen? ⟨w.heap.size, 9, none⟩ = false := HZ2.out.frozen 9
  have z10 : w2.cell? ⟨w.heap.size, 10, none⟩ = some (.int .i64 0) := HZ2.out.cell 10
  have v10 : w2.frozen? ⟨w.heap.size, 10, none⟩ = false := HZ2.out.frozen 10
  have z11 : w2.cell? ⟨w.heap.size, 11, none⟩ = some (.slice none 0 0) := HZ2.out.cell 11
  have v11 : w2.frozen? ⟨w.heap.size, 11, none⟩ = false := HZ2.out.frozen 11
  cases b' with
  | true =>
    have HRES := Lib.hid (show res = (zNt, 3800) from HN.out ((HST.out.no rfl).resolve_left (by simp)))
    have BFF := Lib.hid (blk_set12 HZ2.out (.int .i64 0) (.string ⟨#[]⟩) (.string ⟨#[]⟩) (.int .i64 0) (.string ⟨#[]⟩) (.string ⟨#[]⟩) (.int .i64 0) (.int .i64 0) (.string ⟨#[]⟩) (.slice none 0 0) (.int .i64 0) (.slice none 0 0))
    go_wp2_with fail
    have k0 := BFF.out.cell 0
    have k1 := BFF.out.cell 1
    have k2 := BFF.out.cell 2
    have k3 := BFF.out.cell 3
    have k4 := BFF.out.cell 4
    have k5 := BFF.out.cell 5
    have k6 := BFF.out.cell 6
    have k7 := BFF.out.cell 7
    have k8 := BFF.out.cell 8
    have k9 := BFF.out.cell 9
    have k10 := BFF.out.cell 10
    have k11 := BFF.out.cell 11
    refine bodyPost_ret (v := .tuple #[.agg #[.int .i64 0, .string ⟨#[]⟩, .string ⟨#[]⟩, .int .i64 0, .string ⟨#[]⟩, .string ⟨#[]⟩, .int .i64 0, .int .i64 0, .string ⟨#[]⟩, .slice none 0 0, .int .i64 0, .slice none 0 0], .int .i64 3800]) (by simp [results, Try.results21, go_sem, k0, k1, k2, k3, k4, k5, k6, k7, k8, k9, k10, k11]) rfl ⟨none, 0, none, 0, by rw [HRES.out]; rfl, ?_, ?_⟩
    · rw [HRES.out]
      exact ⟨Rd.nil, env_nil _ _, by simp, by simp, by simp⟩
    repeat (refine Below.setCell ?_ (Nat.le_refl w.heap.size) _)
    exact B2.out
  | false =>
    have HO := Lib.hid (HST.out.ok rfl).2
    by_cases hq : s'.toList = []
    rotate_left
    · have hq2 : s'.toList.isEmpty = false := by cases h : s'.toList with | nil => exact absurd h hq | cons a t => rfl
      have HRES := Lib.hid (show res = (zNt, 3800) from HM.out _ _ HO.out (fun e => hq (by rw [ByteArray.toList_eq]; exact e)))
      have BFF := Lib.hid (blk_set12 HZ2.out (.int .i64 0) (.string ⟨#[]⟩) (.string ⟨#[]⟩) (.int .i64 0) (.string ⟨#[]⟩) (.string ⟨#[]⟩) (.int .i64 0) (.int .i64 0) (.string ⟨#[]⟩) (.slice none 0 0) (.int .i64 0) (.slice none 0 0))
      go_wp2_with fail
      have k0 := BFF.out.cell 0
      have k1 := BFF.out.cell 1
      have k2 := BFF.out.cell 2
      have k3 := BFF.out.cell 3
      have k4 := BFF.out.cell 4
      have k5 := BFF.out.cell 5
      have k6 := BFF.out.cell 6
      have k7 := BFF.out.cell 7
      have k8 := BFF.out.cell 8
      have k9 := BFF.out.cell 9
      have k10 := BFF.out.cell 10
      have k11 := BFF.out.cell 11
      refine bodyPost_ret (v := .tuple #[.agg #[.int .i64 0, .string ⟨#[]⟩, .string ⟨#[]⟩, .int .i64 0, .string ⟨#[]⟩, .string ⟨#[]⟩, .int .i64 0, .int .i64 0, .string ⟨#[]⟩, .slice none 0 0, .int .i64 0, .slice none 0 0], .int .i64 3800]) (by simp [results, Try.results21, go_sem, k0, k1, k2, k3, k4, k5, k6, k7, k8, k9, k10, k11]) rfl ⟨none, 0, none, 0, by rw [HRES.out]; rfl, ?_, ?_⟩
      · rw [HRES.out]
        exact ⟨Rd.nil, env_nil _ _, by simp, by simp, by simp⟩
      repeat (refine Below.setCell ?_ (Nat.le_refl w.heap.size) _)
      exact B2.out
    · have HE := Lib.hid (show s'.data.toList = [] by rw [← ByteArray.toList_eq]; exact hq)
      rw [HE.out] at HO
      by_cases hz : ec = 0
      rotate_left
      · have hz1 : (ec == 0) = false := by simpa using hz
        have hz2 : (ec != 0) = true := by simpa using hz
        have HRES := Lib.hid (show res = (zNt, 3800) from HBD.out _ HO.out (by rw [HTF.out]; exact hz))
        have BFF := Lib.hid (blk_set12 HZ2.out (.int .i64 0) (.string ⟨#[]⟩) (.string ⟨#[]⟩) (.int .i64 0) (.string ⟨#[]⟩) (.string ⟨#[]⟩) (.int .i64 0) (.int .i64 0) (.string ⟨#[]⟩) (.slice none 0 0) (.int .i64 0) (.slice none 0 0))
        go_wp2_with fail
        have k0 := BFF.out.cell 0
        have k1 := BFF.out.cell 1
        have k2 := BFF.out.cell 2
        have k3 := BFF.out.cell 3
        have k4 := BFF.out.cell 4
        have k5 := BFF.out.cell 5
        have k6 := BFF.out.cell 6
        have k7 := BFF.out.cell 7
        have k8 := BFF.out.cell 8
        have k9 := BFF.out.cell 9
        have k10 := BFF.out.cell 10
        have k11 := BFF.out.cell 11
        refine bodyPost_ret (v := .tuple #[.agg #[.int .i64 0, .string ⟨#[]⟩, .string ⟨#[]⟩, .int .i64 0, .string ⟨#[]⟩, .string ⟨#[]⟩, .int .i64 0, .int .i64 0, .string ⟨#[]⟩, .slice none 0 0, .int .i64 0, .slice none 0 0], .int .i64 3800]) (by simp [results, Try.results21, go_sem, k0, k1, k2, k3, k4, k5, k6, k7, k8, k9, k10, k11]) rfl ⟨none, 0, none, 0, by rw [HRES.out]; rfl, ?_, ?_⟩
        · rw [HRES.out]
          exact ⟨Rd.nil, env_nil _ _, by simp, by simp, by simp⟩
        repeat (refine Below.setCell ?_ (Nat.le_refl w.heap.size) _)
        exact B2.out
      · subst hz
        obtain ⟨h1, h2⟩ := HOK.out _ HO.out (by rw [HTF.out])
        rw [HTF.out] at h2
        dsimp only at h2
        have HRES := Lib.hid h1
        clear h1
        subst h2
        have y0 : w2.cell? ⟨w1.heap.size, 0, none⟩ = some (.int .i64 xk) := HV2.out.cell 0
        have y1 : w2.cell? ⟨w1.heap.size, 1, none⟩ = some (.string xag) := HV2.out.cell 1
        have y2 : w2.cell? ⟨w1.heap.size, 2, none⟩ = some (.string xse) := HV2.out.cell 2
        have y3 : w2.cell? ⟨w1.heap.size, 3, none⟩ = some (.int .i64 xst) := HV2.out.cell 3
        have y4 : w2.cell? ⟨w1.heap.size, 4, none⟩ = some (.string xpe) := HV2.out.cell 4
        have y5 : w2.cell? ⟨w1.heap.size, 5, none⟩ = some (.string xla) := HV2.out.cell 5
        have y6 : w2.cell? ⟨w1.heap.size, 6, none⟩ = some (.int .i64 xvk) := HV2.out.cell 6
        have y7 : w2.cell? ⟨w1.heap.size, 7, none⟩ = some (.int .i64 xvn) := HV2.out.cell 7
        have y8 : w2.cell? ⟨w1.heap.size, 8, none⟩ = some (.string xvs) := HV2.out.cell 8
        have y9 : w2.cell? ⟨w1.heap.size, 9, none⟩ = some (.slice A xvl.length c) := HV2.out.cell 9
        have y10 : w2.cell? ⟨w1.heap.size, 10, none⟩ = some (.int .i64 xpr) := HV2.out.cell 10
        have y11 : w2.cell? ⟨w1.heap.size, 11, none⟩ = some (.slice E xen.length d) := HV2.out.cell 11
        have hl3 := HV2.out.lt
        have BFF := Lib.hid (blk_set12 HZ2.out (.int .i64 xk) (.string xag) (.string xse) (.int .i64 xst) (.string xpe) (.string xla) (.int .i64 xvk) (.int .i64 xvn) (.string xvs) (.slice A xvl.length c) (.int .i64 xpr) (.slice E xen.length d))
        have hw1 : w.heap.size < w1.heap.size := by omega
        go_wp2_with fail
        have k0 := BFF.out.cell 0
        have k1 := BFF.out.cell 1
        have k2 := BFF.out.cell 2
        have k3 := BFF.out.cell 3
        have k4 := BFF.out.cell 4
        have k5 := BFF.out.cell 5
        have k6 := BFF.out.cell 6
        have k7 := BFF.out.cell 7
        have k8 := BFF.out.cell 8
        have k9 := BFF.out.cell 9
        have k10 := BFF.out.cell 10
        have k11 := BFF.out.cell 11
        refine bodyPost_ret (v := .tuple #[.agg #[.int .i64 xk, .string xag, .string xse, .int .i64 xst, .string xpe, .string xla, .int .i64 xvk, .int .i64 xvn, .string xvs, .slice A xvl.length c, .int .i64 xpr, .slice E xen.length d], .int .i64 0]) (by simp [results, Try.results21, go_sem, k0, k1, k2, k3, k4, k5, k6, k7, k8, k9, k10, k11]) rfl ⟨A, c, E, d, by rw [HRES.out]; rfl, ?_, ?_⟩
        · rw [HRES.out]
          exact NtX.at (NtX.set (NtX.set (NtX.set (NtX.set (NtX.set (NtX.set (NtX.set (NtX.set (NtX.set (NtX.set (NtX.set (NtX.set (HX2.out) (by omega)) (by omega)) (by omega)) (by omega)) (by omega)) (by omega)) (by omega)) (by omega)) (by omega)) (by omega)) (by omega)) (by omega)) HQ.out.1 HQ.out.2.1 HQ.out.2.2
        · repeat (refine Below.setCell ?_ (Nat.le_refl w.heap.size) _)
          exact B2.out
end Go.Proofs.Ytfaophiaiflecaa
