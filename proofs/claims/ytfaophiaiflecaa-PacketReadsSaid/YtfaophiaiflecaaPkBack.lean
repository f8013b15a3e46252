/- Contract: packet.ReadFrame. -/
import Derived.Test.YtfaophiaiflecaaPkReads
import Derived.Deep.DeepCutAuto
import Derived.Deep.RegionLaw
namespace Go.Proofs.Ytfaophiaiflecaa
open Go.RowKit

def frKinds : List Bool := [false, false, false, false, true]
def zFr : List Value := [.int .i64 0, .int .i64 0, .int .i64 0, .int .i64 0, .string ⟨#[]⟩]
def fr0 : Fr := ⟨0, 0, 0, 0, ⟨#[]⟩⟩
/-- The frame that those bytes say, if they say just one. -/
def readFr (l : List UInt8) : Option Fr := match readsF frKinds l with
  | ([.int .i64 a, .int .i64 b, .int .i64 c, .int .i64 d, .string e], [], true) => some ⟨a, b, c, d, e⟩
  | _ => none
theorem readsF_num {t : List Bool} {s : List UInt8} {r : List Value × List UInt8 × Bool} (h : readsF (false :: t) s = r) : r.2.2 = false ∨ ∃ n k r', readF s = (n, k, true) ∧ readsF t (s.drop k) = r' ∧ r = (.int .i64 n :: r'.1, r'.2) := by
  rw [← h]
  show (if (readF s).2.2 = true then (Value.int .i64 (readF s).1 :: (readsF t (s.drop (readF s).2.1)).1, (readsF t (s.drop (readF s).2.1)).2) else ([], s, false)).2.2 = false ∨ _
  rcases hr : readF s with ⟨n, k, ok⟩
  cases ok with
  | false => exact .inl rfl
  | true =>
    right
    refine ⟨n, k, _, rfl, rfl, ?_⟩
    show (if (readF s).2.2 = true then (Value.int .i64 (readF s).1 :: (readsF t (s.drop (readF s).2.1)).1, (readsF t (s.drop (readF s).2.1)).2) else ([], s, false)) = _
    rw [hr]
    rfl
theorem readsF_txt {t : List Bool} {s : List UInt8} {r : List Value × List UInt8 × Bool} (h : readsF (true :: t) s = r) : r.2.2 = false ∨ ∃ b rest r', cutT s = (b, rest, true) ∧ readsF t rest = r' ∧ r = (.string ⟨b.toArray⟩ :: r'.1, r'.2) := by
  rw [← h]
  show (if (cutT s).2.2 = true then (Value.string ⟨(cutT s).1.toArray⟩ :: (readsF t (cutT s).2.1).1, (readsF t (cutT s).2.1).2) else ([], (cutT s).2.1, false)).2.2 = false ∨ _
  rcases hr : cutT s with ⟨b, rest, ok⟩
  cases ok with
  | false => exact .inl rfl
  | true =>
    right
    refine ⟨b, rest, _, rfl, rfl, ?_⟩
    show (if (cutT s).2.2 = true then (Value.string ⟨(cutT s).1.toArray⟩ :: (readsF t (cutT s).2.1).1, (readsF t (cutT s).2.1).2) else ([], (cutT s).2.1, false)) = _
    rw [hr]
    rfl
/-- Where all five fields are there, they are four numbers and a text. -/
theorem readsF_five (l : List UInt8) : (readsF frKinds l).2.2 = false ∨ ∃ x : Fr, readsF frKinds l = ([.int .i64 x.kind, .int .i64 x.from_, .int .i64 x.to, .int .i64 x.seq, .string x.body], (readsF frKinds l).2.1, true) := by
  rcases readsF_num (rfl : readsF frKinds l = _) with h | ⟨a, k1, r1, _, h1, e1⟩
  · exact .inl h
  · rcases readsF_num h1 with h | ⟨b, k2, r2, _, h2, e2⟩
    · left; rw [e1]; exact h
    · rcases readsF_num h2 with h | ⟨c, k3, r3, _, h3, e3⟩
      · left; rw [e1, e2]; exact h
      · rcases readsF_num h3 with h | ⟨d, k4, r4, _, h4, e4⟩
        · left; rw [e1, e2, e3]; exact h
        · rcases readsF_txt h4 with h | ⟨bd, rest, r5, _, h5, e5⟩
          · left; rw [e1, e2, e3, e4]; exact h
          · right
            have h5' : r5 = ([], rest, true) := h5.symm
            refine ⟨⟨a, b, c, d, ⟨bd.toArray⟩⟩, ?_⟩
            rw [e1, e2, e3, e4, e5, h5']
def readFrameF (s : ByteArray) : Fr × Int :=
  if s.size < 4 then (fr0, 3800)
  else if fourB (fnv (s.data.toList.take (s.size - 4))) = s.data.toList.drop (s.size - 4) then
    match readFr (s.data.toList.take (s.size - 4)) with
    | some x => if x.may = true ∧ x.body.size ≤ 4096 then (x, 0) else (fr0, 3800)
    | none => (fr0, 3800)
  else (fr0, 3800)
theorem ba_take (s : ByteArray) (a : Nat) : s.extract 0 a = ⟨(s.data.toList.take a).toArray⟩ := ba_cut s 0 a _ (by simp)
theorem ne_new {A : Option Addr} {n h : Nat} (hn : ∀ ad, A = some ad → n ≤ ad.block) (hh : h < n) : blkOf A ≠ some h := by
  intro e
  cases A with
  | none => cases e
  | some ad =>
    have := hn ad rfl
    simp [blkOf] at e
    omega
theorem five_boxes {w : World} {h b : Nat} (k0 : Blk w b #[.pointer (some ⟨h, 0, none⟩)] 88) (k1 : Blk w (b + 2) #[.pointer (some ⟨h, 1, none⟩)] 88) (k2 : Blk w (b + 4) #[.pointer (some ⟨h, 2, none⟩)] 88) (k3 : Blk w (b + 6) #[.pointer (some ⟨h, 3, none⟩)] 88) (k4 : Blk w (b + 8) #[.pointer (some ⟨h, 4, none⟩)] 90) (hb : h < b) :
    ∀ j (hj : j < [(false, b), (false, b + 2), (false, b + 4), (false, b + 6), (true, b + 8)].length), boxAt w h j ([(false, b), (false, b + 2), (false, b + 4), (false, b + 6), (true, b + 8)][j]'hj) := by
  intro j hj
  rcases j with _ | _ | _ | _ | _ | j
  · exact ⟨by show b ≠ h; omega, k0⟩
  · exact ⟨by show b + 2 ≠ h; omega, k1⟩
  · exact ⟨by show b + 4 ≠ h; omega, k2⟩
  · exact ⟨by show b + 6 ≠ h; omega, k3⟩
  · exact ⟨by show b + 8 ≠ h; omega, k4⟩
  · simp at hj; omega
theorem blk_set5 {w : World} {g : Nat} {t : TypeId} {a0 a1 a2 a3 a4 : Value} (h : Blk w g #[a0, a1, a2, a3, a4] t) (b0 b1 b2 b3 b4 : Value) : Blk (((((w.setCell ⟨g, 0, none⟩ b0).setCell ⟨g, 1, none⟩ b1).setCell ⟨g, 2, none⟩ b2).setCell ⟨g, 3, none⟩ b3).setCell ⟨g, 4, none⟩ b4) g #[b0, b1, b2, b3, b4] t := by
  have k := (((((h.set_ 0 b0).set_ 1 b1).set_ 2 b2).set_ 3 b3).set_ 4 b4)
  simpa using k
theorem cutS0 {P : Program} (t : TypeId) (ht : P.underlying t = some .string) (s : ByteArray) (n : Nat) (h : n ≤ s.size) (W : World) :
    (Instr.slice t (.string s) none (some (.int .i64 (n : Int))) none).run P W = .ok (.string (s.extract 0 n)) W := run_slice_string_h W t s ht .i64 n (by omega) (by omega)
theorem cutS1 {P : Program} (t : TypeId) (ht : P.underlying t = some .string) (s : ByteArray) (n : Nat) (h : n ≤ s.size) (W : World) :
    (Instr.slice t (.string s) (some (.int .i64 (n : Int))) none none).run P W = .ok (.string (s.extract n s.size)) W := run_slice_string_l W t s ht .i64 n (by omega) (by omega)
set_option maxRecDepth 100000 in
set_option maxHeartbeats 3200000 in
theorem readFrame_any (s : ByteArray) (w : World) (hs : s.size ≤ 1000000) :
    Calls Try.prog 11 #[.string s] w fun e w' => e = .returned (.tuple #[.agg (readFrameF s).1.cells, .int .i64 (readFrameF s).2]) ∧ Below w.heap.size w w' := by
  have HS := Lib.hid hs
  obtain ⟨W0, hW0⟩ : ∃ W0, W0 = (w.alloc (.cells #[.int .i64 0, .int .i64 0, .int .i64 0, .int .i64 0, .string ⟨#[]⟩] 23)).alloc (.cells #[.int .i64 0, .int .i64 0, .int .i64 0, .int .i64 0, .string ⟨#[]⟩] 23) := ⟨_, rfl⟩
  have BF := Lib.hid (show Below w.heap.size w W0 by rw [hW0]; exact below_allocS (below_allocS (Below.refl _ _) _) _)
  have HR := Lib.hid (show Blk W0 w.heap.size #[.int .i64 0, .int .i64 0, .int .i64 0, .int .i64 0, .string ⟨#[]⟩] 23 by rw [hW0]; exact (Blk.new w _ _).alloc _)
  have HH := Lib.hid (show Blk W0 (w.heap.size + 1) #[.int .i64 0, .int .i64 0, .int .i64 0, .int .i64 0, .string ⟨#[]⟩] 23 by
    have h := Blk.new (w.alloc (.cells #[.int .i64 0, .int .i64 0, .int .i64 0, .int .i64 0, .string ⟨#[]⟩] 23)) #[.int .i64 0, .int .i64 0, .int .i64 0, .int .i64 0, .string ⟨#[]⟩] 23
    rw [World.size_alloc] at h
    rw [hW0]; exact h)
  have HW := Lib.hid hW0
  clear hW0
  obtain ⟨bad, hbad⟩ : ∃ b, b = (decide (s.size < 4) || !decide (fourB (fnv (s.data.toList.take (s.size - 4))) = s.data.toList.drop (s.size - 4))) := ⟨_, rfl⟩
  have HBAD := Lib.hid hbad
  clear hbad
  go_enter Try.func11, Try.ntmps11
  go_upto_region 2 with fail
  rw [← HW.out]
  go_cut [23] (fun s23 wx => s23 = .bool bad ∧ Hid (Below W0.heap.size W0 wx))
  case first =>
    by_cases h4 : s.size < 4
    · have hd : decide ((s.size : Int) < 4) = true := by simp; omega
      have hb : bad = true := by rw [HBAD.out]; simp [h4]
      subst hb
      go_quiet (fail)
      go_wp2_with fail
      go_meet
      exact ⟨rfl, Lib.hid (below_drewN (Below.refl _ _) _)⟩
    · have hd : decide ((s.size : Int) < 4) = false := by simp; omega
      obtain ⟨n, hn⟩ : ∃ n, s.size = n + 4 := ⟨s.size - 4, by omega⟩
      have hnn : n ≤ s.size := by omega
      have hI0 : (0 : Int) ≤ (n : Int) := by omega
      have hI1 : (n : Int) ≤ (s.size : Int) := by omega
      have hct0 := fun W => cutS0 (P := Try.prog) 9 Try.underlying9 s n hnn W
      have hct1 := fun W => cutS1 (P := Try.prog) 9 Try.underlying9 s n hnn W
      have q1 : IntKind.i64.wrap ((s.size : Int) - 4) = (n : Int) := by rw [IntWalk.i64_in _ (by omega)]; omega
      have E2 := Lib.hid (show s.extract n s.size = ⟨(s.data.toList.drop n).toArray⟩ by rw [ba_mk (s.extract n s.size), ba_drop])
      have HN := Lib.hid (show s.size - 4 = n by omega)
      have CS := Lib.hid (fun W => show Calls Try.prog 26 #[.string (s.extract 0 n)] W (fun e w' => e = .returned (.string ⟨(fourB (fnv (s.data.toList.take n))).toArray⟩) ∧ Below W.heap.size W w') by
        have C := pksum_any (s.extract 0 n) W (by have := HS.out; rw [ba_size, ba_extract, List.length_take]; unfold maxLen; omega)
        rw [ba_extract] at C
        simpa using C)
      have hbv : (bad = false ∧ Hid (fourB (fnv (s.data.toList.take n)) = s.data.toList.drop n)) ∨ (bad = true ∧ Hid (¬ fourB (fnv (s.data.toList.take n)) = s.data.toList.drop n)) := by
        rw [HBAD.out, HN.out]
        by_cases h : fourB (fnv (s.data.toList.take n)) = s.data.toList.drop n
        · exact .inl ⟨by simp [h, h4], Lib.hid h⟩
        · exact .inr ⟨by simp [h], Lib.hid h⟩
      have KS := Lib.hid (fun W (hw : Below W0.heap.size W0 W) => hw)
      clear hs hn
      rcases hbv with ⟨rfl, he⟩ | ⟨rfl, he⟩
      · go_region_held3 (fun W => Below W0.heap.size W0 W)
          (first
            | (exact (Below.refl _ _).drew)
            | (exact below_next (by assumption) (by assumption)))
          (first
            | (go_at_call 26; (with_reducible refine (CS.out _).mono ?_); rintro e wf ⟨rfl, hbf⟩))
        all_goals
          go_wp2_with fail
          go_meet
          refine ⟨?_, Lib.hid (show Below W0.heap.size W0 _ by assumption)⟩
          rw [Go.ByteArray.toList_eq, ba_drop]
          rw [he.out]
          simp
      · go_region_held3 (fun W => Below W0.heap.size W0 W)
          (first
            | (exact (Below.refl _ _).drew)
            | (exact below_next (by assumption) (by assumption)))
          (first
            | (go_at_call 26; (with_reducible refine (CS.out _).mono ?_); rintro e wf ⟨rfl, hbf⟩))
        all_goals
          go_wp2_with fail
          go_meet
          refine ⟨?_, Lib.hid (show Below W0.heap.size W0 _ by assumption)⟩
          rw [Go.ByteArray.toList_eq, ba_drop]
          have hx := he.out
          simp [hx]
  case rest =>
    obtain ⟨rfl, hb1⟩ := hcut
    have HR1 := Lib.hid (HR.out.belowS hb1.out)
    have HH1 := Lib.hid (HH.out.belowS hb1.out)
    have B1 := Lib.hid (below_next BF.out hb1.out)
    have hrl := HR1.out.lt
    have hhl := HH1.out.lt
    clear HR HH hb1
    obtain ⟨r0, r1, r2, r3, r4⟩ := blk5 HR1.out
    have z0 := HR1.out.frozen 0
    have z1 := HR1.out.frozen 1
    have z2 := HR1.out.frozen 2
    have z3 := HR1.out.frozen 3
    have z4 := HR1.out.frozen 4
    cases bad with
    | true =>
      have HF : readFrameF s = (fr0, 3800) := by
        have h := HBAD.out.symm
        unfold readFrameF
        by_cases h4 : s.size < 4
        · rw [if_pos h4]
        · rw [if_neg h4, if_neg]
          intro he
          rw [he] at h
          simp [h4] at h
      have HF2 := Lib.hid HF
      clear HF
      have BFF := Lib.hid (blk_set5 HR1.out (.int .i64 0) (.int .i64 0) (.int .i64 0) (.int .i64 0) (.string ⟨#[]⟩))
      go_wp2_with fail
      have k0 := BFF.out.cell 0
      have k1 := BFF.out.cell 1
      have k2 := BFF.out.cell 2
      have k3 := BFF.out.cell 3
      have k4 := BFF.out.cell 4
      refine bodyPost_ret (v := .tuple #[.agg #[.int .i64 0, .int .i64 0, .int .i64 0, .int .i64 0, .string ⟨#[]⟩], .int .i64 3800]) (by simp [results, Try.results11, go_sem, k0, k1, k2, k3, k4]) rfl ⟨by rw [HF2.out]; rfl, ?_⟩
      repeat (refine Below.setCell ?_ (Nat.le_refl w.heap.size) _)
      exact B1.out
    | false =>
      have hgood : 4 ≤ s.size ∧ fourB (fnv (s.data.toList.take (s.size - 4))) = s.data.toList.drop (s.size - 4) := by
        have h := HBAD.out.symm
        simp at h
        exact ⟨by omega, h.2⟩
      obtain ⟨n, hn⟩ : ∃ n, s.size = n + 4 := ⟨s.size - 4, by omega⟩
      have hnn : n ≤ s.size := by omega
      have hn6 : n ≤ 1000000 := by omega
      have q1 : IntKind.i64.wrap ((s.size : Int) - 4) = (n : Int) := by rw [IntWalk.i64_in _ (by omega)]; omega
      have hct0 := fun W => cutS0 (P := Try.prog) 9 Try.underlying9 s n hnn W
      have hI0 : (0 : Int) ≤ (n : Int) := by omega
      have hI1 : (n : Int) ≤ (s.size : Int) := by omega
      have HF : readFrameF s = (match readFr (s.data.toList.take n) with
        | some x => if x.may = true ∧ x.body.size ≤ 4096 then (x, 0) else (fr0, 3800)
        | none => (fr0, 3800)) := by
        unfold readFrameF
        rw [if_neg (by omega), if_pos hgood.2, show s.size - 4 = n by omega]
      have HF1 := Lib.hid HF
      have HTS := Lib.hid (show (s.extract 0 n).data.toList = s.data.toList.take n by rw [ba_extract]; simp)
      have HTZ := Lib.hid (show (s.extract 0 n).size ≤ 1000000 by rw [ba_size, ba_extract, List.length_take]; omega)
      clear hn hgood HF hs r0 r1 r2 r3 r4 z0 z1 z2 z3 z4
      go_upto_region 4 with fail
      go_cut [5, 6] (fun s5 s6 wx => ∃ (vs : List Value) (rest : List UInt8) (ok : Bool), s5 = .string ⟨rest.toArray⟩ ∧ s6 = .bool ok ∧ Hid (readsF frKinds (s.data.toList.take n) = (vs, rest, ok)) ∧
        Hid (Blk wx (w.heap.size + 1) (vs ++ zFr.drop vs.length).toArray 23) ∧ Hid (wc.grownBy wx (some (w.heap.size + 1))))
      case first =>
        have CF := Lib.hid (frame_any (w.heap.size + 1) wc.drew 23 _ HH1.out.drew rfl)
        go_region_law (first
          | (go_simp; go_at_call 25; refine CF.out.mono ?_; rintro e w2 ⟨A2, b, rfl, hA2, k0, k1, k2, k3, k4, hge, hb2', hnew⟩; have hb2 := below_of_drew hb2'; have CR := Lib.hid (read_any A2 [(false, b), (false, b + 2), (false, b + 4), (false, b + 6), (true, b + 8)] 5 (w.heap.size + 1) [.int .i64 0, .int .i64 0, .int .i64 0, .int .i64 0, .string ⟨#[]⟩] 23 (s.extract 0 n) w2 hA2 (ne_new hnew (show w.heap.size + 1 < wc.drew.heap.size from hhl)) (five_boxes k0 k1 k2 k3 k4 (Nat.lt_of_lt_of_le (show w.heap.size + 1 < wc.drew.heap.size from hhl) hge)) (HH1.out.belowS hb2) rfl (by simp) (by have := HTZ.out; omega)); have B2 := Lib.hid hb2; clear hA2 k0 k1 k2 k3 k4 hge hb2 hb2' hnew; go_simp)
          | (go_simp; go_at_call 28; refine CR.out.mono ?_; rintro e w3 ⟨rfl, hbk, hgr⟩; have HBK := Lib.hid hbk; have HGR := Lib.hid hgr; clear hbk hgr; go_simp))
        all_goals
          go_wp2_with fail
          go_meet
          refine ⟨_, _, _, rfl, rfl, Lib.hid ?_, HBK, Lib.hid (grown_trans ⟨B2.out.os, B2.out.tape, B2.out.output, B2.out.size, fun j hj _ => B2.out.block j hj⟩ HGR.out)⟩
          rw [← HTS.out]
          rfl
      case rest =>
        obtain ⟨vs, rest, ok, rfl, rfl, hp, hbk, hgr⟩ := hcut
        have HR2 := Lib.hid (HR1.out.grown hgr.out (by simp))
        have BX := Lib.hid (B1.out.grown hgr.out (by omega) (fun j hj => by injection hj with hj; omega))
        obtain ⟨r0, r1, r2, r3, r4⟩ := blk5 HR2.out
        have z0 := HR2.out.frozen 0
        have z1 := HR2.out.frozen 1
        have z2 := HR2.out.frozen 2
        have z3 := HR2.out.frozen 3
        have z4 := HR2.out.frozen 4
        have hrl2 := HR2.out.lt
        clear hct0 q1 hI0 hI1 hgr
        cases ok with
        | false =>
          have HF2 := Lib.hid (show readFrameF s = (fr0, 3800) by
            rw [HF1.out]
            unfold readFr
            rw [hp.out]
            split
            · rename_i h1
              split at h1
              · rename_i h2; cases h2
              · cases h1
            · rfl)
          have BFF := Lib.hid (blk_set5 HR2.out (.int .i64 0) (.int .i64 0) (.int .i64 0) (.int .i64 0) (.string ⟨#[]⟩))
          go_wp2_with fail
          have k0 := BFF.out.cell 0
          have k1 := BFF.out.cell 1
          have k2 := BFF.out.cell 2
          have k3 := BFF.out.cell 3
          have k4 := BFF.out.cell 4
          refine bodyPost_ret (v := .tuple #[.agg #[.int .i64 0, .int .i64 0, .int .i64 0, .int .i64 0, .string ⟨#[]⟩], .int .i64 3800]) (by simp [results, Try.results11, go_sem, k0, k1, k2, k3, k4]) rfl ⟨by rw [HF2.out]; rfl, ?_⟩
          repeat (refine Below.setCell ?_ (Nat.le_refl w.heap.size) _)
          exact BX.out
        | true =>
          cases rest with
          | cons a t =>
            have HF2 := Lib.hid (show readFrameF s = (fr0, 3800) by
              rw [HF1.out]
              unfold readFr
              rw [hp.out]
              split
              · rename_i h1
                split at h1
                · rename_i h2; cases h2
                · cases h1
              · rfl)
            have hne : ¬ (⟨(a :: t).toArray⟩ : ByteArray).toList = [] := by rw [Go.ByteArray.toList_eq]; simp
            have BFF := Lib.hid (blk_set5 HR2.out (.int .i64 0) (.int .i64 0) (.int .i64 0) (.int .i64 0) (.string ⟨#[]⟩))
            go_wp2_with fail
            have k0 := BFF.out.cell 0
            have k1 := BFF.out.cell 1
            have k2 := BFF.out.cell 2
            have k3 := BFF.out.cell 3
            have k4 := BFF.out.cell 4
            refine bodyPost_ret (v := .tuple #[.agg #[.int .i64 0, .int .i64 0, .int .i64 0, .int .i64 0, .string ⟨#[]⟩], .int .i64 3800]) (by simp [results, Try.results11, go_sem, k0, k1, k2, k3, k4]) rfl ⟨by rw [HF2.out]; rfl, ?_⟩
            repeat (refine Below.setCell ?_ (Nat.le_refl w.heap.size) _)
            exact BX.out
          | nil =>
            obtain ⟨x, hx⟩ : ∃ x : Fr, vs = [.int .i64 x.kind, .int .i64 x.from_, .int .i64 x.to, .int .i64 x.seq, .string x.body] := by
              rcases readsF_five (s.data.toList.take n) with h | ⟨x, h⟩
              · rw [hp.out] at h; cases h
              · rw [hp.out] at h
                exact ⟨x, congrArg (·.1) h⟩
            subst hx
            have HF2 := Lib.hid (show readFrameF s = if x.may = true ∧ x.body.size ≤ 4096 then (x, 0) else (fr0, 3800) by rw [HF1.out]; unfold readFr; rw [hp.out])
            have HX : Hid (Blk wc (w.heap.size + 1) x.cells 23) := Lib.hid (by have h := hbk.out; simpa [zFr, Fr.cells] using h)
            have CM := fun W => may_any x W
            unfold Fr.cells at CM HX
            have CM' := Lib.hid CM
            clear CM r0 r1 r2 r3 r4 z0 z1 z2 z3 z4 hp hbk HF1
            obtain ⟨y0, y1, y2, y3, y4⟩ := blk5 HX.out
            have hhl2 := HX.out.lt
            go_wp2_with fail
            refine (CM'.out _).mono ?_
            rintro e w4 ⟨rfl, hb4⟩
            have HR3 := Lib.hid (HR2.out.belowS hb4)
            have HX3 := Lib.hid (HX.out.belowS hb4)
            have BX3 := Lib.hid (below_next BX.out hb4)
            clear hb4 y0 y1 y2 y3 y4 hrl2 hhl2
            obtain ⟨y0, y1, y2, y3, y4⟩ := blk5 HX3.out
            obtain ⟨r0, r1, r2, r3, r4⟩ := blk5 HR3.out
            have z0 := HR3.out.frozen 0
            have z1 := HR3.out.frozen 1
            have z2 := HR3.out.frozen 2
            have z3 := HR3.out.frozen 3
            have z4 := HR3.out.frozen 4
            have hhl3 := HX3.out.lt
            have hrl3 := HR3.out.lt
            rcases hm : x.may with _ | _
            · have HF3 := Lib.hid (show readFrameF s = (fr0, 3800) by rw [HF2.out]; rw [if_neg]; rw [hm]; simp)
              have BFF := Lib.hid (blk_set5 HR3.out (.int .i64 0) (.int .i64 0) (.int .i64 0) (.int .i64 0) (.string ⟨#[]⟩))
              go_wp2_with fail
              have k0 := BFF.out.cell 0
              have k1 := BFF.out.cell 1
              have k2 := BFF.out.cell 2
              have k3 := BFF.out.cell 3
              have k4 := BFF.out.cell 4
              refine bodyPost_ret (v := .tuple #[.agg #[.int .i64 0, .int .i64 0, .int .i64 0, .int .i64 0, .string ⟨#[]⟩], .int .i64 3800]) (by simp [results, Try.results11, go_sem, k0, k1, k2, k3, k4]) rfl ⟨by rw [HF3.out]; rfl, ?_⟩
              repeat (refine Below.setCell ?_ (Nat.le_refl w.heap.size) _)
              exact BX3.out
            · by_cases hz : x.body.size ≤ 4096
              · have hd : decide ((4096 : Int) < (x.body.size : Int)) = false := by simp; omega
                have hd2 : decide (4096 < x.body.size) = false := by simp; omega
                have HF3 := Lib.hid (show readFrameF s = (x, 0) by rw [HF2.out, if_pos ⟨hm, hz⟩])
                have BFF := Lib.hid (blk_set5 HR3.out (.int .i64 x.kind) (.int .i64 x.from_) (.int .i64 x.to) (.int .i64 x.seq) (.string x.body))
                go_wp2_with fail
                have k0 := BFF.out.cell 0
                have k1 := BFF.out.cell 1
                have k2 := BFF.out.cell 2
                have k3 := BFF.out.cell 3
                have k4 := BFF.out.cell 4
                refine bodyPost_ret (v := .tuple #[.agg #[.int .i64 x.kind, .int .i64 x.from_, .int .i64 x.to, .int .i64 x.seq, .string x.body], .int .i64 0]) (by simp [results, Try.results11, go_sem, k0, k1, k2, k3, k4]) rfl ⟨by rw [HF3.out]; rfl, ?_⟩
                repeat (refine Below.setCell ?_ (Nat.le_refl w.heap.size) _)
                exact BX3.out
              · have hd : decide ((4096 : Int) < (x.body.size : Int)) = true := by simp; omega
                have hd2 : decide (4096 < x.body.size) = true := by simp; omega
                have HF3 := Lib.hid (show readFrameF s = (fr0, 3800) by rw [HF2.out]; rw [if_neg (fun h => hz h.2)])
                have BFF := Lib.hid (blk_set5 HR3.out (.int .i64 0) (.int .i64 0) (.int .i64 0) (.int .i64 0) (.string ⟨#[]⟩))
                go_wp2_with fail
                have k0 := BFF.out.cell 0
                have k1 := BFF.out.cell 1
                have k2 := BFF.out.cell 2
                have k3 := BFF.out.cell 3
                have k4 := BFF.out.cell 4
                refine bodyPost_ret (v := .tuple #[.agg #[.int .i64 0, .int .i64 0, .int .i64 0, .int .i64 0, .string ⟨#[]⟩], .int .i64 3800]) (by simp [results, Try.results11, go_sem, k0, k1, k2, k3, k4]) rfl ⟨by rw [HF3.out]; rfl, ?_⟩
                repeat (refine Below.setCell ?_ (Nat.le_refl w.heap.size) _)
                exact BX3.out
end Go.Proofs.Ytfaophiaiflecaa
