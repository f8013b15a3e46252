/- Contracts: reparteeref36.frame (the reader), ReadFrame. Contract: reparteeref36.ReadFrame. -/
import Derived.Test.YtfaophiaiflecaaNtRd2
import Derived.Test.YtfaophiaiflecaaNtRd3
import Derived.Test.YtfaophiaiflecaaPkBack
import Derived.Test.YtfaophiaiflecaaPkText
namespace Go.Proofs.Ytfaophiaiflecaa
open Go.RowKit
set_option linter.unusedVariables false

def oneFr (s : List UInt8) : Option (Fr × List UInt8) := match oneN s with
  | none => none
  | some (k, s) => match oneN s with
    | none => none
    | some (f, s) => match oneN s with
      | none => none
      | some (t, s) => match oneN s with
        | none => none
        | some (q, s) => match oneT s with
          | none => none
          | some (bd, s) => some (⟨k, f, t, q, bd⟩, s)
theorem readsF_oneN (t : List Bool) (s : List UInt8) : readsF (false :: t) s = match oneN s with | none => ([], s, false) | some (n, r) => (.int .i64 n :: (readsF t r).1, (readsF t r).2) := by
  unfold oneN
  show (if (readF s).2.2 = true then (Value.int .i64 (readF s).1 :: (readsF t (s.drop (readF s).2.1)).1, (readsF t (s.drop (readF s).2.1)).2) else ([], s, false)) = _
  rcases readF s with ⟨n, k, ok⟩
  cases ok <;> rfl
theorem readsF_oneT (t : List Bool) (s : List UInt8) : (oneT s = none → (readsF (true :: t) s).2.2 = false) ∧ ∀ b r, oneT s = some (b, r) → readsF (true :: t) s = (.string b :: (readsF t r).1, (readsF t r).2) := by
  unfold oneT
  have e : readsF (true :: t) s = (if (cutT s).2.2 = true then (Value.string ⟨(cutT s).1.toArray⟩ :: (readsF t (cutT s).2.1).1, (readsF t (cutT s).2.1).2) else ([], (cutT s).2.1, false)) := rfl
  rw [e]
  rcases cutT s with ⟨b, r, ok⟩
  cases ok with
  | true => exact ⟨fun h => (by cases h), fun b' r' h => (by injection h with h; injection h with h1 h2; subst h1 h2; rfl)⟩
  | false => exact ⟨fun _ => rfl, fun b' r' h => (by cases h)⟩
theorem readFr_one (l : List UInt8) : readFr l = match oneFr l with | some (x, []) => some x | _ => none := by
  unfold readFr oneFr frKinds
  rw [readsF_oneN]
  rcases h1 : oneN l with _ | ⟨a1, s1⟩
  · rfl
  dsimp only
  rw [readsF_oneN]
  rcases h2 : oneN s1 with _ | ⟨a2, s2⟩
  · rfl
  dsimp only
  rw [readsF_oneN]
  rcases h3 : oneN s2 with _ | ⟨a3, s3⟩
  · rfl
  dsimp only
  rw [readsF_oneN]
  rcases h4 : oneN s3 with _ | ⟨a4, s4⟩
  · rfl
  dsimp only
  obtain ⟨k1, k2⟩ := readsF_oneT [] s4
  rcases h5 : oneT s4 with _ | ⟨a5, s5⟩
  · have e := k1 h5
    rcases hr : readsF [true] s4 with ⟨vs, r, ok⟩
    rw [hr] at e
    dsimp only at e
    subst e
    dsimp only
    split
    · rename_i heq; cases heq
    · rfl
  · rw [k2 _ _ h5]
    show (match (([.int .i64 a1, .int .i64 a2, .int .i64 a3, .int .i64 a4, .string a5], s5, true) : List Value × List UInt8 × Bool) with
      | ([.int .i64 a, .int .i64 b, .int .i64 c, .int .i64 d, .string e], [], true) => some (⟨a, b, c, d, e⟩ : Fr)
      | _ => none) = _
    cases s5 <;> rfl
theorem oneFr_fore {s r : List UInt8} {x : Fr} (h : oneFr s = some (x, r)) : s = frB x ++ r := by
  unfold oneFr at h
  split at h
  · cases h
  rename_i k s1 h1
  split at h
  · cases h
  rename_i f s2 h2
  split at h
  · cases h
  rename_i t s3 h3
  split at h
  · cases h
  rename_i q s4 h4
  split at h
  · cases h
  rename_i bd s5 h5
  injection h with h
  injection h with ha hb
  subst ha hb
  unfold frB
  rw [(oneN_fore h1).1, (oneN_fore h2).1, (oneN_fore h3).1, (oneN_fore h4).1, oneT_fore h5]
  simp only [List.append_assoc]
theorem Stp.fr {s0 s1 s2 s3 s4 s5 : ByteArray} {b0 b1 b2 b3 b4 b5 : Bool} {k : Int} {f : Int} {t : Int} {q : Int} {bd : ByteArray} (h1 : Stp oneN s0 b0 k s1 b1) (h2 : Stp oneN s1 b1 f s2 b2) (h3 : Stp oneN s2 b2 t s3 b3) (h4 : Stp oneN s3 b3 q s4 b4) (h5 : Stp oneT s4 b4 bd s5 b5) : Stp oneFr s0 b0 ⟨k, f, t, q, bd⟩ s5 b5 := by
  refine ⟨fun e => ?_, fun e => ?_, ?_⟩
  · obtain ⟨e5, f5⟩ := h5.ok e
    obtain ⟨e4, f4⟩ := h4.ok e5
    obtain ⟨e3, f3⟩ := h3.ok e4
    obtain ⟨e2, f2⟩ := h2.ok e3
    obtain ⟨e1, f1⟩ := h1.ok e2
    exact ⟨e1, by simp [oneFr, f1, f2, f3, f4, f5]⟩
  · cases b1 with
    | true =>
      rcases h1.no rfl with k | k
      · exact .inl k
      · exact .inr (by simp [oneFr, k])
    | false =>
      have f1 := (h1.ok rfl).2
      cases b2 with
      | true =>
        rcases h2.no rfl with k | k
        · cases k
        · exact .inr (by simp [oneFr, f1, k])
      | false =>
        have f2 := (h2.ok rfl).2
        cases b3 with
        | true =>
          rcases h3.no rfl with k | k
          · cases k
          · exact .inr (by simp [oneFr, f1, f2, k])
        | false =>
          have f3 := (h3.ok rfl).2
          cases b4 with
          | true =>
            rcases h4.no rfl with k | k
            · cases k
            · exact .inr (by simp [oneFr, f1, f2, f3, k])
          | false =>
            have f4 := (h4.ok rfl).2
            rcases h5.no e with k | k
            · cases k
            · exact .inr (by simp [oneFr, f1, f2, f3, f4, k])
  · have := h1.le; have := h2.le; have := h3.le; have := h4.le; have := h5.le; omega
def RdFr (g : Nat) (s : ByteArray) (b : Bool) (w : World) (e : Ending) (w' : World) : Prop := ∃ (x : Fr) (s' : ByteArray) (b' : Bool), e = .returned (.agg x.cells) ∧ Stp oneFr s b x s' b' ∧ x.fits ∧ RdB g s' b' w w'
set_option maxRecDepth 100000 in
set_option maxHeartbeats 6400000 in
theorem rframe_any (g : Nat) (s : ByteArray) (b : Bool) (w : World) (hb : Blk w g #[.string s, .bool b] 79) (hs : s.size ≤ 1000000) :
    Calls Try.prog 49 #[.pointer (some ⟨g, 0, none⟩)] w (RdFr g s b w) := by
  have hg := hb.lt
  obtain ⟨W0, hW0⟩ : ∃ W0, W0 = w.alloc (.cells #[.int .i64 0, .int .i64 0, .int .i64 0, .int .i64 0, .string ⟨#[]⟩] 23) := ⟨_, rfl⟩
  have hNW : w.heap.size < W0.heap.size := by rw [hW0]; simp
  have HR0 := Lib.hid (show RdB g s b w W0 by rw [hW0]; exact (⟨hb, grown_of_below (Below.refl _ _) _⟩ : RdB g s b w w).alloc _)
  have HZ0 := Lib.hid (show Blk W0 w.heap.size #[.int .i64 0, .int .i64 0, .int .i64 0, .int .i64 0, .string ⟨#[]⟩] 23 by rw [hW0]; exact Blk.new _ _ _)
  have HW := Lib.hid hW0
  have hgN : w.heap.size ≠ g := by omega
  clear hW0 hb
  have C1 := Lib.hid (rint_any g s b W0 HR0.out.blk (by omega))
  go_enter Try.func49, Try.ntmps49
  go_wp2_with fail
  rw [← HW.out]
  refine C1.out.mono ?_
  rintro e w1 ⟨n1, s1, b1, rfl, st1, i1, rb1⟩
  have l1 := st1.le
  have ST1 := Lib.hid st1
  have HR1 := Lib.hid (HR0.out.trans rb1)
  have HZ1 := Lib.hid (HZ0.out.grown rb1.gr (by simpa using hgN))
  have hN1 : w.heap.size < w1.heap.size := Nat.lt_of_lt_of_le hNW rb1.gr.size
  have I1 := Lib.hid i1
  clear st1 rb1 i1 C1
  have HV1' := Lib.hid (Blk.new w1 #[.int .i64 n1, .int .i64 0, .int .i64 0, .int .i64 0, .string ⟨#[]⟩] 23)
  obtain ⟨W1, hW1⟩ : ∃ W1, W1 = w1.alloc (.cells #[.int .i64 n1, .int .i64 0, .int .i64 0, .int .i64 0, .string ⟨#[]⟩] 23) := ⟨_, rfl⟩
  rw [← hW1] at HV1'
  have HR1' := Lib.hid (show RdB g s1 b1 w W1 by rw [hW1]; exact HR1.out.alloc _)
  have HZ1' := Lib.hid (show Blk W1 w.heap.size #[.int .i64 0, .int .i64 0, .int .i64 0, .int .i64 0, .string ⟨#[]⟩] 23 by rw [hW1]; exact HZ1.out.alloc _)
  have HW1 := Lib.hid hW1
  clear hW1
  obtain ⟨h, hh⟩ : ∃ h, h = w1.heap.size := ⟨_, rfl⟩
  have HH := Lib.hid hh
  have hhN : w.heap.size < h := by omega
  have hgh : h ≠ g := by omega
  rw [← hh] at HV1'
  clear hh
  have C2 := Lib.hid (rint_any g s1 b1 W1 HR1'.out.blk (by omega))
  go_wp2_with fail
  rw [← HW1.out]
  refine C2.out.mono ?_
  rintro e w2 ⟨n2, s2, b2, rfl, st2, i2, rb2⟩
  have l2 := st2.le
  have ST2 := Lib.hid st2
  have I2 := Lib.hid i2
  have HR2 := Lib.hid (HR1'.out.trans rb2)
  have HZ2 := Lib.hid (HZ1'.out.grown rb2.gr (by simpa using hgN))
  have HV2 := Lib.hid (HV1'.out.grown rb2.gr (by simpa using hgh))
  have t : w2.cell? ⟨h, 1, none⟩ = some (.int .i64 0) := HV2.out.cell 1
  have f : w2.frozen? ⟨h, 1, none⟩ = false := HV2.out.frozen 1
  have hl := HV2.out.lt
  have HR2' := Lib.hid (HR2.out.set hg (p := ⟨h, 1, none⟩) (Nat.le_of_lt hhN) (.int .i64 n2))
  have HZ2' := Lib.hid (HZ2.out.far (p := ⟨h, 1, none⟩) (Nat.ne_of_lt hhN) (.int .i64 n2))
  have HV2' := Lib.hid (HV2.out.set_ 1 (.int .i64 n2))
  clear st2 rb2 i2 C2
  have C3 := Lib.hid (rint_any g s2 b2 _ HR2'.out.blk (by omega))
  rw [← HH.out]
  go_wp2_with fail
  refine C3.out.mono ?_
  clear t f hl
  rintro e w3 ⟨n3, s3, b3, rfl, st3, i3, rb3⟩
  have l3 := st3.le
  have ST3 := Lib.hid st3
  have I3 := Lib.hid i3
  have HR3 := Lib.hid (HR2'.out.trans rb3)
  have HZ3 := Lib.hid (HZ2'.out.grown rb3.gr (by simpa using hgN))
  have HV3 := Lib.hid (HV2'.out.grown rb3.gr (by simpa using hgh))
  have t : w3.cell? ⟨h, 2, none⟩ = some (.int .i64 0) := HV3.out.cell 2
  have f : w3.frozen? ⟨h, 2, none⟩ = false := HV3.out.frozen 2
  have hl := HV3.out.lt
  have HR3' := Lib.hid (HR3.out.set hg (p := ⟨h, 2, none⟩) (Nat.le_of_lt hhN) (.int .i64 n3))
  have HZ3' := Lib.hid (HZ3.out.far (p := ⟨h, 2, none⟩) (Nat.ne_of_lt hhN) (.int .i64 n3))
  have HV3' := Lib.hid (HV3.out.set_ 2 (.int .i64 n3))
  clear st3 rb3 i3 C3
  have C4 := Lib.hid (rint_any g s3 b3 _ HR3'.out.blk (by omega))
  go_wp2_with fail
  refine C4.out.mono ?_
  clear t f hl
  rintro e w4 ⟨n4, s4, b4, rfl, st4, i4, rb4⟩
  have l4 := st4.le
  have ST4 := Lib.hid st4
  have I4 := Lib.hid i4
  have HR4 := Lib.hid (HR3'.out.trans rb4)
  have HZ4 := Lib.hid (HZ3'.out.grown rb4.gr (by simpa using hgN))
  have HV4 := Lib.hid (HV3'.out.grown rb4.gr (by simpa using hgh))
  have t : w4.cell? ⟨h, 3, none⟩ = some (.int .i64 0) := HV4.out.cell 3
  have f : w4.frozen? ⟨h, 3, none⟩ = false := HV4.out.frozen 3
  have hl := HV4.out.lt
  have HR4' := Lib.hid (HR4.out.set hg (p := ⟨h, 3, none⟩) (Nat.le_of_lt hhN) (.int .i64 n4))
  have HZ4' := Lib.hid (HZ4.out.far (p := ⟨h, 3, none⟩) (Nat.ne_of_lt hhN) (.int .i64 n4))
  have HV4' := Lib.hid (HV4.out.set_ 3 (.int .i64 n4))
  clear st4 rb4 i4 C4
  have C5 := Lib.hid (rtext_any g s4 b4 _ HR4'.out.blk (by omega))
  go_wp2_with fail
  refine C5.out.mono ?_
  clear t f hl
  rintro e w5 ⟨n5, s5, b5, rfl, st5, i5, rb5⟩
  have l5 := st5.le
  have ST5 := Lib.hid st5
  have I5 := Lib.hid i5
  have HR5 := Lib.hid (HR4'.out.trans rb5)
  have HZ5 := Lib.hid (HZ4'.out.grown rb5.gr (by simpa using hgN))
  have HV5 := Lib.hid (HV4'.out.grown rb5.gr (by simpa using hgh))
  have t : w5.cell? ⟨h, 4, none⟩ = some (.string ⟨#[]⟩) := HV5.out.cell 4
  have f : w5.frozen? ⟨h, 4, none⟩ = false := HV5.out.frozen 4
  have hl := HV5.out.lt
  have HR5' := Lib.hid (HR5.out.set hg (p := ⟨h, 4, none⟩) (Nat.le_of_lt hhN) (.string n5))
  have HZ5' := Lib.hid (HZ5.out.far (p := ⟨h, 4, none⟩) (Nat.ne_of_lt hhN) (.string n5))
  have HV5' := Lib.hid (HV5.out.set_ 4 (.string n5))
  clear st5 rb5 i5 C5
  obtain ⟨W5, hW5⟩ : ∃ W5, W5 = (w5.setCell ⟨h, 4, none⟩ (.string n5)) := ⟨_, rfl⟩
  rw [← hW5] at HR5' HZ5' HV5'
  have HW5 := Lib.hid hW5
  clear hW5
  go_upto_region 6 with fail
  rw [← HW5.out]
  clear t f hl
  have y0 : W5.cell? ⟨h, 0, none⟩ = some (.int .i64 n1) := HV5'.out.cell 0
  have z0 : W5.cell? ⟨w.heap.size, 0, none⟩ = some (.int .i64 0) := HZ5'.out.cell 0
  have v0 : W5.frozen? ⟨w.heap.size, 0, none⟩ = false := HZ5'.out.frozen 0
  have y1 : W5.cell? ⟨h, 1, none⟩ = some (.int .i64 n2) := HV5'.out.cell 1
  have z1 : W5.cell? ⟨w.heap.size, 1, none⟩ = some (.int .i64 0) := HZ5'.out.cell 1
  have v1 : W5.frozen? ⟨w.heap.size, 1, none⟩ = false := HZ5'.out.frozen 1
  have y2 : W5.cell? ⟨h, 2, none⟩ = some (.int .i64 n3) := HV5'.out.cell 2
  have z2 : W5.cell? ⟨w.heap.size, 2, none⟩ = some (.int .i64 0) := HZ5'.out.cell 2
  have v2 : W5.frozen? ⟨w.heap.size, 2, none⟩ = false := HZ5'.out.frozen 2
  have y3 : W5.cell? ⟨h, 3, none⟩ = some (.int .i64 n4) := HV5'.out.cell 3
  have z3 : W5.cell? ⟨w.heap.size, 3, none⟩ = some (.int .i64 0) := HZ5'.out.cell 3
  have v3 : W5.frozen? ⟨w.heap.size, 3, none⟩ = false := HZ5'.out.frozen 3
  have y4 : W5.cell? ⟨h, 4, none⟩ = some (.string n5) := HV5'.out.cell 4
  have z4 : W5.cell? ⟨w.heap.size, 4, none⟩ = some (.string ⟨#[]⟩) := HZ5'.out.cell 4
  have v4 : W5.frozen? ⟨w.heap.size, 4, none⟩ = false := HZ5'.out.frozen 4
  have BFF := Lib.hid (((((HZ5'.out.set_ 0 (.int .i64 n1)).set_ 1 (.int .i64 n2)).set_ 2 (.int .i64 n3)).set_ 3 (.int .i64 n4)).set_ 4 (.string n5))
  have hl := HV5'.out.lt
  go_wp2_with fail
  have k0 := BFF.out.cell 0
  have k1 := BFF.out.cell 1
  have k2 := BFF.out.cell 2
  have k3 := BFF.out.cell 3
  have k4 := BFF.out.cell 4
  refine bodyPost_ret (v := .agg #[.int .i64 n1, .int .i64 n2, .int .i64 n3, .int .i64 n4, .string n5]) (by simp [results, Try.results49, go_sem, k0, k1, k2, k3, k4]) rfl ⟨⟨n1, n2, n3, n4, n5⟩, s5, b5, rfl, Stp.fr ST1.out ST2.out ST3.out ST4.out ST5.out, ⟨I1.out, I2.out, I3.out, I4.out⟩, (((((HR5'.out.set hg (p := ⟨w.heap.size, 0, none⟩) (Nat.le_refl _) _).set hg (p := ⟨w.heap.size, 1, none⟩) (Nat.le_refl _) _).set hg (p := ⟨w.heap.size, 2, none⟩) (Nat.le_refl _) _).set hg (p := ⟨w.heap.size, 3, none⟩) (Nat.le_refl _) _).set hg (p := ⟨w.heap.size, 4, none⟩) (Nat.le_refl _) _)⟩
end Go.Proofs.Ytfaophiaiflecaa
namespace Go.Proofs.Ytfaophiaiflecaa
open Go.RowKit
set_option linter.unusedVariables false

theorem rf_short {s : ByteArray} (h : s.size < 4) : readFrameF s = (fr0, 3800) := by unfold readFrameF; rw [if_pos h]
theorem rf_none {s : ByteArray} (h : oneFr (s.data.toList.take (s.size - 4)) = none) : readFrameF s = (fr0, 3800) := by
  unfold readFrameF
  rw [readFr_one, h]
  split
  · rfl
  · split <;> rfl
theorem rf_more {s : ByteArray} {x : Fr} {r : List UInt8} (h : oneFr (s.data.toList.take (s.size - 4)) = some (x, r)) (hr : r ≠ []) : readFrameF s = (fr0, 3800) := by
  unfold readFrameF
  rw [readFr_one, h]
  cases r with
  | nil => exact absurd rfl hr
  | cons a t =>
    split
    · rfl
    · split <;> rfl
theorem rf_bad {s : ByteArray} {x : Fr} (h : oneFr (s.data.toList.take (s.size - 4)) = some (x, [])) (hc : (frameF x).2 ≠ 0) : readFrameF s = (fr0, 3800) := by
  unfold readFrameF
  rw [readFr_one, h]
  dsimp only
  have hn : ¬ (x.may = true ∧ x.body.size ≤ 4096) := by
    rintro ⟨h1, h2⟩
    unfold frameF at hc
    rw [if_pos h1, if_neg (by omega)] at hc
    exact hc rfl
  rw [if_neg hn]
  split
  · rfl
  · split <;> rfl
theorem rf_ok {s : ByteArray} {x : Fr} (h4 : 4 ≤ s.size) (h : oneFr (s.data.toList.take (s.size - 4)) = some (x, [])) (hc : (frameF x).2 = 0) : readFrameF s = if (frameF x).1 = s then (x, 0) else (fr0, 3800) := by
  have hp := oneFr_fore h
  rw [List.append_nil] at hp
  have hx : x.may = true ∧ x.body.size ≤ 4096 := by
    unfold frameF at hc
    split at hc
    · rename_i h1
      split at hc
      · cases hc
      · exact ⟨h1, by omega⟩
    · cases hc
  have hf : (frameF x).1 = ⟨(frB x ++ fourB (fnv (frB x))).toArray⟩ := by
    unfold frameF
    rw [if_pos hx.1, if_neg (by omega)]
  have hs : s = ⟨(frB x ++ s.data.toList.drop (s.size - 4)).toArray⟩ := by
    rw [← hp, List.take_append_drop]
  have he : (frameF x).1 = s ↔ fourB (fnv (frB x)) = s.data.toList.drop (s.size - 4) := by
    rw [hf]
    constructor
    · intro e
      have := congrArg (fun a : ByteArray => a.data.toList) e
      dsimp only at this
      rw [show s.data.toList = frB x ++ s.data.toList.drop (s.size - 4) by rw [← hp, List.take_append_drop]] at this
      have k : frB x ++ fourB (fnv (frB x)) = frB x ++ s.data.toList.drop (s.size - 4) := by simpa using this
      exact List.append_cancel_left k
    · intro e
      rw [e]
      exact hs.symm
  unfold readFrameF
  rw [if_neg (by omega), readFr_one, h, hp]
  dsimp only
  rw [if_pos hx]
  by_cases hq : fourB (fnv (frB x)) = s.data.toList.drop (s.size - 4)
  · rw [if_pos hq, if_pos (he.2 hq)]
  · rw [if_neg hq, if_neg (fun e => hq (he.1 e))]
set_option maxRecDepth 100000 in
set_option maxHeartbeats 8000000 in
theorem rreadFrame_any (s : ByteArray) (w : World) (hs : s.size ≤ 1000000) :
    Calls Try.prog 22 #[.string s] w fun e w' => e = .returned (.tuple #[.agg (readFrameF s).1.cells, .int .i64 (readFrameF s).2]) ∧ Below w.heap.size w w' := by
  have HSH := Lib.hid (fun h => rf_short (s := s) h)
  have HN := Lib.hid (fun h => rf_none (s := s) h)
  have HM := Lib.hid (fun x r h hr => rf_more (s := s) (x := x) (r := r) h hr)
  have HBD := Lib.hid (fun x h hr => rf_bad (s := s) (x := x) h hr)
  have HOK := Lib.hid (fun x h4 h hr => rf_ok (s := s) (x := x) h4 h hr)
  generalize readFrameF s = res at *
  have HZ := Lib.hid (Blk.new w #[.int .i64 0, .int .i64 0, .int .i64 0, .int .i64 0, .string ⟨#[]⟩] 23)
  have B0 := Lib.hid (below_allocS (Below.refl _ _) (.cells #[.int .i64 0, .int .i64 0, .int .i64 0, .int .i64 0, .string ⟨#[]⟩] 23) : Below w.heap.size w (w.alloc (.cells #[.int .i64 0, .int .i64 0, .int .i64 0, .int .i64 0, .string ⟨#[]⟩] 23)))
  by_cases h4 : s.size < 4
  · have hd : decide ((s.size : Int) < 4) = true := by simp; omega
    have hd2 : decide (s.size < 4) = true := by simp; omega
    have HRES := Lib.hid (HSH.out h4)
    have BFF := Lib.hid (((((HZ.out.set_ 0 (.int .i64 0)).set_ 1 (.int .i64 0)).set_ 2 (.int .i64 0)).set_ 3 (.int .i64 0)).set_ 4 (.string ⟨#[]⟩))
    go_enter Try.func22, Try.ntmps22
    go_wp2_with fail
    refine bodyPost_ret (v := .tuple #[.agg #[.int .i64 0, .int .i64 0, .int .i64 0, .int .i64 0, .string ⟨#[]⟩], .int .i64 3800]) (by simp [results, Try.results22, go_sem]) rfl ⟨by rw [HRES.out]; rfl, ?_⟩
    first | exact B0.out | (repeat (refine Below.setCell ?_ (Nat.le_refl w.heap.size) _); exact B0.out)
  have hd : decide ((s.size : Int) < 4) = false := by simp; omega
  have hd2 : decide (s.size < 4) = false := by simp; omega
  have q1 : IntKind.i64.wrap ((s.size : Int) - 4) = ((s.size - 4 : Nat) : Int) := by rw [IntWalk.i64_in _ (by omega)]; omega
  have q2 : wrap64 ((s.size : Int) - 4) = ((s.size - 4 : Nat) : Int) := by rw [IntWalk.wrap64_in _ (by omega)]; omega
  have hcut := fun W => cutS0 (P := Try.prog) 9 Try.underlying9 s (s.size - 4) (by omega) W
  obtain ⟨p, hp⟩ : ∃ p, p = s.extract 0 (s.size - 4) := ⟨_, rfl⟩
  have hpl : p.data.toList = s.data.toList.take (s.size - 4) := by rw [hp, ba_extract]; simp
  have hps : p.size ≤ 1000000 := by rw [hp, ByteArray.size_extract]; omega
  rw [← hp] at hcut
  rw [← hpl] at HN HM HBD HOK
  clear hp hpl
  obtain ⟨W0, hW0⟩ : ∃ W0, W0 = (w.alloc (.cells #[.int .i64 0, .int .i64 0, .int .i64 0, .int .i64 0, .string ⟨#[]⟩] 23)).alloc (.cells #[.string p, .bool false] 79) := ⟨_, rfl⟩
  have e0 : W0.heap.size = w.heap.size + 2 := by rw [hW0]; simp
  have HB0 := Lib.hid (show Below w.heap.size w W0 by rw [hW0]; exact below_allocS B0.out _)
  have HZ0 := Lib.hid (show Blk W0 w.heap.size #[.int .i64 0, .int .i64 0, .int .i64 0, .int .i64 0, .string ⟨#[]⟩] 23 by rw [hW0]; exact HZ.out.alloc _)
  have HR0 := Lib.hid (show Blk W0 (w.heap.size + 1) #[.string p, .bool false] 79 by
    have h := Blk.new (w.alloc (.cells #[.int .i64 0, .int .i64 0, .int .i64 0, .int .i64 0, .string ⟨#[]⟩] 23)) #[.string p, .bool false] 79
    rw [World.size_alloc] at h
    rw [hW0]; exact h)
  have HW := Lib.hid hW0
  clear hW0
  have C1 := Lib.hid (rframe_any (w.heap.size + 1) p false W0 HR0.out hps)
  go_enter Try.func22, Try.ntmps22
  go_wp2_with fail
  rw [← HW.out]
  refine C1.out.mono ?_
  rintro e w1 ⟨⟨xk, xf, xt, xq, xb⟩, s', b', rfl, st, hfit, rb⟩
  dsimp only [Fr.cells]
  have B1 := Lib.hid (HB0.out.grown rb.gr HB0.out.size (fun k hk => by injection hk with hk; omega))
  have hl1 := rb.blk.lt
  have HZ1 := Lib.hid (HZ0.out.grown rb.gr (by simp))
  have HR1 := Lib.hid rb.blk
  have HST := Lib.hid st
  have HV1 := Lib.hid (Blk.new w1 #[.int .i64 xk, .int .i64 xf, .int .i64 xt, .int .i64 xq, .string xb] 23)
  have CT := Lib.hid (frameText_any ⟨xk, xf, xt, xq, xb⟩ (w1.alloc (.cells #[.int .i64 xk, .int .i64 xf, .int .i64 xt, .int .i64 xq, .string xb] 23)) hfit)
  dsimp only [Fr.cells] at CT
  clear st hfit rb C1
  rcases hTF : frameF ⟨xk, xf, xt, xq, xb⟩ with ⟨t, ec⟩
  rw [hTF] at CT
  have HTF := Lib.hid hTF
  clear hTF
  go_wp2_with fail
  refine CT.out.mono ?_
  rintro e w2 ⟨rfl, hb2⟩
  have B2 := Lib.hid (below_next (below_allocS B1.out _) hb2)
  have HZ2 := Lib.hid ((HZ1.out.alloc _).belowS hb2)
  have HR2 := Lib.hid ((HR1.out.alloc _).belowS hb2)
  have HV2 := Lib.hid (HV1.out.belowS hb2)
  obtain ⟨r0, r1, _, _⟩ := blk2' HR2.out
  have hl2 := HR2.out.lt
  clear hb2 CT
  have z0 : w2.cell? ⟨w.heap.size, 0, none⟩ = some (.int .i64 0) := HZ2.out.cell 0
  have v0 : w2.frozen? ⟨w.heap.size, 0, none⟩ = false := HZ2.out.frozen 0
  have z1 : w2.cell? ⟨w.heap.size, 1, none⟩ = some (.int .i64 0) := HZ2.out.cell 1
  have v1 : w2.frozen? ⟨w.heap.size, 1, none⟩ = false := HZ2.out.frozen 1
  have z2 : w2.cell? ⟨w.heap.size, 2, none⟩ = some (.int .i64 0) := HZ2.out.cell 2
  have v2 : w2.frozen? ⟨w.heap.size, 2, none⟩ = false := HZ2.out.frozen 2
  have z3 : w2.cell? ⟨w.heap.size, 3, none⟩ = some (.int .i64 0) := HZ2.out.cell 3
  have v3 : w2.frozen? ⟨w.heap.size, 3, none⟩ = false := HZ2.out.frozen 3
  have z4 : w2.cell? ⟨w.heap.size, 4, none⟩ = some (.string ⟨#[]⟩) := HZ2.out.cell 4
  have v4 : w2.frozen? ⟨w.heap.size, 4, none⟩ = false := HZ2.out.frozen 4
  cases b' with
  | true =>
    have HRES := Lib.hid (show res = (fr0, 3800) from HN.out ((HST.out.no rfl).resolve_left (by simp)))
    have BFF := Lib.hid (((((HZ2.out.set_ 0 (.int .i64 0)).set_ 1 (.int .i64 0)).set_ 2 (.int .i64 0)).set_ 3 (.int .i64 0)).set_ 4 (.string ⟨#[]⟩))
    go_wp2_with fail
    have k0 := BFF.out.cell 0
    have k1 := BFF.out.cell 1
    have k2 := BFF.out.cell 2
    have k3 := BFF.out.cell 3
    have k4 := BFF.out.cell 4
    refine bodyPost_ret (v := .tuple #[.agg #[.int .i64 0, .int .i64 0, .int .i64 0, .int .i64 0, .string ⟨#[]⟩], .int .i64 3800]) (by simp [results, Try.results22, go_sem, k0, k1, k2, k3, k4]) rfl ⟨by rw [HRES.out]; rfl, ?_⟩
    repeat (refine Below.setCell ?_ (Nat.le_refl w.heap.size) _)
    exact B2.out
  | false =>
    have HO := Lib.hid (HST.out.ok rfl).2
    by_cases hq : s'.toList = []
    rotate_left
    · have hq2 : s'.toList.isEmpty = false := by cases h : s'.toList with | nil => exact absurd h hq | cons a t => rfl
      have HRES := Lib.hid (show res = (fr0, 3800) from HM.out _ _ HO.out (fun e => hq (by rw [ByteArray.toList_eq]; exact e)))
      have BFF := Lib.hid (((((HZ2.out.set_ 0 (.int .i64 0)).set_ 1 (.int .i64 0)).set_ 2 (.int .i64 0)).set_ 3 (.int .i64 0)).set_ 4 (.string ⟨#[]⟩))
      go_wp2_with fail
      have k0 := BFF.out.cell 0
      have k1 := BFF.out.cell 1
      have k2 := BFF.out.cell 2
      have k3 := BFF.out.cell 3
      have k4 := BFF.out.cell 4
      refine bodyPost_ret (v := .tuple #[.agg #[.int .i64 0, .int .i64 0, .int .i64 0, .int .i64 0, .string ⟨#[]⟩], .int .i64 3800]) (by simp [results, Try.results22, go_sem, k0, k1, k2, k3, k4]) rfl ⟨by rw [HRES.out]; rfl, ?_⟩
      repeat (refine Below.setCell ?_ (Nat.le_refl w.heap.size) _)
      exact B2.out
    · have HE := Lib.hid (show s'.data.toList = [] by rw [← ByteArray.toList_eq]; exact hq)
      rw [HE.out] at HO
      by_cases hz : ec = 0
      rotate_left
      · have hz1 : (ec == 0) = false := by simpa using hz
        have hz2 : (ec != 0) = true := by simpa using hz
        have HRES := Lib.hid (show res = (fr0, 3800) from HBD.out _ HO.out (by rw [HTF.out]; exact hz))
        have BFF := Lib.hid (((((HZ2.out.set_ 0 (.int .i64 0)).set_ 1 (.int .i64 0)).set_ 2 (.int .i64 0)).set_ 3 (.int .i64 0)).set_ 4 (.string ⟨#[]⟩))
        go_wp2_with fail
        have k0 := BFF.out.cell 0
        have k1 := BFF.out.cell 1
        have k2 := BFF.out.cell 2
        have k3 := BFF.out.cell 3
        have k4 := BFF.out.cell 4
        refine bodyPost_ret (v := .tuple #[.agg #[.int .i64 0, .int .i64 0, .int .i64 0, .int .i64 0, .string ⟨#[]⟩], .int .i64 3800]) (by simp [results, Try.results22, go_sem, k0, k1, k2, k3, k4]) rfl ⟨by rw [HRES.out]; rfl, ?_⟩
        repeat (refine Below.setCell ?_ (Nat.le_refl w.heap.size) _)
        exact B2.out
      · subst hz
        have h1 := HOK.out _ (by omega) HO.out (by rw [HTF.out])
        rw [HTF.out] at h1
        dsimp only at h1
        by_cases hts : t = s
        rotate_left
        · rw [if_neg hts] at h1
          have hne : (t.toList == s.toList) = false := by
            rw [beq_eq_false_iff_ne]
            intro e
            exact hts (by rw [ba_mk t, ba_mk s, ← ByteArray.toList_eq, ← ByteArray.toList_eq, e])
          have HRS := Lib.hid h1
          clear h1
          have HRES := Lib.hid (show res = (fr0, 3800) from HRS.out)
          have BFF := Lib.hid (((((HZ2.out.set_ 0 (.int .i64 0)).set_ 1 (.int .i64 0)).set_ 2 (.int .i64 0)).set_ 3 (.int .i64 0)).set_ 4 (.string ⟨#[]⟩))
          go_wp2_with fail
          have k0 := BFF.out.cell 0
          have k1 := BFF.out.cell 1
          have k2 := BFF.out.cell 2
          have k3 := BFF.out.cell 3
          have k4 := BFF.out.cell 4
          refine bodyPost_ret (v := .tuple #[.agg #[.int .i64 0, .int .i64 0, .int .i64 0, .int .i64 0, .string ⟨#[]⟩], .int .i64 3800]) (by simp [results, Try.results22, go_sem, k0, k1, k2, k3, k4]) rfl ⟨by rw [HRES.out]; rfl, ?_⟩
          repeat (refine Below.setCell ?_ (Nat.le_refl w.heap.size) _)
          exact B2.out
        · rw [if_pos hts] at h1
          have HRES := Lib.hid h1
          clear h1
          subst hts
          have y0 : w2.cell? ⟨w1.heap.size, 0, none⟩ = some (.int .i64 xk) := HV2.out.cell 0
          have y1 : w2.cell? ⟨w1.heap.size, 1, none⟩ = some (.int .i64 xf) := HV2.out.cell 1
          have y2 : w2.cell? ⟨w1.heap.size, 2, none⟩ = some (.int .i64 xt) := HV2.out.cell 2
          have y3 : w2.cell? ⟨w1.heap.size, 3, none⟩ = some (.int .i64 xq) := HV2.out.cell 3
          have y4 : w2.cell? ⟨w1.heap.size, 4, none⟩ = some (.string xb) := HV2.out.cell 4
          have hl3 := HV2.out.lt
          have BFF := Lib.hid (((((HZ2.out.set_ 0 (.int .i64 xk)).set_ 1 (.int .i64 xf)).set_ 2 (.int .i64 xt)).set_ 3 (.int .i64 xq)).set_ 4 (.string xb))
          have hw1 : w.heap.size < w1.heap.size := by omega
          go_wp2_with fail
          have k0 := BFF.out.cell 0
          have k1 := BFF.out.cell 1
          have k2 := BFF.out.cell 2
          have k3 := BFF.out.cell 3
          have k4 := BFF.out.cell 4
          refine bodyPost_ret (v := .tuple #[.agg #[.int .i64 xk, .int .i64 xf, .int .i64 xt, .int .i64 xq, .string xb], .int .i64 0]) (by simp [results, Try.results22, go_sem, k0, k1, k2, k3, k4]) rfl ⟨by rw [HRES.out]; rfl, ?_⟩
          repeat (refine Below.setCell ?_ (Nat.le_refl w.heap.size) _)
          exact B2.out
end Go.Proofs.Ytfaophiaiflecaa
