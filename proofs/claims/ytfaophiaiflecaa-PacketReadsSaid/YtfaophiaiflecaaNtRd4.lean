/- Contract: reparteeref36.note (the reader). -/
import Derived.Test.YtfaophiaiflecaaNtRd3
import Derived.Test.YtfaophiaiflecaaNtD4
namespace Go.Proofs.Ytfaophiaiflecaa
open Go.RowKit
set_option linter.unusedVariables false

theorem Stp.b {s0 s1 s2 : ByteArray} {b0 b1 b2 : Bool} {k : ByteArray} {v : Vl} (h1 : Stp oneT s0 b0 k s1 b1) (h2 : Stp oneV s1 b1 v s2 b2) : Stp oneB s0 b0 ⟨k, v⟩ s2 b2 := by
  refine ⟨fun e => ?_, fun e => ?_, ?_⟩
  · obtain ⟨e2, f2⟩ := h2.ok e
    obtain ⟨e1, f1⟩ := h1.ok e2
    exact ⟨e1, by simp [oneB, f1, f2]⟩
  · cases b1 with
    | true =>
      rcases h1.no rfl with k | k
      · exact .inl k
      · exact .inr (by simp [oneB, k])
    | false =>
      have f1 := (h1.ok rfl).2
      rcases h2.no e with k | k
      · cases k
      · exact .inr (by simp [oneB, f1, k])
  · have := h1.le; have := h2.le; omega
theorem Stp.nt {s0 s1 s2 s3 s4 s5 s6 s7 s8 s9 : ByteArray} {b0 b1 b2 b3 b4 b5 b6 b7 b8 b9 : Bool} {k : Int} {ag : ByteArray} {se : ByteArray} {st : Int} {pe : ByteArray} {la : ByteArray} {v : Vl} {pr : Int} {en : List Bd} (h1 : Stp oneN s0 b0 k s1 b1) (h2 : Stp oneT s1 b1 ag s2 b2) (h3 : Stp oneT s2 b2 se s3 b3) (h4 : Stp oneN s3 b3 st s4 b4) (h5 : Stp oneT s4 b4 pe s5 b5) (h6 : Stp oneT s5 b5 la s6 b6) (h7 : Stp oneV s6 b6 v s7 b7) (h8 : Stp oneN s7 b7 pr s8 b8) (h9 : Stp (listF oneB) s8 b8 en s9 b9) : Stp oneNt s0 b0 ⟨k, ag, se, st, pe, la, v, pr, en⟩ s9 b9 := by
  refine ⟨fun e => ?_, fun e => ?_, ?_⟩
  · obtain ⟨e9, f9⟩ := h9.ok e
    obtain ⟨e8, f8⟩ := h8.ok e9
    obtain ⟨e7, f7⟩ := h7.ok e8
    obtain ⟨e6, f6⟩ := h6.ok e7
    obtain ⟨e5, f5⟩ := h5.ok e6
    obtain ⟨e4, f4⟩ := h4.ok e5
    obtain ⟨e3, f3⟩ := h3.ok e4
    obtain ⟨e2, f2⟩ := h2.ok e3
    obtain ⟨e1, f1⟩ := h1.ok e2
    exact ⟨e1, by simp [oneNt, f1, f2, f3, f4, f5, f6, f7, f8, f9]⟩
  · cases b1 with
    | true =>
      rcases h1.no rfl with k | k
      · exact .inl k
      · exact .inr (by simp [oneNt, k])
    | false =>
      have f1 := (h1.ok rfl).2
      cases b2 with
      | true =>
        rcases h2.no rfl with k | k
        · cases k
        · exact .inr (by simp [oneNt, f1, k])
      | false =>
        have f2 := (h2.ok rfl).2
        cases b3 with
        | true =>
          rcases h3.no rfl with k | k
          · cases k
          · exact .inr (by simp [oneNt, f1, f2, k])
        | false =>
          have f3 := (h3.ok rfl).2
          cases b4 with
          | true =>
            rcases h4.no rfl with k | k
            · cases k
            · exact .inr (by simp [oneNt, f1, f2, f3, k])
          | false =>
            have f4 := (h4.ok rfl).2
            cases b5 with
            | true =>
              rcases h5.no rfl with k | k
              · cases k
              · exact .inr (by simp [oneNt, f1, f2, f3, f4, k])
            | false =>
              have f5 := (h5.ok rfl).2
              cases b6 with
              | true =>
                rcases h6.no rfl with k | k
                · cases k
                · exact .inr (by simp [oneNt, f1, f2, f3, f4, f5, k])
              | false =>
                have f6 := (h6.ok rfl).2
                cases b7 with
                | true =>
                  rcases h7.no rfl with k | k
                  · cases k
                  · exact .inr (by simp [oneNt, f1, f2, f3, f4, f5, f6, k])
                | false =>
                  have f7 := (h7.ok rfl).2
                  cases b8 with
                  | true =>
                    rcases h8.no rfl with k | k
                    · cases k
                    · exact .inr (by simp [oneNt, f1, f2, f3, f4, f5, f6, f7, k])
                  | false =>
                    have f8 := (h8.ok rfl).2
                    rcases h9.no e with k | k
                    · cases k
                    · exact .inr (by simp [oneNt, f1, f2, f3, f4, f5, f6, f7, f8, k])
  · have := h1.le; have := h2.le; have := h3.le; have := h4.le; have := h5.le; have := h6.le; have := h7.le; have := h8.le; have := h9.le; omega
/-- A list of numbers lies there, behind the block h and ahead of M. -/
structure Far (h M : Nat) (w : World) (A : Option Addr) (l : List Int) : Prop where
  a : Ints w A l
  b : ∀ a, A = some a → h < a.block ∧ a.block < M
theorem Far.grown {h M g : Nat} {w w' : World} {A : Option Addr} {l : List Int} (H : Far h M w A l) (k : w.grownBy w' (some g)) (hg : g ≤ h) : Far h M w' A l :=
  ⟨by
    cases A with
    | none => exact fun hn => by obtain ⟨_, _, e, _⟩ := H.a hn; cases e
    | some a => exact rd_grown H.a k (by have := (H.b a rfl).1; simp [blkOf]; omega), H.b⟩
theorem Far.row {h M : Nat} {w w' : World} {A : Option Addr} {l : List Int} {row : Option Nat} (H : Far h M w A l) (k : w.grownBy w' row) (hr : ∀ g, row = some g → M ≤ g) : Far h M w' A l :=
  ⟨by
    cases A with
    | none => exact fun hn => by obtain ⟨_, _, e, _⟩ := H.a hn; cases e
    | some a => exact rd_grown H.a k (fun e => by have := (H.b a rfl).2; simp [blkOf] at e; have := hr _ e.symm; omega), H.b⟩
theorem BRow.kept {N g : Nat} {w w' : World} {A : Option Addr} {c : Nat} {l : List Bd} (H : BRow N w A c l) (k : w.grownBy w' (some g)) (hg : g < N) : BRow N w' A c l := by
  obtain ⟨R, h1, h2, h3⟩ := H
  refine ⟨R, h1, h2.kept k ?_, fun i b r hi hr => ⟨?_, fun a ha => ⟨((h3 i b r hi hr).2 a ha).1, Nat.lt_of_lt_of_le ((h3 i b r hi hr).2 a ha).2.1 k.size, ((h3 i b r hi hr).2 a ha).2.2⟩⟩⟩
  · cases hq : (Value.slice A l.length c).ownBlock with
    | none => exact .inl rfl
    | some j => exact .inr (fun e => by injection e with e; have := (h2.lt j hq).1; omega)
  · have h4 := (h3 i b r hi hr).1
    have h5 := (h3 i b r hi hr).2
    cases hq : r.1 with
    | none => rw [hq] at h4; exact fun hn => by obtain ⟨_, _, e, _⟩ := h4 hn; cases e
    | some a => rw [hq] at h4; exact rd_grown h4 k (by have := (h5 a hq).1; simp [blkOf]; omega)
theorem BRow.own_lt {N : Nat} {w : World} {A : Option Addr} {c : Nat} {l : List Bd} (H : BRow N w A c l) : ∀ k, (Value.slice A l.length c).ownBlock = some k → k < w.heap.size := fun k hk => by
  obtain ⟨R, _, h2, _⟩ := H
  exact (h2.lt k hk).2
theorem grown_more {w w1 : World} {g : Nat} (h : w.grownBy w1 (some g)) (i : Nat) (u : Value) : w.grownBy (w1.setCell ⟨g, i, none⟩ u) (some g) := grown_trans h (grown_setCell _ ⟨g, i, none⟩ u)
def RdNt (g : Nat) (s : ByteArray) (b : Bool) (w : World) (e : Ending) (w' : World) : Prop := ∃ (x : Nt) (A : Option Addr) (c : Nat) (E : Option Addr) (d : Nat) (s' : ByteArray) (b' : Bool), e = .returned (.agg (x.cells A c E d)) ∧ Stp oneNt s b x s' b' ∧ NtX w' w.heap.size x A E ∧ x.v.l.length ≤ 1000000000 ∧ x.env.length ≤ 1000000000 ∧ (∀ b ∈ x.env, b.v.l.length ≤ 1000000000) ∧ (x.env.length ≤ 20 → NtOk x) ∧ RdB g s' b' w w'
set_option maxRecDepth 100000 in
set_option maxHeartbeats 16000000 in
theorem rnote_any (g : Nat) (s : ByteArray) (b : Bool) (w : World) (hb : Blk w g #[.string s, .bool b] 79) (hs : s.size ≤ 1000000) :
    Calls Try.prog 48 #[.pointer (some ⟨g, 0, none⟩)] w (RdNt g s b w) := by
  obtain ⟨i0, hi0, hz0, hz1, hz2⟩ := info_parts infoBd
  have hg := hb.lt
  obtain ⟨W0, hW0⟩ : ∃ W0, W0 = w.alloc (.cells #[.int .i64 0, .string ⟨#[]⟩, .string ⟨#[]⟩, .int .i64 0, .string ⟨#[]⟩, .string ⟨#[]⟩, .int .i64 0, .int .i64 0, .string ⟨#[]⟩, .slice none 0 0, .int .i64 0, .slice none 0 0] 41) := ⟨_, rfl⟩
  have hNW : w.heap.size < W0.heap.size := by rw [hW0]; simp
  have HR0 := Lib.hid (show RdB g s b w W0 by rw [hW0]; exact (⟨hb, grown_of_below (Below.refl _ _) _⟩ : RdB g s b w w).alloc _)
  have HZ0 := Lib.hid (show Blk W0 w.heap.size #[.int .i64 0, .string ⟨#[]⟩, .string ⟨#[]⟩, .int .i64 0, .string ⟨#[]⟩, .string ⟨#[]⟩, .int .i64 0, .int .i64 0, .string ⟨#[]⟩, .slice none 0 0, .int .i64 0, .slice none 0 0] 41 by rw [hW0]; exact Blk.new _ _ _)
  have HW := Lib.hid hW0
  have hgN : w.heap.size ≠ g := by omega
  clear hW0 hb
  have C1 := Lib.hid (rint_any g s b W0 HR0.out.blk (by omega))
  go_enter Try.func48, Try.ntmps48
  go_wp2_with fail
  rw [← HW.out]
  refine C1.out.mono ?_
  rintro e w1 ⟨n1, s1, b1, rfl, st1, i1, rb1⟩
  have l1 := st1.le
  have ST1 := Lib.hid st1
  have HR1 := Lib.hid (HR0.out.trans rb1)
  have HZ1 := Lib.hid (HZ0.out.grown rb1.gr (by simpa using hgN))
  have hN1 : w.heap.size < w1.heap.size := Nat.lt_of_lt_of_le hNW rb1.gr.size
  have I1 := Lib.hid i1
  clear st1 rb1 i1 C1
  have HV1 := Lib.hid (Blk.new w1 #[.int .i64 n1, .string ⟨#[]⟩, .string ⟨#[]⟩, .int .i64 0, .string ⟨#[]⟩, .string ⟨#[]⟩, .int .i64 0, .int .i64 0, .string ⟨#[]⟩, .slice none 0 0, .int .i64 0, .slice none 0 0] 41)
  obtain ⟨W1, hW1⟩ : ∃ W1, W1 = w1.alloc (.cells #[.int .i64 n1, .string ⟨#[]⟩, .string ⟨#[]⟩, .int .i64 0, .string ⟨#[]⟩, .string ⟨#[]⟩, .int .i64 0, .int .i64 0, .string ⟨#[]⟩, .slice none 0 0, .int .i64 0, .slice none 0 0] 41) := ⟨_, rfl⟩
  rw [← hW1] at HV1
  have HR1' := Lib.hid (show RdB g s1 b1 w W1 by rw [hW1]; exact HR1.out.alloc _)
  have HZ1' := Lib.hid (show Blk W1 w.heap.size #[.int .i64 0, .string ⟨#[]⟩, .string ⟨#[]⟩, .int .i64 0, .string ⟨#[]⟩, .string ⟨#[]⟩, .int .i64 0, .int .i64 0, .string ⟨#[]⟩, .slice none 0 0, .int .i64 0, .slice none 0 0] 41 by rw [hW1]; exact HZ1.out.alloc _)
  have HW1 := Lib.hid hW1
  have hszW : W1.heap.size = w1.heap.size + 1 := by rw [hW1]; simp
  clear hW1
  obtain ⟨h, hh⟩ : ∃ h, h = w1.heap.size := ⟨_, rfl⟩
  have HH := Lib.hid hh
  have hhN : w.heap.size < h := by omega
  have hgh : h ≠ g := by omega
  have HS1 := Lib.hid (show h < W1.heap.size by omega)
  rw [← hh] at HV1
  clear hh hszW
  have C2 := Lib.hid (rtext_any g s1 b1 W1 HR1'.out.blk (by omega))
  go_wp2_with fail
  rw [← HW1.out]
  refine C2.out.mono ?_
  rintro e w2 ⟨n2, s2, b2, rfl, st2, i2, rb2⟩
  have l2 := st2.le
  have ST2 := Lib.hid st2
  have I2 := Lib.hid i2
  have HS2 := Lib.hid (show h < w2.heap.size from Nat.lt_of_lt_of_le HS1.out rb2.gr.size)
  have HR2 := Lib.hid (HR1'.out.trans rb2)
  have HZ2 := Lib.hid (HZ1'.out.grown rb2.gr (by simpa using hgN))
  have HV2 := Lib.hid (HV1.out.grown rb2.gr (by simpa using hgh))
  have t1 : w2.cell? ⟨h, 1, none⟩ = some (.string ⟨#[]⟩) := HV2.out.cell 1
  have f1 : w2.frozen? ⟨h, 1, none⟩ = false := HV2.out.frozen 1
  have hl := HV2.out.lt
  have HR2' := Lib.hid (HR2.out.set hg (p := ⟨h, 1, none⟩) (Nat.le_of_lt hhN) (.string n2))
  have HZ2' := Lib.hid (HZ2.out.far (p := ⟨h, 1, none⟩) (Nat.ne_of_lt hhN) (.string n2))
  have HV2' := Lib.hid (show Blk (w2.setCell ⟨h, 1, none⟩ (.string n2)) h #[.int .i64 n1, .string n2, .string ⟨#[]⟩, .int .i64 0, .string ⟨#[]⟩, .string ⟨#[]⟩, .int .i64 0, .int .i64 0, .string ⟨#[]⟩, .slice none 0 0, .int .i64 0, .slice none 0 0] 41 by simpa using (HV2.out.set_ 1 (.string n2)))
  clear st2 rb2 i2 C2
  have C3 := Lib.hid (rtext_any g s2 b2 _ HR2'.out.blk (by omega))
  rw [← HH.out]
  go_wp2_with fail
  refine C3.out.mono ?_
  clear t1 f1 hl
  rintro e w3 ⟨n3, s3, b3, rfl, st3, i3, rb3⟩
  have l3 := st3.le
  have ST3 := Lib.hid st3
  have I3 := Lib.hid i3
  have HS3 := Lib.hid (show h < w3.heap.size from Nat.lt_of_lt_of_le HS2.out (by have := rb3.gr.size; simpa using this))
  have HR3 := Lib.hid (HR2'.out.trans rb3)
  have HZ3 := Lib.hid (HZ2'.out.grown rb3.gr (by simpa using hgN))
  have HV3 := Lib.hid (HV2'.out.grown rb3.gr (by simpa using hgh))
  have t2 : w3.cell? ⟨h, 2, none⟩ = some (.string ⟨#[]⟩) := HV3.out.cell 2
  have f2 : w3.frozen? ⟨h, 2, none⟩ = false := HV3.out.frozen 2
  have hl := HV3.out.lt
  have HR3' := Lib.hid (HR3.out.set hg (p := ⟨h, 2, none⟩) (Nat.le_of_lt hhN) (.string n3))
  have HZ3' := Lib.hid (HZ3.out.far (p := ⟨h, 2, none⟩) (Nat.ne_of_lt hhN) (.string n3))
  have HV3' := Lib.hid (show Blk (w3.setCell ⟨h, 2, none⟩ (.string n3)) h #[.int .i64 n1, .string n2, .string n3, .int .i64 0, .string ⟨#[]⟩, .string ⟨#[]⟩, .int .i64 0, .int .i64 0, .string ⟨#[]⟩, .slice none 0 0, .int .i64 0, .slice none 0 0] 41 by simpa using (HV3.out.set_ 2 (.string n3)))
  clear st3 rb3 i3 C3
  have C4 := Lib.hid (rint_any g s3 b3 _ HR3'.out.blk (by omega))
  skip
  go_wp2_with fail
  refine C4.out.mono ?_
  clear t2 f2 hl
  rintro e w4 ⟨n4, s4, b4, rfl, st4, i4, rb4⟩
  have l4 := st4.le
  have ST4 := Lib.hid st4
  have I4 := Lib.hid i4
  have HS4 := Lib.hid (show h < w4.heap.size from Nat.lt_of_lt_of_le HS3.out (by have := rb4.gr.size; simpa using this))
  have HR4 := Lib.hid (HR3'.out.trans rb4)
  have HZ4 := Lib.hid (HZ3'.out.grown rb4.gr (by simpa using hgN))
  have HV4 := Lib.hid (HV3'.out.grown rb4.gr (by simpa using hgh))
  have t3 : w4.cell? ⟨h, 3, none⟩ = some (.int .i64 0) := HV4.out.cell 3
  have f3 : w4.frozen? ⟨h, 3, none⟩ = false := HV4.out.frozen 3
  have hl := HV4.out.lt
  have HR4' := Lib.hid (HR4.out.set hg (p := ⟨h, 3, none⟩) (Nat.le_of_lt hhN) (.int .i64 n4))
  have HZ4' := Lib.hid (HZ4.out.far (p := ⟨h, 3, none⟩) (Nat.ne_of_lt hhN) (.int .i64 n4))
  have HV4' := Lib.hid (show Blk (w4.setCell ⟨h, 3, none⟩ (.int .i64 n4)) h #[.int .i64 n1, .string n2, .string n3, .int .i64 n4, .string ⟨#[]⟩, .string ⟨#[]⟩, .int .i64 0, .int .i64 0, .string ⟨#[]⟩, .slice none 0 0, .int .i64 0, .slice none 0 0] 41 by simpa using (HV4.out.set_ 3 (.int .i64 n4)))
  clear st4 rb4 i4 C4
  have C5 := Lib.hid (rtext_any g s4 b4 _ HR4'.out.blk (by omega))
  skip
  go_wp2_with fail
  refine C5.out.mono ?_
  clear t3 f3 hl
  rintro e w5 ⟨n5, s5, b5, rfl, st5, i5, rb5⟩
  have l5 := st5.le
  have ST5 := Lib.hid st5
  have I5 := Lib.hid i5
  have HS5 := Lib.hid (show h < w5.heap.size from Nat.lt_of_lt_of_le HS4.out (by have := rb5.gr.size; simpa using this))
  have HR5 := Lib.hid (HR4'.out.trans rb5)
  have HZ5 := Lib.hid (HZ4'.out.grown rb5.gr (by simpa using hgN))
  have HV5 := Lib.hid (HV4'.out.grown rb5.gr (by simpa using hgh))
  have t4 : w5.cell? ⟨h, 4, none⟩ = some (.string ⟨#[]⟩) := HV5.out.cell 4
  have f4 : w5.frozen? ⟨h, 4, none⟩ = false := HV5.out.frozen 4
  have hl := HV5.out.lt
  have HR5' := Lib.hid (HR5.out.set hg (p := ⟨h, 4, none⟩) (Nat.le_of_lt hhN) (.string n5))
  have HZ5' := Lib.hid (HZ5.out.far (p := ⟨h, 4, none⟩) (Nat.ne_of_lt hhN) (.string n5))
  have HV5' := Lib.hid (show Blk (w5.setCell ⟨h, 4, none⟩ (.string n5)) h #[.int .i64 n1, .string n2, .string n3, .int .i64 n4, .string n5, .string ⟨#[]⟩, .int .i64 0, .int .i64 0, .string ⟨#[]⟩, .slice none 0 0, .int .i64 0, .slice none 0 0] 41 by simpa using (HV5.out.set_ 4 (.string n5)))
  clear st5 rb5 i5 C5
  have C6 := Lib.hid (rtext_any g s5 b5 _ HR5'.out.blk (by omega))
  skip
  go_wp2_with fail
  refine C6.out.mono ?_
  clear t4 f4 hl
  rintro e w6 ⟨n6, s6, b6, rfl, st6, i6, rb6⟩
  have l6 := st6.le
  have ST6 := Lib.hid st6
  have I6 := Lib.hid i6
  have HS6 := Lib.hid (show h < w6.heap.size from Nat.lt_of_lt_of_le HS5.out (by have := rb6.gr.size; simpa using this))
  have HR6 := Lib.hid (HR5'.out.trans rb6)
  have HZ6 := Lib.hid (HZ5'.out.grown rb6.gr (by simpa using hgN))
  have HV6 := Lib.hid (HV5'.out.grown rb6.gr (by simpa using hgh))
  have t5 : w6.cell? ⟨h, 5, none⟩ = some (.string ⟨#[]⟩) := HV6.out.cell 5
  have f5 : w6.frozen? ⟨h, 5, none⟩ = false := HV6.out.frozen 5
  have hl := HV6.out.lt
  have HR6' := Lib.hid (HR6.out.set hg (p := ⟨h, 5, none⟩) (Nat.le_of_lt hhN) (.string n6))
  have HZ6' := Lib.hid (HZ6.out.far (p := ⟨h, 5, none⟩) (Nat.ne_of_lt hhN) (.string n6))
  have HV6' := Lib.hid (show Blk (w6.setCell ⟨h, 5, none⟩ (.string n6)) h #[.int .i64 n1, .string n2, .string n3, .int .i64 n4, .string n5, .string n6, .int .i64 0, .int .i64 0, .string ⟨#[]⟩, .slice none 0 0, .int .i64 0, .slice none 0 0] 41 by simpa using (HV6.out.set_ 5 (.string n6)))
  clear st6 rb6 i6 C6
  have C7 := Lib.hid (rvalue_any g s6 b6 _ HR6'.out.blk (by omega))
  skip
  go_wp2_with fail
  refine C7.out.mono ?_
  clear t5 f5 hl
  rintro e w7 ⟨⟨vk, vn, vs, vl⟩, A7, c7, s7, b7, rfl, st7, i7, il7, is7, ia7, ib7, rb7⟩
  have l7 := st7.le
  have ST7 := Lib.hid st7
  have I7 := Lib.hid i7
  have IL7 := Lib.hid il7
  have HF7 := Lib.hid (show Far h w7.heap.size w7 A7 vl from ⟨ia7, fun a ha => ⟨by have h1 := (ib7 a ha).1; simp at h1; have := HS6.out; omega, (ib7 a ha).2⟩⟩)
  have HS7 := Lib.hid (show h < w7.heap.size from Nat.lt_of_lt_of_le HS6.out (by have := rb7.gr.size; simpa using this))
  have HR7 := Lib.hid (HR6'.out.trans rb7)
  have HZ7 := Lib.hid (HZ6'.out.grown rb7.gr (by simpa using hgN))
  have HV7 := Lib.hid (HV6'.out.grown rb7.gr (by simpa using hgh))
  have t6 : w7.cell? ⟨h, 6, none⟩ = some (.int .i64 0) := HV7.out.cell 6
  have f6 : w7.frozen? ⟨h, 6, none⟩ = false := HV7.out.frozen 6
  have t7 : w7.cell? ⟨h, 7, none⟩ = some (.int .i64 0) := HV7.out.cell 7
  have f7 : w7.frozen? ⟨h, 7, none⟩ = false := HV7.out.frozen 7
  have t8 : w7.cell? ⟨h, 8, none⟩ = some (.string ⟨#[]⟩) := HV7.out.cell 8
  have f8 : w7.frozen? ⟨h, 8, none⟩ = false := HV7.out.frozen 8
  have t9 : w7.cell? ⟨h, 9, none⟩ = some (.slice none 0 0) := HV7.out.cell 9
  have f9 : w7.frozen? ⟨h, 9, none⟩ = false := HV7.out.frozen 9
  have hl := HV7.out.lt
  have HR7' := Lib.hid ((((HR7.out.set hg (p := ⟨h, 6, none⟩) (Nat.le_of_lt hhN) (.int .i64 vk)).set hg (p := ⟨h, 7, none⟩) (Nat.le_of_lt hhN) (.int .i64 vn)).set hg (p := ⟨h, 8, none⟩) (Nat.le_of_lt hhN) (.string vs)).set hg (p := ⟨h, 9, none⟩) (Nat.le_of_lt hhN) (.slice A7 vl.length c7))
  have HZ7' := Lib.hid ((((HZ7.out.far (p := ⟨h, 6, none⟩) (Nat.ne_of_lt hhN) (.int .i64 vk)).far (p := ⟨h, 7, none⟩) (Nat.ne_of_lt hhN) (.int .i64 vn)).far (p := ⟨h, 8, none⟩) (Nat.ne_of_lt hhN) (.string vs)).far (p := ⟨h, 9, none⟩) (Nat.ne_of_lt hhN) (.slice A7 vl.length c7))
  have HV7' := Lib.hid (show Blk ((((w7.setCell ⟨h, 6, none⟩ (.int .i64 vk)).setCell ⟨h, 7, none⟩ (.int .i64 vn)).setCell ⟨h, 8, none⟩ (.string vs)).setCell ⟨h, 9, none⟩ (.slice A7 vl.length c7)) h #[.int .i64 n1, .string n2, .string n3, .int .i64 n4, .string n5, .string n6, .int .i64 vk, .int .i64 vn, .string vs, .slice A7 vl.length c7, .int .i64 0, .slice none 0 0] 41 by simpa using ((((HV7.out.set_ 6 (.int .i64 vk)).set_ 7 (.int .i64 vn)).set_ 8 (.string vs)).set_ 9 (.slice A7 vl.length c7)))
  have HF7' := Lib.hid ((((HF7.out.grown (grown_setCell _ ⟨h, 6, none⟩ (.int .i64 vk)) (Nat.le_refl h)).grown (grown_setCell _ ⟨h, 7, none⟩ (.int .i64 vn)) (Nat.le_refl h)).grown (grown_setCell _ ⟨h, 8, none⟩ (.string vs)) (Nat.le_refl h)).grown (grown_setCell _ ⟨h, 9, none⟩ (.slice A7 vl.length c7)) (Nat.le_refl h))
  clear st7 rb7 i7 C7 il7 ia7 ib7 is7
  have C8 := Lib.hid (rint_any g s7 b7 _ HR7'.out.blk (by omega))
  skip
  go_wp2_with fail
  refine C8.out.mono ?_
  clear t6 f6 t7 f7 t8 f8 t9 f9 hl
  rintro e w8 ⟨n8, s8, b8, rfl, st8, i8, rb8⟩
  have l8 := st8.le
  have ST8 := Lib.hid st8
  have I8 := Lib.hid i8
  have HF8 := Lib.hid (HF7'.out.grown rb8.gr (Nat.le_of_lt (show g < h by omega)))
  have HS8 := Lib.hid (show h < w8.heap.size from Nat.lt_of_lt_of_le HS7.out (by have := rb8.gr.size; simpa using this))
  have HR8 := Lib.hid (HR7'.out.trans rb8)
  have hz8 : w7.heap.size ≤ w8.heap.size := by have := rb8.gr.size; simpa using this
  have HZ8 := Lib.hid (HZ7'.out.grown rb8.gr (by simpa using hgN))
  have HV8 := Lib.hid (HV7'.out.grown rb8.gr (by simpa using hgh))
  have t10 : w8.cell? ⟨h, 10, none⟩ = some (.int .i64 0) := HV8.out.cell 10
  have f10 : w8.frozen? ⟨h, 10, none⟩ = false := HV8.out.frozen 10
  have hl := HV8.out.lt
  have HR8' := Lib.hid (HR8.out.set hg (p := ⟨h, 10, none⟩) (Nat.le_of_lt hhN) (.int .i64 n8))
  have HZ8' := Lib.hid (HZ8.out.far (p := ⟨h, 10, none⟩) (Nat.ne_of_lt hhN) (.int .i64 n8))
  have HV8' := Lib.hid (show Blk (w8.setCell ⟨h, 10, none⟩ (.int .i64 n8)) h #[.int .i64 n1, .string n2, .string n3, .int .i64 n4, .string n5, .string n6, .int .i64 vk, .int .i64 vn, .string vs, .slice A7 vl.length c7, .int .i64 n8, .slice none 0 0] 41 by simpa using (HV8.out.set_ 10 (.int .i64 n8)))
  have HF8' := Lib.hid (HF8.out.grown (grown_setCell _ ⟨h, 10, none⟩ (.int .i64 n8)) (Nat.le_refl h))
  clear st8 rb8 i8 C8
  have C9 := Lib.hid (rcount_any g s8 b8 _ HR8'.out.blk (by omega))
  go_wp2_with fail
  refine C9.out.mono ?_
  clear t10 f10 hl
  rintro e w9 ⟨n9, ⟨n9', s9, b9, rfl, st9, i9, rb9⟩, en, hn9⟩
  injection en with en
  injection en with _ en
  subst en
  have l9 := st9.le
  have ST9 := Lib.hid st9
  have HR9 := Lib.hid (HR8'.out.trans rb9)
  have HZ9 := Lib.hid (HZ8'.out.grown rb9.gr (by simpa using hgN))
  have HV9 := Lib.hid (HV8'.out.grown rb9.gr (by simpa using hgh))
  have HF9 := Lib.hid (HF8'.out.grown rb9.gr (Nat.le_of_lt (show g < h by omega)))
  have hz9 : w8.heap.size ≤ w9.heap.size := by have := rb9.gr.size; simpa using this
  have hM : w7.heap.size ≤ w9.heap.size := by omega
  have HM9 := Lib.hid (show h < w9.heap.size from HV9.out.lt)
  clear st9 rb9 i9 C9
  go_wp2_with fail
  go_loopw [5] (fun i wr => ∃ (l : List Bd) (E : Option Addr) (d : Nat) (s' : ByteArray) (b' : Bool), i = .int .i64 l.length ∧ l.length ≤ n9 ∧ Hid (∀ x ∈ l, BdOk x) ∧ Hid (LpS oneB n9 s9 b9 l s' b') ∧ Hid (RdB g s' b' w wr) ∧ Hid (Blk wr w.heap.size #[.int .i64 0, .string ⟨#[]⟩, .string ⟨#[]⟩, .int .i64 0, .string ⟨#[]⟩, .string ⟨#[]⟩, .int .i64 0, .int .i64 0, .string ⟨#[]⟩, .slice none 0 0, .int .i64 0, .slice none 0 0] 41) ∧ Hid (Blk wr h #[.int .i64 n1, .string n2, .string n3, .int .i64 n4, .string n5, .string n6, .int .i64 vk, .int .i64 vn, .string vs, .slice A7 vl.length c7, .int .i64 n8, .slice E l.length d] 41) ∧ Hid (BRow w9.heap.size wr E d l) ∧ Hid (Far h w7.heap.size wr A7 vl) ∧ w9.heap.size ≤ wr.heap.size) (fun i _ => n9 - (intOf i).toNat)
  case atStart => exact ⟨[], none, 0, s9, b9, rfl, Nat.zero_le _, Lib.hid (by simp), Lib.hid (LpS.start _ _ _ _), HR9, HZ9, HV9, Lib.hid (BRow.nil _ _), HF9, Nat.le_refl _⟩
  case round =>
    obtain ⟨l, E, d, s', b', rfl, hln, HI, HL, HR, HZ, HV, HO, HF, hwr⟩ := hrel
    have hm9 := HM9.out
    have hle := HL.out.le
    obtain ⟨x0, x1, f0, f1⟩ := blk2' HR.out.blk
    have hlr := HV.out.lt
    by_cases hlt : l.length < n9
    · have hd : decide ((l.length : Int) < (n9 : Int)) = true := by simp; omega
      cases b' with
      | true =>
        have y0 : wr.cell? ⟨h, 0, none⟩ = some (.int .i64 n1) := HV.out.cell 0
        have y1 : wr.cell? ⟨h, 1, none⟩ = some (.string n2) := HV.out.cell 1
        have y2 : wr.cell? ⟨h, 2, none⟩ = some (.string n3) := HV.out.cell 2
        have y3 : wr.cell? ⟨h, 3, none⟩ = some (.int .i64 n4) := HV.out.cell 3
        have y4 : wr.cell? ⟨h, 4, none⟩ = some (.string n5) := HV.out.cell 4
        have y5 : wr.cell? ⟨h, 5, none⟩ = some (.string n6) := HV.out.cell 5
        have y6 : wr.cell? ⟨h, 6, none⟩ = some (.int .i64 vk) := HV.out.cell 6
        have y7 : wr.cell? ⟨h, 7, none⟩ = some (.int .i64 vn) := HV.out.cell 7
        have y8 : wr.cell? ⟨h, 8, none⟩ = some (.string vs) := HV.out.cell 8
        have y9 : wr.cell? ⟨h, 9, none⟩ = some (.slice A7 vl.length c7) := HV.out.cell 9
        have y10 : wr.cell? ⟨h, 10, none⟩ = some (.int .i64 n8) := HV.out.cell 10
        have y11 : wr.cell? ⟨h, 11, none⟩ = some (.slice E l.length d) := HV.out.cell 11
        have z0 : wr.cell? ⟨w.heap.size, 0, none⟩ = some (.int .i64 0) := HZ.out.cell 0
        have v0 : wr.frozen? ⟨w.heap.size, 0, none⟩ = false := HZ.out.frozen 0
        have z1 : wr.cell? ⟨w.heap.size, 1, none⟩ = some (.string ⟨#[]⟩) := HZ.out.cell 1
        have v1 : wr.frozen? ⟨w.heap.size, 1, none⟩ = false := HZ.out.frozen 1
        have z2 : wr.cell? ⟨w.heap.size, 2, none⟩ = some (.string ⟨#[]⟩) := HZ.out.cell 2
        have v2 : wr.frozen? ⟨w.heap.size, 2, none⟩ = false := HZ.out.frozen 2
        have z3 : wr.cell? ⟨w.heap.size, 3, none⟩ = some (.int .i64 0) := HZ.out.cell 3
        have v3 : wr.frozen? ⟨w.heap.size, 3, none⟩ = false := HZ.out.frozen 3
        have z4 : wr.cell? ⟨w.heap.size, 4, none⟩ = some (.string ⟨#[]⟩) := HZ.out.cell 4
        have v4 : wr.frozen? ⟨w.heap.size, 4, none⟩ = false := HZ.out.frozen 4
        have z5 : wr.cell? ⟨w.heap.size, 5, none⟩ = some (.string ⟨#[]⟩) := HZ.out.cell 5
        have v5 : wr.frozen? ⟨w.heap.size, 5, none⟩ = false := HZ.out.frozen 5
        have z6 : wr.cell? ⟨w.heap.size, 6, none⟩ = some (.int .i64 0) := HZ.out.cell 6
        have v6 : wr.frozen? ⟨w.heap.size, 6, none⟩ = false := HZ.out.frozen 6
        have z7 : wr.cell? ⟨w.heap.size, 7, none⟩ = some (.int .i64 0) := HZ.out.cell 7
        have v7 : wr.frozen? ⟨w.heap.size, 7, none⟩ = false := HZ.out.frozen 7
        have z8 : wr.cell? ⟨w.heap.size, 8, none⟩ = some (.string ⟨#[]⟩) := HZ.out.cell 8
        have v8 : wr.frozen? ⟨w.heap.size, 8, none⟩ = false := HZ.out.frozen 8
        have z9 : wr.cell? ⟨w.heap.size, 9, none⟩ = some (.slice none 0 0) := HZ.out.cell 9
        have v9 : wr.frozen? ⟨w.heap.size, 9, none⟩ = false := HZ.out.frozen 9
        have z10 : wr.cell? ⟨w.heap.size, 10, none⟩ = some (.int .i64 0) := HZ.out.cell 10
        have v10 : wr.frozen? ⟨w.heap.size, 10, none⟩ = false := HZ.out.frozen 10
        have z11 : wr.cell? ⟨w.heap.size, 11, none⟩ = some (.slice none 0 0) := HZ.out.cell 11
        have v11 : wr.frozen? ⟨w.heap.size, 11, none⟩ = false := HZ.out.frozen 11
        have B48 := Lib.hid (blk_set12 HZ.out (.int .i64 n1) (.string n2) (.string n3) (.int .i64 n4) (.string n5) (.string n6) (.int .i64 vk) (.int .i64 vn) (.string vs) (.slice A7 vl.length c7) (.int .i64 n8) (.slice E l.length d))
        have HLF := Lib.hid (LpS.list ST9.out HL.out (by intro e; cases e))
        have G12 := Lib.hid (grown_more (grown_more (grown_more (grown_more (grown_more (grown_more (grown_more (grown_more (grown_more (grown_more (grown_more (grown_setCell wr ⟨w.heap.size, 0, none⟩ (.int .i64 n1)) 1 (.string n2)) 2 (.string n3)) 3 (.int .i64 n4)) 4 (.string n5)) 5 (.string n6)) 6 (.int .i64 vk)) 7 (.int .i64 vn)) 8 (.string vs)) 9 (.slice A7 vl.length c7)) 10 (.int .i64 n8)) 11 (.slice E l.length d))
        have hlz := HZ.out.lt
        go_wp2_with fail
        have k0 := B48.out.cell 0
        have k1 := B48.out.cell 1
        have k2 := B48.out.cell 2
        have k3 := B48.out.cell 3
        have k4 := B48.out.cell 4
        have k5 := B48.out.cell 5
        have k6 := B48.out.cell 6
        have k7 := B48.out.cell 7
        have k8 := B48.out.cell 8
        have k9 := B48.out.cell 9
        have k10 := B48.out.cell 10
        have k11 := B48.out.cell 11
        refine bodyPost_ret (v := .agg #[.int .i64 n1, .string n2, .string n3, .int .i64 n4, .string n5, .string n6, .int .i64 vk, .int .i64 vn, .string vs, .slice A7 vl.length c7, .int .i64 n8, .slice E l.length d]) (by simp [results, Try.results48, go_sem, k0, k1, k2, k3, k4, k5, k6, k7, k8, k9, k10, k11]) rfl ⟨⟨n1, n2, n3, n4, n5, n6, ⟨vk, vn, vs, vl⟩, n8, l⟩, A7, c7, E, d, s', _, rfl, Stp.nt ST1.out ST2.out ST3.out ST4.out ST5.out ST6.out ST7.out ST8.out HLF.out, ⟨(HF.out.grown G12.out (Nat.le_of_lt hhN)).a, fun a ha => ⟨by have := (HF.out.b a ha).1; omega, by have := (HF.out.b a ha).2; have := G12.out.size; omega⟩, (HO.out.kept G12.out (by have := HM9.out; omega)).envX (by have := HM9.out; omega)⟩, ?_, ?_, ?_, ?_, ?_⟩
        · have := IL7.out; show vl.length ≤ _; omega
        · show l.length ≤ _; omega
        · intro b hb; have := (HI.out b hb).v.l; omega
        · intro hq; exact ⟨I1.out, I4.out, I8.out, by have := I2.out; show n2.size ≤ _; omega, by have := I3.out; show n3.size ≤ _; omega, I7.out, hq, HI.out⟩
        · exact HR.out.far hg G12.out (fun g1 hg1 => by injection hg1 with hg1; omega)
      | false =>
        have CX := Lib.hid (rtext_any g s' false wr HR.out.blk (by omega))
        go_wp2_with fail
        refine CX.out.mono ?_
        rintro e w13 ⟨nm, s13, b13, rfl, st13, i13, rb13⟩
        have l13 := st13.le
        have ST13 := Lib.hid st13
        have I13 := Lib.hid i13
        have HR13 := Lib.hid (HR.out.trans rb13)
        have HZ13 := Lib.hid (HZ.out.grown rb13.gr (by simpa using hgN))
        have HV13 := Lib.hid (HV.out.grown rb13.gr (by simpa using hgh))
        have HO13 := Lib.hid (HO.out.kept rb13.gr (by omega))
        have HF13 := Lib.hid (HF.out.grown rb13.gr (Nat.le_of_lt (show g < h by omega)))
        have hz13 := rb13.gr.size
        have hl13 := HV13.out.lt
        obtain ⟨W13, hW13⟩ : ∃ W13, W13 = w13.alloc (.cells #[.string nm, .int .i64 0, .int .i64 0, .string ⟨#[]⟩, .slice none 0 0] 62) := ⟨_, rfl⟩
        have hs13 : W13.heap.size = w13.heap.size + 1 := by rw [hW13]; simp
        have HM13 := Lib.hid (show Blk W13 w13.heap.size #[.string nm, .int .i64 0, .int .i64 0, .string ⟨#[]⟩, .slice none 0 0] 62 by rw [hW13]; exact Blk.new _ _ _)
        have HRA := Lib.hid (show RdB g s13 b13 w W13 by rw [hW13]; exact HR13.out.alloc _)
        have HGA := Lib.hid (show w13.grownBy W13 (some g) by rw [hW13]; exact grown_alloc _ _ _)
        have HW13 := Lib.hid hW13
        have CV := Lib.hid (rvalue_any g s13 b13 W13 HRA.out.blk (by omega))
        have hmg : w13.heap.size ≠ g := by omega
        clear st13 i13 rb13 CX hW13 x0 x1 f0 f1
        go_wp2_with fail
        rw [← HW13.out]
        refine CV.out.mono ?_
        rintro e w14 ⟨⟨vk2, vn2, vs2, vl2⟩, A14, c14, s14, b14, rfl, st14, i14, il14, is14, ia14, ib14, rb14⟩
        have l14 := st14.le
        have ST14 := Lib.hid st14
        have I14 := Lib.hid i14
        have HM14 := Lib.hid (HM13.out.grown rb14.gr (by simpa using hmg))
        have t1 : w14.cell? ⟨w13.heap.size, 1, none⟩ = some (.int .i64 0) := HM14.out.cell 1
        have t2 : w14.cell? ⟨w13.heap.size, 2, none⟩ = some (.int .i64 0) := HM14.out.cell 2
        have t3 : w14.cell? ⟨w13.heap.size, 3, none⟩ = some (.string ⟨#[]⟩) := HM14.out.cell 3
        have t4 : w14.cell? ⟨w13.heap.size, 4, none⟩ = some (.slice none 0 0) := HM14.out.cell 4
        have f1 : w14.frozen? ⟨w13.heap.size, 1, none⟩ = false := HM14.out.frozen 1
        have f2 : w14.frozen? ⟨w13.heap.size, 2, none⟩ = false := HM14.out.frozen 2
        have f3 : w14.frozen? ⟨w13.heap.size, 3, none⟩ = false := HM14.out.frozen 3
        have f4 : w14.frozen? ⟨w13.heap.size, 4, none⟩ = false := HM14.out.frozen 4
        have hl14 := HM14.out.lt
        have hz14 := rb14.gr.size
        obtain ⟨W14, hW14⟩ : ∃ W14, W14 = (((w14.setCell ⟨w13.heap.size, 1, none⟩ (.int .i64 vk2)).setCell ⟨w13.heap.size, 2, none⟩ (.int .i64 vn2)).setCell ⟨w13.heap.size, 3, none⟩ (.string vs2)).setCell ⟨w13.heap.size, 4, none⟩ (.slice A14 vl2.length c14) := ⟨_, rfl⟩
        have hs14 : W14.heap.size = w14.heap.size := by rw [hW14]; simp
        have G14 := Lib.hid (show w13.grownBy W14 (some g) by
          rw [hW14]
          exact grown_setNew (grown_setNew (grown_setNew (grown_setNew (grown_trans HGA.out rb14.gr) (p := ⟨w13.heap.size, 1, none⟩) (Nat.le_refl _) _) (p := ⟨w13.heap.size, 2, none⟩) (Nat.le_refl _) _) (p := ⟨w13.heap.size, 3, none⟩) (Nat.le_refl _) _) (p := ⟨w13.heap.size, 4, none⟩) (Nat.le_refl _) _)
        have R14 := Lib.hid (show RdB g s14 b14 w W14 by
          rw [hW14]
          exact ((((HRA.out.trans rb14).set hg (p := ⟨w13.heap.size, 1, none⟩) (by show w.heap.size ≤ w13.heap.size; omega) _).set hg (p := ⟨w13.heap.size, 2, none⟩) (by show w.heap.size ≤ w13.heap.size; omega) _).set hg (p := ⟨w13.heap.size, 3, none⟩) (by show w.heap.size ≤ w13.heap.size; omega) _).set hg (p := ⟨w13.heap.size, 4, none⟩) (by show w.heap.size ≤ w13.heap.size; omega) _)
        have M14 := Lib.hid (show Blk W14 w13.heap.size #[.string nm, .int .i64 vk2, .int .i64 vn2, .string vs2, .slice A14 vl2.length c14] 62 by
          rw [hW14]
          simpa using (((HM14.out.set_ 1 (.int .i64 vk2)).set_ 2 (.int .i64 vn2)).set_ 3 (.string vs2)).set_ 4 (.slice A14 vl2.length c14))
        have FN := Lib.hid (show Far w13.heap.size W14.heap.size W14 A14 vl2 by
          rw [hs14]
          have e : Far w13.heap.size w14.heap.size w14 A14 vl2 := ⟨ia14, fun a ha => ⟨by have := (ib14 a ha).1; omega, (ib14 a ha).2⟩⟩
          rw [hW14]
          exact (((e.grown (grown_setCell _ ⟨w13.heap.size, 1, none⟩ _) (Nat.le_refl _)).grown (grown_setCell _ ⟨w13.heap.size, 2, none⟩ _) (Nat.le_refl _)).grown (grown_setCell _ ⟨w13.heap.size, 3, none⟩ _) (Nat.le_refl _)).grown (grown_setCell _ ⟨w13.heap.size, 4, none⟩ _) (Nat.le_refl _))
        have V14 := Lib.hid (HV13.out.grown G14.out (by simpa using hgh))
        have Z14 := Lib.hid (HZ13.out.grown G14.out (by simpa using hgN))
        have F14 := Lib.hid (HF13.out.grown G14.out (Nat.le_of_lt (show g < h by omega)))
        obtain ⟨Rw, hRw, hOw, hIn⟩ := HO13.out.kept G14.out (show g < w9.heap.size by omega)
        have HW14 := Lib.hid hW14
        have HIN := Lib.hid hIn
        have HRW := Lib.hid hRw
        have HOW := Lib.hid hOw
        have HAL := Lib.hid (fun g' (hq : (Value.slice E l.length d).ownBlock = some g') => hOw.lt g' hq)
        have BL := below_allocS (Below.refl W14.heap.size W14) (.cells #[.string nm, .int .i64 vk2, .int .i64 vn2, .string vs2, .slice A14 vl2.length c14] 62)
        have O15 := Lib.hid (hOw.kept (grown_of_below BL none) (by cases hq : (Value.slice E l.length d).ownBlock <;> simp))
        have HRX := Lib.hid (Rd.new W14 #[.string nm, .int .i64 vk2, .int .i64 vn2, .string vs2, .slice A14 vl2.length c14] 62)
        have HBL := Lib.hid BL
        have hN15 : w9.heap.size ≤ (W14.alloc (.cells #[.string nm, .int .i64 vk2, .int .i64 vn2, .string vs2, .slice A14 vl2.length c14] 62)).heap.size := by rw [World.size_alloc]; omega
        clear st14 i14 il14 is14 ia14 ib14 rb14 hW14 CV hOw hIn hRw BL HGA
        have hs14' : w14.heap.size ≤ W14.heap.size := by omega
        clear hs13 hs14
        go_upto_region 15 with fail
        rw [← HW14.out]
        clear t1 t2 t3 t4 f1 f2 f3 f4
        have y11 : W14.cell? ⟨h, 11, none⟩ = some (.slice E l.length d) := V14.out.cell 11
        have m0 : W14.cell? ⟨w13.heap.size, 0, none⟩ = some (.string nm) := M14.out.cell 0
        have m1 : W14.cell? ⟨w13.heap.size, 1, none⟩ = some (.int .i64 vk2) := M14.out.cell 1
        have m2 : W14.cell? ⟨w13.heap.size, 2, none⟩ = some (.int .i64 vn2) := M14.out.cell 2
        have m3 : W14.cell? ⟨w13.heap.size, 3, none⟩ = some (.string vs2) := M14.out.cell 3
        have m4 : W14.cell? ⟨w13.heap.size, 4, none⟩ = some (.slice A14 vl2.length c14) := M14.out.cell 4
        go_wp2_with (at_builtin; refine wpList_app _ rfl _ _ _ rfl w9.heap.size 62 i0 _ 5 72 Try.underlying39 hi0 hz0 hz1 hz2 rfl (by omega) (.slice E l.length d) l.length _ rfl O15.out (some ⟨W14.heap.size, 0, none⟩) 1 1 [.string nm, .int .i64 vk2, .int .i64 vn2, .string vs2, .slice A14 vl2.length c14] rfl HRX.out rfl (by simp [Value.oneCell']) (by omega) (by unfold maxLen; omega) hN15 ?_; intro A4 c4 w16 hle16 hown16 hg16 hat16; have HB16 := Lib.hid ((V14.out.alloc _).grown hg16 (by intro e; have := (HAL.out _ e.symm).1; omega)); have z1 : w16.cell? ⟨h, 11, none⟩ = some (.slice E l.length d) := HB16.out.cell 11; have z2 : w16.frozen? ⟨h, 11, none⟩ = false := HB16.out.frozen 11; have z3 : h < w16.heap.size := HB16.out.lt)
        have HR16 := Lib.hid (((R14.out.alloc _).far hg hg16 (fun g' hg' => by have := (HAL.out g' hg').1; omega)).set hg (p := ⟨h, 11, none⟩) (Nat.le_of_lt hhN) (.slice A4 (l.length + 1) c4))
        have HZ16 := Lib.hid (((Z14.out.alloc _).grown hg16 (by intro e; have := (HAL.out _ e.symm).1; omega)).far (p := ⟨h, 11, none⟩) (Nat.ne_of_lt hhN) (.slice A4 (l.length + 1) c4))
        have HV16 := Lib.hid (HB16.out.set_ 11 (.slice A4 (l.length + 1) c4))
        have HF16 := Lib.hid (((F14.out.grown (grown_alloc _ _ (some g)) (Nat.le_of_lt (show g < h by omega))).row hg16 (fun g' hg' => by have := (HAL.out g' hg').1; omega)).grown (grown_setCell _ ⟨h, 11, none⟩ (.slice A4 (l.length + 1) c4)) (Nat.le_refl h))
        have HO16 := Lib.hid (brow_step (j := 11) (u := .slice A4 (l.length + 1) c4) (b := ⟨nm, ⟨vk2, vn2, vs2, vl2⟩⟩) (pc := c14) HRW.out (fun i b r hi hr => ⟨Rd.below (HIN.out i b r hi hr).1 HBL.out, fun a ha => ⟨((HIN.out i b r hi hr).2 a ha).1, Nat.lt_of_lt_of_le ((HIN.out i b r hi hr).2 a ha).2.1 HBL.out.size, ((HIN.out i b r hi hr).2 a ha).2.2⟩⟩) (Rd.below FN.out.a HBL.out)
          (fun a ha => ⟨by have := (FN.out.b a ha).1; omega, Nat.lt_of_lt_of_le (FN.out.b a ha).2 HBL.out.size, fun e => by have h1 := (FN.out.b a ha).1; have h2 := (HO13.out.own_lt _ e.symm); omega⟩) hg16 hown16 hat16 (show h < w9.heap.size from HM9.out))
        have hz16 : w9.heap.size ≤ w16.heap.size := Nat.le_trans hN15 hg16.size
        clear hg16 hat16 hown16
        go_wp2_with fail
        exact ⟨⟨l ++ [⟨nm, ⟨vk2, vn2, vs2, vl2⟩⟩], A4, c4, s14, b14, by simp, by simp; omega, Lib.hid (by intro y hy; rcases List.mem_append.1 hy with hy | hy; exact HI.out y hy; rw [List.mem_singleton.1 hy]; exact ⟨by have := I13.out; show nm.size ≤ _; omega, I14.out⟩), Lib.hid (HL.out.step hlt (Stp.b ST13.out ST14.out)), HR16, HZ16, Lib.hid (by simpa using HV16.out), HO16, HF16, by simpa using hz16⟩, by simp [intOf]; omega⟩
    · have hd : decide ((l.length : Int) < (n9 : Int)) = false := by simp; omega
      cases b'
      all_goals
        have y0 : wr.cell? ⟨h, 0, none⟩ = some (.int .i64 n1) := HV.out.cell 0
        have y1 : wr.cell? ⟨h, 1, none⟩ = some (.string n2) := HV.out.cell 1
        have y2 : wr.cell? ⟨h, 2, none⟩ = some (.string n3) := HV.out.cell 2
        have y3 : wr.cell? ⟨h, 3, none⟩ = some (.int .i64 n4) := HV.out.cell 3
        have y4 : wr.cell? ⟨h, 4, none⟩ = some (.string n5) := HV.out.cell 4
        have y5 : wr.cell? ⟨h, 5, none⟩ = some (.string n6) := HV.out.cell 5
        have y6 : wr.cell? ⟨h, 6, none⟩ = some (.int .i64 vk) := HV.out.cell 6
        have y7 : wr.cell? ⟨h, 7, none⟩ = some (.int .i64 vn) := HV.out.cell 7
        have y8 : wr.cell? ⟨h, 8, none⟩ = some (.string vs) := HV.out.cell 8
        have y9 : wr.cell? ⟨h, 9, none⟩ = some (.slice A7 vl.length c7) := HV.out.cell 9
        have y10 : wr.cell? ⟨h, 10, none⟩ = some (.int .i64 n8) := HV.out.cell 10
        have y11 : wr.cell? ⟨h, 11, none⟩ = some (.slice E l.length d) := HV.out.cell 11
        have z0 : wr.cell? ⟨w.heap.size, 0, none⟩ = some (.int .i64 0) := HZ.out.cell 0
        have v0 : wr.frozen? ⟨w.heap.size, 0, none⟩ = false := HZ.out.frozen 0
        have z1 : wr.cell? ⟨w.heap.size, 1, none⟩ = some (.string ⟨#[]⟩) := HZ.out.cell 1
        have v1 : wr.frozen? ⟨w.heap.size, 1, none⟩ = false := HZ.out.frozen 1
        have z2 : wr.cell? ⟨w.heap.size, 2, none⟩ = some (.string ⟨#[]⟩) := HZ.out.cell 2
        have v2 : wr.frozen? ⟨w.heap.size, 2, none⟩ = false := HZ.out.frozen 2
        have z3 : wr.cell? ⟨w.heap.size, 3, none⟩ = some (.int .i64 0) := HZ.out.cell 3
        have v3 : wr.frozen? ⟨w.heap.size, 3, none⟩ = false := HZ.out.frozen 3
        have z4 : wr.cell? ⟨w.heap.size, 4, none⟩ = some (.string ⟨#[]⟩) := HZ.out.cell 4
        have v4 : wr.frozen? ⟨w.heap.size, 4, none⟩ = false := HZ.out.frozen 4
        have z5 : wr.cell? ⟨w.heap.size, 5, none⟩ = some (.string ⟨#[]⟩) := HZ.out.cell 5
        have v5 : wr.frozen? ⟨w.heap.size, 5, none⟩ = false := HZ.out.frozen 5
        have z6 : wr.cell? ⟨w.heap.size, 6, none⟩ = some (.int .i64 0) := HZ.out.cell 6
        have v6 : wr.frozen? ⟨w.heap.size, 6, none⟩ = false := HZ.out.frozen 6
        have z7 : wr.cell? ⟨w.heap.size, 7, none⟩ = some (.int .i64 0) := HZ.out.cell 7
        have v7 : wr.frozen? ⟨w.heap.size, 7, none⟩ = false := HZ.out.frozen 7
        have z8 : wr.cell? ⟨w.heap.size, 8, none⟩ = some (.string ⟨#[]⟩) := HZ.out.cell 8
        have v8 : wr.frozen? ⟨w.heap.size, 8, none⟩ = false := HZ.out.frozen 8
        have z9 : wr.cell? ⟨w.heap.size, 9, none⟩ = some (.slice none 0 0) := HZ.out.cell 9
        have v9 : wr.frozen? ⟨w.heap.size, 9, none⟩ = false := HZ.out.frozen 9
        have z10 : wr.cell? ⟨w.heap.size, 10, none⟩ = some (.int .i64 0) := HZ.out.cell 10
        have v10 : wr.frozen? ⟨w.heap.size, 10, none⟩ = false := HZ.out.frozen 10
        have z11 : wr.cell? ⟨w.heap.size, 11, none⟩ = some (.slice none 0 0) := HZ.out.cell 11
        have v11 : wr.frozen? ⟨w.heap.size, 11, none⟩ = false := HZ.out.frozen 11
        have B48 := Lib.hid (blk_set12 HZ.out (.int .i64 n1) (.string n2) (.string n3) (.int .i64 n4) (.string n5) (.string n6) (.int .i64 vk) (.int .i64 vn) (.string vs) (.slice A7 vl.length c7) (.int .i64 n8) (.slice E l.length d))
        have HLF := Lib.hid (LpS.list ST9.out HL.out (by intro _; omega))
        have G12 := Lib.hid (grown_more (grown_more (grown_more (grown_more (grown_more (grown_more (grown_more (grown_more (grown_more (grown_more (grown_more (grown_setCell wr ⟨w.heap.size, 0, none⟩ (.int .i64 n1)) 1 (.string n2)) 2 (.string n3)) 3 (.int .i64 n4)) 4 (.string n5)) 5 (.string n6)) 6 (.int .i64 vk)) 7 (.int .i64 vn)) 8 (.string vs)) 9 (.slice A7 vl.length c7)) 10 (.int .i64 n8)) 11 (.slice E l.length d))
        have hlz := HZ.out.lt
        go_wp2_with fail
        have k0 := B48.out.cell 0
        have k1 := B48.out.cell 1
        have k2 := B48.out.cell 2
        have k3 := B48.out.cell 3
        have k4 := B48.out.cell 4
        have k5 := B48.out.cell 5
        have k6 := B48.out.cell 6
        have k7 := B48.out.cell 7
        have k8 := B48.out.cell 8
        have k9 := B48.out.cell 9
        have k10 := B48.out.cell 10
        have k11 := B48.out.cell 11
        refine bodyPost_ret (v := .agg #[.int .i64 n1, .string n2, .string n3, .int .i64 n4, .string n5, .string n6, .int .i64 vk, .int .i64 vn, .string vs, .slice A7 vl.length c7, .int .i64 n8, .slice E l.length d]) (by simp [results, Try.results48, go_sem, k0, k1, k2, k3, k4, k5, k6, k7, k8, k9, k10, k11]) rfl ⟨⟨n1, n2, n3, n4, n5, n6, ⟨vk, vn, vs, vl⟩, n8, l⟩, A7, c7, E, d, s', _, rfl, Stp.nt ST1.out ST2.out ST3.out ST4.out ST5.out ST6.out ST7.out ST8.out HLF.out, ⟨(HF.out.grown G12.out (Nat.le_of_lt hhN)).a, fun a ha => ⟨by have := (HF.out.b a ha).1; omega, by have := (HF.out.b a ha).2; have := G12.out.size; omega⟩, (HO.out.kept G12.out (by have := HM9.out; omega)).envX (by have := HM9.out; omega)⟩, ?_, ?_, ?_, ?_, ?_⟩
        · have := IL7.out; show vl.length ≤ _; omega
        · show l.length ≤ _; omega
        · intro b hb; have := (HI.out b hb).v.l; omega
        · intro hq; exact ⟨I1.out, I4.out, I8.out, by have := I2.out; show n2.size ≤ _; omega, by have := I3.out; show n3.size ≤ _; omega, I7.out, hq, HI.out⟩
        · exact HR.out.far hg G12.out (fun g1 hg1 => by injection hg1 with hg1; omega)
end Go.Proofs.Ytfaophiaiflecaa
