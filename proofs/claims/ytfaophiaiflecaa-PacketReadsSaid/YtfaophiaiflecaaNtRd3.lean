/- Contract: reparteeref36.value (the reader). -/
import Derived.Test.YtfaophiaiflecaaNtRd2
import Derived.Deep.DeepCutAuto
namespace Go.Proofs.Ytfaophiaiflecaa
open Go.RowKit
set_option linter.unusedVariables false

theorem manyF_snoc {α : Type} {f : List UInt8 → Option (α × List UInt8)} : ∀ {k : Nat} {s r : List UInt8} {l : List α}, manyF f k s = some (l, r) → manyF f (k + 1) s = match f r with | none => none | some (x, r') => some (l ++ [x], r') := by
  intro k
  induction k with
  | zero =>
    intro s r l h
    simp [manyF] at h
    obtain ⟨rfl, rfl⟩ := h
    show (match f s with | none => none | some (x, r) => match manyF f 0 r with | none => none | some (l, r') => some (x :: l, r')) = _
    rcases f s with _ | ⟨x, r⟩ <;> rfl
  | succ k ih =>
    intro s r l h
    unfold manyF at h
    split at h
    · cases h
    rename_i x s1 h1
    split at h
    · cases h
    rename_i l' r' h2
    injection h with h
    injection h with h3 h4
    subst h3 h4
    have := ih h2
    show (match f s with | none => none | some (x, r) => match manyF f (k + 1) r with | none => none | some (l, r') => some (x :: l, r')) = _
    rw [h1]
    dsimp only
    rw [this]
    rcases f r' with _ | ⟨y, r2⟩ <;> rfl
theorem manyF_none {α : Type} {f : List UInt8 → Option (α × List UInt8)} {s : List UInt8} : ∀ {k : Nat}, manyF f k s = none → manyF f (k + 1) s = none := by
  intro k
  induction k generalizing s with
  | zero => intro h; simp [manyF] at h
  | succ k ih =>
    intro h
    unfold manyF at h ⊢
    split
    · rfl
    · rename_i x r h1
      rw [h1] at h
      dsimp only at h
      rw [ih]
      rcases hm : manyF f k r with _ | ⟨l, r'⟩
      · rfl
      · rw [hm] at h; cases h
theorem manyF_fail {α : Type} {f : List UInt8 → Option (α × List UInt8)} {s r : List UInt8} {l : List α} {k : Nat} (h : manyF f k s = some (l, r)) (hf : f r = none) : ∀ (n : Nat), k < n → manyF f n s = none := by
  intro n hn
  have e : manyF f (k + 1) s = none := by rw [manyF_snoc h, hf]
  have : ∀ d, manyF f (k + 1 + d) s = none := by
    intro d
    induction d with
    | zero => exact e
    | succ d ih => exact manyF_none ih
  have h2 := this (n - (k + 1))
  rwa [show k + 1 + (n - (k + 1)) = n by omega] at h2
/-- Where a loop over a list stands. -/
structure LpS {α : Type} (f : List UInt8 → Option (α × List UInt8)) (n : Nat) (s4 : ByteArray) (b4 : Bool) (l : List α) (s' : ByteArray) (b' : Bool) : Prop where
  ok : b' = false → b4 = false ∧ manyF f l.length s4.data.toList = some (l, s'.data.toList)
  no : b' = true → b4 = true ∨ manyF f n s4.data.toList = none
  le : s'.size ≤ s4.size
theorem LpS.start {α : Type} (f : List UInt8 → Option (α × List UInt8)) (n : Nat) (s : ByteArray) (b : Bool) : LpS f n s b [] s b := ⟨fun h => ⟨h, rfl⟩, .inl, Nat.le_refl _⟩
theorem LpS.step {α : Type} {f : List UInt8 → Option (α × List UInt8)} {n : Nat} {s4 : ByteArray} {b4 : Bool} {l : List α} {s' s2 : ByteArray} {b2 : Bool} {x : α} (h : LpS f n s4 b4 l s' false) (hn : l.length < n) (k : Stp f s' false x s2 b2) : LpS f n s4 b4 (l ++ [x]) s2 b2 := by
  obtain ⟨e1, e2⟩ := h.ok rfl
  refine ⟨fun e => ⟨e1, ?_⟩, fun e => .inr ?_, Nat.le_trans k.le h.le⟩
  · rw [List.length_append, List.length_singleton, manyF_snoc e2, (k.ok e).2]
  · rcases k.no e with h | h
    · cases h
    · exact manyF_fail e2 h n hn
theorem LpS.list {α : Type} {f : List UInt8 → Option (α × List UInt8)} {n : Nat} {s s4 s' : ByteArray} {b b4 b' : Bool} {l : List α} (c : Stp oneC s b (n : Int) s4 b4) (h : LpS f n s4 b4 l s' b') (hl : b' = false → l.length = n) : Stp (listF f) s b l s' b' := by
  have hO : ∀ r, oneC s.data.toList = some ((n : Int), r) → listF f s.data.toList = manyF f n r := by
    intro r h
    unfold oneC at h
    unfold listF
    rcases hq : oneN s.data.toList with _ | ⟨m, r'⟩
    · rw [hq] at h; cases h
    · rw [hq] at h
      dsimp only at h ⊢
      by_cases hc : m < 0 ∨ (r'.length : Int) < m
      · rw [if_pos hc] at h; cases h
      · rw [if_neg hc] at h ⊢
        injection h with h
        injection h with h1 h2
        subst h1 h2
        rfl
  have hN : oneC s.data.toList = none → listF f s.data.toList = none := by
    intro h
    unfold oneC at h
    unfold listF
    rcases hq : oneN s.data.toList with _ | ⟨m, r'⟩
    · rfl
    · rw [hq] at h
      dsimp only at h ⊢
      by_cases hc : m < 0 ∨ (r'.length : Int) < m
      · rw [if_pos hc]
      · rw [if_neg hc] at h; cases h
  refine ⟨fun e => ?_, fun e => ?_, Nat.le_trans h.le c.le⟩
  · obtain ⟨e1, e2⟩ := h.ok e
    obtain ⟨e3, e4⟩ := c.ok e1
    exact ⟨e3, by rw [hO _ e4, ← hl e]; exact e2⟩
  · cases b4 with
    | true => exact (c.no rfl).imp id hN
    | false =>
      rcases h.no e with k | k
      · cases k
      · exact .inr (by rw [hO _ (c.ok rfl).2]; exact k)
theorem grown_setNew {w w1 : World} {row : Option Nat} (h : w.grownBy w1 row) {p : Addr} (hp : w.heap.size ≤ p.block) (u : Value) : w.grownBy (w1.setCell p u) row :=
  ⟨h.os, h.tape, h.output, by simpa using h.size, fun k hk hne => (Below.heap_setCell w1 p u k (by omega)).trans (h.block k hk hne)⟩
theorem RdB.alloc {g : Nat} {s : ByteArray} {b : Bool} {w w1 : World} (h : RdB g s b w w1) (o : Obj) : RdB g s b w (w1.alloc o) := ⟨h.blk.alloc o, grown_trans h.gr (grown_alloc _ _ _)⟩
theorem RdB.drew {g : Nat} {s : ByteArray} {b : Bool} {w w1 : World} (h : RdB g s b w w1) : RdB g s b w w1.drew := ⟨h.blk, grown_drew h.gr⟩
theorem RdB.set {g : Nat} {s : ByteArray} {b : Bool} {w w1 : World} (h : RdB g s b w w1) (hg : g < w.heap.size) {p : Addr} (hp : w.heap.size ≤ p.block) (u : Value) : RdB g s b w (w1.setCell p u) := ⟨h.blk.far (p := p) (by omega) u, grown_setNew h.gr hp u⟩
theorem grown_of_drew {w w1 : World} {row : Option Nat} (h : w.drew.grownBy w1 row) : w.grownBy w1 row := ⟨h.os, h.tape, h.output, h.size, h.block⟩
theorem RdB.far {g : Nat} {s : ByteArray} {b : Bool} {w w1 w2 : World} {row : Option Nat} (h : RdB g s b w w1) (hg : g < w.heap.size) (k : w1.grownBy w2 row) (hr : ∀ g, row = some g → w.heap.size ≤ g) : RdB g s b w w2 := ⟨h.blk.grown k (fun e => by have := hr g e.symm; omega), grown_far h.gr k hr⟩
/-- What reading a value answers. -/
def RdV (g : Nat) (s : ByteArray) (b : Bool) (w : World) (e : Ending) (w' : World) : Prop := ∃ (v : Vl) (A : Option Addr) (c : Nat) (s' : ByteArray) (b' : Bool), e = .returned (.agg #[.int .i64 v.kind, .int .i64 v.n, .string v.s, .slice A v.l.length c]) ∧ Stp oneV s b v s' b' ∧ VlOk v ∧ v.l.length ≤ s.size ∧ v.s.size ≤ s.size ∧ Ints w' A v.l ∧ (∀ a, A = some a → w.heap.size ≤ a.block ∧ a.block < w'.heap.size) ∧ RdB g s' b' w w'
theorem Stp.v {s0 s1 s2 s3 s4 : ByteArray} {b0 b1 b2 b3 b4 : Bool} {k : Int} {n : Int} {t : ByteArray} {l : List Int} (h1 : Stp oneN s0 b0 k s1 b1) (h2 : Stp oneN s1 b1 n s2 b2) (h3 : Stp oneT s2 b2 t s3 b3) (h4 : Stp (listF oneN) s3 b3 l s4 b4) : Stp oneV s0 b0 ⟨k, n, t, l⟩ s4 b4 := by
  refine ⟨fun e => ?_, fun e => ?_, ?_⟩
  · obtain ⟨e4, f4⟩ := h4.ok e
    obtain ⟨e3, f3⟩ := h3.ok e4
    obtain ⟨e2, f2⟩ := h2.ok e3
    obtain ⟨e1, f1⟩ := h1.ok e2
    exact ⟨e1, by simp [oneV, f1, f2, f3, f4]⟩
  · cases b1 with
    | true =>
      rcases h1.no rfl with k | k
      · exact .inl k
      · exact .inr (by simp [oneV, k])
    | false =>
      have f1 := (h1.ok rfl).2
      cases b2 with
      | true =>
        rcases h2.no rfl with k | k
        · cases k
        · exact .inr (by simp [oneV, f1, k])
      | false =>
        have f2 := (h2.ok rfl).2
        cases b3 with
        | true =>
          rcases h3.no rfl with k | k
          · cases k
          · exact .inr (by simp [oneV, f1, f2, k])
        | false =>
          have f3 := (h3.ok rfl).2
          rcases h4.no e with k | k
          · cases k
          · exact .inr (by simp [oneV, f1, f2, f3, k])
  · have := h1.le; have := h2.le; have := h3.le; have := h4.le; omega
set_option maxRecDepth 100000 in
set_option maxHeartbeats 6400000 in
theorem rvalue_any (g : Nat) (s : ByteArray) (b : Bool) (w : World) (hb : Blk w g #[.string s, .bool b] 79) (hs : s.size ≤ 1000000) :
    Calls Try.prog 73 #[.pointer (some ⟨g, 0, none⟩)] w (RdV g s b w) := by
  obtain ⟨i0, hi0, hz0, hz1, hz2⟩ := info_parts infoI64
  have hg := hb.lt
  obtain ⟨N, hN⟩ : ∃ N, N = w.heap.size := ⟨_, rfl⟩
  have HN := Lib.hid hN
  obtain ⟨W0, hW0⟩ : ∃ W0, W0 = w.alloc (.cells #[.int .i64 0, .int .i64 0, .string ⟨#[]⟩, .slice none 0 0] 36) := ⟨_, rfl⟩
  have hNW : w.heap.size < W0.heap.size := by rw [hW0]; simp
  have HR0 := Lib.hid (show RdB g s b w W0 by rw [hW0]; exact (⟨hb, grown_of_below (Below.refl _ _) _⟩ : RdB g s b w w).alloc _)
  have HZ0 := Lib.hid (show Blk W0 w.heap.size #[.int .i64 0, .int .i64 0, .string ⟨#[]⟩, .slice none 0 0] 36 by rw [hW0]; exact Blk.new _ _ _)
  have HW := Lib.hid hW0
  have hgN : w.heap.size ≠ g := by omega
  clear hW0 hN hb
  have C1 := Lib.hid (rint_any g s b W0 HR0.out.blk (by omega))
  go_enter Try.func73, Try.ntmps73
  go_wp2_with fail
  rw [← HW.out]
  refine C1.out.mono ?_
  rintro e w1 ⟨n1, s1, b1, rfl, st1, i1, rb1⟩
  have l1 := st1.le
  have ST1 := Lib.hid st1
  have HR1 := Lib.hid (HR0.out.trans rb1)
  have HZ1 := Lib.hid (HZ0.out.grown rb1.gr (by simpa using hgN))
  have hN1 : w.heap.size < w1.heap.size := Nat.lt_of_lt_of_le hNW rb1.gr.size
  have I1 := Lib.hid i1
  clear st1 rb1 i1 C1
  have HV1 := Lib.hid (Blk.new w1 #[.int .i64 n1, .int .i64 0, .string ⟨#[]⟩, .slice none 0 0] 36)
  obtain ⟨W1, hW1⟩ : ∃ W1, W1 = w1.alloc (.cells #[.int .i64 n1, .int .i64 0, .string ⟨#[]⟩, .slice none 0 0] 36) := ⟨_, rfl⟩
  rw [← hW1] at HV1
  have HR1' := Lib.hid (show RdB g s1 b1 w W1 by rw [hW1]; exact HR1.out.alloc _)
  have HZ1' := Lib.hid (show Blk W1 w.heap.size #[.int .i64 0, .int .i64 0, .string ⟨#[]⟩, .slice none 0 0] 36 by rw [hW1]; exact HZ1.out.alloc _)
  have HW1 := Lib.hid hW1
  clear hW1
  obtain ⟨h, hh⟩ : ∃ h, h = w1.heap.size := ⟨_, rfl⟩
  have HH := Lib.hid hh
  have hhN : w.heap.size < h := by omega
  have hgh : h ≠ g := by omega
  rw [← hh] at HV1
  clear hh
  have C2 := Lib.hid (rlong_any g s1 b1 W1 HR1'.out.blk (by omega))
  go_wp2_with fail
  rw [← HW1.out]
  refine C2.out.mono ?_
  rintro e w2 ⟨n2, s2, b2, rfl, st2, i2, rb2⟩
  have l2 := st2.le
  have ST2 := Lib.hid st2
  have HR2 := Lib.hid (HR1'.out.trans rb2)
  have HZ2 := Lib.hid (HZ1'.out.grown rb2.gr (by simpa using hgN))
  have HV2 := Lib.hid (HV1.out.grown rb2.gr (by simpa using hgh))
  have t1 : w2.cell? ⟨h, 1, none⟩ = some (.int .i64 0) := HV2.out.cell 1
  have f1 : w2.frozen? ⟨h, 1, none⟩ = false := HV2.out.frozen 1
  have hl2 := HV2.out.lt
  have HR3 := Lib.hid (HR2.out.set hg (p := ⟨h, 1, none⟩) (Nat.le_of_lt hhN) (.int .i64 n2))
  have HZ3 := Lib.hid (HZ2.out.far (p := ⟨h, 1, none⟩) (Nat.ne_of_lt hhN) (.int .i64 n2))
  have HV3 := Lib.hid (HV2.out.set_ 1 (.int .i64 n2))
  have C3 := Lib.hid (rtext_any g s2 b2 _ HR3.out.blk (by omega))
  have I2 := Lib.hid i2
  clear st2 rb2 i2 C2
  rw [← HH.out]
  go_wp2_with fail
  refine C3.out.mono ?_
  clear t1 f1 hl2
  rintro e w3 ⟨n3, s3, b3, rfl, st3, i3, rb3⟩
  have l3 := st3.le
  have ST3 := Lib.hid st3
  have HR4 := Lib.hid (HR3.out.trans rb3)
  have HZ4 := Lib.hid (HZ3.out.grown rb3.gr (by simpa using hgN))
  have HV4 := Lib.hid (HV3.out.grown rb3.gr (by simpa using hgh))
  have t1 : w3.cell? ⟨h, 2, none⟩ = some (.string ⟨#[]⟩) := HV4.out.cell 2
  have f1 : w3.frozen? ⟨h, 2, none⟩ = false := HV4.out.frozen 2
  have hl2 := HV4.out.lt
  have HR5 := Lib.hid (HR4.out.set hg (p := ⟨h, 2, none⟩) (Nat.le_of_lt hhN) (.string n3))
  have HZ5 := Lib.hid (HZ4.out.far (p := ⟨h, 2, none⟩) (Nat.ne_of_lt hhN) (.string n3))
  have HV5 := Lib.hid (HV4.out.set_ 2 (.string n3))
  have C4 := Lib.hid (rcount_any g s3 b3 _ HR5.out.blk (by omega))
  have I3 := Lib.hid i3
  clear st3 rb3 i3 C3
  go_wp2_with fail
  refine C4.out.mono ?_
  clear t1 f1 hl2
  rintro e w4 ⟨n4, ⟨n4', s4, b4, rfl, st4, i4, rb4⟩, en, hn4⟩
  injection en with en
  injection en with _ en
  subst en
  have l4 := st4.le
  have ST4 := Lib.hid st4
  have HR6 := Lib.hid (HR5.out.trans rb4)
  have HZ6 := Lib.hid (HZ5.out.grown rb4.gr (by simpa using hgN))
  have HV6 := Lib.hid (HV5.out.grown rb4.gr (by simpa using hgh))
  clear st4 rb4 i4 C4
  go_wp2_with fail
  go_loopw [5] (fun i wr => ∃ (l : List Int) (A : Option Addr) (c : Nat) (s' : ByteArray) (b' : Bool), i = .int .i64 l.length ∧ l.length ≤ n4 ∧ Hid (∀ x ∈ l, I64 x) ∧ Hid (LpS oneN n4 s4 b4 l s' b') ∧ Hid (RdB g s' b' w wr) ∧ Hid (Blk wr w.heap.size #[.int .i64 0, .int .i64 0, .string ⟨#[]⟩, .slice none 0 0] 36) ∧ Hid (Blk wr h #[.int .i64 n1, .int .i64 n2, .string n3, .slice A l.length c] 36) ∧ Hid (wr.ownsRow (h + 1) 2 1 (.slice A l.length c) l.length (l.map (Value.int .i64)))) (fun i _ => n4 - (intOf i).toNat)
  case atStart => exact ⟨[], none, 0, s4, b4, rfl, Nat.zero_le _, Lib.hid (by simp), Lib.hid (LpS.start _ _ _ _), HR6, HZ6, HV6, Lib.hid (World.ownsRow_nil _ _ _ _)⟩
  case round =>
    obtain ⟨l, A, c, s', b', rfl, hln, HI, HL, HR, HZ, HV, HO⟩ := hrel
    have hle := HL.out.le
    obtain ⟨x0, x1, f0, f1⟩ := blk2' HR.out.blk
    have hlr := HV.out.lt
    by_cases hlt : l.length < n4
    · have hd : decide ((l.length : Int) < (n4 : Int)) = true := by simp; omega
      cases b' with
      | true =>
        obtain ⟨y0, y1, y2, y3⟩ : wr.cell? ⟨h, 0, none⟩ = some (.int .i64 n1) ∧ wr.cell? ⟨h, 1, none⟩ = some (.int .i64 n2) ∧ wr.cell? ⟨h, 2, none⟩ = some (.string n3) ∧ wr.cell? ⟨h, 3, none⟩ = some (.slice A l.length c) := ⟨HV.out.cell 0, HV.out.cell 1, HV.out.cell 2, HV.out.cell 3⟩
        obtain ⟨z0, z1, z2, z3⟩ : wr.cell? ⟨w.heap.size, 0, none⟩ = some (.int .i64 0) ∧ wr.cell? ⟨w.heap.size, 1, none⟩ = some (.int .i64 0) ∧ wr.cell? ⟨w.heap.size, 2, none⟩ = some (.string ⟨#[]⟩) ∧ wr.cell? ⟨w.heap.size, 3, none⟩ = some (.slice none 0 0) := ⟨HZ.out.cell 0, HZ.out.cell 1, HZ.out.cell 2, HZ.out.cell 3⟩
        obtain ⟨v0, v1, v2, v3⟩ : wr.frozen? ⟨w.heap.size, 0, none⟩ = false ∧ wr.frozen? ⟨w.heap.size, 1, none⟩ = false ∧ wr.frozen? ⟨w.heap.size, 2, none⟩ = false ∧ wr.frozen? ⟨w.heap.size, 3, none⟩ = false := ⟨HZ.out.frozen 0, HZ.out.frozen 1, HZ.out.frozen 2, HZ.out.frozen 3⟩
        have BFF := Lib.hid ((((HZ.out.set_ 0 (.int .i64 n1)).set_ 1 (.int .i64 n2)).set_ 2 (.string n3)).set_ 3 (.slice A l.length c))
        have HLF := Lib.hid (LpS.list ST4.out HL.out (by intro e; cases e))
        have HZL := Lib.hid HZ.out.lt
        go_wp2_with fail
        have k0 := BFF.out.cell 0
        have k1 := BFF.out.cell 1
        have k2 := BFF.out.cell 2
        have k3 := BFF.out.cell 3
        refine bodyPost_ret (v := .agg #[.int .i64 n1, .int .i64 n2, .string n3, .slice A l.length c]) (by simp [results, Try.results73, go_sem, k0, k1, k2, k3]) rfl ⟨⟨n1, n2, n3, l⟩, A, c, s', true, rfl, Stp.v ST1.out ST2.out ST3.out HLF.out, ⟨I1.out, I2.out, by have := I3.out; show n3.size ≤ _; omega, by show l.length ≤ _; omega, HI.out⟩, by show l.length ≤ _; omega, by have := I3.out; show n3.size ≤ _; omega, ?_, ?_, ?_⟩
        · exact own_rd (own_far (own_far (own_far (own_far HO.out (p := ⟨w.heap.size, 0, none⟩) (by show w.heap.size < _; omega) _) (p := ⟨w.heap.size, 1, none⟩) (by show w.heap.size < _; omega) _) (p := ⟨w.heap.size, 2, none⟩) (by show w.heap.size < _; omega) _) (p := ⟨w.heap.size, 3, none⟩) (by show w.heap.size < _; omega) _)
        · intro a ha
          have := HO.out.lt a.block (by rw [ha]; rfl)
          refine ⟨by omega, ?_⟩
          simp
          exact this.2
        · exact (((HR.out.set hg (p := ⟨w.heap.size, 0, none⟩) (Nat.le_refl _) _).set hg (p := ⟨w.heap.size, 1, none⟩) (Nat.le_refl _) _).set hg (p := ⟨w.heap.size, 2, none⟩) (Nat.le_refl _) _).set hg (p := ⟨w.heap.size, 3, none⟩) (Nat.le_refl _) _
      | false =>
        have CL := Lib.hid (rlong_any g s' false wr.drew HR.out.drew.blk (by omega))
        have HAF := Lib.hid (fun (n : Int) (s2 : ByteArray) (b2 : Bool) (w14 : World) (rb : RdB g s2 b2 wr.drew w14) => show Blk w14 h #[.int .i64 n1, .int .i64 n2, .string n3, .slice A l.length c] 36 ∧ (w14.alloc (.cells #[.int .i64 n] 2)).ownsRow (h + 1) 2 1 (.slice A l.length c) l.length (l.map (Value.int .i64)) ∧
            RdB g s2 b2 w (w14.alloc (.cells #[.int .i64 n] 2)) ∧ Blk w14 w.heap.size #[.int .i64 0, .int .i64 0, .string ⟨#[]⟩, .slice none 0 0] 36 ∧ h + 1 ≤ (w14.alloc (.cells #[.int .i64 n] 2)).heap.size by
          have e1 := HV.out.drew.grown rb.gr (by simpa using hgh)
          refine ⟨e1, ?_, (HR.out.drew.trans rb).alloc _, HZ.out.drew.grown rb.gr (by simpa using hgN), ?_⟩
          · refine HO.out.kept (grown_trans (grown_of_drew rb.gr) (grown_alloc _ _ _)) ?_
            cases hq : (Value.slice A l.length c).ownBlock with
            | none => exact .inl rfl
            | some k => exact .inr (fun e => by injection e with e; have := (HO.out.lt k hq).1; omega)
          · have := e1.lt
            rw [World.size_alloc]; omega)
        have HAL := Lib.hid (fun g' (hq : (Value.slice A l.length c).ownBlock = some g') => (HO.out.lt g' hq).1)
        have z0 : wr.drew.cell? ⟨h, 3, none⟩ = some (.slice A l.length c) := HV.out.cell 3
        go_upto_region 8 with fail
        go_region_law (first
          | (refine step_app _ (by rfl) _ _ _ (by rfl) (h + 1) 2 i0 _ 1 8 Try.underlying34 hi0 hz0 hz1 hz2 rfl (by omega) (.slice A l.length c) l.length _ (by rfl) O14.out (some ⟨w14.heap.size, 0, none⟩) 1 1 [.int .i64 n] (by rfl) HRX.out rfl (by simp [Value.oneCell']) (by omega) (by unfold maxLen; omega) hN14 ?_; intro A4 c4 w15 hle15 hown15 hg15 hat15; have HB15 := Lib.hid ((HB14.out.alloc _).grown hg15 (by intro e; have := HAL.out _ e.symm; omega)); have z1 := HB15.out.cell 3; have z2 := HB15.out.frozen 3; have z3 := HB15.out.lt; go_simp)
          | (go_simp; go_at_call 88; refine CL.out.mono ?_; rintro e w14 ⟨n, s2, b2, rfl, st, i2, rb⟩; obtain ⟨hb14, ho14, hr14, hz14, hN14⟩ := HAF.out n s2 b2 w14 rb; have HB14 := Lib.hid hb14; have O14 := Lib.hid ho14; have R14 := Lib.hid hr14; have Z14 := Lib.hid hz14; have ST := Lib.hid st; have IN := Lib.hid i2; have HRX := Lib.hid (Rd.new w14 #[.int .i64 n] 2); have u0 := hb14.cell 3; have u1 := hb14.lt; clear hb14 ho14 hr14 hz14 st i2 rb; go_simp))
        all_goals
          have HR15 := Lib.hid ((R14.out.far hg hg15 (fun g' hg' => by have := HAL.out g' hg'; omega)).set hg (p := ⟨h, 3, none⟩) (Nat.le_of_lt hhN) (.slice A4 (l.length + 1) c4))
          have HZ15 := Lib.hid (((Z14.out.alloc _).grown hg15 (by intro e; have := HAL.out _ e.symm; omega)).far (p := ⟨h, 3, none⟩) (Nat.ne_of_lt hhN) (.slice A4 (l.length + 1) c4))
          have HV15 := Lib.hid (HB15.out.set_ 3 (.slice A4 (l.length + 1) c4))
          have HO15 := Lib.hid (own_far hown15 (p := ⟨h, 3, none⟩) (by show h < _; omega) (.slice A4 (l.length + 1) c4))
          clear hg15 hat15 hown15
          go_wp2_with fail
          exact ⟨⟨l ++ [n], A4, c4, s2, b2, by simp, by simp; omega, Lib.hid (by intro y hy; rcases List.mem_append.1 hy with hy | hy; exact HI.out y hy; rw [List.mem_singleton.1 hy]; exact IN.out), Lib.hid (HL.out.step hlt ST.out), HR15, HZ15, Lib.hid (by simpa using HV15.out), Lib.hid (by simpa using HO15.out)⟩, by simp [intOf]; omega⟩
    · have hd : decide ((l.length : Int) < (n4 : Int)) = false := by simp; omega
      cases b'
      all_goals
        obtain ⟨y0, y1, y2, y3⟩ : wr.cell? ⟨h, 0, none⟩ = some (.int .i64 n1) ∧ wr.cell? ⟨h, 1, none⟩ = some (.int .i64 n2) ∧ wr.cell? ⟨h, 2, none⟩ = some (.string n3) ∧ wr.cell? ⟨h, 3, none⟩ = some (.slice A l.length c) := ⟨HV.out.cell 0, HV.out.cell 1, HV.out.cell 2, HV.out.cell 3⟩
        obtain ⟨z0, z1, z2, z3⟩ : wr.cell? ⟨w.heap.size, 0, none⟩ = some (.int .i64 0) ∧ wr.cell? ⟨w.heap.size, 1, none⟩ = some (.int .i64 0) ∧ wr.cell? ⟨w.heap.size, 2, none⟩ = some (.string ⟨#[]⟩) ∧ wr.cell? ⟨w.heap.size, 3, none⟩ = some (.slice none 0 0) := ⟨HZ.out.cell 0, HZ.out.cell 1, HZ.out.cell 2, HZ.out.cell 3⟩
        obtain ⟨v0, v1, v2, v3⟩ : wr.frozen? ⟨w.heap.size, 0, none⟩ = false ∧ wr.frozen? ⟨w.heap.size, 1, none⟩ = false ∧ wr.frozen? ⟨w.heap.size, 2, none⟩ = false ∧ wr.frozen? ⟨w.heap.size, 3, none⟩ = false := ⟨HZ.out.frozen 0, HZ.out.frozen 1, HZ.out.frozen 2, HZ.out.frozen 3⟩
        have BFF := Lib.hid ((((HZ.out.set_ 0 (.int .i64 n1)).set_ 1 (.int .i64 n2)).set_ 2 (.string n3)).set_ 3 (.slice A l.length c))
        have HLF := Lib.hid (LpS.list ST4.out HL.out (by intro _; omega))
        have HZL := Lib.hid HZ.out.lt
        go_wp2_with fail
        have k0 := BFF.out.cell 0
        have k1 := BFF.out.cell 1
        have k2 := BFF.out.cell 2
        have k3 := BFF.out.cell 3
        refine bodyPost_ret (v := .agg #[.int .i64 n1, .int .i64 n2, .string n3, .slice A l.length c]) (by simp [results, Try.results73, go_sem, k0, k1, k2, k3]) rfl ⟨⟨n1, n2, n3, l⟩, A, c, s', _, rfl, Stp.v ST1.out ST2.out ST3.out HLF.out, ⟨I1.out, I2.out, by have := I3.out; show n3.size ≤ _; omega, by show l.length ≤ _; omega, HI.out⟩, by show l.length ≤ _; omega, by have := I3.out; show n3.size ≤ _; omega, ?_, ?_, ?_⟩
        · exact own_rd (own_far (own_far (own_far (own_far HO.out (p := ⟨w.heap.size, 0, none⟩) (by show w.heap.size < _; omega) _) (p := ⟨w.heap.size, 1, none⟩) (by show w.heap.size < _; omega) _) (p := ⟨w.heap.size, 2, none⟩) (by show w.heap.size < _; omega) _) (p := ⟨w.heap.size, 3, none⟩) (by show w.heap.size < _; omega) _)
        · intro a ha
          have := HO.out.lt a.block (by rw [ha]; rfl)
          refine ⟨by omega, ?_⟩
          simp
          exact this.2
        · exact (((HR.out.set hg (p := ⟨w.heap.size, 0, none⟩) (Nat.le_refl _) _).set hg (p := ⟨w.heap.size, 1, none⟩) (Nat.le_refl _) _).set hg (p := ⟨w.heap.size, 2, none⟩) (Nat.le_refl _) _).set hg (p := ⟨w.heap.size, 3, none⟩) (Nat.le_refl _) _
end Go.Proofs.Ytfaophiaiflecaa
