/- Contract: packet.ReadNote at any bytes. -/
import Derived.Test.YtfaophiaiflecaaNtD3
import Derived.Test.YtfaophiaiflecaaNtNote
namespace Go.Proofs.Ytfaophiaiflecaa
open Go.RowKit
set_option linter.unusedSimpArgs false

abbrev zNt : Nt := ⟨0, eS, eS, 0, eS, eS, zVl, 0, []⟩
abbrev ntKs : List FK := [.num, .txt, .txt, .num, .txt, .txt, .num, .n64, .txt, .l64, .num, .lB]
def oneNt (s : List UInt8) : Option (Nt × List UInt8) := match oneN s with
  | none => none
  | some (k, s) => match oneT s with
    | none => none
    | some (ag, s) => match oneT s with
      | none => none
      | some (se, s) => match oneN s with
        | none => none
        | some (st, s) => match oneT s with
          | none => none
          | some (pe, s) => match oneT s with
            | none => none
            | some (la, s) => match oneV s with
              | none => none
              | some (v, s) => match oneN s with
                | none => none
                | some (pr, s) => match listF oneB s with
                  | none => none
                  | some (en, s) => some (⟨k, ag, se, st, pe, la, v, pr, en⟩, s)
theorem readsK_nt (s : List UInt8) : readsK ntKs s = match oneNt s with | none => none | some (x, r) => some ([.num x.kind, .txt x.agent, .txt x.session, .num x.seat, .txt x.peer, .txt x.label, .num x.v.kind, .num x.v.n, .txt x.v.s, .l64 x.v.l, .num x.proc, .lB x.env], r) := by
  simp only [readsK, readK, oneNt, oneV]
  rcases h1 : oneN s with _ | ⟨a1, s1⟩
  · simp
  rcases h2 : oneT s1 with _ | ⟨a2, s2⟩
  · simp [h2]
  rcases h3 : oneT s2 with _ | ⟨a3, s3⟩
  · simp [h2, h3]
  rcases h4 : oneN s3 with _ | ⟨a4, s4⟩
  · simp [h2, h3, h4]
  rcases h5 : oneT s4 with _ | ⟨a5, s5⟩
  · simp [h2, h3, h4, h5]
  rcases h6 : oneT s5 with _ | ⟨a6, s6⟩
  · simp [h2, h3, h4, h5, h6]
  rcases h7 : oneN s6 with _ | ⟨a7, s7⟩
  · simp [h2, h3, h4, h5, h6, h7]
  rcases h8 : oneN s7 with _ | ⟨a8, s8⟩
  · simp [h2, h3, h4, h5, h6, h7, h8]
  rcases h9 : oneT s8 with _ | ⟨a9, s9⟩
  · simp [h2, h3, h4, h5, h6, h7, h8, h9]
  rcases h10 : listF oneN s9 with _ | ⟨a10, s10⟩
  · simp [h2, h3, h4, h5, h6, h7, h8, h9, h10]
  rcases h11 : oneN s10 with _ | ⟨a11, s11⟩
  · simp [h2, h3, h4, h5, h6, h7, h8, h9, h10, h11]
  rcases h12 : listF oneB s11 with _ | ⟨a12, s12⟩ <;> simp [h2, h3, h4, h5, h6, h7, h8, h9, h10, h11, h12]
theorem manyF_all {α : Type} {f : List UInt8 → Option (α × List UInt8)} {B : Nat} {P : α → Prop} (hf : ∀ s x r, f s = some (x, r) → r.length ≤ s.length) (hp : ∀ s x r, s.length ≤ B → f s = some (x, r) → P x) : ∀ (n : Nat) (s : List UInt8) (l : List α) (r : List UInt8), s.length ≤ B → manyF f n s = some (l, r) → l.length = n ∧ ∀ x ∈ l, P x := by
  intro n
  induction n with
  | zero => intro s l r hs h; simp [manyF] at h; rw [h.1]; simp
  | succ n ih =>
    intro s l r hs h
    unfold manyF at h
    split at h
    · cases h
    · rename_i x r1 h1
      split at h
      · cases h
      · rename_i l2 r2 h2
        injection h with h; injection h with h _
        have h3 := hf _ _ _ h1
        obtain ⟨h4, h5⟩ := ih _ _ _ (by omega) h2
        rw [← h]
        refine ⟨by simp [h4], fun y hy => ?_⟩
        rcases List.mem_cons.1 hy with rfl | hy
        · exact hp _ _ _ hs h1
        · exact h5 y hy
theorem listF_all {α : Type} {f : List UInt8 → Option (α × List UInt8)} {B : Nat} {P : α → Prop} (hf : ∀ s x r, f s = some (x, r) → r.length ≤ s.length) (hp : ∀ s x r, s.length ≤ B → f s = some (x, r) → P x) {s r : List UInt8} {l : List α} (hs : s.length ≤ B) (h : listF f s = some (l, r)) : l.length ≤ B ∧ ∀ x ∈ l, P x := by
  unfold listF at h
  split at h
  · cases h
  · rename_i n r1 h1
    split at h
    · cases h
    · rename_i hn
      have h2 := oneN_le h1
      obtain ⟨h3, h4⟩ := manyF_all hf hp _ _ _ _ (show r1.length ≤ B by omega) h
      exact ⟨by omega, h4⟩
theorem oneV_len {s r : List UInt8} {x : Vl} {B : Nat} (hs : s.length ≤ B) (h : oneV s = some (x, r)) : x.l.length ≤ B := by
  unfold oneV at h
  split at h
  · cases h
  rename_i h1
  split at h
  · cases h
  rename_i h2
  split at h
  · cases h
  rename_i h3
  split at h
  · cases h
  rename_i h4
  injection h with h; injection h with h _
  subst h
  have := oneN_le h1
  have := oneN_le h2
  have := oneT_le h3
  exact (listF_all (P := fun _ => True) (fun s x r h => by have := oneN_le h; omega) (fun _ _ _ _ _ => trivial) (show _ ≤ B by omega) h4).1
theorem oneB_len {s r : List UInt8} {x : Bd} {B : Nat} (hs : s.length ≤ B) (h : oneB s = some (x, r)) : x.v.l.length ≤ B := by
  unfold oneB at h
  split at h
  · cases h
  rename_i h1
  split at h
  · cases h
  rename_i h2
  injection h with h; injection h with h _
  subst h
  have := oneT_le h1
  exact oneV_len (by omega) h2
theorem oneNt_len {s r : List UInt8} {x : Nt} {B : Nat} (hs : s.length ≤ B) (h : oneNt s = some (x, r)) : x.v.l.length ≤ B ∧ x.env.length ≤ B ∧ ∀ b ∈ x.env, b.v.l.length ≤ B := by
  unfold oneNt at h
  split at h
  · cases h
  rename_i h1
  split at h
  · cases h
  rename_i h2
  split at h
  · cases h
  rename_i h3
  split at h
  · cases h
  rename_i h4
  split at h
  · cases h
  rename_i h5
  split at h
  · cases h
  rename_i h6
  split at h
  · cases h
  rename_i h7
  split at h
  · cases h
  rename_i h8
  split at h
  · cases h
  rename_i h9
  injection h with h; injection h with h _
  subst h
  have := oneN_le h1
  have := oneT_le h2
  have := oneT_le h3
  have := oneN_le h4
  have := oneT_le h5
  have := oneT_le h6
  have := oneV_le h7
  have := oneN_le h8
  have h := listF_all (P := fun b : Bd => b.v.l.length ≤ B) (B := B) (fun s x r h => oneB_le h) (fun s x r hs h => oneB_len hs h) (by omega) h9
  exact ⟨oneV_len (by omega) h7, h.1, h.2⟩
/-- A note's lists lie there, and behind the block h. -/
structure NtX (w : World) (h : Nat) (x : Nt) (A E : Option Addr) : Prop where
  a : Ints w A x.v.l
  ab : ∀ a, A = some a → h < a.block ∧ a.block < w.heap.size
  e : EnvX w h E x.env
theorem NtX.at {w : World} {h : Nat} {x : Nt} {A E : Option Addr} (H : NtX w h x A E) (l1 : x.v.l.length ≤ 1000000000) (l2 : x.env.length ≤ 1000000000) (l3 : ∀ b ∈ x.env, b.v.l.length ≤ 1000000000) : NtAt w x A E := by
  obtain ⟨h1, h2, h3, R, h4, h5, h6⟩ := H
  exact ⟨h1, ⟨R, h4, h5, fun i b r hi hr => (h6 i b r hi hr).1⟩, l1, l2, l3⟩
theorem NtX.grown {w w' : World} {h : Nat} {x : Nt} {A E : Option Addr} {g : Nat} (H : NtX w h x A E) (hg : w.grownBy w' (some g)) (hh : g ≤ h) : NtX w' h x A E := by
  obtain ⟨h1, h2, h3, R, h4, h5, h6⟩ := H
  have hm : ∀ {A : Option Addr}, (∀ a, A = some a → h < a.block ∧ a.block < w.heap.size) → ∀ a, A = some a → h < a.block ∧ a.block < w'.heap.size := fun H a ha => ⟨(H a ha).1, Nat.lt_of_lt_of_le (H a ha).2 hg.size⟩
  have hn : ∀ {A : Option Addr}, (∀ a, A = some a → h < a.block ∧ a.block < w.heap.size) → blkOf A ≠ some g := fun {A} H => by
    cases A with
    | none => simp [blkOf]
    | some a => have := (H a rfl).1; simp [blkOf]; omega
  exact ⟨rd_grown h1 hg (hn h2), hm h2, hm h3, R, h4, rd_grown h5 hg (hn h3), fun i b r hi hr => ⟨rd_grown (h6 i b r hi hr).1 hg (hn (h6 i b r hi hr).2), hm (h6 i b r hi hr).2⟩⟩
theorem NtX.below {w w' : World} {h : Nat} {x : Nt} {A E : Option Addr} (H : NtX w h x A E) (hb : Below w.heap.size w w') : NtX w' h x A E := H.grown (g := h) (grown_of_below hb _) (Nat.le_refl _)
theorem NtX.set {w : World} {h g i : Nat} {u : Value} {x : Nt} {A E : Option Addr} (H : NtX w h x A E) (hh : g ≤ h) : NtX (w.setCell ⟨g, i, none⟩ u) h x A E := H.grown (grown_setCell w ⟨g, i, none⟩ u) hh
def readNoteF (s : ByteArray) : Nt × Int :=
  if 4096 < s.size then (zNt, 3800)
  else match oneNt s.data.toList with
    | none => (zNt, 3800)
    | some (x, r) => if r = [] ∧ mayF x = true then (x, 0) else (zNt, 3800)
theorem blk12 {w : World} {g : Nat} {t : TypeId} {a0 a1 a2 a3 a4 a5 a6 a7 a8 a9 a10 a11 : Value} (h : Blk w g #[a0, a1, a2, a3, a4, a5, a6, a7, a8, a9, a10, a11] t) : w.cell? ⟨g, 0, none⟩ = some a0 ∧ w.cell? ⟨g, 1, none⟩ = some a1 ∧ w.cell? ⟨g, 2, none⟩ = some a2 ∧ w.cell? ⟨g, 3, none⟩ = some a3 ∧ w.cell? ⟨g, 4, none⟩ = some a4 ∧ w.cell? ⟨g, 5, none⟩ = some a5 ∧ w.cell? ⟨g, 6, none⟩ = some a6 ∧ w.cell? ⟨g, 7, none⟩ = some a7 ∧ w.cell? ⟨g, 8, none⟩ = some a8 ∧ w.cell? ⟨g, 9, none⟩ = some a9 ∧ w.cell? ⟨g, 10, none⟩ = some a10 ∧ w.cell? ⟨g, 11, none⟩ = some a11 := ⟨h.cell 0, h.cell 1, h.cell 2, h.cell 3, h.cell 4, h.cell 5, h.cell 6, h.cell 7, h.cell 8, h.cell 9, h.cell 10, h.cell 11⟩
theorem blk12f {w : World} {g : Nat} {t : TypeId} {a0 a1 a2 a3 a4 a5 a6 a7 a8 a9 a10 a11 : Value} (h : Blk w g #[a0, a1, a2, a3, a4, a5, a6, a7, a8, a9, a10, a11] t) : w.frozen? ⟨g, 0, none⟩ = false ∧ w.frozen? ⟨g, 1, none⟩ = false ∧ w.frozen? ⟨g, 2, none⟩ = false ∧ w.frozen? ⟨g, 3, none⟩ = false ∧ w.frozen? ⟨g, 4, none⟩ = false ∧ w.frozen? ⟨g, 5, none⟩ = false ∧ w.frozen? ⟨g, 6, none⟩ = false ∧ w.frozen? ⟨g, 7, none⟩ = false ∧ w.frozen? ⟨g, 8, none⟩ = false ∧ w.frozen? ⟨g, 9, none⟩ = false ∧ w.frozen? ⟨g, 10, none⟩ = false ∧ w.frozen? ⟨g, 11, none⟩ = false := ⟨h.frozen 0, h.frozen 1, h.frozen 2, h.frozen 3, h.frozen 4, h.frozen 5, h.frozen 6, h.frozen 7, h.frozen 8, h.frozen 9, h.frozen 10, h.frozen 11⟩
theorem blk_set12 {w : World} {g : Nat} {t : TypeId} {a0 a1 a2 a3 a4 a5 a6 a7 a8 a9 a10 a11 : Value} (h : Blk w g #[a0, a1, a2, a3, a4, a5, a6, a7, a8, a9, a10, a11] t) (b0 b1 b2 b3 b4 b5 b6 b7 b8 b9 b10 b11 : Value) : Blk (((((((((((((w).setCell ⟨g, 0, none⟩ b0).setCell ⟨g, 1, none⟩ b1).setCell ⟨g, 2, none⟩ b2).setCell ⟨g, 3, none⟩ b3).setCell ⟨g, 4, none⟩ b4).setCell ⟨g, 5, none⟩ b5).setCell ⟨g, 6, none⟩ b6).setCell ⟨g, 7, none⟩ b7).setCell ⟨g, 8, none⟩ b8).setCell ⟨g, 9, none⟩ b9).setCell ⟨g, 10, none⟩ b10).setCell ⟨g, 11, none⟩ b11) g #[b0, b1, b2, b3, b4, b5, b6, b7, b8, b9, b10, b11] t := by
  have k := h |>.set_ 0 b0 |>.set_ 1 b1 |>.set_ 2 b2 |>.set_ 3 b3 |>.set_ 4 b4 |>.set_ 5 b5 |>.set_ 6 b6 |>.set_ 7 b7 |>.set_ 8 b8 |>.set_ 9 b9 |>.set_ 10 b10 |>.set_ 11 b11
  simpa using k
set_option maxRecDepth 100000 in
set_option maxHeartbeats 16000000 in
theorem readNote_any (s : ByteArray) (w : World) :
    Calls Try.prog 18 #[.string s] w fun e w' => ∃ A c E d, e = .returned (.tuple #[.agg ((readNoteF s).1.cells A c E d), .int .i64 (readNoteF s).2]) ∧ NtAt w' (readNoteF s).1 A E ∧ Below w.heap.size w w' := by
  have hmf := mf Try.prog
  obtain ⟨W0, hW0⟩ : ∃ W0, W0 = (w.alloc (.cells #[.int .i64 0, .string ⟨#[]⟩, .string ⟨#[]⟩, .int .i64 0, .string ⟨#[]⟩, .string ⟨#[]⟩, .int .i64 0, .int .i64 0, .string ⟨#[]⟩, .slice none 0 0, .int .i64 0, .slice none 0 0] 41)).alloc (.cells #[.int .i64 0, .string ⟨#[]⟩, .string ⟨#[]⟩, .int .i64 0, .string ⟨#[]⟩, .string ⟨#[]⟩, .int .i64 0, .int .i64 0, .string ⟨#[]⟩, .slice none 0 0, .int .i64 0, .slice none 0 0] 41) := ⟨_, rfl⟩
  have BF := Lib.hid (show Below w.heap.size w W0 by rw [hW0]; exact below_allocS (below_allocS (Below.refl _ _) _) _)
  have HR := Lib.hid (show Blk W0 w.heap.size #[.int .i64 0, .string ⟨#[]⟩, .string ⟨#[]⟩, .int .i64 0, .string ⟨#[]⟩, .string ⟨#[]⟩, .int .i64 0, .int .i64 0, .string ⟨#[]⟩, .slice none 0 0, .int .i64 0, .slice none 0 0] 41 by rw [hW0]; exact (Blk.new w _ _).alloc _)
  have HH := Lib.hid (show Blk W0 (w.heap.size + 1) #[.int .i64 0, .string ⟨#[]⟩, .string ⟨#[]⟩, .int .i64 0, .string ⟨#[]⟩, .string ⟨#[]⟩, .int .i64 0, .int .i64 0, .string ⟨#[]⟩, .slice none 0 0, .int .i64 0, .slice none 0 0] 41 by
    have h := Blk.new (w.alloc (.cells #[.int .i64 0, .string ⟨#[]⟩, .string ⟨#[]⟩, .int .i64 0, .string ⟨#[]⟩, .string ⟨#[]⟩, .int .i64 0, .int .i64 0, .string ⟨#[]⟩, .slice none 0 0, .int .i64 0, .slice none 0 0] 41)) #[.int .i64 0, .string ⟨#[]⟩, .string ⟨#[]⟩, .int .i64 0, .string ⟨#[]⟩, .string ⟨#[]⟩, .int .i64 0, .int .i64 0, .string ⟨#[]⟩, .slice none 0 0, .int .i64 0, .slice none 0 0] 41
    rw [World.size_alloc] at h
    rw [hW0]; exact h)
  have HW := Lib.hid hW0
  have HRF := Lib.hid (show readNoteF s = if 4096 < s.size then ((zNt, 3800) : Nt × Int) else match oneNt s.data.toList with
    | none => (zNt, 3800)
    | some (x, r) => if r = [] ∧ mayF x = true then (x, 0) else (zNt, 3800) from rfl)
  generalize readNoteF s = res at *
  clear hW0
  go_enter Try.func18, Try.ntmps18
  go_upto_region 2 with fail
  rw [← HW.out]
  obtain ⟨y0, y1, y2, y3, y4, y5, y6, y7, y8, y9, y10, y11⟩ := blk12 HR.out
  obtain ⟨z0, z1, z2, z3, z4, z5, z6, z7, z8, z9, z10, z11⟩ := blk12f HR.out
  by_cases hbig : 4096 < s.size
  · have hd : decide ((4096 : Int) < (s.size : Int)) = true := by simp; omega
    have hd2 : decide (4096 < s.size) = true := by simp; omega
    rw [if_pos hbig] at HRF
    have BFF := Lib.hid (blk_set12 HR.out (.int .i64 0) (.string ⟨#[]⟩) (.string ⟨#[]⟩) (.int .i64 0) (.string ⟨#[]⟩) (.string ⟨#[]⟩) (.int .i64 0) (.int .i64 0) (.string ⟨#[]⟩) (.slice none 0 0) (.int .i64 0) (.slice none 0 0))
    go_wp2_with fail
    have k0 := BFF.out.cell 0
    have k1 := BFF.out.cell 1
    have k2 := BFF.out.cell 2
    have k3 := BFF.out.cell 3
    have k4 := BFF.out.cell 4
    have k5 := BFF.out.cell 5
    have k6 := BFF.out.cell 6
    have k7 := BFF.out.cell 7
    have k8 := BFF.out.cell 8
    have k9 := BFF.out.cell 9
    have k10 := BFF.out.cell 10
    have k11 := BFF.out.cell 11
    refine bodyPost_ret (v := .tuple #[.agg #[.int .i64 0, .string ⟨#[]⟩, .string ⟨#[]⟩, .int .i64 0, .string ⟨#[]⟩, .string ⟨#[]⟩, .int .i64 0, .int .i64 0, .string ⟨#[]⟩, .slice none 0 0, .int .i64 0, .slice none 0 0], .int .i64 3800]) (by simp [results, Try.results18, go_sem, k0, k1, k2, k3, k4, k5, k6, k7, k8, k9, k10, k11]) rfl ⟨none, 0, none, 0, by rw [HRF.out]; rfl, ?_, ?_⟩
    · rw [HRF.out]
      exact ⟨Rd.nil, env_nil _ _, by simp, by simp, by simp⟩
    repeat (refine Below.setCell ?_ (Nat.le_refl w.heap.size) _)
    exact BF.out
  · have hd : decide ((4096 : Int) < (s.size : Int)) = false := by simp; omega
    have hd2 : decide (4096 < s.size) = false := by simp; omega
    rw [if_neg hbig] at HRF
    have hsl := ba_size s
    have hs4 : s.data.toList.length ≤ 4096 := by omega
    clear hsl
    have HNL := Lib.hid (fun x r (h : oneNt s.data.toList = some (x, r)) => oneNt_len hs4 h)
    have CN := Lib.hid (noteP_any (w.heap.size + 1) W0 41 _ HH.out)
    clear y0 y1 y2 y3 y4 y5 y6 y7 y8 y9 y10 y11 z0 z1 z2 z3 z4 z5 z6 z7 z8 z9 z10 z11
    go_wp2_with fail
    refine CN.out.mono ?_
    rintro e w2 ⟨A2, b, v, u, c2, rfl, hA, k0, k1, k2, k3, k4, k5, q0, q1, q2, q3, q4, r0, r1, r2, hgb, hgv, hgu, hgA, hb2⟩
    have hgl := HH.out.lt
    have CR := Lib.hid (read_gen A2 [(.num, b), (.txt, b + 2), (.txt, b + 4), (.num, b + 6), (.txt, b + 8), (.txt, b + 10), (.num, v), (.n64, v + 2), (.txt, v + 4), (.l64, v + 6), (.num, u), (.lB, u + 2)] c2 (w.heap.size + 1) [.int .i64 0, .string ⟨#[]⟩, .string ⟨#[]⟩, .int .i64 0, .string ⟨#[]⟩, .string ⟨#[]⟩, .int .i64 0, .int .i64 0, .string ⟨#[]⟩, .slice none 0 0, .int .i64 0, .slice none 0 0] 41 s.data.toList w2 hA (ne_new' hgA hgl) (by
      intro j hj
      rcases j with _ | _ | _ | _ | _ | _ | _ | _ | _ | _ | _ | _ | j
      · exact rdc_num k0 (show b ≠ w.heap.size + 1 by omega)
      · exact rdc_txt k1 (show b + 2 ≠ w.heap.size + 1 by omega)
      · exact rdc_txt k2 (show b + 4 ≠ w.heap.size + 1 by omega)
      · exact rdc_num k3 (show b + 6 ≠ w.heap.size + 1 by omega)
      · exact rdc_txt k4 (show b + 8 ≠ w.heap.size + 1 by omega)
      · exact rdc_txt k5 (show b + 10 ≠ w.heap.size + 1 by omega)
      · exact rdc_num q0 (show v ≠ w.heap.size + 1 by omega)
      · exact rdc_n64 q1 (show v + 2 ≠ w.heap.size + 1 by omega)
      · exact rdc_txt q2 (show v + 4 ≠ w.heap.size + 1 by omega)
      · exact rdc_l64 q3 q4 (show v + 6 ≠ w.heap.size + 1 by omega) (show v + 6 + 1 ≠ w.heap.size + 1 by omega)
      · exact rdc_num r0 (show u ≠ w.heap.size + 1 by omega)
      · exact rdc_lB r1 r2 (show u + 2 ≠ w.heap.size + 1 by omega) (show u + 2 + 1 ≠ w.heap.size + 1 by omega)
      · simp at hj; omega) (HH.out.belowS hb2) (by
      intro j hj
      rcases j with _ | _ | _ | _ | _ | _ | _ | _ | _ | _ | _ | _ | j
      iterate 12 (first | rfl | skip)
      all_goals first | rfl | (simp at hj; omega)) rfl (by simp) (by omega))
    rw [show ([((FK.num : FK), b), (.txt, b + 2), (.txt, b + 4), (.num, b + 6), (.txt, b + 8), (.txt, b + 10), (.num, v), (.n64, v + 2), (.txt, v + 4), (.l64, v + 6), (.num, u), (.lB, u + 2)] : List (FK × Nat)).map (·.1) = ntKs from rfl, ← ba_mk s] at CR
    have B2 := Lib.hid (below_next BF.out hb2)
    have HR2 := Lib.hid (HR.out.belowS hb2)
    clear hA k0 k1 k2 k3 k4 k5 q0 q1 q2 q3 q4 r0 r1 r2 hgb hgv hgu hgA hb2 CN
    go_wp2_with fail
    refine CR.out.mono ?_
    rintro e w3 ⟨hg3, hO3⟩
    have HR3 := Lib.hid (HR2.out.grown hg3 (by simp))
    have B3 := Lib.hid (B2.out.grown hg3 B2.out.size (fun k hk => by injection hk with hk; omega))
    have hw2l := HR2.out.lt
    clear CR hg3
    rw [readsK_nt] at hO3
    obtain ⟨y0, y1, y2, y3, y4, y5, y6, y7, y8, y9, y10, y11⟩ := blk12 HR3.out
    obtain ⟨z0, z1, z2, z3, z4, z5, z6, z7, z8, z9, z10, z11⟩ := blk12f HR3.out
    rcases hon : oneNt s.data.toList with _ | ⟨x, r⟩
    · rw [hon] at hO3 HRF
      obtain ⟨s', rfl⟩ := hO3
      have HRF := Lib.hid (show res = ((zNt, 3800) : Nt × Int) from HRF.out)
      have BFF := Lib.hid (blk_set12 HR3.out (.int .i64 0) (.string ⟨#[]⟩) (.string ⟨#[]⟩) (.int .i64 0) (.string ⟨#[]⟩) (.string ⟨#[]⟩) (.int .i64 0) (.int .i64 0) (.string ⟨#[]⟩) (.slice none 0 0) (.int .i64 0) (.slice none 0 0))
      clear hon HNL
      go_wp2_with fail
      have k0 := BFF.out.cell 0
      have k1 := BFF.out.cell 1
      have k2 := BFF.out.cell 2
      have k3 := BFF.out.cell 3
      have k4 := BFF.out.cell 4
      have k5 := BFF.out.cell 5
      have k6 := BFF.out.cell 6
      have k7 := BFF.out.cell 7
      have k8 := BFF.out.cell 8
      have k9 := BFF.out.cell 9
      have k10 := BFF.out.cell 10
      have k11 := BFF.out.cell 11
      refine bodyPost_ret (v := .tuple #[.agg #[.int .i64 0, .string ⟨#[]⟩, .string ⟨#[]⟩, .int .i64 0, .string ⟨#[]⟩, .string ⟨#[]⟩, .int .i64 0, .int .i64 0, .string ⟨#[]⟩, .slice none 0 0, .int .i64 0, .slice none 0 0], .int .i64 3800]) (by simp [results, Try.results18, go_sem, k0, k1, k2, k3, k4, k5, k6, k7, k8, k9, k10, k11]) rfl ⟨none, 0, none, 0, by rw [HRF.out]; rfl, ?_, ?_⟩
      · rw [HRF.out]
        exact ⟨Rd.nil, env_nil _ _, by simp, by simp, by simp⟩
      repeat (refine Below.setCell ?_ (Nat.le_refl w.heap.size) _)
      exact B3.out
    · rw [hon] at hO3 HRF
      obtain ⟨l1, l2, l3⟩ := HNL.out x r hon
      have HRF := Lib.hid (show res = if r = [] ∧ mayF x = true then ((x, 0) : Nt × Int) else (zNt, 3800) from HRF.out)
      obtain ⟨rfl, vs, hvs, _, hat, hB3⟩ := hO3
      clear hon HNL
      obtain ⟨A, c, E, d, hPI, hPA, hPE, rfl⟩ : ∃ A c E d, Ints w3 A x.v.l ∧ (∀ a, A = some a → w.heap.size + 1 < a.block ∧ a.block < w3.heap.size) ∧ EnvX w3 (w.heap.size + 1) E x.env ∧ vs = [.int .i64 x.kind, .string x.agent, .string x.session, .int .i64 x.seat, .string x.peer, .string x.label, .int .i64 x.v.kind, .int .i64 x.v.n, .string x.v.s, .slice A x.v.l.length c, .int .i64 x.proc, .slice E x.env.length d] := by
        match vs, hvs with
        | [a0, a1, a2, a3, a4, a5, a6, a7, a8, a9, a10, a11], _ =>
          have t0 := hat 0 _ _ rfl rfl
          have t1 := hat 1 _ _ rfl rfl
          have t2 := hat 2 _ _ rfl rfl
          have t3 := hat 3 _ _ rfl rfl
          have t4 := hat 4 _ _ rfl rfl
          have t5 := hat 5 _ _ rfl rfl
          have t6 := hat 6 _ _ rfl rfl
          have t7 := hat 7 _ _ rfl rfl
          have t8 := hat 8 _ _ rfl rfl
          obtain ⟨A, c, t9, t9a, t9b⟩ := hat 9 _ _ rfl rfl
          have t10 := hat 10 _ _ rfl rfl
          obtain ⟨E, d, t11, e1⟩ := hat 11 _ _ rfl rfl
          refine ⟨A, c, E, d, t9a, t9b, e1, ?_⟩
          rw [show a0 = .int .i64 x.kind from t0, show a1 = .string x.agent from t1, show a2 = .string x.session from t2, show a3 = .int .i64 x.seat from t3, show a4 = .string x.peer from t4, show a5 = .string x.label from t5, show a6 = .int .i64 x.v.kind from t6, show a7 = .int .i64 x.v.n from t7, show a8 = .string x.v.s from t8, t9, show a10 = .int .i64 x.proc from t10, t11]
      have HNX := Lib.hid (show NtX w3 (w.heap.size + 1) x A E from ⟨hPI, hPA, hPE⟩)
      have HLL := Lib.hid (show x.v.l.length ≤ 1000000000 ∧ x.env.length ≤ 1000000000 ∧ ∀ b ∈ x.env, b.v.l.length ≤ 1000000000 from ⟨by omega, by omega, fun b hb => by have := l3 b hb; omega⟩)
      have HNT := Lib.hid (NtX.at HNX.out HLL.out.1 HLL.out.2.1 HLL.out.2.2)
      have HX := Lib.hid hB3
      clear hat hvs hPI hPA hPE l1 l2 l3 hB3
      cases r with
      | cons r0 r1 =>
        have hne : ¬ (⟨(r0 :: r1).toArray⟩ : ByteArray).toList = [] := by rw [Go.ByteArray.toList_eq]; simp
        have HRF := Lib.hid (show res = ((zNt, 3800) : Nt × Int) by rw [HRF.out, if_neg (by simp)])
        have BFF := Lib.hid (blk_set12 HR3.out (.int .i64 0) (.string ⟨#[]⟩) (.string ⟨#[]⟩) (.int .i64 0) (.string ⟨#[]⟩) (.string ⟨#[]⟩) (.int .i64 0) (.int .i64 0) (.string ⟨#[]⟩) (.slice none 0 0) (.int .i64 0) (.slice none 0 0))
        go_wp2_with fail
        have k0 := BFF.out.cell 0
        have k1 := BFF.out.cell 1
        have k2 := BFF.out.cell 2
        have k3 := BFF.out.cell 3
        have k4 := BFF.out.cell 4
        have k5 := BFF.out.cell 5
        have k6 := BFF.out.cell 6
        have k7 := BFF.out.cell 7
        have k8 := BFF.out.cell 8
        have k9 := BFF.out.cell 9
        have k10 := BFF.out.cell 10
        have k11 := BFF.out.cell 11
        refine bodyPost_ret (v := .tuple #[.agg #[.int .i64 0, .string ⟨#[]⟩, .string ⟨#[]⟩, .int .i64 0, .string ⟨#[]⟩, .string ⟨#[]⟩, .int .i64 0, .int .i64 0, .string ⟨#[]⟩, .slice none 0 0, .int .i64 0, .slice none 0 0], .int .i64 3800]) (by simp [results, Try.results18, go_sem, k0, k1, k2, k3, k4, k5, k6, k7, k8, k9, k10, k11]) rfl ⟨none, 0, none, 0, by rw [HRF.out]; rfl, ?_, ?_⟩
        · rw [HRF.out]
          exact ⟨Rd.nil, env_nil _ _, by simp, by simp, by simp⟩
        repeat (refine Below.setCell ?_ (Nat.le_refl w.heap.size) _)
        exact B3.out
      | nil =>
        have CM := Lib.hid (show Calls Try.prog 16 #[.agg #[.int .i64 x.kind, .string x.agent, .string x.session, .int .i64 x.seat, .string x.peer, .string x.label, .int .i64 x.v.kind, .int .i64 x.v.n, .string x.v.s, .slice A x.v.l.length c, .int .i64 x.proc, .slice E x.env.length d]] w3 _ from noteMay_any x A E c d w3 HNT.out)
        obtain ⟨x0, x1, x2, x3, x4, x5, x6, x7, x8, x9, x10, x11⟩ := blk12 HX.out
        clear y0 y1 y2 y3 y4 y5 y6 y7 y8 y9 y10 y11 z0 z1 z2 z3 z4 z5 z6 z7 z8 z9 z10 z11
        go_wp2_with fail
        refine CM.out.mono ?_
        rintro e w4 ⟨rfl, hb4⟩
        have HR4 := Lib.hid (HR3.out.belowS hb4)
        have HX4 := Lib.hid (HX.out.belowS hb4)
        have B4 := Lib.hid (below_next B3.out hb4)
        have HNX4 := Lib.hid (HNX.out.below hb4)
        clear CM x0 x1 x2 x3 x4 x5 x6 x7 x8 x9 x10 x11 hb4
        obtain ⟨x0, x1, x2, x3, x4, x5, x6, x7, x8, x9, x10, x11⟩ := blk12 HX4.out
        obtain ⟨y0, y1, y2, y3, y4, y5, y6, y7, y8, y9, y10, y11⟩ := blk12 HR4.out
        obtain ⟨z0, z1, z2, z3, z4, z5, z6, z7, z8, z9, z10, z11⟩ := blk12f HR4.out
        have hl4 := HX4.out.lt
        have hl5 := HR4.out.lt
        rcases hm : mayF x with _ | _
        · have HRF := Lib.hid (show res = ((zNt, 3800) : Nt × Int) by rw [HRF.out, if_neg (by simp [hm])])
          have BFF := Lib.hid (blk_set12 HR4.out (.int .i64 0) (.string ⟨#[]⟩) (.string ⟨#[]⟩) (.int .i64 0) (.string ⟨#[]⟩) (.string ⟨#[]⟩) (.int .i64 0) (.int .i64 0) (.string ⟨#[]⟩) (.slice none 0 0) (.int .i64 0) (.slice none 0 0))
          clear hm x0 x1 x2 x3 x4 x5 x6 x7 x8 x9 x10 x11
          go_wp2_with fail
          have k0 := BFF.out.cell 0
          have k1 := BFF.out.cell 1
          have k2 := BFF.out.cell 2
          have k3 := BFF.out.cell 3
          have k4 := BFF.out.cell 4
          have k5 := BFF.out.cell 5
          have k6 := BFF.out.cell 6
          have k7 := BFF.out.cell 7
          have k8 := BFF.out.cell 8
          have k9 := BFF.out.cell 9
          have k10 := BFF.out.cell 10
          have k11 := BFF.out.cell 11
          refine bodyPost_ret (v := .tuple #[.agg #[.int .i64 0, .string ⟨#[]⟩, .string ⟨#[]⟩, .int .i64 0, .string ⟨#[]⟩, .string ⟨#[]⟩, .int .i64 0, .int .i64 0, .string ⟨#[]⟩, .slice none 0 0, .int .i64 0, .slice none 0 0], .int .i64 3800]) (by simp [results, Try.results18, go_sem, k0, k1, k2, k3, k4, k5, k6, k7, k8, k9, k10, k11]) rfl ⟨none, 0, none, 0, by rw [HRF.out]; rfl, ?_, ?_⟩
          · rw [HRF.out]
            exact ⟨Rd.nil, env_nil _ _, by simp, by simp, by simp⟩
          repeat (refine Below.setCell ?_ (Nat.le_refl w.heap.size) _)
          exact B4.out
        · have HRF := Lib.hid (show res = ((x, 0) : Nt × Int) by rw [HRF.out]; simp [hm])
          have BFF := Lib.hid (blk_set12 HR4.out (.int .i64 x.kind) (.string x.agent) (.string x.session) (.int .i64 x.seat) (.string x.peer) (.string x.label) (.int .i64 x.v.kind) (.int .i64 x.v.n) (.string x.v.s) (.slice A x.v.l.length c) (.int .i64 x.proc) (.slice E x.env.length d))
          clear hm
          go_wp2_with fail
          have k0 := BFF.out.cell 0
          have k1 := BFF.out.cell 1
          have k2 := BFF.out.cell 2
          have k3 := BFF.out.cell 3
          have k4 := BFF.out.cell 4
          have k5 := BFF.out.cell 5
          have k6 := BFF.out.cell 6
          have k7 := BFF.out.cell 7
          have k8 := BFF.out.cell 8
          have k9 := BFF.out.cell 9
          have k10 := BFF.out.cell 10
          have k11 := BFF.out.cell 11
          refine bodyPost_ret (v := .tuple #[.agg #[.int .i64 x.kind, .string x.agent, .string x.session, .int .i64 x.seat, .string x.peer, .string x.label, .int .i64 x.v.kind, .int .i64 x.v.n, .string x.v.s, .slice A x.v.l.length c, .int .i64 x.proc, .slice E x.env.length d], .int .i64 0]) (by simp [results, Try.results18, go_sem, k0, k1, k2, k3, k4, k5, k6, k7, k8, k9, k10, k11]) rfl ⟨A, c, E, d, by rw [HRF.out]; rfl, ?_, ?_⟩
          · rw [HRF.out]
            exact NtX.at (h := w.heap.size + 1) (x := x) (HNX4.out |>.set (g := w.heap.size) (Nat.le_succ _)|>.set (g := w.heap.size) (Nat.le_succ _)|>.set (g := w.heap.size) (Nat.le_succ _)|>.set (g := w.heap.size) (Nat.le_succ _)|>.set (g := w.heap.size) (Nat.le_succ _)|>.set (g := w.heap.size) (Nat.le_succ _)|>.set (g := w.heap.size) (Nat.le_succ _)|>.set (g := w.heap.size) (Nat.le_succ _)|>.set (g := w.heap.size) (Nat.le_succ _)|>.set (g := w.heap.size) (Nat.le_succ _)|>.set (g := w.heap.size) (Nat.le_succ _)|>.set (g := w.heap.size) (Nat.le_succ _)) HLL.out.1 HLL.out.2.1 HLL.out.2.2
          repeat (refine Below.setCell ?_ (Nat.le_refl w.heap.size) _)
          exact B4.out
end Go.Proofs.Ytfaophiaiflecaa
