/- Contract: reparteelaw40.played. -/
import Derived.Test.YtnjfphfkjapemaaCutS
import Derived.Deep.RegionLaw
import Derived.Deep.DeepCutAuto
import Derived.Deep.CutBlock
import Derived.StillTailTactics
import Derived.Laws.IdiomStrings
import Derived.Laws.BytesArg
namespace Go.Proofs.Ytnjfphfkjapemaa
open Go.RowKit

theorem below_allocS {w w' : World} (h : Below w.heap.size w w') (o : Obj) : Below w.heap.size w (w'.alloc o) := h.alloc h.size o
theorem fresh_ne {A : Option Addr} {l : List ByteArray} {n g : Nat} (h : ∀ ad, A = some ad → n ≤ ad.block) (hg : g < n) : blk0 A l = none ∨ blk0 A l ≠ some g := by
  unfold blk0
  split
  · exact .inl rfl
  · cases A with
    | none => exact .inl rfl
    | some ad =>
      right
      intro e
      have := h ad rfl
      simp [blkOf] at e
      omega
/-- A bound that no walk looks into. -/
structure Bnd (n : Nat) : Prop where
  le : n ≤ 1048576
theorem at_core (n wl : Nat) (h : Bnd n) : (wrap64 ((n : Int) / 16)).tmod (wl : Int) = (n : Int) / 16 % (wl : Int) := by
  have := h.le
  rw [IntWalk.wrap64_in _ ⟨by omega, by omega⟩, Int.tmod_eq_emod_of_nonneg (by omega)]
theorem at_core2 (n r : Nat) (h : Bnd n) (e : n / 1024 % 2 = r) : (wrap64 ((n : Int) / 1024)).tmod 2 = (r : Int) := by
  have := h.le
  rw [IntWalk.wrap64_in _ ⟨by omega, by omega⟩, Int.tmod_eq_emod_of_nonneg (by omega)]
  omega
def nsOf (l : List Int) (i : Nat) : Nat := (lowF (l.getD i 0) 1048576).toNat
abbrev zSide : List Value := [.int .i64 0, .slice none 0 0, .int .i64 0, .slice none 0 0, .slice none 0 0, .slice none 0 0]
theorem ps_start (w : World) : PS ((w.alloc (.cells (zSide ++ zSide).toArray 42)).alloc (.cells (zSide ++ zSide).toArray 42)) (w.heap.size + 1 + 1) (w.heap.size + 1) 0 6 sd0 sd0 := by
  have hb := Blk.new (w.alloc (.cells (zSide ++ zSide).toArray 42)) (zSide ++ zSide).toArray 42
  rw [World.size_alloc] at hb
  have hrow : ∀ W : World, Rows4 W (w.heap.size + 1 + 1) sd0 none none none none 0 0 0 0 := fun W => ⟨Rd.nil, World.ownsRow_nil _ _ _ _, World.ownsRow_nil _ _ _ _, World.ownsRow_nil _ _ _ _, Nat.le_refl _, Nat.le_refl _, Nat.le_refl _, Nat.le_refl _⟩
  refine ⟨none, none, none, none, none, none, none, none, 0, 0, 0, 0, 0, 0, 0, 0, ⟨.inl ⟨rfl, rfl⟩, rfl, rfl, _, hb, rfl, fun j hj => ?_, fun j hj => ?_⟩, ⟨hrow _, hrow _, ⟨fun i b h => ?_, fun i j b h _ => ?_⟩, by simp⟩, by omega⟩
  · rcases j with _ | _ | _ | _ | _ | _ | j <;> first | rfl | omega
  · rcases j with _ | _ | _ | _ | _ | _ | j <;> first | rfl | omega
  · rcases i with _ | _ | _ | _ | _ | _ | _ | _ | i <;> simp [blkOf, blk0, sd0] at h
  · rcases i with _ | _ | _ | _ | _ | _ | _ | _ | i <;> simp [blkOf, blk0, sd0] at h
theorem frow_get' (L : List Fm) (j m : Nat) (h : j < L.length) (hm : m < 5) : (frow L)[j * 5 + m]? = some ((fcells L[j])[m]'hm) := by
  induction L generalizing j with
  | nil => simp at h
  | cons a t ih =>
    have e : frow (a :: t) = fcells a ++ frow t := rfl
    have el : (fcells a).length = 5 := rfl
    rw [e]
    cases j with
    | zero =>
      rw [List.getElem?_append_left (by omega)]
      simp [List.getElem?_eq_getElem (show m < (fcells a).length by omega)]
    | succ j =>
      rw [List.getElem?_append_right (by omega), el, show (j + 1) * 5 + m - 5 = j * 5 + m by omega]
      exact ih j (by simpa using h)
theorem body_conv (w : World) (k : Nat) (hk : k < 200) : (convert 57 9 (.slice (some ⟨w.heap.size, 0, none⟩) 2 2)).run Try.prog (w.alloc (.cells #[.int .u8 (97 + (k : Int) % 26), .int .u8 (k : Int)] 5)) = .ok (.string (bodyOf k)) (w.alloc (.cells #[.int .u8 (97 + (k : Int) % 26), .int .u8 (k : Int)] 5)) := by
  refine run_convert_bytes_back (P := Try.prog) _ 57 9 5 ⟨w.heap.size, 0, none⟩ 2 [UInt8.ofNat (97 + k % 26), UInt8.ofNat k] Try.underlying57 Try.underlying5 Try.underlying9 fun j hj => ?_
  have hb := Blk.new w #[.int .u8 (97 + (k : Int) % 26), .int .u8 (k : Int)] 5
  have ha : (⟨w.heap.size, 0, none⟩ : Addr).add j = ⟨w.heap.size, j, none⟩ := by unfold Addr.add; split <;> simp_all
  rw [ha, hb.cell j]
  have hj2 : j < 2 := hj
  rcases j with _ | _ | j
  · have e : (UInt8.ofNat (97 + k % 26)).toNat = 97 + k % 26 := by rw [UInt8.toNat_ofNat', Nat.mod_eq_of_lt (by omega)]
    show some (Value.int .u8 (97 + (k : Int) % 26)) = some (Value.int .u8 ((UInt8.ofNat (97 + k % 26)).toNat : Int))
    rw [e]
    congr 2
  · have e : (UInt8.ofNat k).toNat = k := by rw [UInt8.toNat_ofNat', Nat.mod_eq_of_lt (by omega)]
    show some (Value.int .u8 (k : Int)) = some (Value.int .u8 ((UInt8.ofNat k).toNat : Int))
    rw [e]
  · omega
/-- The side that an event befalls, and the other one. -/
theorem orient (ns : Nat → Nat) (k n kk mo oo g base : Nat) (w : World) (hns : ns k = n) (hk : k ≤ 999) (h : (kk = 0 ∧ n % 2 = 0 ∧ mo = 0 ∧ oo = 6) ∨ (kk = 1 ∧ n % 2 = 1 ∧ mo = 6 ∧ oo = 0)) (hp : PS w base g 0 6 (playF ns k).1 (playF ns k).2) :
    ∃ me other, PS w base g mo oo me other ∧ Lk me other ∧ Lk other me ∧ me.sent.length ≤ k ∧ other.sent.length ≤ k ∧ me.way.length ≤ 9 * k ∧ other.way.length ≤ 9 * k ∧
      ∀ w', PS w' base g mo oo (evF k n kk me other).1 (evF k n kk me other).2 → PS w' base g 0 6 (playF ns (k + 1)).1 (playF ns (k + 1)).2 := by
  obtain ⟨hl, h1, h2⟩ := playF_ok ns k (by omega)
  obtain ⟨g1, g2⟩ := playF_way ns k
  have hs : playF ns (k + 1) = stepL k n (playF ns k) := by show stepL k (ns k) (playF ns k) = _; rw [hns]
  rcases h with ⟨rfl, hn, rfl, rfl⟩ | ⟨rfl, hn, rfl, rfl⟩
  · refine ⟨_, _, hp, hl.1, hl.2, h1, h2, g1, g2, fun w' h' => ?_⟩
    rw [hs]
    unfold stepL
    rw [if_pos hn]
    exact h'
  · refine ⟨_, _, hp.swap, hl.2, hl.1, h2, h1, g2, g1, fun w' h' => ?_⟩
    rw [hs]
    unfold stepL
    rw [if_neg (by omega)]
    exact h'.swap
theorem blk_set12 {w : World} {g : Nat} {t : TypeId} {a0 a1 a2 a3 a4 a5 a6 a7 a8 a9 a10 a11 : Value} (h : Blk w g #[a0, a1, a2, a3, a4, a5, a6, a7, a8, a9, a10, a11] t) (b0 b1 b2 b3 b4 b5 b6 b7 b8 b9 b10 b11 : Value) : Blk ((((((((((((w.setCell ⟨g, 0, none⟩ b0).setCell ⟨g, 1, none⟩ b1).setCell ⟨g, 2, none⟩ b2).setCell ⟨g, 3, none⟩ b3).setCell ⟨g, 4, none⟩ b4).setCell ⟨g, 5, none⟩ b5).setCell ⟨g, 6, none⟩ b6).setCell ⟨g, 7, none⟩ b7).setCell ⟨g, 8, none⟩ b8).setCell ⟨g, 9, none⟩ b9).setCell ⟨g, 10, none⟩ b10).setCell ⟨g, 11, none⟩ b11) g #[b0, b1, b2, b3, b4, b5, b6, b7, b8, b9, b10, b11] t := by
  have k := ((((((((((((h.set_ 0 b0).set_ 1 b1).set_ 2 b2).set_ 3 b3).set_ 4 b4).set_ 5 b5).set_ 6 b6).set_ 7 b7).set_ 8 b8).set_ 9 b9).set_ 10 b10).set_ 11 b11)
  simpa using k
/-- What `played` returns: the twelve cells of the two sides, whose rows lie in new memory, each in a block of its own. -/
def PlayedPost (w : World) (a b : Sd) (e : Ending) (w' : World) : Prop :=
  ∃ A0 A1 A2 A3 B0 B1 B2 B3 c0 c1 c2 c3 d0 d1 d2 d3, e = .returned (.tuple #[.agg #[.int .i64 a.fy.base, .slice A0 a.fy.sent.length c0, .int .i64 a.fy.want, .slice A1 a.sent.length c1, .slice A2 a.heard.length c2, .slice A3 a.way.length c3, .int .i64 b.fy.base, .slice B0 b.fy.sent.length d0, .int .i64 b.fy.want, .slice B1 b.sent.length d1, .slice B2 b.heard.length d2, .slice B3 b.way.length d3], .bool true]) ∧
    PSR w' (w.heap.size + 2) a b A0 A1 A2 A3 B0 B1 B2 B3 c0 c1 c2 c3 d0 d1 d2 d3 ∧ Below w.heap.size w w'
theorem two12 {w : World} {g : Nat} {a b c d e f a' b' c' d' e' f' : Value} (h : Two w g 0 6 [a, b, c, d, e, f] [a', b', c', d', e', f']) :
    w.cell? ⟨g, 0, none⟩ = some a ∧ w.cell? ⟨g, 1, none⟩ = some b ∧ w.cell? ⟨g, 2, none⟩ = some c ∧ w.cell? ⟨g, 3, none⟩ = some d ∧ w.cell? ⟨g, 4, none⟩ = some e ∧ w.cell? ⟨g, 5, none⟩ = some f ∧
    w.cell? ⟨g, 6, none⟩ = some a' ∧ w.cell? ⟨g, 7, none⟩ = some b' ∧ w.cell? ⟨g, 8, none⟩ = some c' ∧ w.cell? ⟨g, 9, none⟩ = some d' ∧ w.cell? ⟨g, 10, none⟩ = some e' ∧ w.cell? ⟨g, 11, none⟩ = some f' := by
  have k := fun j hj => (h.cell j hj).1
  have m := fun j hj => (h.swap.cell j hj).1
  have k0 := k 0 (by omega); have k1 := k 1 (by omega); have k2 := k 2 (by omega); have k3 := k 3 (by omega); have k4 := k 4 (by omega); have k5 := k 5 (by omega)
  have m0 := m 0 (by omega); have m1 := m 1 (by omega); have m2 := m 2 (by omega); have m3 := m 3 (by omega); have m4 := m 4 (by omega); have m5 := m 5 (by omega)
  exact ⟨k0, k1, k2, k3, k4, k5, m0, m1, m2, m3, m4, m5⟩
/-- A part of a code, by the way to it. -/
def kid : Code → Nat → Code
  | .seq a _, 0 => a
  | .seq _ b, _ => b
  | .cond _ a _, 0 => a
  | .cond _ _ b, _ => b
  | .block _ c, _ => c
  | .loop c, _ => c
  | .scope c, _ => c
  | c, _ => c
def kidAt (c : Code) (p : List Nat) : Code := p.foldl kid c
/-- A post that asks for a normal end. -/
def evPost (K : Act → World → Prop) : Exit → Act → World → Prop
  | .normal, a, w => K a w
  | _, _, _ => False
theorem ev_lift {P : Program} {c : Code} {a : Act} {w : World} {K : Act → World → Prop} {Q : Exit → Act → World → Prop} (h : c.wp P (evPost K) a w) : c.wp P (Exit.then K Q) a w :=
  Code.wp_mono (fun e a w h => by cases e <;> first | exact h | exact (h : False).elim) h
def codeOf (f : Func) : Code := match f.body with | some c => c | none => .skip
end Go.Proofs.Ytnjfphfkjapemaa
