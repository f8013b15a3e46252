/- Contract: wire.Split at nil. -/
import Derived.Test.YtkpgfkilbamkdaaSplSplit
namespace Go.Proofs.Ytkpgfkilbamkdaa
open Go.RowKit Go.Shelf

attribute [local go_sem] Oper.semAt_some

theorem bxr2 {w : World} {n₀ a b : Nat} {vs : List Value} {ls : List (List ByteArray)} (h : BxR w n₀ [a, b] vs ls) : ∃ x y, vs = [x, y] := by
  have := h.len.1
  match vs, this with
  | [x, y], _ => exact ⟨x, y, rfl⟩
theorem bxr_start2 (w : World) (n₀ : Nat) (t0 : TypeId) (u0 : Value) (sv : Value) (hn : n₀ ≤ w.heap.size) (W0 : World)
    (hW0 : W0 = (((w.alloc (.cells #[u0] t0)).alloc (.cells #[.slice none 0 0] 22)).alloc (.cells #[.slice none 0 0] 22)).alloc (.cells #[sv] 22)) :
    BxR W0 n₀ [w.heap.size + 1, w.heap.size + 1 + 1] [.slice none 0 0, .slice none 0 0] [[], []] ∧ Boxed W0 w.heap.size t0 u0 ∧ Boxed W0 (w.heap.size + 1 + 1 + 1) 22 sv ∧ Below n₀ w W0 ∧ W0.heap.size = w.heap.size + 4 := by
  have b0 := (((Boxed.new w t0 u0).alloc (.cells #[.slice none 0 0] 22)).alloc (.cells #[.slice none 0 0] 22)).alloc (.cells #[sv] 22)
  have b1 := Boxed.new (w.alloc (.cells #[u0] t0)) 22 (.slice none 0 0)
  have b2 := Boxed.new ((w.alloc (.cells #[u0] t0)).alloc (.cells #[.slice none 0 0] 22)) 22 (.slice none 0 0)
  have b3 := Boxed.new (((w.alloc (.cells #[u0] t0)).alloc (.cells #[.slice none 0 0] 22)).alloc (.cells #[.slice none 0 0] 22)) 22 sv
  simp only [World.size_alloc] at b1 b2 b3
  have hB : Below w.heap.size w W0 := by
    rw [hW0]
    exact ((((Below.refl _ w).alloc (Nat.le_refl _) _).alloc (by simp) _).alloc (by simp; omega) _).alloc (by simp; omega) _
  have hsz : W0.heap.size = w.heap.size + 4 := by rw [hW0]; simp
  rw [← hW0] at b0 b3
  have b1' : Boxed W0 (w.heap.size + 1) 22 (.slice none 0 0) := by rw [hW0]; exact (b1.alloc _).alloc _
  have b2' : Boxed W0 (w.heap.size + 1 + 1) 22 (.slice none 0 0) := by rw [hW0]; exact b2.alloc _
  refine ⟨⟨fun i b v l h1 h2 h3 => ?_, ⟨fun i b h => ?_, fun i j b h _ => ?_⟩, fun i j b h1 h2 => ?_, fun b hb => ?_, by omega, by simp⟩, b0, b3, hB.mono hn, hsz⟩
  · rcases i with _ | _ | i
    · cases h1; cases h2; cases h3; exact ⟨b1', World.ownsRow_nil _ _ _ _⟩
    · cases h1; cases h2; cases h3; exact ⟨b2', World.ownsRow_nil _ _ _ _⟩
    · simp at h1
  · rcases i with _ | _ | i <;> simp [Value.ownBlock] at h
  · rcases i with _ | _ | i <;> simp [Value.ownBlock] at h
  · rcases i with _ | _ | i <;> rcases j with _ | _ | j <;> simp at h1 h2 <;> omega
  · simp at hb; omega
set_option maxRecDepth 100000 in
set_option maxHeartbeats 4000000 in
theorem split_nil (A : Option Addr) (l : List ByteArray) (c : Nat) (w : World) (n₀ : Nat) (hI : StrsBelow n₀ w A l) (hl : l.length ≤ 1000) (hn : n₀ ≤ w.heap.size) :
    Calls Try.prog 19 #[.slice A l.length c, .nilFunc] w fun e w' =>
      ∃ vy vn, e = .returned (.tuple #[vy, vn]) ∧ BxR w' n₀ [w.heap.size + 1, w.heap.size + 1 + 1] [vy, vn] [[], l] ∧ Below n₀ w w' := by
  obtain ⟨i0, hi0, hz0, hz1, hz2⟩ := info_parts infoStr
  refine (callsIn_wide (n := 3)).1 ?_
  refine callsIn_of_wp_marks Try.func19 rfl trivial ?_ rfl
  simp only [Try.ntmps19, List.size_toArray, List.length_cons, List.length_nil, Nat.reduceAdd, Nat.reduceSub, Array.replicate_succ, Array.replicate_zero, List.push_toArray, List.append_toArray, List.nil_append, List.cons_append]
  gi_wp2_with (refine ⟨trivial, ?_⟩; gi_at_call 24; refine (values_in Fence.wide _ trivial rfl _ _ _ _).mono ?_; rintro e w' ⟨rfl, rfl⟩)
  obtain ⟨W0, hW0⟩ : ∃ W0, W0 = (((w.alloc (.cells #[.nilFunc] 37)).alloc (.cells #[.slice none 0 0] 22)).alloc (.cells #[.slice none 0 0] 22)).alloc (.cells #[.slice A l.length c] 22) := ⟨_, rfl⟩
  obtain ⟨hR0, hP0, hS0, hB0, hsz⟩ := bxr_start2 w n₀ _ _ _ hn W0 hW0
  rw [← hW0]
  clear hW0
  refine wpIn_rangeFunc_ownG (F := Fence.wide) rfl (by omega) (gf := 25) (lb := #[.pointer (some ⟨w.heap.size + 1 + 1 + 1, 0, none⟩)]) rfl trivial (enters_of Try.func25 (by kernel_rfl) rfl)
    (values_stops Fence.wide _ trivial rfl (by omega) (w.heap.size + 1 + 1 + 1) n₀ c A l (by omega) W0 hS0.lt (by omega) hS0.cell (hI.below hB0)) belowK_t (belowK_b (by omega)) (Below.refl _ _) (fun _ => rfl)
    (fun pre W => (∃ vs, BxR W n₀ [w.heap.size + 1, w.heap.size + 1 + 1] vs [[], pre]) ∧ Boxed W w.heap.size 37 (.nilFunc) ∧ Below n₀ w W)
    (fun _ _ _ => False)
    (OwnFrom.and (Own.from (bxr_own n₀ _ fun pre => [[], pre]) _) (OwnFrom.and (Own.from (boxed_own _ _ (fun _ => _)) _) (ownFrom_below hn (by omega))))
    (fun _ _ _ _ _ hs _ _ => hs)
    ⟨⟨_, hR0⟩, hP0, hB0⟩
    (fun s => { tmps := #[.slice A l.length c, .nilFunc, undef, .pointer (some ⟨w.heap.size, 0, none⟩), .slice none 0 0, .slice none 0 0, .pointer (some ⟨w.heap.size + 1, 0, none⟩), .pointer (some ⟨w.heap.size + 1 + 1, 0, none⟩), .string s, .slice A l.length c, .func (.func 25) #[] #[.pointer (some ⟨w.heap.size + 1 + 1 + 1, 0, none⟩)], .string s, undef, undef, undef, undef, undef, undef, undef, undef, undef, undef, undef, undef, undef, undef, undef, undef, undef], defers := [] }) ?assign ?body ?done ?stop
  case assign =>
    intro l x W K hK
    gi_wp2
    exact hK
  case body =>
    rintro k pre s W ⟨⟨vs, hR⟩, hP, hB⟩ hlt
    obtain ⟨vy, vn, rfl⟩ := bxr2 hR
    have hcell := hP.cell
    have hpl : pre.length ≤ 1000 := by omega
    have hnq := fun W => nqn W
    have hq := (hR.row 1 _ _ _ rfl rfl rfl).1.cell
    have hrw := (hR.row 1 _ _ _ rfl rfl rfl).2
    have hzw := hR.size
    gi_wp2
    all_goals
      refine ⟨fun _ h => (by cases h), ?_⟩
      gi_wp2_with (gi_at_builtin; refine wpListIn_app rfl _ _ _ rfl n₀ 9 i0 _ 1 16 Try.underlying22 hi0 hz0 hz1 hz2 rfl (by omega) _ _ _ rfl (hrw.alloc _) (some ⟨W.heap.size, 0, none⟩) 1 1 [.string s] rfl (Rd.new W #[.string s] 9) rfl (oneCell_str _) (by omega) (by unfold maxLen; omega) (by simp; omega) ?_; intro A7 c7 w7 hle7 hown7 hg7 hat7; obtain ⟨hb7, hR7, hK7, hB7, hO7⟩ := hR.app (i := 1) rfl rfl rfl hown7 hg7 hat7; have s0 := hb7.cell; have r0 := hb7.frozen)
      exact ⟨hK7.from _, hB7, ⟨⟨_, hR7⟩, hO7 _ _ _ (by decide) (by omega) hP, hB.trans hB7⟩⟩
  case done =>
    rintro D ys W hD rfl ⟨⟨vs, hR⟩, hP, hB⟩ hK
    obtain ⟨vy, vn, rfl⟩ := bxr2 hR
    have hc1 := (hR.row 0 _ _ _ rfl rfl rfl).1.cell
    have hc2 := (hR.row 1 _ _ _ rfl rfl rfl).1.cell
    gi_wp2
    gi_region
    all_goals
      gi_wp2
      have hK' : W.drew.heap[D]? = some (.deferred (some [])) := hK
      have hR' : BxR W.drew n₀ _ _ _ := hR.below ((Below.refl _ _).drew)
      refine ⟨by simp, .inl ⟨_, _, rfl, run_takeDeferred hK', ?_⟩⟩
      refine ⟨.tuple #[vy, vn], ?_, vy, vn, rfl, hR'.others (grownBy_putObj' _ D (.deferred none)) (fun r e => by cases e; exact ⟨_, hK', rfl⟩), hB.drew.trans (belowK_b (w := w) hn W.drew D _ _ (by omega) hK' rfl rfl)⟩
      simp [results, Try.results19, go_sem]
  case stop =>
    rintro D k pre W _ _ h _
    exact h.elim
end Go.Proofs.Ytkpgfkilbamkdaa
