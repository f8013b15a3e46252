/- Contract: live.in of two steps, where no view has a name: what it asks of live.uses is that it returns. -/
import Derived.Test.YtngfeflemblljaaGreatDoorBlk
import Derived.TacticsInMore
import Derived.LoopNIn
import Derived.LoopIn
import Derived.RangeFuncNested
import Derived.RangeFuncCalls
import Derived.Shelf.RegionOpen
import Derived.RegionIn
import Derived.BigRegionIn
namespace Go.Proofs.YtngfeflemblljaaGreatDoor
open Go.RowKit Go.Shelf

attribute [local go_sem] Oper.semAt_some

/-- The two steps. -/
def st0C : List Value := [.int .i64 2, .string ⟨#[]⟩, .string ⟨#[]⟩, .string ⟨#[]⟩, .string ⟨#[]⟩, .int .i64 2, .slice none 0 0, .slice none 0 0, .slice none 0 0, .int .i64 1]
def st1C : List Value := [.int .i64 0, .string ⟨#[]⟩, .string ⟨#[]⟩, .string ⟨#[]⟩, .string ⟨#[]⟩, .int .i64 (-1), .slice none 0 0, .slice none 0 0, .slice none 0 0, .int .i64 (-1)]
def stC (i : Bool) : List Value := match i with | false => st0C | true => st1C
def ixC (i : Bool) : Int := match i with | false => 0 | true => 1
structure New (n0 : Nat) (W W' : World) : Prop where
  size : W.heap.size ≤ W'.heap.size
  os : W'.os = W.os
  tape : W'.tape = W.tape
  output : W'.output = W.output
  block : ∀ b, n0 ≤ b → b < W.heap.size → W'.heap[b]? = W.heap[b]?
theorem New.refl (n0 : Nat) (W : World) : New n0 W W := ⟨Nat.le_refl _, rfl, rfl, rfl, fun _ _ _ => rfl⟩
theorem New.trans {n0 : Nat} {W W1 W2 : World} (h : New n0 W W1) (k : New n0 W1 W2) : New n0 W W2 :=
  ⟨Nat.le_trans h.size k.size, k.os.trans h.os, k.tape.trans h.tape, k.output.trans h.output, fun b h1 h2 => (k.block b h1 (Nat.lt_of_lt_of_le h2 h.size)).trans (h.block b h1 h2)⟩
/-- What is read of the steps, and of the box that the iterator holds. -/
structure Bk (W : World) (qb sb sc : Nat) : Prop where
  box : W.cell? ⟨qb, 3, none⟩ = some (.slice (some ⟨sb, 0, none⟩) 2 sc)
  c0 : ∀ j u, st0C[j]? = some u → W.cell? ⟨sb, j, none⟩ = some u
  c1 : ∀ j u, st1C[j]? = some u → W.cell? ⟨sb, 10 + j, none⟩ = some u
def encS (i : Bool) : Array Value := #[.int .i64 (ixC i), .agg (stC i).toArray]
set_option maxRecDepth 100000 in
set_option maxHeartbeats 4000000 in
theorem back1_in (F : Fence) (n : Nat) (hf : F.fn 118) (hro : F.round = none) (hn : 1 ≤ n) (l qb sb sc : Nat) (Q : World → Prop) (hQ : ∀ W, Q W → Bk W qb sb sc) (J Jx : List Bool → World → Prop)
    (hY : ∀ pre x W, J pre W → pre.length < 2 → YieldAt F (n - 1) Tryz.prog l (encS x) W fun e W' =>
      (e = .returned (.bool true) ∧ J (pre ++ [x]) W' ∧ (Q W → Q W')) ∨ (e = .returned (.bool false) ∧ Jx (pre ++ [x]) W'))
    (W : World) (hq : Q W) (h0 : J [] W) :
    CallsIn F n Tryz.prog 118 #[.func (.yield l) #[] #[], .pointer (some ⟨qb, 0, none⟩)] W fun e W' => (∃ v, e = .returned v) ∧ ((∃ ys, ys = [true, false] ∧ J ys W') ∨ (∃ pre, True ∧ Jx pre W')) := by
  have HQ := Lib.hid hQ
  have HY := Lib.hid hY
  have HW := Lib.hid hq
  have H0 := Lib.hid h0
  obtain ⟨b3, c0, c1⟩ := hQ W hq
  have s0 := c1 0 _ rfl
  have s1 := c1 1 _ rfl
  have s2 := c1 2 _ rfl
  have s3 := c1 3 _ rfl
  have s4 := c1 4 _ rfl
  have s5 := c1 5 _ rfl
  have s6 := c1 6 _ rfl
  have s7 := c1 7 _ rfl
  have s8 := c1 8 _ rfl
  have s9 := c1 9 _ rfl
  clear hQ hY hq h0 c0 c1
  simp only [Nat.add_zero, Nat.reduceAdd] at s0 s1 s2 s3 s4 s5 s6 s7 s8 s9
  refine callsIn_of_wp Tryz.func118 rfl hf ?_ hro
  simp only [Tryz.ntmps118, List.size_toArray, List.length_cons, List.length_nil, Nat.reduceAdd, Nat.reduceSub, Array.replicate_succ, Array.replicate_zero, List.push_toArray, List.append_toArray, List.nil_append, List.cons_append]
  obtain ⟨f1, t1, as1, bd1, hy1, hR1⟩ := HY.out [] true W H0.out (by decide)
  have HR1 := Lib.hid hR1
  clear hR1
  have hy1 : (Instr.yield l #[.int .i64 1, .agg #[.int .i64 0, .string ⟨#[]⟩, .string ⟨#[]⟩, .string ⟨#[]⟩, .string ⟨#[]⟩, .int .i64 (-1), .slice none 0 0, .slice none 0 0, .slice none 0 0, .int .i64 (-1)]]).run Tryz.prog W = .ok (.round l f1 t1 as1 bd1) W := hy1
  gi_wp2
  refine wpIn_loop_rounds 3 ?_
  rw [roundsIn_succ]
  gi_wp2
  refine HR1.out.mono ?_
  clear hy1 s0 s1 s2 s3 s4 s5 s6 s7 s8 s9 b3
  rintro e W1 (⟨rfl, hJ1, hk1⟩ | ⟨rfl, hJx⟩)
  · have hq1 := hk1 HW.out
    obtain ⟨b3, c0, _⟩ := HQ.out W1 hq1
    have s0 := c0 0 _ rfl
    have s1 := c0 1 _ rfl
    have s2 := c0 2 _ rfl
    have s3 := c0 3 _ rfl
    have s4 := c0 4 _ rfl
    have s5 := c0 5 _ rfl
    have s6 := c0 6 _ rfl
    have s7 := c0 7 _ rfl
    have s8 := c0 8 _ rfl
    have s9 := c0 9 _ rfl
    have HJ1 := Lib.hid hJ1
    obtain ⟨f2, t2, as2, bd2, hy2, hR2⟩ := HY.out [true] false W1 hJ1 (by decide)
    have HR2 := Lib.hid hR2
    have hy2 : (Instr.yield l #[.int .i64 0, .agg #[.int .i64 2, .string ⟨#[]⟩, .string ⟨#[]⟩, .string ⟨#[]⟩, .string ⟨#[]⟩, .int .i64 2, .slice none 0 0, .slice none 0 0, .slice none 0 0, .int .i64 1]]).run Tryz.prog W1 = .ok (.round l f2 t2 as2 bd2) W1 := hy2
    clear hJ1 hk1 hR2 c0 hq1
    gi_wp2
    rw [roundsIn_succ]
    gi_wp2
    refine HR2.out.mono ?_
    clear hy2 s0 s1 s2 s3 s4 s5 s6 s7 s8 s9 b3
    rintro e W2 (⟨rfl, hJ2, _⟩ | ⟨rfl, hJx⟩)
    · have HJ2 := Lib.hid hJ2
      clear hJ2
      gi_wp2
      rw [roundsIn_succ]
      gi_wp2
      go_end0
      exact ⟨⟨_, rfl⟩, .inl ⟨_, rfl, HJ2.out⟩⟩
    · have HJX := Lib.hid hJx
      clear hJx
      gi_wp2
      refine bodyPost_ret (results_none rfl _ _ _) rfl ?_
      exact ⟨⟨_, rfl⟩, .inr ⟨_, trivial, HJX.out⟩⟩
  · have HJX := Lib.hid hJx
    clear hJx
    gi_wp2
    refine bodyPost_ret (results_none rfl _ _ _) rfl ?_
    exact ⟨⟨_, rfl⟩, .inr ⟨_, trivial, HJX.out⟩⟩
theorem back_stops (F : Fence) (n : Nat) (hf : F.fn 118) (hro : F.round = none) (hn : 1 ≤ n) (qb sb sc : Nat) (Q : World → Prop) (hQ : ∀ W, Q W → Bk W qb sb sc) (w : World) (hk : ∀ W, Below w.heap.size w W → Q W) :
    SeqStopsK F n Tryz.prog 118 #[.pointer (some ⟨qb, 0, none⟩)] encS (fun W W' => Q W → Q W') (fun ys => ys = [true, false]) (fun _ => True) 2 w := fun l J Jx W hW _ _ hY h0 =>
  back1_in F n hf hro hn l qb sb sc Q hQ J Jx hY W (hk W hW) h0
set_option maxHeartbeats 1000000 in
theorem backward_in (F : Fence) (n : Nat) (hf : F.fn 72) (hro : F.round = none) (a b c d : Value) (w : World) :
    CallsIn F n Tryz.prog 72 #[.agg #[a, b, c, d]] w fun e w' => e = .returned (.func (.func 118) #[] #[.pointer (some ⟨w.heap.size, 0, none⟩)]) ∧ w' = w.alloc (.cells #[a, b, c, d] 77) := by
  refine callsIn_of_wp Tryz.func72 rfl hf ?_ hro
  simp only [Tryz.ntmps72, List.size_toArray, List.length_cons, List.length_nil, Nat.reduceAdd, Nat.reduceSub, Array.replicate_succ, Array.replicate_zero, List.push_toArray, List.append_toArray, List.nil_append, List.cons_append]
  gi_wp2
  go_ret
  exact ⟨rfl, rfl⟩
theorem make2 (w : World) : (Instr.makeSlice 96 (.int .i64 2) (.int .i64 2)).run Tryz.prog w = .ok (.slice (some ⟨w.heap.size, 0, none⟩) 2 2) (w.alloc (.cells #[.slice none 0 0, .slice none 0 0] 23)) := by kernel_rfl
/-- Memory in a round of live.in. -/
structure LI (J : World → Prop) (n0 : Nat) (q : Array Value) (vs : Value) (w W : World) : Prop where
  j : J W
  b0 : Blk W n0 q 77
  b1 : Blk W (n0 + 1) #[vs] 95
  b2 : Blk W (n0 + 2) #[.slice none 0 0, .slice none 0 0] 23
  b3 : Blk W (n0 + 3) #[.slice (some ⟨n0 + 2, 0, none⟩) 2 2] 96
  b4 : Blk W (n0 + 4) q 77
  new : New n0 w W
/-- The frame in which a round begins. -/
def actA (n0 sb sc vb vc : Nat) (nm : ByteArray) (T : Value) (x : Bool) (g : Nat) : Act := ⟨#[.agg #[.string nm, .slice none 0 0, T, .slice (some ⟨sb, 0, none⟩) 2 sc], .slice (some ⟨vb, 0, none⟩) 2 vc, .pointer (some ⟨n0, 0, none⟩), .pointer (some ⟨n0 + 1, 0, none⟩), .slice none 0 0, .pointer (some ⟨n0 + 3, 0, none⟩), .int .i64 (ixC x), .pointer (some ⟨g, 0, none⟩), undef, undef, undef, undef, undef, undef, .pointer (some ⟨n0, 3, none⟩), .slice (some ⟨sb, 0, none⟩) 2 sc, .int .i64 2, .slice (some ⟨n0 + 2, 0, none⟩) 2 2, .agg #[.string nm, .slice none 0 0, T, .slice (some ⟨sb, 0, none⟩) 2 sc], .func (.func 118) #[] #[.pointer (some ⟨n0 + 4, 0, none⟩)], .int .i64 (ixC x), .agg (stC x).toArray, undef, undef, undef, undef, undef, undef, undef, undef, undef, undef, undef, undef, undef, undef, undef, undef, undef, undef, undef, undef, undef, undef, undef, undef, undef, undef, undef, undef, undef, undef, undef, undef, undef, undef, undef, undef, undef, undef, undef, undef, undef, undef, undef, undef, undef, undef, undef, undef, undef, undef, undef, undef, undef, undef, undef, undef, undef, undef, undef, undef, undef, undef, undef], []⟩
def AxA (n0 sb sc vb vc : Nat) (nm : ByteArray) (T : Value) (x : Bool) (a : Act) (W : World) : Prop := ∃ g, a = actA n0 sb sc vb vc nm T x g ∧ n0 ≤ g ∧ Blk W g (stC x).toArray 151
section
variable {J : World → Prop} {n0 : Nat} {q : Array Value} {vs : Value} {w W W' : World}
theorem Blk.new' {w : World} {n : Nat} (h : w.heap.size = n) (cs : Array Value) (t : TypeId) : Blk (w.alloc (.cells cs t)) n cs t := h ▸ Blk.new w cs t
theorem blk_own {g : Nat} {cs : Array Value} {t : TypeId} {row : Option Nat} (h : Blk W g cs t) (hg : W.grownBy W' row) (hr : ∀ r, row = some r → ∃ o : Obj, W.heap[r]? = some o ∧ o.isCells = false) : Blk W' g cs t :=
  h.grown hg fun e => by
    obtain ⟨o, h1, h2⟩ := hr g e.symm
    have h3 : W.heap[g]? = _ := h
    rw [h1] at h3
    cases h3
    cases h2
theorem New.grown {row : Option Nat} (h : New n0 w W) (hg : W.grownBy W' row) (hw : w.heap.size = n0) : New n0 w W' :=
  ⟨Nat.le_trans h.size hg.size, hg.os.trans h.os, hg.tape.trans h.tape, hg.output.trans h.output, fun b h1 h2 => by omega⟩
theorem LI.step (h : LI J n0 q vs w W) (hJ : J W') (hn : New n0 W W') : LI J n0 q vs w W' :=
  ⟨hJ, (hn.block _ (by omega) h.b0.lt).trans h.b0, (hn.block _ (by omega) h.b1.lt).trans h.b1, (hn.block _ (by omega) h.b2.lt).trans h.b2, (hn.block _ (by omega) h.b3.lt).trans h.b3, (hn.block _ (by omega) h.b4.lt).trans h.b4, h.new.trans hn⟩
theorem New.keeps (h : New n0 W W') {B : Nat} (hB : n0 ≤ B) : KeepsFrom B W W' := ⟨h.size, fun k o hk ho _ => (h.block k (by omega) (Array.getElem?_eq_some_iff.1 ho).1).trans ho⟩
theorem New.alloc (n0 : Nat) (W : World) (o : Obj) : New n0 W (W.alloc o) := ⟨by simp, rfl, rfl, rfl, fun b _ h => Below.heap_alloc W o b h⟩
end
set_option maxRecDepth 100000 in
set_option maxHeartbeats 4000000 in
theorem live_closed (n0 sb sc vb vc : Nat) (nm : ByteArray) (T : Value) (J : World → Prop) (w : World) (hn : w.heap.size = n0) (hJ : J w)
    (hJk : ∀ W W', J W → W.heap.size ≤ W'.heap.size → W'.os = W.os → W'.tape = W.tape → W'.output = W.output → (∀ b, b < n0 → W'.heap[b]? = W.heap[b]?) → J W')
    (hJs : ∀ W, J W → (∀ j u, st0C[j]? = some u → W.cell? ⟨sb, j, none⟩ = some u) ∧ (∀ j u, st1C[j]? = some u → W.cell? ⟨sb, 10 + j, none⟩ = some u))
    (hJv : ∀ W, J W → W.cell? ⟨vb, 1, none⟩ = some (.slice none 0 0) ∧ W.cell? ⟨vb, 3, none⟩ = some (.slice none 0 0))
    (hU : ∀ i W, J W → Calls Tryz.prog 73 #[.agg #[.string nm, .slice none 0 0, T, .slice (some ⟨sb, 0, none⟩) 2 sc], .agg (stC i).toArray] W fun e W' => (∃ v, e = .returned v) ∧ J W' ∧ New n0 W W') :
    Calls Tryz.prog 45 #[.agg #[.string nm, .slice none 0 0, T, .slice (some ⟨sb, 0, none⟩) 2 sc], .slice (some ⟨vb, 0, none⟩) 2 vc] w fun e w' =>
      (∃ g, e = .returned (.slice (some ⟨g, 0, none⟩) 2 2) ∧ n0 ≤ g ∧ Blk w' g #[.slice none 0 0, .slice none 0 0] 23) ∧ J w' ∧ New n0 w w' := by
  have hmk := make2
  refine (callsIn_wide (n := 4)).1 ?_
  refine callsIn_of_wp_marks Tryz.func45 rfl trivial ?_ rfl
  simp only [Tryz.ntmps45, List.size_toArray, List.length_cons, List.length_nil, Nat.reduceAdd, Nat.reduceSub, Array.replicate_succ, Array.replicate_zero, List.push_toArray, List.append_toArray, List.nil_append, List.cons_append]
  gi_wp2_with (refine ⟨trivial, ?_⟩; gi_at_call 72; refine (backward_in Fence.wide _ trivial rfl _ _ _ _ _).mono ?_; rintro e w' ⟨rfl, rfl⟩)
  subst hn
  have hW0 : New w.heap.size w (((((w.alloc (.cells #[.string nm, .slice none 0 0, T, .slice (some ⟨sb, 0, none⟩) 2 sc] 77)).alloc (.cells #[.slice (some ⟨vb, 0, none⟩) 2 vc] 95)).alloc (.cells #[.slice none 0 0, .slice none 0 0] 23)).alloc (.cells #[.slice (some ⟨w.heap.size + 2, 0, none⟩) 2 2] 96)).alloc (.cells #[.string nm, .slice none 0 0, T, .slice (some ⟨sb, 0, none⟩) 2 sc] 77)) :=
    ((((New.alloc _ _ _).trans (New.alloc _ _ _)).trans (New.alloc _ _ _)).trans (New.alloc _ _ _)).trans (New.alloc _ _ _)
  have hL0 : LI J w.heap.size #[.string nm, .slice none 0 0, T, .slice (some ⟨sb, 0, none⟩) 2 sc] (.slice (some ⟨vb, 0, none⟩) 2 vc) w (((((w.alloc (.cells #[.string nm, .slice none 0 0, T, .slice (some ⟨sb, 0, none⟩) 2 sc] 77)).alloc (.cells #[.slice (some ⟨vb, 0, none⟩) 2 vc] 95)).alloc (.cells #[.slice none 0 0, .slice none 0 0] 23)).alloc (.cells #[.slice (some ⟨w.heap.size + 2, 0, none⟩) 2 2] 96)).alloc (.cells #[.string nm, .slice none 0 0, T, .slice (some ⟨sb, 0, none⟩) 2 sc] 77)) := by
    refine ⟨hJk w _ hJ hW0.size hW0.os hW0.tape hW0.output fun b hb => ?_, ((((Blk.new w _ _).alloc _).alloc _).alloc _).alloc _, (((Blk.new' (by simp) _ _).alloc _).alloc _).alloc _, ((Blk.new' (by simp) _ _).alloc _).alloc _, (Blk.new' (by simp) _ _).alloc _, Blk.new' (by simp) _ _, hW0⟩
    exact ((((((Below.refl _ w).alloc (Nat.le_refl _) _).alloc (by simp) _).alloc (by simp <;> omega) _).alloc (by simp <;> omega) _).alloc (by simp <;> omega) _).block b hb
  have hsz : (((((w.alloc (.cells #[.string nm, .slice none 0 0, T, .slice (some ⟨sb, 0, none⟩) 2 sc] 77)).alloc (.cells #[.slice (some ⟨vb, 0, none⟩) 2 vc] 95)).alloc (.cells #[.slice none 0 0, .slice none 0 0] 23)).alloc (.cells #[.slice (some ⟨w.heap.size + 2, 0, none⟩) 2 2] 96)).alloc (.cells #[.string nm, .slice none 0 0, T, .slice (some ⟨sb, 0, none⟩) 2 sc] 77)).heap.size = w.heap.size + 5 := by simp
  generalize (((((w.alloc (.cells #[.string nm, .slice none 0 0, T, .slice (some ⟨sb, 0, none⟩) 2 sc] 77)).alloc (.cells #[.slice (some ⟨vb, 0, none⟩) 2 vc] 95)).alloc (.cells #[.slice none 0 0, .slice none 0 0] 23)).alloc (.cells #[.slice (some ⟨w.heap.size + 2, 0, none⟩) 2 2] 96)).alloc (.cells #[.string nm, .slice none 0 0, T, .slice (some ⟨sb, 0, none⟩) 2 sc] 77)) = W0 at hL0 hW0 hsz ⊢
  have HJK := Lib.hid hJk
  have HJS := Lib.hid hJs
  have HJV := Lib.hid hJv
  have HU := Lib.hid hU
  have HL0 := Lib.hid hL0
  clear hJk hJs hJv hU hL0 hmk hJ
  have hown : OwnFrom W0.heap.size (fun (_ : List Bool) W => LI J w.heap.size #[.string nm, .slice none 0 0, T, .slice (some ⟨sb, 0, none⟩) 2 sc] (.slice (some ⟨vb, 0, none⟩) 2 vc) w W) := fun _ W W' row h hg hr => by
    have hr' : ∀ r, row = some r → ∃ o : Obj, W.heap[r]? = some o ∧ o.isCells = false := fun r e => (hr r e).2
    exact ⟨HJK.out W W' h.j hg.size hg.os hg.tape hg.output fun b hb => by
        rcases Nat.lt_or_ge b W.heap.size with hlt | hge
        · exact hg.block b hlt fun e => by have := (hr b e.symm).1; omega
        · have := h.new.size; omega,
      blk_own h.b0 hg hr', blk_own h.b1 hg hr', blk_own h.b2 hg hr', blk_own h.b3 hg hr', blk_own h.b4 hg hr', h.new.grown hg rfl⟩
  have hjb : ∀ W, LI J w.heap.size #[.string nm, .slice none 0 0, T, .slice (some ⟨sb, 0, none⟩) 2 sc] (.slice (some ⟨vb, 0, none⟩) 2 vc) w W → Bk W (w.heap.size + 4) sb sc := fun W h => ⟨h.b4.cell 3, (HJS.out W h.j).1, (HJS.out W h.j).2⟩
  refine wpIn_rangeFunc_ownH (F := Fence.wide) rfl (by omega) (gf := 118) (lb := #[.pointer (some ⟨w.heap.size + 4, 0, none⟩)]) rfl trivial (enters_of Tryz.func118 (by kernel_rfl) rfl)
    (back_stops Fence.wide _ trivial rfl (by omega) (w.heap.size + 4) sb sc (fun W => LI J w.heap.size #[.string nm, .slice none 0 0, T, .slice (some ⟨sb, 0, none⟩) 2 sc] (.slice (some ⟨vb, 0, none⟩) 2 vc) w W) hjb W0 (fun W hB => ?kk)) (fun h k q => k (h q)) ?kb (Below.refl _ _) (fun _ => rfl)
    (fun _ W => LI J w.heap.size #[.string nm, .slice none 0 0, T, .slice (some ⟨sb, 0, none⟩) 2 sc] (.slice (some ⟨vb, 0, none⟩) 2 vc) w W) (fun _ _ _ => False) hown (fun _ _ _ _ _ h _ _ => h) HL0.out
    (AxA w.heap.size sb sc vb vc nm T) ?ax ?assign ?body ?done ?stop
  case kk => exact HL0.out.step (HJK.out W0 W HL0.out.j hB.size hB.os hB.tape hB.output fun b hb => hB.block b (by omega)) ⟨hB.size, hB.os, hB.tape, hB.output, fun b _ hb => hB.block b hb⟩
  case kb => exact fun W l o o' hl ho hc _ h => hown.putObj (s := []) o' h hl ho hc
  case ax =>
    rintro x a' _ W W' row ⟨g, h1, h2, h3⟩ hg hr
    exact ⟨g, h1, h2, blk_own h3 hg fun r e => (hr r e).2⟩
  case stop => exact fun D c pre W _ _ h _ => h.elim
  case assign =>
    intro l pre x W K hI hK
    cases x
    · have HK := Lib.hid (hK (actA w.heap.size sb sc vb vc nm T false W.heap.size) (W.alloc (.cells (stC false).toArray 151)) ((New.alloc w.heap.size W _).keeps (by omega)) (fun h => h.step (HJK.out W _ h.j (by simp) rfl rfl rfl fun b hb => Below.heap_alloc W _ b (by have := h.b0.lt; omega)) (New.alloc _ W _)) (hI.step (HJK.out W _ hI.j (by simp) rfl rfl rfl fun b hb => Below.heap_alloc W _ b (by have := hI.b0.lt; omega)) (New.alloc _ W _)) ⟨W.heap.size, rfl, by have := hI.b0.lt; omega, Blk.new W _ _⟩)
      clear hK
      simp only [encS, stC, ixC, st0C]
      gi_wp2
      exact HK.out
    · have HK := Lib.hid (hK (actA w.heap.size sb sc vb vc nm T true W.heap.size) (W.alloc (.cells (stC true).toArray 151)) ((New.alloc w.heap.size W _).keeps (by omega)) (fun h => h.step (HJK.out W _ h.j (by simp) rfl rfl rfl fun b hb => Below.heap_alloc W _ b (by have := h.b0.lt; omega)) (New.alloc _ W _)) (hI.step (HJK.out W _ hI.j (by simp) rfl rfl rfl fun b hb => Below.heap_alloc W _ b (by have := hI.b0.lt; omega)) (New.alloc _ W _)) ⟨W.heap.size, rfl, by have := hI.b0.lt; omega, Blk.new W _ _⟩)
      clear hK
      simp only [encS, stC, ixC, st1C]
      gi_wp2
      exact HK.out
  case body =>
    rintro l pre x a' W hl _ hI ⟨g, rfl, hg, hb⟩ hlt
    have q0 : W.cell? ⟨w.heap.size, 0, none⟩ = some (.string nm) := hI.b0.cell 0
    have q1 : W.cell? ⟨w.heap.size, 1, none⟩ = some (.slice none 0 0) := hI.b0.cell 1
    have q2 : W.cell? ⟨w.heap.size, 2, none⟩ = some T := hI.b0.cell 2
    have q3 : W.cell? ⟨w.heap.size, 3, none⟩ = some (.slice (some ⟨sb, 0, none⟩) 2 sc) := hI.b0.cell 3
    have HI := Lib.hid hI
    have CU := Lib.hid (HU.out x W hI.j)
    have hsz2 := hI.b0.lt
    cases x
    all_goals
      have g0 := hb.cell 0
      have g1 := hb.cell 1
      have g2 := hb.cell 2
      have g3 := hb.cell 3
      have g4 := hb.cell 4
      have g5 := hb.cell 5
      have g6 := hb.cell 6
      have g7 := hb.cell 7
      have g8 := hb.cell 8
      have g9 := hb.cell 9
      simp only [stC, st0C, st1C, List.getElem?_toArray, List.getElem?_cons_zero, List.getElem?_cons_succ] at g0 g1 g2 g3 g4 g5 g6 g7 g8 g9
      clear hI hb
      unfold actA
      simp only [stC, ixC, st0C, st1C]
      gi_wp2
      refine ⟨trivial, (CallsIn.inRound l (callsIn_wide.2 CU.out)).mono ?_⟩
      rintro e w2 ⟨⟨v, rfl⟩, hJ2, hN2⟩
      have hI2 := HI.out.step hJ2 hN2
      clear q0 q1 q2 q3 g0 g1 g2 g3 g4 g5 g6 g7 g8 g9
      have v0 : w2.cell? ⟨w.heap.size + 1, 0, none⟩ = some (.slice (some ⟨vb, 0, none⟩) 2 vc) := hI2.b1.cell 0
      have v1 : w2.cell? ⟨vb, 1, none⟩ = some (.slice none 0 0) := (HJV.out w2 hJ2).1
      have v3 : w2.cell? ⟨vb, 3, none⟩ = some (.slice none 0 0) := (HJV.out w2 hJ2).2
      have HI2 := Lib.hid hI2
      have HN2 := Lib.hid hN2
      have HJ2 := Lib.hid hJ2
      clear hI2 hN2 hJ2
      gi_wp2
      refine wpIn_loop_rounds 1 ?_
      rw [roundsIn_succ]
      gi_wp2
      exact ⟨HN2.out.keeps (by omega), fun h => h.step HJ2.out HN2.out, HI2.out⟩
  case done =>
    rintro D xs W hD rfl hI hK
    have b3 : W.cell? ⟨w.heap.size + 3, 0, none⟩ = some (.slice (some ⟨w.heap.size + 2, 0, none⟩) 2 2) := hI.b3.cell 0
    have HI := Lib.hid hI
    clear hI
    gi_wp2
    refine ⟨by simp, .inl ⟨_, _, rfl, run_takeDeferred hK, ?_⟩⟩
    have hg := grownBy_putObj' W D (.deferred none)
    have hr : ∀ r, some D = some r → W0.heap.size ≤ r ∧ ∃ o : Obj, W.heap[r]? = some o ∧ o.isCells = false := fun r e => by cases e; exact ⟨hD, _, hK, rfl⟩
    have hI3 := hown [] W _ _ HI.out hg hr
    refine ⟨.slice (some ⟨w.heap.size + 2, 0, none⟩) 2 2, ?_, ⟨_, rfl, by omega, hI3.b2⟩, hI3.j, hI3.new⟩
    simp [results, Tryz.results45, go_sem]
end Go.Proofs.YtngfeflemblljaaGreatDoor
