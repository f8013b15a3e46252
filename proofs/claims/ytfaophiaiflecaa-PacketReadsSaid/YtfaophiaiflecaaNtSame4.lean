/- Contract: reparteeref36.SameNote. -/
import Derived.Test.YtfaophiaiflecaaNtSame3
namespace Go.Proofs.Ytfaophiaiflecaa
open Go.RowKit

set_option maxRecDepth 100000 in
set_option maxHeartbeats 8000000 in
theorem sameNote_any (x y : Nt) (A E B G : Option Addr) (c d m n : Nat) (w : World) (hx : NtAt w x A E) (hy : NtAt w y B G) :
    Calls Try.prog 19 #[.agg (x.cells A c E d), .agg (y.cells B m G n)] w fun e w' => e = .returned (.bool (decide (x = y))) ∧ Below w.heap.size w w' := by
  have HX := Lib.hid hx
  have HY := Lib.hid hy
  have BF := Lib.hid (below_allocS (below_allocS (Below.refl _ _) (.cells (x.cells A c E d) 41)) (.cells (y.cells B m G n) 41) : Below w.heap.size w _)
  have HA := Lib.hid ((Blk.new w (x.cells A c E d) 41).alloc (.cells (y.cells B m G n) 41))
  have HB := Lib.hid (show Blk ((w.alloc (.cells (x.cells A c E d) 41)).alloc (.cells (y.cells B m G n) 41)) (w.heap.size + 1) (y.cells B m G n) 41 by
    have h := Blk.new (w.alloc (.cells (x.cells A c E d) 41)) (y.cells B m G n) 41
    rwa [World.size_alloc] at h)
  clear hx hy
  obtain ⟨kind1, agent1, session1, seat1, peer1, label1, v1, proc1, env1⟩ := x
  obtain ⟨kind2, agent2, session2, seat2, peer2, label2, v2, proc2, env2⟩ := y
  simp only [Nt.cells] at *
  by_cases h_kind : kind1 = kind2
  rotate_left
  · have q_kind : (kind1 == kind2) = false := by simp; exact h_kind
    go_enter Try.func19, Try.ntmps19
    go_wp2_with fail
    go_ret
    exact ⟨ret_bool ((decide_eq_false (fun h => h_kind (congrArg Nt.kind h))).symm), BF.out⟩
  subst h_kind
  by_cases h_agent : agent1 = agent2
  rotate_left
  · have q_agent : (agent1.toList == agent2.toList) = false := str_ne h_agent
    go_enter Try.func19, Try.ntmps19
    go_wp2_with fail
    go_ret
    exact ⟨ret_bool ((decide_eq_false (fun h => h_agent (congrArg Nt.agent h))).symm), BF.out⟩
  subst h_agent
  by_cases h_session : session1 = session2
  rotate_left
  · have q_session : (session1.toList == session2.toList) = false := str_ne h_session
    go_enter Try.func19, Try.ntmps19
    go_wp2_with fail
    go_ret
    exact ⟨ret_bool ((decide_eq_false (fun h => h_session (congrArg Nt.session h))).symm), BF.out⟩
  subst h_session
  by_cases h_seat : seat1 = seat2
  rotate_left
  · have q_seat : (seat1 == seat2) = false := by simp; exact h_seat
    go_enter Try.func19, Try.ntmps19
    go_wp2_with fail
    go_ret
    exact ⟨ret_bool ((decide_eq_false (fun h => h_seat (congrArg Nt.seat h))).symm), BF.out⟩
  subst h_seat
  by_cases h_peer : peer1 = peer2
  rotate_left
  · have q_peer : (peer1.toList == peer2.toList) = false := str_ne h_peer
    go_enter Try.func19, Try.ntmps19
    go_wp2_with fail
    go_ret
    exact ⟨ret_bool ((decide_eq_false (fun h => h_peer (congrArg Nt.peer h))).symm), BF.out⟩
  subst h_peer
  by_cases h_proc : proc1 = proc2
  rotate_left
  · have q_proc : (proc1 == proc2) = false := by simp; exact h_proc
    go_enter Try.func19, Try.ntmps19
    go_wp2_with fail
    go_ret
    exact ⟨ret_bool ((decide_eq_false (fun h => h_proc (congrArg Nt.proc h))).symm), BF.out⟩
  subst h_proc
  have CM := Lib.hid (fun W P1 P2 p1 p2 (h1 : Env W P1 [⟨label1, v1⟩]) (h2 : Env W P2 [⟨label2, v2⟩]) => sameMail_any P1 P2 [⟨label1, v1⟩] [⟨label2, v2⟩] p1 p2 W h1 h2 (by simp) (by simp; exact HX.out.la))
  have CE := Lib.hid (fun W (hb : Below w.heap.size w W) => sameEnv_any E G env1 env2 d n W (HX.out.e.below hb) (HY.out.e.below hb) HX.out.le HX.out.lb)
  go_enter Try.func19, Try.ntmps19
  go_wp2_with fail
  have hb0 := BF.out
  obtain ⟨W0, hW0⟩ : ∃ W0, W0 = ((w.alloc (.cells #[.int .i64 kind1, .string agent1, .string session1, .int .i64 seat1, .string peer1, .string label1, .int .i64 v1.kind, .int .i64 v1.n, .string v1.s, .slice A v1.l.length c, .int .i64 proc1, .slice E env1.length d] 41)).alloc (.cells #[.int .i64 kind1, .string agent1, .string session1, .int .i64 seat1, .string peer1, .string label2, .int .i64 v2.kind, .int .i64 v2.n, .string v2.s, .slice B v2.l.length m, .int .i64 proc1, .slice G env2.length n] 41)) := ⟨_, rfl⟩
  have hsz : W0.heap.size = w.heap.size + 1 + 1 := by rw [hW0]; simp
  rw [← hW0] at hb0 BF HA HB ⊢
  clear hW0
  have b1 := (Blk.new W0 #[.string label1, .int .i64 v1.kind, .int .i64 v1.n, .string v1.s, .slice A v1.l.length c] 38).alloc (.cells #[.string label2, .int .i64 v2.kind, .int .i64 v2.n, .string v2.s, .slice B v2.l.length m] 38)
  have b2 := Blk.new (W0.alloc (.cells #[.string label1, .int .i64 v1.kind, .int .i64 v1.n, .string v1.s, .slice A v1.l.length c] 38)) #[.string label2, .int .i64 v2.kind, .int .i64 v2.n, .string v2.s, .slice B v2.l.length m] 38
  rw [World.size_alloc] at b2
  rw [hsz] at b1 b2
  have BL := below_allocS (below_allocS (Below.refl W0.heap.size W0) (.cells #[.string label1, .int .i64 v1.kind, .int .i64 v1.n, .string v1.s, .slice A v1.l.length c] 38)) (.cells #[.string label2, .int .i64 v2.kind, .int .i64 v2.n, .string v2.s, .slice B v2.l.length m] 38)
  have BW := below_next hb0 BL
  refine (CM.out _ _ _ _ _ (Env.one (b := ⟨label1, v1⟩) b1 (Rd.below HX.out.a BW)) (Env.one (b := ⟨label2, v2⟩) b2 (Rd.below HY.out.a BW))).mono ?_
  rintro e w1 ⟨rfl, hb1⟩
  have B1 := Lib.hid (below_next BW hb1)
  have HA1 := Lib.hid ((HA.out.belowS BL).belowS hb1)
  have HB1 := Lib.hid ((HB.out.belowS BL).belowS hb1)
  have x11 : w1.cell? ⟨w.heap.size, 11, none⟩ = some (.slice E env1.length d) := HA1.out.cell 11
  have y11 : w1.cell? ⟨w.heap.size + 1, 11, none⟩ = some (.slice G env2.length n) := HB1.out.cell 11
  clear b1 b2 BL BW hb1 hb0 CM
  by_cases h_v : ([⟨label1, v1⟩] : List Bd) = [⟨label2, v2⟩]
  rotate_left
  · rw [decide_eq_false h_v]
    go_wp2_with fail
    go_ret
    exact ⟨ret_bool ((decide_eq_false (fun h => h_v (by rw [show label1 = label2 from congrArg Nt.label h, show v1 = v2 from congrArg Nt.v h]))).symm), B1.out⟩
  rw [decide_eq_true h_v]
  have HV := Lib.hid (show label1 = label2 ∧ v1 = v2 by simpa using h_v)
  clear h_v
  go_wp2_with fail
  refine (CE.out _ B1.out).mono ?_
  rintro e w2 ⟨rfl, hb2⟩
  have B2 := Lib.hid (below_next B1.out hb2)
  clear hb2 x11 y11 CE
  go_wp2_with fail
  go_ret
  exact ⟨ret_bool (by obtain ⟨h1, h2⟩ := HV.out; simp [h1, h2]), B2.out⟩
end Go.Proofs.Ytfaophiaiflecaa
