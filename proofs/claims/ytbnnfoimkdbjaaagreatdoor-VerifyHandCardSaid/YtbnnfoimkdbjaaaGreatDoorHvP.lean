/- VerifyHand: for every argument the law returns true, and the argument reads as it did, where the listed variables hold what the program's text lays. No further condition is asked. -/
import Derived.Test.YtbnnfoimkdbjaaaGreatDoorHvC
import Derived.Test.YtbnnfoimkdbjaaaGreatDoorTie
import Derived.Test.YtbnnfoimkdbjaaaGreatDoorCards
import Derived.ProofKit
import Derived.LaidMore
import Derived.OpenShut
import Derived.Stop.Joined
import Derived.SevenTiedAt
namespace Go.Proofs.YtbnnfoimkdbjaaaGreatDoor.hand
open Go.ChangeShapes Go.WideShapes Go.ChangeAt Go.WideMaps Go.WideElems Go.RowKit
theorem own : ownKnob Tryz.prog.godebug = none := by kernel_rfl
abbrev nothingName : String := (Rows.verifyHandRow.laid.getD 3 ("", .nil)).1
theorem gNothing : Tryz.prog.globalNamed nothingName = some 0 := by kernel_rfl
theorem tNothing : (Tryz.prog.globals[0]?).map (·.type) = some 96 := by kernel_rfl
abbrev laid : List (String × DataW Unit) := Rows.verifyHandRow.laid
theorem of_laid {W : World} (h : laidMetH Tryz.prog laid W) : ∃ cs t, W.heap[0]? = some (.cells cs t (0, 0)) ∧ cs.toList = [.int .i64 (-1), .int .i64 0] := by
  rw [MakeChecks.laidMetH_plain _ _ _ (by kernel_rfl)] at h
  obtain ⟨ps, hl, _, hfr⟩ := h
  obtain ⟨g0, t0, cs0, f0, p0, q0, _, _, _, _, ⟨g1, t1, cs1, f1, p1, q1, _, _, _, _, ⟨g2, t2, cs2, f2, p2, q2, _, _, _, _, ⟨g3, t3, cs3, f3, p3, q3, hg3, ht3, hv3, hd3, _, hps3⟩, hps2⟩, hps1⟩, hps0⟩ := hl
  obtain rfl := Option.some.inj (gNothing.symm.trans hg3)
  obtain rfl := Option.some.inj (tNothing.symm.trans ht3)
  obtain ⟨y0, y1, m, hx, hlen, h0, h1⟩ := trod_struct2 Tryz.underlying96 hd3
  have c3 : Tryz.prog.cellsOf 3 = 1 := by kernel_rfl
  have c96 : Tryz.prog.cellsOf 96 = 2 := by kernel_rfl
  rw [c96] at hlen
  have hx : Rows.laid_repartee_verify_nothing = (.agg [y0.1, y1.1] : DataW Unit) := congrArg Prod.fst hx
  simp only [Rows.laid_repartee_verify_nothing, DataW.agg.injEq, List.cons.injEq] at hx
  obtain ⟨k0, e0, d0, _⟩ := DataW.trod_int Tryz.underlying3 h0
  obtain ⟨k1, e1, d1, _⟩ := DataW.trod_int Tryz.underlying3 h1
  have hcs : cs3.toList = [.int .i64 (-1), .int .i64 0] := by
    simp only [c3] at e0 e1
    match hc : cs3.toList, hlen with
    | [a, b], _ =>
      rw [hc] at e0 e1
      simp at e0 e1
      rw [d0, d1] at hx
      simp at hx
      rw [e0, e1, ← hx.1, ← hx.2]
  have hin : MemPlace.cell 0 0 ∈ ps := by
    rw [hps0, hps1, hps2, hps3]
    have : 0 < cs3.size := by
      have := congrArg List.length hcs
      simp at this
      omega
    exact List.mem_append_right _ (List.mem_append_right _ (List.mem_append_right _ (List.mem_append_left _ (List.mem_append_left _ (MemPlace.mem_row.2 ⟨0, this, rfl⟩)))))
  obtain ⟨⟨c, t, hb⟩, _⟩ := hfr 0 0 hin
  have hvv : W.heap[0]? = some (.cells cs3 t (0, 0)) := by
    unfold World.var? at hv3
    rw [hg3] at hv3
    simp only [Option.bind_some, hb, Option.some.injEq] at hv3
    rw [hb, hv3]
  exact ⟨cs3, t, hvv, hcs⟩
/-- The door's own heap meets the condition. -/
theorem door_met (os : Os) (args : Array Value) : laidMetH Tryz.prog laid ((World.doorLaid Tryz.prog 400 os).forCall (fun _ _ => 0) ⟨#[], args, []⟩).memory :=
  laidMetH_of_parts3 (fuel := 8) (laidMet_of_run' 8 (by kernel_rfl) (by kernel_rfl)) (by kernel_rfl) (by kernel_rfl)
set_option maxRecDepth 100000 in
theorem lifted (os : Os) (started : os.Started) (H : Type) (enc : TypeId × Value → H) :
    ReturnsInHanded {} Tryz.checked os 3 .any (fun w args => (Rows.verifyHandSpec.pre enc Tryz.prog Tryz.f3 [] false w args ∧ laidMetH Tryz.prog laid w) ∧ sizedMet enc Tryz.prog Tryz.f3 (OpenSpec.ofChange Rows.verifyHandSpec) false w args)
      (Rows.verifyHandSpec.post enc Tryz.prog Tryz.f3 false true false false) := by
  refine returnsInHanded_of_change_and (C := Tryz.checked) (X := fun w _ => laidMetH Tryz.prog laid w) (fun _ _ _ hh h => h.of_heap hh) own started (by kernel_rfl) Tryz.func3
    (ChangeSpec.witness_shaped (enc := enc) (C := Tryz.checked) (os := os) (X := fun w _ => laidMetH Tryz.prog laid w) false (World.doorLaid Tryz.prog 400 os) #[.int .i64 0] 8 rfl (World.shaped_of_RefB (by kernel_rfl) (by kernel_rfl)) (by kernel_rfl) (by kernel_rfl) (by kernel_rfl) (door_met os _)) ?_
  intro W base args ds gs before hval0 hW _ _ hL _
  have hval : ∀ (j : Nat) t v, Tryz.f3.params[j]? = some t → args[j]? = some v → Value.okWide Tryz.prog W .any base t v := hval0
  have hW' := hW
  obtain ⟨p, q, hA0, hV, rfl, hfz, hnd⟩ := hW
  have hA : DataW.TrodAll enc Tryz.prog W 0 (fun _ => true) true Tryz.f3.params.toList args.toList ds p := hA0
  rw [Tryz.params3] at hA hval
  obtain ⟨v0, d0, rfl, rfl, h0⟩ := trodAll_one hA
  obtain ⟨rfl, rfl⟩ := trodVars_none hV
  obtain ⟨n, rfl, rfl, rfl, hwn⟩ := open_int Tryz.underlying3 (hval 0 3 v0 rfl rfl) h0
  obtain ⟨cs, t, hb, hcs⟩ := of_laid hL
  refine (Kv.hand_walk n W hb hcs).mono fun e W' ⟨he, bel⟩ => ?_
  subst he
  exact ⟨_, rfl, _, _, _, [], _, [], hW', trodAll_mk1 (shut_bool Tryz.underlying4 _), trodAll_mk1 (shut_int Tryz.underlying3 hwn), rfl, bel.frame _, fun h => by cases h⟩
end Go.Proofs.YtbnnfoimkdbjaaaGreatDoor.hand
