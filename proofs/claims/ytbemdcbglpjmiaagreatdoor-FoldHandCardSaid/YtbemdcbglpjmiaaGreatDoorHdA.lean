/- FoldHand: the evaluator with maps.Clone; the texts, some of whose letters are not known; what is asked of it. -/
import Derived.Test.YtbemdcbglpjmiaaGreatDoorFqF
import Derived.Shelf.SlMaps.Clone
namespace Go.Proofs.YtbemdcbglpjmiaaGreatDoor
open Go.RowKit
namespace Kv
open Ev
set_option maxRecDepth 100000
/-- maps.Clone. -/
noncomputable def mapCl (_ : CallT) (l : List V) (σ : St) : Option (V × St) := match l with
  | [.p (.c (.map r))] => match r with
    | none => some (.p (.c (.map none)), σ)
    | some r => match σ with
      | ⟨h, n⟩ => match get h r with
        | some x => match x with
          | .map es clk => some (.p (.c (.map (some n))), ⟨put h n (some (.map es clk)), Nat.succ n⟩)
          | _ => none
        | none => none
  | _ => none
noncomputable def primH (f : Nat) : Option Fun := match Nat.beq f 312 with
  | true => some ⟨ixByte⟩
  | false => match Nat.beq f 62 with
    | true => some ⟨mapCl⟩
    | false => none
noncomputable def evH : CallT := eval tt fl ff primH 200
theorem clone_some (b : Nat) (es : Array MapEntry) (clock : Nat) (w : World) (hb : w.heap[b]? = some (.map es clock)) :
    Calls Tryz.prog 62 #[.map (some b)] w fun e w' => e = .returned (.map (some w.heap.size)) ∧ w' = w.alloc (.map es clock) := by
  have hq := fun w => run_eql_map_nil_sl (P := Tryz.prog) w 101 _ _ (some b) Tryz.underlying101
  go_enter Tryz.func62, Tryz.ntmps62
  go_wp2
  rw [run_callFunc_extern Tryz.func102 (by kernel_rfl) (by kernel_rfl) (by kernel_rfl) (e := Extern.MapsClone.clone) (by kernel_rfl), run_maps_clone_sl w 101 hb]
  simp only [Result.andThen]
  rw [Oper.upon_value]
  go_wp2
  rw [run_typeAssert_map_sl _ 101 _ _ _ _ Tryz.underlying101]
  simp only [Result.andThen]
  rw [Oper.upon_value]
  go_wp2
  go_ret
  exact ⟨rfl, rfl⟩
theorem clone_nil_map (w : World) :
    Calls Tryz.prog 62 #[.map none] w fun e w' => e = .returned (.map none) ∧ w' = w := by
  have hq := fun w => run_eql_map_nil_sl (P := Tryz.prog) w 101 _ _ none Tryz.underlying101
  go_enter Tryz.func62, Tryz.ntmps62
  go_wp2
  go_ret
  exact ⟨rfl, rfl⟩
theorem enter_run {f : Nat} {fn : Func} (hf : Tryz.prog.funcs[f]? = some fn) (hn : (fn.name == "runtime.NumGoroutine") = false) (hb : fn.body.isNone = false) (vs : Array Value) (w : World) : (callFunc f vs).run Tryz.prog w = .ok (.enter f vs) w := by
  have hname : ¬ (fn.name = "runtime.NumGoroutine") := by simpa using hn
  have hbody : ¬ (fn.body = none) := fun h => by rw [h] at hb; cases hb
  simp [callFunc, hf, hname, hbody]
theorem mapCl_ok {w0 : World} (call : CallT) : CallOk Tryz.prog w0 fun f args σ => match Nat.beq f 62 with | true => mapCl call args σ | false => none := by
  intro f args σ v σ' m w vs h hH hv
  simp only at h
  split at h
  · rename_i hfe
    have hfe := Nat.eq_of_beq_eq_true hfe
    subst hfe
    have hent := fun vs => enter_run (f := 62) Tryz.func62 (by kernel_rfl) (by kernel_rfl) vs w
    unfold mapCl at h
    split at h
    · rename_i r
      match hvl : vs.toList, hv with
      | [u], ⟨h1, _⟩ =>
        split at h
        · cases h
          have h1 : u = .map none := h1
          subst h1
          have hvs : vs = #[.map none] := Array.toList_inj.1 hvl
          subst hvs
          refine .inr ⟨hent _, (clone_nil_map w).mono ?_⟩
          rintro e w' ⟨rfl, rfl⟩
          exact ⟨m, .map none, rfl, Gr.refl hH, hH, rfl⟩
        · rename_i r
          obtain ⟨q, hq, h1⟩ := h1
          subst h1
          have hvs : vs = #[.map (some q.1)] := Array.toList_inj.1 hvl
          subst hvs
          obtain ⟨hp, nx⟩ := σ
          simp only at h
          split at h
          · rename_i x hx
            split at h
            · rename_i es clk
              cases h
              rw [get_eq] at hx
              obtain ⟨res, h1, h2, h3⟩ := hH.live r _ q hx hq
              refine .inr ⟨hent _, (clone_some q.1 res clk w h1).mono ?_⟩
              rintro e w' ⟨rfl, rfl⟩
              have hn := hH.fresh nx (Nat.le_refl _)
              have hb : BR (m.add nx (w.heap.size, 0)) (w.heap.size, 0) (.map es clk) (some (.map res clk)) := BR.ext (M.ext_add _ hn) (r := (w.heap.size, 0)) (b := .map es clk) ⟨res, rfl, h2, h3⟩
              rw [put_eq]
              exact ⟨_, .map (some w.heap.size), rfl, Gr.new hH (.map res clk) (.map es clk) 0, HR.new hH (.map res clk) (.map es clk) 0 hb, (w.heap.size, 0), M.add_same _ _ _, rfl⟩
            · cases h
          · cases h
    · cases h
  · cases h
theorem evH_ok {w0 : World} : CallOk Tryz.prog w0 evH := by
  refine eval_ok tabT mixed (act_ok tabT flats) funcs_ok (fun call _ => ?_) 200
  intro f args σ v σ' m w vs h hH hv
  simp only [primH] at h
  cases h1 : Nat.beq f 312 with
  | true =>
    rw [h1] at h
    exact ixByte_ok call f args σ v σ' m w vs (by simp only [h1]; exact h) hH hv
  | false =>
    rw [h1] at h
    simp only at h
    cases h3 : Nat.beq f 62 with
    | false => rw [h3] at h; cases h
    | true =>
      rw [h3] at h
      exact mapCl_ok call f args σ v σ' m w vs (by simp only [h3]; exact h) hH hv
end Kv
end Go.Proofs.YtbemdcbglpjmiaaGreatDoor
