/- EmitTells' first: live.in as a call that is known; first returns true. -/
import Derived.Test.YtngfeflemblljaaGreatDoorEqB
import Derived.Test.YtngfeflemblljaaGreatDoorEqF
import Derived.Test.YtngfeflemblljaaGreatDoorLvB
namespace Go.Proofs.YtngfeflemblljaaGreatDoor
open Go.RowKit
namespace Kv
open Ev
set_option maxRecDepth 100000
theorem cr_str0 {m : M} {v : Value} (h : CR m (.str []) v) : v = .string ⟨#[]⟩ := by
  obtain ⟨t, rfl, h⟩ := h
  have : t = ⟨#[]⟩ := bytes_inj (h.trans (by rfl))
  rw [this]
theorem row_cell {m : M} {r : Nat × Nat} {t : Nat} {u : Option Nat} {l : List C} {W : World} (h : BR m r (LB.row t u l).toB W.heap[r.1]?) {j : Nat} {c : C} (hc : l[j]? = some c) : ∃ v, W.cell? ⟨r.1, j, none⟩ = some v ∧ CR m c v := by
  obtain ⟨cur, ty, fr, h1, _, h3, h4, _⟩ := h
  have hj : j < l.length := (List.getElem?_eq_some_iff.1 hc).1
  obtain ⟨v, h5, h6⟩ := h4 j c hj (by rw [fill_eq, T.get_fill, T.get_nil, if_pos ⟨Nat.zero_le _, by omega⟩, Nat.sub_zero]; exact hc)
  refine ⟨v, ?_, h6⟩
  simp [World.cell?, h1, h5]
theorem lst_get {n : Nat} {l : LH} {i : Nat} {b : B} (h : (lst n l).heap.get i = some b) : ∃ y, (i, y) ∈ l := by
  rcases get_putAll h with ⟨y, h1, _⟩ | ⟨_, h2⟩
  · exact ⟨y, h1⟩
  · rw [T.get_nil] at h2; cases h2
theorem steps_cells {m : M} {r : Nat × Nat} {W : World} (hb : BR m r stepsL.toB W.heap[r.1]?) : (∀ j u, st0C[j]? = some u → W.cell? ⟨r.1, j, none⟩ = some u) ∧ (∀ j u, st1C[j]? = some u → W.cell? ⟨r.1, 10 + j, none⟩ = some u) := by
  obtain ⟨v0, g0, h0⟩ := row_cell (j := 0) hb rfl
  rw [show v0 = _ from h0] at g0
  obtain ⟨v1, g1, h1⟩ := row_cell (j := 1) hb rfl
  rw [cr_str0 h1] at g1
  obtain ⟨v2, g2, h2⟩ := row_cell (j := 2) hb rfl
  rw [cr_str0 h2] at g2
  obtain ⟨v3, g3, h3⟩ := row_cell (j := 3) hb rfl
  rw [cr_str0 h3] at g3
  obtain ⟨v4, g4, h4⟩ := row_cell (j := 4) hb rfl
  rw [cr_str0 h4] at g4
  obtain ⟨v5, g5, h5⟩ := row_cell (j := 5) hb rfl
  rw [show v5 = _ from h5] at g5
  obtain ⟨v6, g6, h6⟩ := row_cell (j := 6) hb rfl
  rw [show v6 = _ from h6] at g6
  obtain ⟨v7, g7, h7⟩ := row_cell (j := 7) hb rfl
  rw [show v7 = _ from h7] at g7
  obtain ⟨v8, g8, h8⟩ := row_cell (j := 8) hb rfl
  rw [show v8 = _ from h8] at g8
  obtain ⟨v9, g9, h9⟩ := row_cell (j := 9) hb rfl
  rw [show v9 = _ from h9] at g9
  obtain ⟨v10, g10, h10⟩ := row_cell (j := 10) hb rfl
  rw [show v10 = _ from h10] at g10
  obtain ⟨v11, g11, h11⟩ := row_cell (j := 11) hb rfl
  rw [cr_str0 h11] at g11
  obtain ⟨v12, g12, h12⟩ := row_cell (j := 12) hb rfl
  rw [cr_str0 h12] at g12
  obtain ⟨v13, g13, h13⟩ := row_cell (j := 13) hb rfl
  rw [cr_str0 h13] at g13
  obtain ⟨v14, g14, h14⟩ := row_cell (j := 14) hb rfl
  rw [cr_str0 h14] at g14
  obtain ⟨v15, g15, h15⟩ := row_cell (j := 15) hb rfl
  rw [show v15 = _ from h15] at g15
  obtain ⟨v16, g16, h16⟩ := row_cell (j := 16) hb rfl
  rw [show v16 = _ from h16] at g16
  obtain ⟨v17, g17, h17⟩ := row_cell (j := 17) hb rfl
  rw [show v17 = _ from h17] at g17
  obtain ⟨v18, g18, h18⟩ := row_cell (j := 18) hb rfl
  rw [show v18 = _ from h18] at g18
  obtain ⟨v19, g19, h19⟩ := row_cell (j := 19) hb rfl
  rw [show v19 = _ from h19] at g19
  refine ⟨fun j u hj => ?_, fun j u hj => ?_⟩
  · match j, hj with
    | 0, hj => cases hj; exact g0
    | 1, hj => cases hj; exact g1
    | 2, hj => cases hj; exact g2
    | 3, hj => cases hj; exact g3
    | 4, hj => cases hj; exact g4
    | 5, hj => cases hj; exact g5
    | 6, hj => cases hj; exact g6
    | 7, hj => cases hj; exact g7
    | 8, hj => cases hj; exact g8
    | 9, hj => cases hj; exact g9
    | j + 10, hj => simp [st0C] at hj
  · match j, hj with
    | 0, hj => cases hj; exact g10
    | 1, hj => cases hj; exact g11
    | 2, hj => cases hj; exact g12
    | 3, hj => cases hj; exact g13
    | 4, hj => cases hj; exact g14
    | 5, hj => cases hj; exact g15
    | 6, hj => cases hj; exact g16
    | 7, hj => cases hj; exact g17
    | 8, hj => cases hj; exact g18
    | 9, hj => cases hj; exact g19
    | j + 10, hj => simp [st1C] at hj
/-- What live.uses leaves as it was. -/
theorem uses_keep {w0 : World} {nx : Nat} {pre : LH} (i : Bool) (hle : nx ≤ 2000) (hk : keysLt nx (lst nx pre).heap 1 0 = true) (hp : hasAll (lst nx pre).heap [(143, termsL)] = true)
    {m : M} {W : World} (hW : HR w0 m (lst nx pre) W) {qa sa : Value} (hq : VR m procV qa) (hs : VR m (stepV i) sa) :
    Calls Tryz.prog 73 #[qa, sa] W fun e W' => (∃ v, e = .returned v) ∧ HR w0 m (lst nx pre) W' ∧ W.heap.size ≤ W'.heap.size ∧ W'.os = W.os ∧ W'.tape = W.tape ∧ W'.output = W.output ∧
      ∀ b, b < W.heap.size → (∀ j x r, (lst nx pre).heap.get j = some x → m j = some r → r.1 ≠ b) → W'.heap[b]? = W.heap[b]? := by
  have hc : CallOk Tryz.prog w0 fun f args σ => match Nat.beq f (usesO i).f with | true => tryO (usesO i) args σ | false => none := by
    cases i
    · exact orc_ok (fun o h => by cases h) uses0
    · exact orc_ok (fun o h => by cases h) uses1
  have ht : tryO (usesO i) [procV, stepV i] (lst nx pre) = some (.p (.c .nsl), ⟨(lst nx pre).heap, 2100⟩) := by
    have e1 : vsSame [procV, stepV i] (usesO i).args = true := by cases i <;> rfl
    have e2 : Nat.ble (lst nx pre).next (usesO i).nx = true := by rw [Nat.ble_eq]; exact hle
    have e3 : keysLt (lst nx pre).next (lst nx pre).heap 1 0 = true := hk
    have e4 : hasAll (lst nx pre).heap (usesO i).pre = true := hp
    unfold tryO
    simp only [e1, e2, e3, e4]
    rfl
  rcases hc 73 [procV, stepV i] (lst nx pre) _ _ m W #[qa, sa] ht hW ⟨hq, hs, trivial⟩ with ⟨m', v', w', _, h5, _⟩ | ⟨_, h6⟩
  · have hname : ¬ (Tryz.f73.name = "runtime.NumGoroutine") := by
      have : (Tryz.f73.name == "runtime.NumGoroutine") = false := by kernel_rfl
      simpa using this
    have hbody : ¬ (Tryz.f73.body = none) := fun h => by
      have : Tryz.f73.body.isNone = false := by kernel_rfl
      rw [h] at this
      cases this
    have he : (callFunc 73 #[qa, sa]).run Tryz.prog W = .ok (.enter 73 #[qa, sa]) W := by simp [callFunc, Tryz.func73, hname, hbody]
    rw [he] at h5
    cases h5
  · refine h6.mono ?_
    rintro e W' ⟨m', v', rfl, hG, hH, _⟩
    exact ⟨⟨_, rfl⟩, HR.back hW hG hH (fun _ _ h => h), hG.size, hH.below.os.trans hW.below.os.symm, hH.below.tape.trans hW.below.tape.symm, hH.below.output.trans hW.below.output.symm, hG.kept⟩
theorem live_orc {w0 : World} (V nx : Nat) (hle : nx ≤ 2000) (hk : keysLt nx (lst nx (liveO V nx).pre).heap 1 0 = true) (hp : hasAll (lst nx (liveO V nx).pre).heap [(143, termsL)] = true)
    (h46 : (lst nx (liveO V nx).pre).heap.get 146 = some stepsL.toB) (hV : (lst nx (liveO V nx).pre).heap.get V = some viewsL.toB)
    (h1 : hasAll ((lst nx (liveO V nx).pre).heap.put nx (some (LB.row 23 none [.nsl, .nsl]).toB)) (liveO V nx).pre = true)
    (h2 : hasAll ((lst nx (liveO V nx).pre).heap.put nx (some (LB.row 23 none [.nsl, .nsl]).toB)) (liveO V nx).post = true) :
    CallOk Tryz.prog w0 fun f args σ => match Nat.beq f (liveO V nx).f with | true => tryO (liveO V nx) args σ | false => none := by
  intro f args σ v σ2 m w vs h hH hv
  simp only at h
  split at h
  · rename_i hfe
    have hfe := Nat.eq_of_beq_eq_true hfe
    have hfe : f = 45 := hfe
    subst hfe
    unfold tryO at h
    split at h
    · cases h
    · rename_i ha
      have ha := vsSame_eq ha
      subst ha
      split at h
      · cases h
      · rename_i hle2
        have hle2 := Nat.le_of_ble_eq_true hle2
        split at h
        · cases h
        · rename_i hk2
          split at h
          · cases h
          · rename_i hp2
            cases h
            have hS : HR w0 m (lst nx (liveO V nx).pre) w := HR.sub hH hle2 hp2
            match hvl : vs.toList, hv with
            | [qa, va], ⟨hq, hva, _⟩ =>
              have hvs : vs = #[qa, va] := Array.toList_inj.1 hvl
              subst hvs
              have hq0 := hq
              obtain ⟨qv, rfl, hqv⟩ := hq
              obtain ⟨r2, hr2, hcap2, rfl⟩ : ∃ r, m V = some r ∧ 2 + 0 ≤ r.2 ∧ va = .slice (some ⟨r.1, 0, none⟩) 2 (r.2 - 0) := hva
              match hql : qv.toList, hqv with
              | [q0, q1, q2, q3], ⟨h0, hq1, hq2, h3, _⟩ =>
                obtain ⟨nm, rfl, _⟩ := h0
                obtain ⟨r1, hr1, hcap1, rfl⟩ : ∃ r, m 146 = some r ∧ 2 + 0 ≤ r.2 ∧ q3 = .slice (some ⟨r.1, 0, none⟩) 2 (r.2 - 0) := h3
                have hq1 : q1 = .slice none 0 0 := hq1
                subst hq1
                have hqe : qv = #[.string nm, .slice none 0 0, q2, .slice (some ⟨r1.1, 0, none⟩) 2 (r1.2 - 0)] := Array.toList_inj.1 hql
                subst hqe
                have hlt : ∀ i b r, (lst nx (liveO V nx).pre).heap.get i = some b → m i = some r → r.1 < w.heap.size := fun i b r hi hr => (hS.live i b r hi hr).lt
                have hcall := live_closed w.heap.size r1.1 (r1.2 - 0) r2.1 (r2.2 - 0) nm q2 (fun W => HR w0 m (lst nx (liveO V nx).pre) W ∧ w.heap.size ≤ W.heap.size ∧ ∀ b, b < w.heap.size → (∀ j x r, (lst nx (liveO V nx).pre).heap.get j = some x → m j = some r → r.1 ≠ b) → W.heap[b]? = w.heap[b]?) w rfl ⟨hS, Nat.le_refl _, fun _ _ _ => rfl⟩
                  (fun W W' hJ hz ho ht hu hb => ⟨HR.far hJ.1 hS.below.size hlt hz ho ht hu hb, Nat.le_trans hJ.2.1 hz, fun b h1 h2 => (hb b h1).trans (hJ.2.2 b h1 h2)⟩)
                  (fun W hJ => by
                    have hb := hJ.1.live 146 _ r1 h46 hr1
                    exact steps_cells hb)
                  (fun W hJ => by
                    have hb := hJ.1.live V _ r2 hV hr2
                    obtain ⟨v, g1, g2⟩ := row_cell hb (j := 1) rfl
                    obtain ⟨v', g1', g2'⟩ := row_cell hb (j := 3) rfl
                    exact ⟨g1.trans (congrArg some g2), g1'.trans (congrArg some g2')⟩)
                  (fun i W hJ => by
                    have hs : VR m (stepV i) (.agg (stC i).toArray) := by
                      cases i
                      · exact ⟨_, rfl, rfl, ⟨⟨#[]⟩, rfl, rfl⟩, ⟨⟨#[]⟩, rfl, rfl⟩, ⟨⟨#[]⟩, rfl, rfl⟩, ⟨⟨#[]⟩, rfl, rfl⟩, rfl, rfl, rfl, rfl, rfl, trivial⟩
                      · exact ⟨_, rfl, rfl, ⟨⟨#[]⟩, rfl, rfl⟩, ⟨⟨#[]⟩, rfl, rfl⟩, ⟨⟨#[]⟩, rfl, rfl⟩, ⟨⟨#[]⟩, rfl, rfl⟩, rfl, rfl, rfl, rfl, rfl, trivial⟩
                    refine (uses_keep i hle hk hp hJ.1 hq0 hs).mono ?_
                    rintro e W' ⟨he, hJ', hz, ho, ht, hu, hb⟩
                    exact ⟨he, ⟨hJ', Nat.le_trans hJ.2.1 hz, fun b h1 h2 => (hb b (Nat.lt_of_lt_of_le h1 hJ.2.1) h2).trans (hJ.2.2 b h1 h2)⟩, ⟨hz, ho, ht, hu, fun b hb1 hb2 => hb b hb2 fun j x r hj hr => by have := hlt j x r hj hr; omega⟩⟩)
                refine .inr ⟨?_, hcall.mono ?_⟩
                · have hname : ¬ (Tryz.f45.name = "runtime.NumGoroutine") := by
                    have : (Tryz.f45.name == "runtime.NumGoroutine") = false := by kernel_rfl
                    simpa using this
                  have hbody : ¬ (Tryz.f45.body = none) := fun h => by
                    have : Tryz.f45.body.isNone = false := by kernel_rfl
                    rw [h] at this
                    cases this
                  simp [callFunc, Tryz.func45, hname, hbody]
                · rintro e w' ⟨⟨g, rfl, hg, hb⟩, hJ', hN⟩
                  have hA := HR.adopt hJ'.1 (g := g) (k := 2) (b := (LB.row 23 none [.nsl, .nsl]).toB) (by have := hS.below.size; omega) hb.lt (fun i x r hi hr => by have := hlt i x r hi hr; omega)
                    ⟨_, _, (0, 0), hb, by simp, by simp, fun j c hj hc => by
                      have hc' : ([.nsl, .nsl] : List C)[j]? = some c := by
                        rw [fill_eq, T.get_fill, T.get_nil] at hc
                        split at hc
                        · simpa using hc
                        · cases hc
                      rcases j with _ | _ | j
                      · cases hc'; exact ⟨_, rfl, rfl⟩
                      · cases hc'; exact ⟨_, rfl, rfl⟩
                      · simp at hc', rfl⟩
                  have hGr := Gr.adopt hS (w' := w') (g := g) (k := 2) (b := (LB.row 23 none [.nsl, .nsl]).toB) hN.size hg hJ'.2.2
                  obtain ⟨k1, k2⟩ := merge_ok hH hle2 hk2 hp2 hGr hA h1 h2 (Nat.le_refl _) (by show (match Nat.ble nx nx with | true => true | false => false) = true; rw [show Nat.ble nx nx = true by rw [Nat.ble_eq]; exact Nat.le_refl _])
                  refine ⟨_, _, rfl, k1, k2, ⟨(g, 2), ?_, rfl⟩⟩
                  exact M.add_same _ _ _
  · cases h
theorem orcs_cons {w0 : World} {o : Orc} {l : List Orc} (h : CallOk Tryz.prog w0 fun f args σ => match Nat.beq f o.f with | true => tryO o args σ | false => none) (hl : OrcsOk w0 l) : OrcsOk w0 (o :: l) := fun o' ho => by
  rcases List.mem_cons.1 ho with rfl | ho
  · exact h
  · exact hl o' ho
theorem first_orcs (w0 : World) : OrcsOk w0 firstOrcs :=
  orcs_cons (live_orc 570 579 (by decide) (by kernel_rfl) (by kernel_rfl) (by kernel_rfl) (by kernel_rfl) (by kernel_rfl) (by kernel_rfl))
    (orcs_cons (live_orc 791 800 (by decide) (by kernel_rfl) (by kernel_rfl) (by kernel_rfl) (by kernel_rfl) (by kernel_rfl) (by kernel_rfl))
      (orcs_cons (live_orc 1038 1047 (by decide) (by kernel_rfl) (by kernel_rfl) (by kernel_rfl) (by kernel_rfl) (by kernel_rfl) (by kernel_rfl)) fun o h => by cases h))
/-- Where the blocks lie ahead of the call. -/
def mStart (d : Nat) : M := fun i => if i < 63 then some (i, 0) else if i = 63 then some (63, d) else none
theorem rel_start (W : World) : HR W (mStart W.drawn) (lst 64 []) W := by
  refine ⟨Below.refl _ _, fun g hg => by simp [mStart, hg], by simp [mStart], Nat.le_refl 64, fun i hi => ?_, fun i r hi hr => ?_, fun i b r hi hr => ?_, fun i j bi bj r q hi hj hr hq _ => ?_⟩
  · have hi : 64 ≤ i := hi
    unfold mStart
    rw [if_neg (by omega), if_neg (by omega)]
  · have : mStart W.drawn i = none := by
      unfold mStart
      rw [if_neg (by omega), if_neg (by omega)]
    rw [this] at hr; cases hr
  · have hi : (T.nil : T B).get i = some b := hi
    rw [T.get_nil] at hi; cases hi
  · have hi : (T.nil : T B).get i = some bi := hi
    rw [T.get_nil] at hi; cases hi
theorem first_any (W : World) : Calls Tryz.prog 4 #[] W fun e w' => e = .returned (.bool true) ∧ Below W.heap.size W w' := by
  have hfact := first_fact
  unfold firstFact at hfact
  split at hfact
  · rename_i y hy
    have hyv := vSame_eq hfact
    have hok := ev_ok (w0 := W) (first_orcs W)
    rcases hok 4 [] _ y.1 y.2 (mStart W.drawn) W #[] hy (rel_start W) trivial with ⟨m', v', w', _, h5, _⟩ | ⟨_, h6⟩
    · have hname : ¬ (Tryz.f4.name = "runtime.NumGoroutine") := by
        have : (Tryz.f4.name == "runtime.NumGoroutine") = false := by kernel_rfl
        simpa using this
      have hbody : ¬ (Tryz.f4.body = none) := fun h => by
        have : Tryz.f4.body.isNone = false := by kernel_rfl
        rw [h] at this
        cases this
      have he : (callFunc 4 #[]).run Tryz.prog W = .ok (.enter 4 #[]) W := by simp [callFunc, Tryz.func4, hname, hbody]
      rw [he] at h5
      cases h5
    · refine h6.mono ?_
      rintro e w' ⟨m', v', rfl, _, hH, hvr⟩
      rw [hyv] at hvr
      have hvr : v' = .bool true := hvr
      subst hvr
      exact ⟨rfl, hH.below⟩
  · cases hfact
end Kv
end Go.Proofs.YtngfeflemblljaaGreatDoor
