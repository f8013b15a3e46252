/- The fast evaluator: append, whole; maps that change; calls. No program in sight. -/
import Derived.Test.YtbemdcbglpjmiaaGreatDoorKvV
namespace Go.Proofs.YtbemdcbglpjmiaaGreatDoor
open Go.RowKit
namespace Kv
open Ev
set_option linter.unusedVariables false
set_option linter.unusedSimpArgs false
section
variable {Pr : Program} {w0 w : World} {m : M} {σ σ' : St} {F : Fr} {a : Go.Act} {n : Nat} {r : R} {t : TypeId} {x y z : Operand} {tt : T TypeInfo}
theorem withRow_ok {α : Type} {b : Nat} {f : Nat → Nat → T C → Option Nat → Option α} {q : α} (h : withRow σ b f = some q) : ∃ t n cs u, σ.heap.get b = some (.row t n cs u) ∧ f t n cs u = some q := by
  unfold withRow at h
  obtain ⟨hp, nx⟩ := σ
  simp only [get_eq] at h
  split at h
  · rename_i y hy
    split at h
    · exact ⟨_, _, _, _, hy, h⟩
    · cases h
  · cases h
theorem app_ok {e e' sz ty : Nat} {zz : List C} {t' : TypeId} (hT : Tab Pr tt) (hF : FR m n F a) (hH : HR w0 m σ w) (hu : under tt t = some (.slice e)) (hu' : under tt t' = some (.slice e')) (he : ElemOk Pr tt e sz zz)
    (h : on2S (opd x) (opd y) (app e sz) F σ = some r) : GoodV Pr w0 m σ w (Builtin.append_ #[t, t'] ty #[a.eval x, a.eval y]) r := by
  obtain ⟨c, d, hc, hd, h⟩ := on2S_ok hF hH.glob h
  have hu := under_ok hT hu
  have hu' := under_ok hT hu'
  obtain ⟨i, zv, hi, h1, h2, h3, h4⟩ := id he.info
  unfold app at h
  split at h
  · rename_i yy hy
    obtain ⟨k, new⟩ := yy
    simp only at h
    obtain ⟨news, hsrc, hl⟩ := src_ok hu' hH hd hy
    split at h
    · split at h
      · obtain rfl := rC_some h
        have hx : a.eval x = .slice none 0 0 := hc
        exact .same hH (by rw [hx]; exact run_app0 hu hi h1 hsrc (Nat.le_refl _)) rfl
      · obtain rfl := rC_some h
        obtain ⟨A, cap, hx⟩ := hc
        exact .same hH (by rw [hx]; exact run_app0 hu hi h1 hsrc (Nat.zero_le _)) ⟨A, cap, rfl⟩
      · rename_i b o len kn cap
        cases kn with
        | true =>
          simp only at h
          split at h
          · rename_i hle
            obtain rfl := rC_some h
            obtain ⟨q, hq, hx⟩ := hc
            exact .same hH (by rw [hx]; exact run_app0 hu hi h1 hsrc (Nat.le_of_ble_eq_true hle)) ⟨q, hq, rfl⟩
          · cases h
        | false =>
          obtain rfl := rC_some h
          obtain ⟨q, hq, hle, hx⟩ := hc
          exact .same hH (by rw [hx]; exact run_app0 hu hi h1 hsrc (by omega)) ⟨q, hq, hle, rfl⟩
      · cases h
    · rename_i hk0
      have hk : 0 < k := Nat.pos_of_ne_zero fun e => hk0 e
      split at h
      · have hx : a.eval x = .slice none 0 0 := hc
        rw [hx]
        have := appNew_ok (k := k) (len := 0) (cap := 0) (A := none) (ls := []) (l := new) (olds := []) (ty := ty) (r := r) he hu hH (by simp [Builtin.firstCells]) (by simp) trivial hsrc hl (by omega) (by rw [Nat.zero_add]; exact h)
        exact this
      · rename_i b o len kn cap
        cases kn with
        | true =>
          obtain ⟨q, hq, hx⟩ := hc
          rw [hx]
          simp only [appKn] at h
          split at h
          · rename_i hle
            exact appIn_ok (kn := true) (cap := cap) hi h1 hu hH hq hsrc hl (Nat.le_of_ble_eq_true hle) ⟨q, hq, rfl⟩ h
          · rename_i hle
            have hgt : cap < len + k := by
              rcases Nat.lt_or_ge cap (len + k) with h5 | h5
              · exact h5
              · have := Nat.ble_eq_true_of_le h5
                exact absurd this (by simp_all)
            rw [cellsAt_eq] at h
            split at h
            · rename_i old ho
              obtain ⟨cur, tt', fr, vs, g1, g2, g3, g4⟩ := hH.cells ho hq
              have g2 : vs.length = len * sz := g2
              have r2 : (Builtin.firstCells sz len (.slice (some ⟨q.1, o, none⟩) len cap)).run Pr w.drew = .ok vs.toArray w.drew := by
                have : (loadCells ⟨q.1, o, none⟩ (len * sz)).run Pr w.drew = .ok vs.toArray w.drew := by rw [← g2]; exact Ev.run_loadCells (w := w.drew) g1 vs g3
                exact this
              exact appNew_ok he hu hH r2 g2 g4 hsrc hl hgt h
            · cases h
        | false =>
          obtain ⟨q, hq, hle, hx⟩ := hc
          rw [hx]
          simp only [appUn] at h
          obtain ⟨t1, n1, cs, u1, hb, h'⟩ := withRow_ok h
          clear h
          have h := h'
          clear h'
          split at h
          · cases h
          · rename_i sz'
            split at h
            · cases h
            · rename_i hse
              simp only [Bool.and_eq_true] at hse
              have hse1 := Nat.eq_of_beq_eq_true hse.1
              have hse2 := Nat.eq_of_beq_eq_true hse.2
              subst hse1 hse2
              split at h
              · cases h
              · rename_i hod
                have hod : o = cap * sz := Nat.eq_of_beq_eq_true hod
                obtain ⟨cur, tyy, fr, g1, g2, g3, g4, g5⟩ := hH.live b _ q hb hq
                have g5 : cur.size = q.2 * sz := g5
                split at h
                · rename_i hin
                  have hin := Nat.le_of_ble_eq_true hin
                  have hin : o + (len + k) * sz ≤ n1 := hin
                  have hroom : cap + (len + k) ≤ q.2 := by
                    have : (cap + (len + k)) * sz ≤ q.2 * sz := by rw [Nat.add_mul, ← hod, ← g5]; omega
                    exact Nat.le_of_mul_le_mul_right this he.pos
                  exact appIn_ok (kn := false) (cap := cap) hi h1 hu hH hq hsrc hl (by omega) ⟨q, hq, by omega, rfl⟩ h
                · split at h
                  · rename_i hn
                    have hn := Nat.eq_of_beq_eq_true hn
                    have hn : n1 = len * sz := hn
                    subst hn
                    split at h
                    · have hod : o = 0 := by simpa using hod
                      subst hod
                      simp only [Nat.sub_zero]
                      exact appGrow_ok he hu hH hq hb (by omega) hsrc hl h
                    · cases h
                  · cases h
      · cases h
  · cases h
/-! ### Maps that change -/
theorem run_setObj {b : Nat} {o o' : Obj} (h : w.heap[b]? = some o) (hn : ∀ c t f, o ≠ .cells c t f) : (setObj b o').run Pr w = .ok () (setB w b o') := by
  unfold setObj
  simp only [Sem.run, h]
  rfl
theorem setAt_ok {α β : Type} {R : α → β → Prop} {f : α → α} {g : β → β} : ∀ {l : List α} {r : List β} {i : Nat}, All2 R l r → (∀ e e', l[i]? = some e → r[i]? = some e' → R e e' → R (f e) (g e')) → All2 R (setAt f l i) (r.modify i g)
  | [], [], i, _, _ => by cases i <;> trivial
  | e :: l, e' :: r, 0, ⟨h1, h2⟩, h => ⟨h e e' rfl rfl h1, h2⟩
  | e :: l, e' :: r, i + 1, ⟨h1, h2⟩, h => ⟨h1, setAt_ok h2 fun a b ha hb => h a b (by simpa using ha) (by simpa using hb)⟩
theorem mem_setAt {α : Type} {f : α → α} : ∀ {l : List α} {i : Nat} {e : α}, e ∈ setAt f l i → e ∈ l ∨ ∃ e', e' ∈ l ∧ e = f e'
  | [], i, e, h => by cases i <;> cases h
  | a :: l, 0, e, h => by
    rcases List.mem_cons.1 h with rfl | h
    · exact .inr ⟨a, by simp, rfl⟩
    · exact .inl (by simp [h])
  | a :: l, i + 1, e, h => by
    rcases List.mem_cons.1 h with rfl | h
    · exact .inl (by simp)
    · rcases mem_setAt h with h | ⟨e', h, h2⟩
      · exact .inl (by simp [h])
      · exact .inr ⟨e', by simp [h], h2⟩
theorem putB_eq (b : Nat) (x : B) : putB σ b x = ⟨σ.heap.put b (some x), σ.next⟩ := by
  obtain ⟨h, n⟩ := σ
  rw [← put_eq]; rfl
theorem All2.one {α β : Type} {R : α → β → Prop} {x : α} {y : β} (h : R x y) : All2 R [x] [y] := ⟨h, trivial⟩
theorem insert_ok {k e : TypeId} {kk : KK} (hT : Tab Pr tt) (hF : FR m n F a) (hH : HR w0 m σ w) (hu : under tt t = some (.map k e)) (hk : KKOk Pr k kk)
    (h : onCPPS (opd x) (opd y) (opd z) (insertOp kk) F σ = some r) : Good Pr w0 m σ w (do Instr.mapUpdate t (a.eval x) (a.eval y) (a.eval z); pure .skip) r := by
  obtain ⟨c, key, val, hc, hkey, hval, h⟩ := onCPPS_ok hF hH.glob h
  unfold insertOp at h
  split at h
  · cases h
  · rename_i hko
    have hkf := keyOk_form hko hkey
    split at h
    · split at h
      · cases h
      · rename_i b
        split at h
        · rename_i h64
          have h64 := Nat.le_of_ble_eq_true h64
          obtain ⟨es, clk, hb, h⟩ := mapAt_ok h
          obtain ⟨q, hq, hx⟩ := hc
          obtain ⟨res, h1, h2, h3⟩ := HR.mapAt hH hb hq
          unfold insertIn at h
          split at h
          · rename_i o ho
            obtain ⟨o', g1, g2⟩ := findKey_ok (w := w) hk hkey h3 ho
            split at h
            · rename_i yy
              obtain ⟨idx, e', q1, rfl, q3, q4, q5⟩ := g2
              cases h
              have hidx : idx = yy.1 := by omega
              rw [hidx] at q3
              have hks : (Instr.keyThatStays e'.key (a.eval y)).run Pr w = .ok (a.eval y) w := by
                rw [q5]; simp [Instr.keyThatStays, hkf.bits]
              have q3' : res[yy.1]? = some e' := by simpa using q3
              refine ⟨m, setB w q.1 (.map (res.modify yy.1 fun e => { e with key := a.eval y, val := a.eval z }) clk), ?_, ?_, ?_⟩
              · rw [putB_eq]; exact Gr.set hH _ hb hq _
              · simp only [hx, Instr.mapUpdate, Sem.run_bind, Sem.run_pure, Result.andThen_ok, run_under hT hu, run_getObj h1 (by simp), hkf.check hk, g1, q3', Option.map_some, Option.getD_some, hks, run_setObj h1 (by simp)]
              · rw [putB_eq]
                refine HR.set hH h64 hb hq _ ⟨_, rfl, fun e he => ?_, ?_⟩
                · rcases mem_setAt he with h5 | ⟨e1, h5, rfl⟩
                  · exact h2 e h5
                  · exact h2 e1 h5
                · rw [Array.toList_modify]
                  exact setAt_ok h3 fun e e' _ _ hr => ⟨hkey, hval, hr.2.2⟩
            · have g2 : o' = none := g2
              subst g2
              cases h
              refine ⟨m, setB w q.1 (.map (res.push { key := a.eval y, val := a.eval z, born := clk }) (clk + 1)), ?_, ?_, ?_⟩
              · rw [putB_eq]; exact Gr.set hH _ hb hq _
              · simp only [hx, Instr.mapUpdate, Sem.run_bind, Sem.run_pure, Result.andThen_ok, run_under hT hu, run_getObj h1 (by simp), hkf.check hk, g1, run_setObj h1 (by simp)]
              · rw [putB_eq]
                refine HR.set hH h64 hb hq _ ⟨_, rfl, fun e he => ?_, ?_⟩
                · rcases List.mem_append.1 he with he | he
                  · have := h2 e he; show _ < clk + 1; omega
                  · simp at he; subst he; exact Nat.lt_succ_self _
                · rw [Array.toList_push]
                  exact All2.append h3 (All2.one ⟨hkey, hval, rfl⟩)
          · cases h
        · cases h
    · cases h
theorem rangeMap_ok {k e : TypeId} (hT : Tab Pr tt) (hF : FR m n F a) (hH : HR w0 m σ w) (hu : under tt t = some (.map k e))
    (h : on1S (opd x) rangeMap F σ = some r) : GoodV Pr w0 m σ w (Instr.range t (a.eval x)) r := by
  obtain ⟨c, hc, h⟩ := on1S_ok hF hH.glob h
  unfold rangeMap at h
  split at h
  · split at h
    · cases h
    · rename_i b
      obtain ⟨es, clk, hb, h⟩ := mapAt_ok h
      obtain ⟨q, hq, hx⟩ := hc
      obtain ⟨res, h1, h2, h3⟩ := HR.mapAt hH hb hq
      obtain ⟨hp, nx⟩ := σ
      have h' : some (R.val (.p (.c (mkPtr nx))) ⟨put hp nx (some (.miter b clk [] clk)), Nat.succ nx⟩) = some r := h
      rw [put_eq] at h'
      cases h'
      have hB : BR (m.add nx (w.heap.size, 0)) (w.heap.size, 0) (.miter b clk [] clk) (some (.mapIter (some q.1) clk #[] clk)) := ⟨q, M.ext_add _ (hH.fresh _ (Nat.le_refl _)) _ _ hq, rfl⟩
      exact ⟨_, .pointer (some ⟨w.heap.size, 0, none⟩), _, Gr.new hH (.mapIter (some q.1) clk #[] clk) (.miter b clk [] clk) 0, by simp [hx, Instr.range, run_under hT hu, run_getObj h1, newObj, Sem.run], HR.new hH _ _ 0 hB, _, M.add_same .., rfl⟩
  · cases h
theorem nextMap_ok {ty : TypeId} (hF : FR m n F a) (hH : HR w0 m σ w)
    (h : on1S (opd x) nextMap F σ = some r) : GoodV Pr w0 m σ w (Instr.next (a.eval x) false ty) r := by
  obtain ⟨c, hc, h⟩ := on1S_ok hF hH.glob h
  obtain ⟨b, o, q, hq, hx, _, h⟩ := withPtr_ok h hc
  split at h
  · split at h
    · rename_i h64
      have h64 := Nat.le_of_ble_eq_true h64
      rw [get_eq] at h
      split at h
      · rename_i rr since seen last hb
        obtain ⟨es, clk, hb2, h⟩ := mapAt_ok h
        obtain ⟨p, hp, hit⟩ := hH.live b _ q hb hq
        obtain ⟨res, h1, h2, h3⟩ := HR.mapAt hH hb2 hp
        have e1 : (getObj q.1).run Pr w = .ok (.mapIter (some p.1) since seen.toArray last) w := run_getObj hit (by simp)
        have e2 : (getObj p.1).run Pr w = .ok (.map res clk) w := run_getObj h1 (by simp)
        unfold nextIn at h
        split at h
        · cases h
          have hres : res = #[] := by
            have := h3.length
            simp at this
            exact Array.eq_empty_of_size_eq_zero this.symm
          subst hres
          refine .same hH (v' := .tuple #[.bool false]) ?_ ⟨_, rfl, rfl, trivial⟩
          simp [Instr.next, hx, e1, e2, Question.forced]
        · rename_i e l
          split at h
          · cases h
          · obtain ⟨e', hres, hE⟩ : ∃ e', res = #[e'] ∧ EntR m e e' := by
              match hl : res.toList, h3 with
              | [e'], ⟨h4, _⟩ => exact ⟨e', Array.toList_inj.1 (by rw [hl]), h4⟩
            subst hres
            have hborn := hE.2.2
            split at h
            · split at h
              · rename_i hlt
                have hlt := Nat.le_of_ble_eq_true hlt
                cases h
                have hlt : e'.born < since := by rw [hborn]; omega
                refine ⟨m, .tuple #[.bool true, e'.key, e'.val], setB w q.1 (.mapIter (some p.1) since #[e'.born] clk), ?_, ?_, ?_, ⟨_, rfl, rfl, hE.1, hE.2.1, trivial⟩⟩
                · rw [putB_eq]; exact Gr.set hH _ hb hq _
                · simp [Instr.next, hx, e1, e2, Question.forced, hlt, show ¬ since ≤ e'.born by omega, run_setObj hit]
                · rw [putB_eq]
                  exact HR.set hH h64 hb hq _ ⟨p, hp, by rw [hborn]⟩
              · cases h
            · split at h
              · cases h
              · split at h
                · rename_i s _ _ _ hs
                  have hs := Nat.eq_of_beq_eq_true hs
                  split at h
                  · rename_i hlt
                    have hlt := Nat.le_of_ble_eq_true hlt
                    cases h
                    have hlt : ¬ last ≤ e'.born := by rw [hborn]; omega
                    refine .same hH (v' := .tuple #[.bool false]) ?_ ⟨_, rfl, rfl, trivial⟩
                    have hs : s = e'.born := by rw [hborn]; exact hs
                    simp [Instr.next, hx, e1, e2, Question.forced, hlt, hs]
                  · cases h
                · cases h
      · cases h
    · cases h
  · cases h
/-! ### Calls -/
theorem callF_ok {f : Nat} {args : Array Operand} (hF : FR m n F a) (hH : HR w0 m σ w) (h : callF f (opds args.toList) F σ = some r) {c : Call} (hc : c.callee = .value (.func f)) (ha : c.args = args) {type : TypeId} :
    Good Pr w0 m σ w (do let d ← resolve a.eval c type; invoke d.target d.args) r := by
  cases h
  refine ⟨rfl, args.map a.eval, by rw [Array.toList_map]; exact opds_ok hF hH.glob _, ?_⟩
  subst ha
  simp [resolve, hc, Act.eval, Deferred.ofValue, invoke]
theorem ptrs_ok : ∀ {l : List (Nat × Nat)} {vs : List Value}, All2 (PA m) l vs → All2 (VR m) (ptrs l) vs
  | [], [], _ => trivial
  | p :: l, v :: vs, ⟨h1, h2⟩ => ⟨h1, ptrs_ok h2⟩
theorem callV_ok {f : Operand} {args : Array Operand} (hF : FR m n F a) (hH : HR w0 m σ w) (h : callV (opd f) (opds args.toList) F σ = some r) {c : Call} (hc : c.callee = .value f) (ha : c.args = args) {type : TypeId} :
    Good Pr w0 m σ w (do let d ← resolve a.eval c type; invoke d.target d.args) r := by
  unfold callV at h
  split at h
  · rename_i g cap hg
    obtain ⟨vs, hx, hv⟩ := asC_ok hg (opd_ok hF hH.glob f)
    cases h
    refine ⟨rfl, args.map a.eval ++ vs, ?_, ?_⟩
    · rw [Array.toList_append, Array.toList_map]
      exact All2.append (opds_ok hF hH.glob _) (ptrs_ok hv)
    · subst ha
      simp [resolve, hc, hx, Deferred.ofValue, invoke]
  · cases h
end
end Kv
end Go.Proofs.YtbemdcbglpjmiaaGreatDoor
