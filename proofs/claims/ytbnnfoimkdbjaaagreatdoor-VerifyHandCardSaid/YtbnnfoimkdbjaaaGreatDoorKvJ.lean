/- The fast evaluator: drawn regions, one operation on. No program in sight. -/
import Derived.Test.YtbnnfoimkdbjaaaGreatDoorKvH
namespace Go.Proofs.YtbnnfoimkdbjaaaGreatDoor
open Go.RowKit
namespace Kv
open Ev
set_option linter.unusedVariables false
set_option linter.unusedSimpArgs false
theorem setL_same (L : Nat → Bool) (i : Nat) : setL L i i = true := by simp [setL]
theorem setL_ne (L : Nat → Bool) {i j : Nat} (h : j ≠ i) : setL L i j = L j := by simp [setL, h]
section
variable {Pr : Program} {w0 ws : World} {tt : T TypeInfo} {fl : T (List TypeDesc)} {n : Nat} {ops : Array Oper} {call : CallT} {F : Nat → Fr} {S : Nat → St} {v : Nat → V} {x pm Mk : Nat → Nat} {rds : List Rd} {bds : List Bd}
  {m0 m m' : M} {σ0 : St} {L : Nat → Bool} {q : Nat} {a : Go.Act} {w w' : World}
  (hf : Facts tt fl n ops call F S v x pm Mk rds bds) (hx0 : σ0.next ≤ x 0)
  (h : Inv w0 tt fl n ops F S v x m0 σ0 ws L q m a w)
include hf hx0 h
omit hx0 in
theorem Inv.quiet {i : Nat} {o : Oper} {u : Value} (hr : Ready ops L i o) (hl : (act tt fl o.op).isLoud = false) (hn : ∀ z, ¬ AlAt tt fl ops F i z) (hu : VR m (v i) u) :
    Inv w0 tt fl n ops F S v x m0 σ0 ws (setL L i) q m (a.put o.dst u) w := by
  have hne : ∀ j z, AlAt tt fl ops F j z → j ≠ i := fun j z hz e => by subst e; exact hn z hz
  refine ⟨h.hq, fun j o' ho' hl' => ?_, h.rel, h.top, h.gr, Inv.put hf h hr (Ext.refl m) hu, fun j z hj hz hL => ?_, fun j z hj hz hL => ?_, fun j z hj hz => ?_, Inv.closed h hr⟩
  · have : j ≠ i := fun e => by subst e; rw [hr.1] at ho'; cases ho'; rw [hl] at hl'; cases hl'
    rw [setL_ne L this]
    exact h.pre j o' ho' hl'
  · rw [setL_ne L (hne j z hz)] at hL
    exact h.bef j z hj hz hL
  · rw [setL_ne L (hne j z hz)] at hL
    obtain ⟨r, h1, h2, h3, h4⟩ := h.pend j z hj hz hL
    exact ⟨r, h1, h2, h3, fun i' z' r' g1 g2 g3 => h4 i' z' r' g1 g2 (by rw [setL_ne L (hne i' z' g2)] at g3; exact g3)⟩
  · rw [setL_ne L (hne j z hz)]
    exact h.aft j z hj hz
omit hx0 in
theorem Inv.loud {o : Oper} {u : Value} (hr : Ready ops L q o) (hl : (act tt fl o.op).isLoud = true) (hG : Gr m (S q) w m' (S (q + 1)) w') (hH : HR w0 m' (S (q + 1)) w') (hu : VR m' (v q) u) :
    Inv w0 tt fl n ops F S v x m0 σ0 ws (setL L q) (q + 1) m' (a.put o.dst u) w' := by
  have hqs : q < ops.size := (Array.getElem?_eq_some_iff.1 hr.1).1
  have hne : ∀ j z, AlAt tt fl ops F j z → j ≠ q := fun j z ⟨o', f, g1, g2, _⟩ e => by
    subst e
    rw [hr.1] at g1
    cases g1
    rw [g2] at hl
    cases hl
  have htop := h.top
  have unm : ∀ j z, AlAt tt fl ops F j z → m (x j) = none → m' (x j) = none := fun j z hz hm => by
    cases hm' : m' (x j) with
    | none => rfl
    | some r =>
      have := (hf.xtop hz).2
      rcases hG.news _ r hm' with g | ⟨_, g, _⟩
      · rw [hm] at g; cases g
      · omega
  refine ⟨hqs, fun j o' ho' hl' => ?_, hH, Nat.le_trans htop hG.next, h.gr.trans hG, Inv.put hf h hr hG.ext hu, fun j z hj hz hL => ?_, fun j z hj hz hL => ?_, fun j z hj hz => ?_, Inv.closed h hr⟩
  · by_cases he : j = q
    · subst he; simp [setL_same]
    · rw [setL_ne L he, h.pre j o' ho' hl']; omega
  · have hjq := hne j z hz
    rw [setL_ne L hjq] at hL
    obtain ⟨h1, h2⟩ := h.bef j z (by omega) hz hL
    have := (hf.xtop hz).2
    exact ⟨unm j z hz h1, by rw [hG.keep _ (by omega) h1]; exact h2⟩
  · have hjq := hne j z hz
    rw [setL_ne L hjq] at hL
    obtain ⟨r, h1, h2, h3, h4⟩ := h.pend j z (by omega) hz hL
    have hlt := h2.lt
    have hk := hG.kept r.1 hlt fun i y p hi hp => h3 i y p hi hp
    refine ⟨r, hG.ext _ _ h1, by rw [hk]; exact h2.ext hG.ext, fun i y p hi hp => ?_, fun i' z' r' g1 g2 g3 g4 g5 => ?_⟩
    · rcases hG.news i p hp with g | ⟨_, _, g | ⟨i2, y2, p2, g1, g2, g3⟩⟩
      · obtain ⟨y', hy'⟩ := hG.old hi g
        exact h3 i y' p hy' g
      · omega
      · rw [← g3]; exact h3 i2 y2 p2 g1 g2
    · have hiq := hne i' z' g2
      rw [setL_ne L hiq] at g3
      obtain ⟨r2, k1, k2, k3, k4⟩ := h.pend i' z' (by omega) g2 g3
      have := hG.ext _ _ k1
      rw [g5] at this
      cases this
      exact h4 i' z' r' (by omega) g2 g3 g4 k1
  · have hjq := hne j z hz
    rw [setL_ne L hjq]
    obtain ⟨h1, h2⟩ := h.aft j z (by omega) hz
    have := (hf.xtop hz).2
    exact ⟨hG.dead _ (by omega) h1, fun hL => unm j z hz (h2 hL)⟩
theorem Inv.alloc {i : Nat} {o : Oper} {z : Al} {u : Value} {ob : Obj} {k : Nat} (hr : Ready ops L i o) (hz : AlAt tt fl ops F i z)
    (hB : BR (m.add (x i) (w.heap.size, k)) (w.heap.size, k) z.b (some ob)) (hu : VR (m.add (x i) (w.heap.size, k)) (v i) u) :
    Inv w0 tt fl n ops F S v x m0 σ0 ws (setL L i) q (m.add (x i) (w.heap.size, k)) (a.put o.dst u) (w.alloc ob) := by
  have hxo := hf.xtop hz
  have hlow := Facts.xlow hf hx0 hz
  have htop := h.top
  have uniq : ∀ z', AlAt tt fl ops F i z' → z' = z := fun z' hz' => by
    obtain ⟨o1, f1, e1, e2, e3, e4⟩ := hz
    obtain ⟨o2, f2, g1, g2, g3, g4⟩ := hz'
    rw [e1] at g1
    cases g1
    rw [e2] at g2
    cases g2
    rw [e4] at g4
    cases g4
    rfl
  have hm : m (x i) = none := by
    rcases Nat.lt_or_ge i q with h1 | h1
    · exact (h.bef i z h1 hz hr.2.1).1
    · exact (h.aft i z h1 hz).2 hr.2.1
  have oth : ∀ j z', AlAt tt fl ops F j z' → j ≠ i → m.add (x i) (w.heap.size, k) (x j) = m (x j) := fun j z' hz' hne => M.add_ne _ _ (hf.xne hz' hz hne)
  have ex := M.ext_add (w.heap.size, k) hm
  have hnl : (act tt fl o.op).isLoud = false := by
    obtain ⟨o1, f1, e1, e2, _⟩ := hz
    rw [hr.1] at e1
    cases e1
    rw [e2]; rfl
  refine ⟨h.hq, fun j o' ho' hl' => ?_, h.rel.add hxo.1 hm (by omega) fun b hb => ?_, htop, Gr.addN h.gr hlow hm, Inv.put hf h hr ex hu, fun j z' hj hz' hL => ?_, fun j z' hj hz' hL => ?_, fun j z' hj hz' => ?_, Inv.closed h hr⟩
  · have : j ≠ i := fun e => by subst e; rw [hr.1] at ho'; cases ho'; rw [hnl] at hl'; cases hl'
    rw [setL_ne L this]
    exact h.pre j o' ho' hl'
  · rcases Nat.lt_or_ge i q with h1 | h1
    · rw [(h.bef i z h1 hz hr.2.1).2] at hb
      cases hb
      exact hB
    · rw [(h.aft i z h1 hz).1] at hb
      cases hb
  · have hne : j ≠ i := fun e => by subst e; rw [setL_same] at hL; cases hL
    rw [setL_ne L hne] at hL
    rw [oth j z' hz' hne]
    exact h.bef j z' hj hz' hL
  · have live : ∀ y c p, (S q).heap.get y = some c → m.add (x i) (w.heap.size, k) y = some p → (p.1 < w.heap.size ∧ m y = some p) ∨ (i < q ∧ p.1 = w.heap.size) := by
      intro y c p hy hp
      by_cases he : y = x i
      · subst he
        rw [M.add_same] at hp
        cases hp
        rcases Nat.lt_or_ge i q with h1 | h1
        · exact .inr ⟨h1, rfl⟩
        · rw [(h.aft i z h1 hz).1] at hy; cases hy
      · rw [M.add_ne _ _ he] at hp
        exact .inl ⟨(h.rel.live y c p hy hp).lt, hp⟩
    by_cases hne : j = i
    · subst hne
      obtain rfl := uniq z' hz'
      refine ⟨(w.heap.size, k), M.add_same .., by rw [heap_alloc_new]; exact hB, fun y c p hy hp => ?_, fun i' z'' r' g1 g2 g3 g4 g5 => ?_⟩
      · rcases live y c p hy hp with ⟨h1, _⟩ | ⟨h1, _⟩
        · show p.1 ≠ w.heap.size; omega
        · omega
      · rw [setL_ne L g4] at g3
        rw [oth i' z'' g2 g4] at g5
        obtain ⟨r2, k1, k2, _⟩ := h.pend i' z'' g1 g2 g3
        rw [g5] at k1
        cases k1
        have := k2.lt
        show r'.1 ≠ w.heap.size
        omega
    · rw [setL_ne L hne] at hL
      obtain ⟨r, h1, h2, h3, h4⟩ := h.pend j z' hj hz' hL
      have hlt := h2.lt
      refine ⟨r, by rw [oth j z' hz' hne]; exact h1, by rw [Below.heap_alloc _ _ _ hlt]; exact h2.ext ex, fun y c p hy hp => ?_, fun i' z'' r' g1 g2 g3 g4 g5 => ?_⟩
      · rcases live y c p hy hp with ⟨_, k1⟩ | ⟨_, k1⟩
        · exact h3 y c p hy k1
        · omega
      · by_cases hi' : i' = i
        · subst hi'
          rw [M.add_same] at g5
          cases g5
          show w.heap.size ≠ r.1
          omega
        · rw [setL_ne L hi'] at g3
          rw [oth i' z'' g2 hi'] at g5
          exact h4 i' z'' r' g1 g2 g3 g4 g5
  · by_cases hne : j = i
    · subst hne
      exact ⟨(h.aft j z' hj hz').1, fun hL => by rw [setL_same] at hL; cases hL⟩
    · rw [setL_ne L hne, oth j z' hz' hne]
      exact h.aft j z' hj hz'
end
/-! ### An operation sees no more than it looks at -/
/-- The slots of l alone. -/
def only (l : List Nat) (a : Go.Act) : Go.Act := { a with tmps := (Array.range a.tmps.size).map fun t => if t ∈ l then a.tmps.getD t undef else undef }
theorem only_get (l : List Nat) (a : Go.Act) (t : Nat) : (only l a).tmps.getD t undef = if t ∈ l then a.tmps.getD t undef else undef := by
  unfold only
  by_cases h : t < a.tmps.size
  · simp [h]
  · simp [h]
section
variable {m : M} {n : Nat} {ops : Array Oper} {a : Go.Act} {o : Oper} {F : Fr}
theorem only_fr (hs : n ≤ a.tmps.size) (hd : a.defers = []) (h : ∀ t ∈ looks ops o, VR m (sv F t) (a.tmps.getD t undef)) : FR m n (restr F (paths (looks ops o))) (only (looks ops o) a) := by
  refine ⟨by simpa [only] using hs, hd, fun t => ?_⟩
  show VR m (sv _ t) _
  rw [sv_restr, only_get]
  split
  · exact h t (by assumption)
  · rfl
theorem only_exec (hs : ∀ cs b, o.op ≠ .select cs b) : execOp (only (looks ops o) a).eval o = execOp a.eval o := by
  refine execOp_congr o hs fun y hy => ?_
  cases y with
  | tmp t =>
    have ht : t ∈ looks ops o := List.mem_append_left _ (List.mem_filterMap.2 ⟨.tmp t, by simpa using hy, rfl⟩)
    show (only (looks ops o) a).tmps.getD t undef = a.tmps.getD t undef
    rw [only_get, if_pos ht]
  | _ => rfl
theorem want_ok {b : Bool} (hs : ∀ t ∈ looks ops o, VR m (sv F t) (a.tmps.getD t undef)) (h : want ops o F = some b) : Region.wanted o (yielded ops a.tmps) = b := by
  unfold want at h
  split at h
  · rename_i hg
    cases h
    simp [Region.wanted, hg]
  · rename_i y hg
    split at h
    · rename_i qo hq
      split at h
      · rename_i d hd
        have ht : d ∈ looks ops o := List.mem_append_right _ (by rw [hg]; simp [hq, hd])
        have hv := hs d ht
        rw [getP_path] at h
        change VR m (sv F d) _ at hv
        have hsv : sv F d = (F.get d).getD .undef := rfl
        rw [← hsv] at h
        split at h
        · rename_i c hc
          rw [hc] at hv
          have hv : a.tmps.getD d undef = .bool c := hv
          have h1 : a.tmps[d]? = some (.bool c) := by
            rw [Array.getD_eq_getD_getElem?] at hv
            cases h2 : a.tmps[d]? with
            | none => rw [h2] at hv; cases hv
            | some u => rw [h2] at hv; exact congrArg some hv
          injection h with h
          subst h
          obtain ⟨j, bb⟩ := y
          cases bb <;> cases c <;> simp [Region.wanted, hg, yielded, hq, hd, h1, bNot]
        · rename_i hc
          cases h
          rw [hc] at hv
          have hv : a.tmps.getD d undef = undef := hv
          have h1 : a.tmps[d]? = some undef ∨ a.tmps[d]? = none := by
            rw [Array.getD_eq_getD_getElem?] at hv
            cases h2 : a.tmps[d]? with
            | none => exact .inr rfl
            | some u => rw [h2] at hv; exact .inl (congrArg some hv)
          obtain ⟨j, bb⟩ := y
          rcases h1 with h1 | h1 <;> simp [Region.wanted, hg, yielded, hq, hd, h1, undef]
        · cases h
      · cases h
    · cases h
end
end Kv
end Go.Proofs.YtbnnfoimkdbjaaaGreatDoor
