/- The fast evaluator: append. No program in sight. -/
import Derived.Test.YtngfeflemblljaaGreatDoorKvU
import Derived.Deep.AppendSrc
namespace Go.Proofs.YtngfeflemblljaaGreatDoor
open Go.RowKit
namespace Kv
open Ev
set_option linter.unusedVariables false
set_option linter.unusedSimpArgs false
theorem below_drew (w : World) : Below w.heap.size w w.drew := ⟨rfl, rfl, rfl, Nat.le_refl _, fun _ _ => rfl⟩
theorem cr_one {m : M} {c : C} {u : Value} (h : CR m c u) : u.oneCell' = true := by
  obtain ⟨h1, h2⟩ := CR.one h
  cases u with
  | agg cs => exact absurd rfl (h1 cs)
  | tuple cs => exact absurd rfl (h2 cs)
  | _ => rfl
theorem all2_one {m : M} : ∀ {l : List C} {vs : List Value}, All2 (CR m) l vs → ∀ u ∈ vs, u.oneCell' = true
  | [], [], _, u, h => by cases h
  | c :: l, v :: vs, ⟨h1, h2⟩, u, h => by
    rcases List.mem_cons.1 h with rfl | h
    · exact cr_one h1
    · exact all2_one h2 u h
section
variable {Pr : Program} {w0 w : World} {m : M} {σ σ' : St} {F : Fr} {a : Go.Act} {n : Nat} {r : R} {t : TypeId} {x y z : Operand} {tt : T TypeInfo}
/-- What is appended. -/
theorem src_ok {e' sz k : Nat} {l : List C} {c : C} {u : Value} {t' : TypeId} (hk : Pr.underlying t' = some (.slice e')) (hH : HR w0 m σ w) (hc : CR m c u) (h : slCells σ sz c = some (k, l)) :
    ∃ vs, Src Pr sz t' u k vs w ∧ All2 (CR m) l vs := by
  unfold slCells at h
  split at h
  · cases h
    have hc : u = .slice none 0 0 := hc
    subst hc
    exact ⟨[], ⟨.inl ⟨e', hk⟩, fun w' => by simp [Builtin.lenOf], by simp [Builtin.firstCells], by simp [Builtin.firstCells], by simp, by simp⟩, trivial⟩
  · cases h
    obtain ⟨A, cap, rfl⟩ := hc
    exact ⟨[], ⟨.inl ⟨e', hk⟩, fun w' => by simp [Builtin.lenOf], by simp [Builtin.firstCells, loadCells, loadCellsFrom], by simp [Builtin.firstCells, loadCells, loadCellsFrom], by simp, by simp⟩, trivial⟩
  · rename_i b o len kn cap
    rw [cellsAt_eq] at h
    split at h
    · rename_i l' hl
      cases h
      obtain ⟨q, c', hq, rfl⟩ := sl_ok hc
      obtain ⟨cur, ty, fr, vs, g1, g2, g3, g4⟩ := hH.cells hl hq
      have g2 : vs.length = k * sz := g2
      have r1 : (loadCells ⟨q.1, o, none⟩ (k * sz)).run Pr w = .ok vs.toArray w := by rw [← g2]; exact Ev.run_loadCells g1 vs g3
      have r2 : (loadCells ⟨q.1, o, none⟩ (k * sz)).run Pr w.drew = .ok vs.toArray w.drew := by rw [← g2]; exact Ev.run_loadCells (w := w.drew) g1 vs g3
      exact ⟨vs, ⟨.inl ⟨e', hk⟩, fun w' => by simp [Builtin.lenOf], r1, r2, g2, all2_one g4⟩, g4⟩
    · cases h
  · cases h
variable {e sz k ty : Nat} {zz : List C} {t' : TypeId} {u : Value} {news : List Value}
theorem run_app0 {i : TypeInfo} (hu : Pr.underlying t = some (.slice e)) (hi : Pr.info? e = some i) (hs : i.size = sz) (hsrc : Src Pr sz t' u 0 news w) {A : Option Addr} {len cap : Nat} (hle : len ≤ cap) :
    (Builtin.append_ #[t, t'] ty #[.slice A len cap, u]).run Pr w = .ok (.slice A len cap) w := by
  subst hs
  have hn : news = [] := List.eq_nil_of_length_eq_zero (by simpa using hsrc.newsLen)
  have hc := hsrc.cells
  rw [hn] at hc
  rcases hsrc.kind with ⟨e', hk⟩ | hk <;> cases A <;> simp [Builtin.append_, run_underlying hu, run_underlying hk, sizeOf, typeInfo, hi, hsrc.len, hle, hc, storeCells]
theorem run_appIn {i : TypeInfo} (hu : Pr.underlying t = some (.slice e)) (hi : Pr.info? e = some i) (hs : i.size = sz) (hsrc : Src Pr sz t' u k news w) {b o len cap : Nat} {w' : World} (hle : len + k ≤ cap)
    (hst : (storeCells ⟨b, o + len * sz, none⟩ news).run Pr w = .ok () w') :
    (Builtin.append_ #[t, t'] ty #[.slice (some ⟨b, o, none⟩) len cap, u]).run Pr w = .ok (.slice (some ⟨b, o, none⟩) (len + k) cap) w' := by
  subst hs
  rcases hsrc.kind with ⟨e', hk⟩ | hk <;> simp [Builtin.append_, run_underlying hu, run_underlying hk, sizeOf, typeInfo, hi, hsrc.len, hle, hsrc.cells, add_eq, hst]
/-- A new row, of what is read and what is appended. -/
theorem grown_ok (he : ElemOk Pr tt e sz zz) (hu : Pr.underlying t = some (.slice e)) (hH : HR w0 m σ w) {olds : List Value} {A : Option Addr} {len cap : Nat}
    (hold : (Builtin.firstCells sz len (.slice A len cap)).run Pr w.drew = .ok olds.toArray w.drew) (hlo : olds.length = len * sz) (hsrc : Src Pr sz t' u k news w) (hg : cap < len + k) (hsm : len + k ≤ 1048576)
    {cs : T C} (hcs : ∀ j c, j < (len + k) * sz → cs.get j = some c → ∃ v, (olds ++ news)[j]? = some v ∧ CR m c v) {nx : Nat} (hnx : nx = σ.next) :
    ∃ v' w' q, Gr m σ w (m.add nx q) ⟨σ.heap.put nx (some (.row e ((len + k) * sz) cs (some sz))), nx + 1⟩ w' ∧ (Builtin.append_ #[t, t'] ty #[.slice A len cap, u]).run Pr w = .ok v' w' ∧
      HR w0 (m.add nx q) ⟨σ.heap.put nx (some (.row e ((len + k) * sz) cs (some sz))), nx + 1⟩ w' ∧ CR (m.add nx q) (.sl nx 0 (len + k) false 0) v' := by
  subst hnx
  obtain ⟨i, zv, hi, h1, h2, h3, h4⟩ := he.info
  subst h1
  have hb : (len + k) * i.bytes ≤ 140737488355328 := by
    have := Nat.mul_le_mul hsm h2
    omega
  have hr := run_append_grow_src (P := Pr) w t t' ty e i zv hu hi h3 A len cap olds hold u k news hsrc hg (by omega) (growslice_fits hg hb)
  have hge := grownCap_ge w (len + k) cap e
  have hzs : zv.cells.size = i.size := by
    have := (h4 m).length
    rw [he.len] at this
    simpa using this.symm
  have hlen : (olds ++ news).length = (len + k) * i.size := by rw [List.length_append, hlo, hsrc.newsLen, Nat.add_mul]
  have hsz : ((olds ++ news).toArray ++ Builtin.zeroCells zv.cells (grownCap w (len + k) cap e - (len + k))).size = grownCap w (len + k) cap e * i.size := by
    rw [Array.size_append, size_zeroCells, hzs, List.size_toArray, hlen, ← Nat.add_mul]
    congr 1
    omega
  have hle : (len + k) * i.size ≤ grownCap w (len + k) cap e * i.size := Nat.mul_le_mul_right _ hge
  have hH' := hH.of_world (below_drew w)
  have hB : BR (m.add σ.next (w.drew.heap.size, grownCap w (len + k) cap e)) (w.drew.heap.size, grownCap w (len + k) cap e) (.row e ((len + k) * i.size) cs (some i.size))
      (some (.cells ((olds ++ news).toArray ++ Builtin.zeroCells zv.cells (grownCap w (len + k) cap e - (len + k))) e)) := by
    refine ⟨_, _, (0, 0), rfl, by simp, by rw [hsz]; exact hle, fun j c hj hc => ?_, hsz⟩
    obtain ⟨v, g1, g2⟩ := hcs j c hj hc
    refine ⟨v, ?_, g2.ext (M.ext_add _ (hH.fresh _ (Nat.le_refl _)))⟩
    rw [Array.getElem?_append_left (by rw [List.size_toArray, hlen]; exact hj)]
    simpa using g1
  exact ⟨_, _, (w.drew.heap.size, grownCap w (len + k) cap e), (Gr.of_world hH (below_drew w)).trans (Gr.new hH' _ _ _), hr, HR.new hH' _ _ _ hB, _, M.add_same .., by simp; exact hge, rfl⟩
theorem appNew_ok (he : ElemOk Pr tt e sz zz) (hu : Pr.underlying t = some (.slice e)) (hH : HR w0 m σ w) {ls l : List C} {olds : List Value} {A : Option Addr} {len cap : Nat}
    (hold : (Builtin.firstCells sz len (.slice A len cap)).run Pr w.drew = .ok olds.toArray w.drew) (hlo : olds.length = len * sz) (hls : All2 (CR m) ls olds) (hsrc : Src Pr sz t' u k news w) (hl : All2 (CR m) l news) (hg : cap < len + k)
    (h : appNew e sz (len + k) (ls ++ l) σ = some r) : GoodV Pr w0 m σ w (Builtin.append_ #[t, t'] ty #[.slice A len cap, u]) r := by
  unfold appNew at h
  split at h
  · rename_i hsm
    have hsm := Nat.le_of_ble_eq_true hsm
    obtain ⟨hp, nx⟩ := σ
    have hlen : (ls ++ l).length = (len + k) * sz := by rw [List.length_append, hls.length, hl.length, hlo, hsrc.newsLen, Nat.add_mul]
    obtain ⟨v', w', q, g1, g2, g3, g4⟩ := grown_ok he hu hH hold hlo hsrc hg hsm (cs := fill (ls ++ l) .nil 0) (fun j c hj hc => by
      rw [fill_eq, T.get_fill, T.get_nil] at hc
      split at hc
      · exact (All2.append hls hl).get (by simpa using hc)
      · cases hc) rfl
    have h' : some (R.val (.p (.c (.sl nx 0 (len + k) false 0))) ⟨put hp nx (some (.row e (ls ++ l).length (fill (ls ++ l) .nil 0) (some sz))), Nat.succ nx⟩) = some r := h
    rw [hlen, put_eq] at h'
    cases h'
    exact ⟨_, v', w', g1, g2, g3, g4⟩
  · cases h
theorem appIn_ok {i : TypeInfo} (hi : Pr.info? e = some i) (hs : i.size = sz) (hu : Pr.underlying t = some (.slice e)) (hH : HR w0 m σ w) {l : List C} {b o len cap rc : Nat} {kn : Bool} {q : Nat × Nat} (hq : m b = some q) (hsrc : Src Pr sz t' u k news w) (hl : All2 (CR m) l news) (hle : len + k ≤ rc)
    (hv : CR m (.sl b o (len + k) kn cap) (.slice (some ⟨q.1, o, none⟩) (len + k) rc)) (h : appIn b o len k sz cap kn l σ = some r) : GoodV Pr w0 m σ w (Builtin.append_ #[t, t'] ty #[.slice (some ⟨q.1, o, none⟩) len rc, u]) r := by
  unfold appIn at h
  split at h
  · rename_i σ' hp
    obtain ⟨w', g1, g2, g3⟩ := hH.put (Pr := Pr) (putCells_ok hp) hq hl
    obtain rfl := rC_some h
    exact ⟨m, _, w', g3, run_appIn hu hi hs hsrc hle g1, g2, hv⟩
  · cases h
theorem HR.drop (hH : HR w0 m σ w) (b : Nat) : HR w0 m ⟨σ.heap.put b none, σ.next⟩ w := by
  have key : ∀ i x, (σ.heap.put b none).get i = some x → σ.heap.get i = some x := fun i x h => by
    rw [T.get_put] at h
    split at h
    · cases h
    · exact h
  exact ⟨hH.below, hH.glob, hH.sym, hH.most, hH.fresh, hH.own, fun i x r hi hr => hH.live i x r (key i x hi) hr, fun i j bi bj r q hi hj hr hq hrq => hH.inj i j bi bj r q (key _ _ hi) (key _ _ hj) hr hq hrq⟩
theorem Gr.drop (hH : HR w0 m σ w) {b : Nat} {q : Nat × Nat} (hb : m b = some q) : Gr m σ w m ⟨σ.heap.put b none, σ.next⟩ w :=
  ⟨Ext.refl m, hH.fresh, Nat.le_refl _, Nat.le_refl _, fun _ _ h => .inl h, fun i _ hi => T.put_ne _ _ (fun he => by rw [he, hb] at hi; cases hi),
    fun i _ hi => (T.get_put _ _ _ _).trans (by split <;> first | rfl | exact hi), fun _ _ _ => rfl⟩
/-- A block that goes on under another number. -/
theorem HR.rename (hH : HR w0 m σ w) {b : Nat} {x : B} {q : Nat × Nat} (h64 : 64 ≤ b) (hb : σ.heap.get b = some x) (hq : m b = some q) {x' : B} {o : Obj} (hx : BR m q x' (some o)) :
    HR w0 (m.add σ.next q) ⟨(σ.heap.put b none).put σ.next (some x'), σ.next + 1⟩ (setB w q.1 o) := by
  have hn : m σ.next = none := hH.fresh _ (Nat.le_refl _)
  have ex := M.ext_add q hn
  have hmost := hH.most
  have hlt := (hH.live b x q hb hq).lt
  have hown := hH.own b q h64 hq
  have hbn : b ≠ σ.next := fun e => by rw [e, hn] at hq; cases hq
  have old : ∀ i y, i ≠ σ.next → ((σ.heap.put b none).put σ.next (some x')).get i = some y → i ≠ b ∧ σ.heap.get i = some y := fun i y hi h => by
    rw [T.put_ne _ _ hi, T.get_put] at h
    split at h
    · cases h
    · exact ⟨by assumption, h⟩
  have new : ((σ.heap.put b none).put σ.next (some x')).get σ.next = some x' := T.put_same ..
  refine ⟨⟨hH.below.os, hH.below.tape, hH.below.output, by rw [setB_size]; exact hH.below.size, fun k hk => ?_⟩, fun g hg => by rw [M.add_ne _ _ (by omega)]; exact hH.glob g hg, by rw [M.add_ne _ _ (by omega)]; exact hH.sym, by show 64 ≤ σ.next + 1; omega,
    fun i hi => by have hi : σ.next + 1 ≤ i := hi; rw [M.add_ne _ _ (by omega)]; exact hH.fresh i (by omega), fun i r hi hr => ?_, fun i y r hi hr => ?_, fun i j yi yj r p hi hj hr hp hrp => ?_⟩
  · rw [setB_ne _ _ (by omega)]; exact hH.below.block k hk
  · rw [setB_size]
    by_cases he : i = σ.next
    · rw [he, M.add_same] at hr; cases hr; exact hown
    · rw [M.add_ne _ _ he] at hr; exact hH.own i r hi hr
  · by_cases he : i = σ.next
    · rw [he] at hi hr
      rw [M.add_same] at hr
      cases hr
      rw [new] at hi
      cases hi
      rw [setB_same _ _ hlt]
      exact hx.ext ex
    · rw [M.add_ne _ _ he] at hr
      obtain ⟨h1, h2⟩ := old i y he hi
      rw [setB_ne]
      · exact (hH.live i y r h2 hr).ext ex
      · exact fun hc => h1 (hH.inj i b y x r q h2 hb hr hq hc)
  · by_cases h1 : i = σ.next <;> by_cases h2 : j = σ.next
    · rw [h1, h2]
    · rw [h1, M.add_same] at hr
      cases hr
      rw [M.add_ne _ _ h2] at hp
      obtain ⟨g1, g2⟩ := old j yj h2 hj
      exact absurd (hH.inj j b yj x p q g2 hb hp hq hrp.symm) g1
    · rw [h2, M.add_same] at hp
      cases hp
      rw [M.add_ne _ _ h1] at hr
      obtain ⟨g1, g2⟩ := old i yi h1 hi
      exact absurd (hH.inj i b yi x r q g2 hb hr hq hrp) g1
    · rw [M.add_ne _ _ h1] at hr
      rw [M.add_ne _ _ h2] at hp
      exact hH.inj i j yi yj r p (old i yi h1 hi).2 (old j yj h2 hj).2 hr hp hrp
theorem Gr.rename (hH : HR w0 m σ w) {b : Nat} {x : B} {q : Nat × Nat} (hb : σ.heap.get b = some x) (hq : m b = some q) (x' : B) (o : Obj) :
    Gr m σ w (m.add σ.next q) ⟨(σ.heap.put b none).put σ.next (some x'), σ.next + 1⟩ (setB w q.1 o) := by
  have hn : m σ.next = none := hH.fresh _ (Nat.le_refl _)
  refine ⟨M.ext_add q hn, hH.fresh, Nat.le_succ _, Nat.le_of_eq (setB_size ..).symm, fun i r hr => ?_, fun i hi hm => ?_, fun i hi hd => ?_, fun c _ hc => setB_ne _ _ fun he => hc b x q hb hq he.symm⟩
  · by_cases he : i = σ.next
    · rw [he, M.add_same] at hr
      cases hr
      exact .inr ⟨he ▸ hn, he ▸ Nat.le_refl _, .inr ⟨b, x, q, hb, hq, rfl⟩⟩
    · rw [M.add_ne _ _ he] at hr
      exact .inl hr
  · show ((σ.heap.put b none).put σ.next (some x')).get i = _
    rw [T.put_ne _ _ (by omega), T.put_ne _ _ fun he => by rw [he, hq] at hm; cases hm]
  · show ((σ.heap.put b none).put σ.next (some x')).get i = none
    rw [T.put_ne _ _ (by omega), T.get_put]
    split
    · rfl
    · exact hd
theorem appGrow_ok (he : ElemOk Pr tt e sz zz) (hu : Pr.underlying t = some (.slice e)) (hH : HR w0 m σ w) {l : List C} {b len : Nat} {cs : T C} {q : Nat × Nat} (hq : m b = some q)
    (hb : σ.heap.get b = some (.row e (len * sz) cs (some sz))) (hlen : len ≤ q.2) (hsrc : Src Pr sz t' u k news w) (hl : All2 (CR m) l news)
    (h : appGrow e sz b len k cs l σ = some r) : GoodV Pr w0 m σ w (Builtin.append_ #[t, t'] ty #[.slice (some ⟨q.1, 0, none⟩) len q.2, u]) r := by
  unfold appGrow at h
  split at h
  · rename_i h64
    have h64 := Nat.le_of_ble_eq_true h64
    split at h
    · rename_i hsm
      have hsm := Nat.le_of_ble_eq_true hsm
      obtain ⟨hp, nx⟩ := σ
      have h' : some (R.val (.p (.c (.sl nx 0 (len + k) false 0))) ⟨put (put hp b none) nx (some (.row e ((len + k) * sz) (fill l cs (len * sz)) (some sz))), Nat.succ nx⟩) = some r := h
      rw [put_eq, put_eq] at h'
      have hlk : l.length = k * sz := by rw [hl.length, hsrc.newsLen]
      by_cases hroom : len + k ≤ q.2
      · cases h'
        obtain ⟨cur, tyy, fr, g1, g2, g3, g4, g5⟩ := hH.live b _ q hb hq
        have hsize : (len + k) * sz ≤ cur.size := by rw [g5]; exact Nat.mul_le_mul_right _ hroom
        have hone : ∀ v ∈ news, (∀ cs, v ≠ .agg cs) ∧ ∀ cs, v ≠ .tuple cs := by
          intro v hv
          have := hsrc.one v hv
          constructor <;> (intro cs hc; subst hc; simp [Value.oneCell'] at this)
        have hn : news.length = k * sz := hsrc.newsLen
        rw [Nat.add_mul] at hsize
        have hst := run_storeCells (Pr := Pr) (b := q.1) (o := 0 + len * sz) news 0 w cur g1 (by omega) g2 hone
        refine ⟨_, _, _, Gr.rename hH hb hq _ _, run_appIn (o := 0) hu he.info.choose_spec.choose_spec.1 he.info.choose_spec.choose_spec.2.1 hsrc hroom hst, HR.rename hH h64 hb hq ?_, q, M.add_same .., by omega, rfl⟩
        refine ⟨_, tyy, fr, rfl, by rw [overA_size]; exact g2, by rw [overA_size, Nat.add_mul]; exact hsize, fun j c hj hc => ?_, by rw [overA_size]; exact g5⟩
        rw [fill_eq, T.get_fill] at hc
        rw [overA_get _ _ _ _ (by omega)]
        by_cases hin : len * sz ≤ j ∧ j < len * sz + l.length
        · rw [if_pos hin] at hc
          rw [if_pos (by omega)]
          obtain ⟨v, e1, e2⟩ := hl.get hc
          exact ⟨v, by rw [← e1]; congr 1; omega, e2⟩
        · rw [if_neg hin] at hc
          rw [if_neg (by omega)]
          rw [Nat.add_mul] at hj
          exact g4 j c (by omega) hc
      · have hD := HR.drop hH b
        obtain ⟨cur, tyy, fr, g1, g2, g3, g4, g5⟩ := hH.live b _ q hb hq
        have hlo : (cur.toList.take (len * sz)).length = len * sz := by simp; omega
        have hold : (Builtin.firstCells sz len (.slice (some ⟨q.1, 0, none⟩) len q.2)).run Pr w.drew = .ok (cur.toList.take (len * sz)).toArray w.drew := by
          have : (loadCells ⟨q.1, 0, none⟩ (cur.toList.take (len * sz)).length).run Pr w.drew = .ok (cur.toList.take (len * sz)).toArray w.drew :=
            Ev.run_loadCells (w := w.drew) g1 _ fun j hj => by rw [List.getElem?_take, if_pos (by omega)]; simp
          rw [hlo] at this
          exact this
        have key : ∀ j c, j < (len + k) * sz → (fill l cs (len * sz)).get j = some c → ∃ v, (cur.toList.take (len * sz) ++ news)[j]? = some v ∧ CR m c v := by
          intro j c hj hc
          rw [fill_eq, T.get_fill] at hc
          rw [Nat.add_mul] at hj
          by_cases hin : len * sz ≤ j ∧ j < len * sz + l.length
          · rw [if_pos hin] at hc
            rw [List.getElem?_append_right (by omega), hlo]
            exact hl.get hc
          · rw [if_neg hin] at hc
            have hj2 : j < len * sz := by omega
            obtain ⟨v, e1, e2⟩ := g4 j c hj2 hc
            refine ⟨v, ?_, e2⟩
            rw [List.getElem?_append_left (by omega), List.getElem?_take, if_pos hj2]
            simpa using e1
        obtain ⟨v', w', p, e1, e2, e3, e4⟩ := grown_ok (ty := ty) he hu hD hold hlo hsrc (by omega) hsm key rfl
        cases h'
        exact ⟨_, v', w', (Gr.drop hH hq).trans e1, e2, e3, e4⟩
    · cases h
  · cases h
end
end Kv
end Go.Proofs.YtngfeflemblljaaGreatDoor
