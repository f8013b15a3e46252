/- The fast evaluator: fields, cuts, functions made. No program in sight. -/
import Derived.Test.YtngfeflemblljaaGreatDoorKvM
namespace Go.Proofs.YtngfeflemblljaaGreatDoor
open Go.RowKit
namespace Kv
open Ev
set_option linter.unusedVariables false
set_option linter.unusedSimpArgs false
section
variable {Pr : Program} {w0 w : World} {m : M} {F : Fr} {a : Go.Act} {n : Nat} {v : V} {t : TypeId} {x y z : Operand} {tt : T TypeInfo} {α : Type} {q : α}
theorem fieldA_ok {f ft off k : Nat} (hT : Tab Pr tt) (hF : FR m n F a) (hG : Globs m) (hf : fieldOff tt t f = some (ft, off)) (hg : Ev.isAgg tt ft = some true)
    (hs : size tt ft = some k) (h : onP (opd x) (partA k off) F = some v) : GoodP Pr m w (Instr.field t (a.eval x) f) v := by
  obtain ⟨c, hc, hk⟩ := onP_ok hF hG h
  unfold partA at hk
  split at hk
  · rename_i l
    split at hk
    · rename_i hle
      have hle := Nat.le_of_ble_eq_true hle
      cases hk
      obtain ⟨cs, hx, h2⟩ := hc
      unfold fieldOff at hf
      split at hf
      · rename_i fs hu
        split at hf
        · rename_i g hg'
          cases hf
          refine ⟨.agg (cs.extract g.offset (g.offset + k)), by simp only [hx, Instr.field, asAgg, part, Sem.run_bind, Sem.run_pure, Result.andThen_ok, run_under hT hu, hg', run_isAgg hT hg, run_size hT hs, if_true], _, rfl, ?_⟩
          have := (h2.drop g.offset).take k
          simpa using this
        · cases hf
      · cases hf
    · cases hk
  · cases hk
theorem fieldC_ok {f ft off : Nat} (hT : Tab Pr tt) (hF : FR m n F a) (hG : Globs m) (hf : fieldOff tt t f = some (ft, off)) (hg : Ev.isAgg tt ft = some false)
    (h : onP (opd x) (partC off) F = some v) : GoodP Pr m w (Instr.field t (a.eval x) f) v := by
  obtain ⟨c, hc, hk⟩ := onP_ok hF hG h
  unfold partC at hk
  split at hk
  · rename_i l
    split at hk
    · rename_i c r hl
      cases hk
      obtain ⟨cs, hx, h2⟩ := hc
      unfold fieldOff at hf
      split at hf
      · rename_i fs hu
        split at hf
        · rename_i g hg'
          cases hf
          have h3 : l[g.offset]? = some c := by
            have := congrArg List.head? hl
            simpa using this
          obtain ⟨u, h4, h5⟩ := h2.get h3
          rw [Array.getElem?_toList] at h4
          exact ⟨u, by simp only [hx, Instr.field, asAgg, part, Sem.run_bind, Sem.run_pure, Result.andThen_ok, run_under hT hu, hg', run_isAgg hT hg, Bool.false_eq_true, if_false, h4], h5⟩
        · cases hf
      · cases hf
    · cases hk
  · cases hk
/-- A part of a row of cells. -/
theorem partA_ok {c : P} {u : Value} {k off : Nat} {ft : TypeId} (hT : Tab Pr tt) (hg : Ev.isAgg tt ft = some true) (hs : size tt ft = some k) (hc : PR m c u) (h : partA k off c = some v) : ∃ cs, u = .agg cs ∧ ∃ u', (Go.part ft cs off).run Pr w = .ok u' w ∧ VR m v u' := by
  unfold partA at h
  split at h
  · rename_i l
    split at h
    · cases h
      obtain ⟨cs, rfl, h2⟩ := hc
      refine ⟨cs, rfl, .agg (cs.extract off (off + k)), by simp only [part, Sem.run_bind, Sem.run_pure, Result.andThen_ok, run_isAgg hT hg, run_size hT hs, if_true], _, rfl, ?_⟩
      have := (h2.drop off).take k
      simpa using this
    · cases h
  · cases h
theorem partC_ok {c : P} {u : Value} {off : Nat} {ft : TypeId} (hT : Tab Pr tt) (hg : Ev.isAgg tt ft = some false) (hc : PR m c u) (h : partC off c = some v) : ∃ cs, u = .agg cs ∧ ∃ u', (Go.part ft cs off).run Pr w = .ok u' w ∧ VR m v u' := by
  unfold partC at h
  split at h
  · rename_i l
    split at h
    · rename_i c r hl
      cases h
      obtain ⟨cs, rfl, h2⟩ := hc
      have h3 : l[off]? = some c := by
        have := congrArg List.head? hl
        simpa using this
      obtain ⟨u, h4, h5⟩ := h2.get h3
      rw [Array.getElem?_toList] at h4
      exact ⟨cs, rfl, u, by simp only [part, Sem.run_bind, Sem.run_pure, Result.andThen_ok, run_isAgg hT hg, Bool.false_eq_true, if_false, h4], h5⟩
    · cases h
  · cases h
theorem ixA_ok {e k sz : Nat} (hT : Tab Pr tt) (hF : FR m n F a) (hG : Globs m) (hu : under tt t = some (.array k e)) (hg : Ev.isAgg tt e = some true) (hs : size tt e = some sz)
    (h : onPC (opd x) (opd y) (ixA k sz) F = some v) : GoodP Pr m w (Instr.index t (a.eval x) (a.eval y)) v := by
  obtain ⟨c, d, hc, hd, h⟩ := onPC_ok hF hG h
  obtain ⟨kd, i, hy, h⟩ := natOf_ok h hd
  split at h
  · rename_i hlt
    have hlt := Nat.le_of_ble_eq_true hlt
    obtain ⟨cs, hx, u', h1, h2⟩ := partA_ok (Pr := Pr) (w := w) hT hg hs hc h
    have h3 : (0 : Int) ≤ (i : Int) ∧ (i : Int) < (k : Int) := ⟨by omega, by omega⟩
    exact ⟨u', by simp only [hx, hy, Instr.index, asIntOf, Sem.run_bind, Sem.run_pure, Result.andThen_ok, run_under hT hu, if_pos h3, run_size hT hs, Int.toNat_natCast]; exact h1, h2⟩
  · cases h
theorem ixC_ok {e k sz : Nat} (hT : Tab Pr tt) (hF : FR m n F a) (hG : Globs m) (hu : under tt t = some (.array k e)) (hg : Ev.isAgg tt e = some false) (hs : size tt e = some sz)
    (h : onPC (opd x) (opd y) (ixC k sz) F = some v) : GoodP Pr m w (Instr.index t (a.eval x) (a.eval y)) v := by
  obtain ⟨c, d, hc, hd, h⟩ := onPC_ok hF hG h
  obtain ⟨kd, i, hy, h⟩ := natOf_ok h hd
  split at h
  · rename_i hlt
    have hlt := Nat.le_of_ble_eq_true hlt
    obtain ⟨cs, hx, u', h1, h2⟩ := partC_ok (Pr := Pr) (w := w) hT hg hc h
    have h3 : (0 : Int) ≤ (i : Int) ∧ (i : Int) < (k : Int) := ⟨by omega, by omega⟩
    exact ⟨u', by simp only [hx, hy, Instr.index, asIntOf, Sem.run_bind, Sem.run_pure, Result.andThen_ok, run_under hT hu, if_pos h3, run_size hT hs, Int.toNat_natCast]; exact h1, h2⟩
  · cases h
theorem opds_ok (hF : FR m n F a) (hG : Globs m) : ∀ (l : List Operand), All2 (VR m) (valsOf F (opds l)) (l.map a.eval)
  | [] => trivial
  | x :: l => ⟨opd_ok hF hG x, opds_ok hF hG l⟩
theorem addrs_ok (hF : FR m n F a) (hG : Globs m) : ∀ (l : List Operand) {r : List (Nat × Nat)}, addrs F (opds l) = some r → All2 (PA m) r (l.map a.eval)
  | [], r, h => by cases h; trivial
  | x :: l, r, h => by
    rw [opds, addrs] at h
    split at h
    · rename_i p hp
      split at h
      · rename_i r' hr'
        cases h
        exact ⟨asC_ok hp (opd_ok hF hG x), addrs_ok hF hG l hr'⟩
      · cases h
    · cases h
theorem mkFn_ok {f : Nat} {cap first : Array Operand} (hF : FR m n F a) (hG : Globs m) (hf : first.toList = []) (h : mkFn f (opds cap.toList) F = some v) :
    GoodP Pr m w (Instr.makeFunc (.func f) (first.map a.eval) (cap.map a.eval)) v := by
  unfold mkFn at h
  split at h
  · rename_i r hr
    obtain rfl := vC_some h
    have hf : first = #[] := Array.toList_inj.1 hf
    subst hf
    refine ⟨.func (.func f) #[] (cap.map a.eval), by simp [Instr.makeFunc], _, rfl, ?_⟩
    have := addrs_ok hF hG cap.toList hr
    simpa using this
  · cases h
/-! ### Cuts -/
def BoundIs (a : Go.Act) (b : Option Operand) (d h : Nat) : Prop := match b with
  | none => h = d
  | some x => ∃ kd, a.eval x = .int kd (h : Nat)
theorem natO_ok (hF : FR m n F a) (hG : Globs m) {b : Option Operand} {d : Nat} {k : Nat → Option α} (h : natO (opdO b) d F k = some q) : ∃ i, BoundIs a b d i ∧ k i = some q := by
  cases b with
  | none => exact ⟨d, rfl, h⟩
  | some x =>
    have h' : (match asC ((opd x).f F) with | some c => natOf c k | none => none) = some q := h
    split at h'
    · rename_i c hc
      obtain ⟨kd, i, h1, h2⟩ := natOf_ok h' (asC_ok hc (opd_ok hF hG x))
      exact ⟨i, ⟨kd, h1⟩, h2⟩
    · cases h'
theorem bounds_ok {b : Bool} {len cap l h : Nat} {lo hi : Option Operand} (hh : BoundIs a hi len h) (hl : BoundIs a lo 0 l) (h1 : l ≤ h) (h2 : h ≤ cap) :
    (Instr.sliceBounds b len cap (lo.map a.eval) (hi.map a.eval) none).run Pr w = .ok (l, h, cap) w := by
  have i1 : (0 : Int) ≤ (h : Int) ∧ (h : Int) ≤ (cap : Int) := ⟨by omega, by omega⟩
  have i2 : (0 : Int) ≤ (l : Int) ∧ (l : Int) ≤ (h : Int) := ⟨by omega, by omega⟩
  cases hi with
  | none =>
    have hh : h = len := hh
    cases lo with
    | none => have hl : l = 0 := hl; subst hh hl; simp [Instr.sliceBounds]
    | some y =>
      obtain ⟨k2, e2⟩ := hl
      subst hh
      simp only [Instr.sliceBounds, Instr.sliceBound, asIntOf, e2, Option.map_some, Option.map_none, Sem.run_bind, Sem.run_pure, Result.andThen_ok, if_pos i2, Int.toNat_natCast]
  | some x =>
    obtain ⟨k1, e1⟩ := hh
    cases lo with
    | none =>
      have hl : l = 0 := hl
      subst hl
      simp only [Instr.sliceBounds, Instr.sliceBound, asIntOf, e1, Option.map_some, Option.map_none, Sem.run_bind, Sem.run_pure, Result.andThen_ok, if_pos i1, Int.toNat_natCast]
    | some y =>
      obtain ⟨k2, e2⟩ := hl
      simp only [Instr.sliceBounds, Instr.sliceBound, asIntOf, e1, e2, Option.map_some, Option.map_none, Sem.run_bind, Sem.run_pure, Result.andThen_ok, if_pos i1, if_pos i2, Int.toNat_natCast]
theorem bounds3_ok {len cap l h mx : Nat} {lo : Option Operand} {hi mo : Operand} (hm : BoundIs a (some mo) 0 mx) (hh : BoundIs a (some hi) 0 h) (hl : BoundIs a lo 0 l) (h1 : l ≤ h) (h2 : h ≤ mx) (h3 : mx ≤ cap) :
    (Instr.sliceBounds true len cap (lo.map a.eval) (some (a.eval hi)) (some (a.eval mo))).run Pr w = .ok (l, h, mx) w := by
  have i0 : (0 : Int) ≤ (mx : Int) ∧ (mx : Int) ≤ (cap : Int) := ⟨by omega, by omega⟩
  have i1 : (0 : Int) ≤ (h : Int) ∧ (h : Int) ≤ (mx : Int) := ⟨by omega, by omega⟩
  have i2 : (0 : Int) ≤ (l : Int) ∧ (l : Int) ≤ (h : Int) := ⟨by omega, by omega⟩
  obtain ⟨k0, e0⟩ := hm
  obtain ⟨k1, e1⟩ := hh
  cases lo with
  | none =>
    have hl : l = 0 := hl
    subst hl
    simp only [Instr.sliceBounds, Instr.sliceBound, asIntOf, e0, e1, Option.map_some, Option.map_none, Sem.run_bind, Sem.run_pure, Result.andThen_ok, if_pos i0, if_pos i1, Int.toNat_natCast]
  | some y =>
    obtain ⟨k2, e2⟩ := hl
    simp only [Instr.sliceBounds, Instr.sliceBound, asIntOf, e0, e1, e2, Option.map_some, Option.map_none, Sem.run_bind, Sem.run_pure, Result.andThen_ok, if_pos i0, if_pos i1, if_pos i2, Int.toNat_natCast]
theorem run_cutA {e sz : Nat} (hT : Tab Pr tt) (hu : under tt t = some (.slice e)) (hs : size tt e = some sz) {A : Option Addr} {len cap l h mx : Nat} {b1 b2 b3 : Option Value}
    (hb : (Instr.sliceBounds true len cap b1 b2 b3).run Pr w = .ok (l, h, mx) w) :
    (Instr.sliceAt t (.slice A len cap) b1 b2 b3).run Pr w = .ok (.slice (if mx = l then A else A.map (·.add (l * sz))) (h - l) (mx - l)) w := by
  simp only [Instr.sliceAt, Instr.slice, Sem.run_bind, Sem.run_pure, Result.andThen_ok, run_under hT hu, hb, run_size hT hs]
theorem cutKn_val {b o sz l h mx : Nat} {r : Nat × Nat} (hb : m b = some r) (hk : cutKn b o sz l h mx = some v) :
    l ≤ h ∧ h ≤ mx ∧ VR m v (.slice (if mx = l then some ⟨r.1, o, none⟩ else (some ⟨r.1, o, none⟩ : Option Addr).map (·.add (l * sz))) (h - l) (mx - l)) := by
  unfold cutKn at hk
  split at hk
  · rename_i h1
    split at hk
    · rename_i h2
      obtain rfl := vC_some hk
      refine ⟨Nat.le_of_ble_eq_true h1, Nat.le_of_ble_eq_true h2, r, hb, ?_⟩
      cases he : Nat.beq mx l with
      | true =>
        have := Nat.eq_of_beq_eq_true he
        simp [this]
      | false =>
        have : mx ≠ l := fun e => by subst e; rw [Nat.beq_refl] at he; cases he
        simp [this, add_eq]
    · cases hk
  · cases hk
theorem cutSl_ok {e sz : Nat} {lo hi : Option Operand} (hT : Tab Pr tt) (hF : FR m n F a) (hG : Globs m) (hu : under tt t = some (.slice e)) (hs : size tt e = some sz)
    (h : cutSl sz (opd x) (opdO lo) (opdO hi) F = some v) : GoodP Pr m w (Instr.sliceAt t (a.eval x) (lo.map a.eval) (hi.map a.eval) none) v := by
  unfold cutSl at h
  split at h
  · rename_i c hc
    have hc := asC_ok hc (opd_ok hF hG x)
    split at h
    · obtain ⟨i, hi1, h⟩ := natO_ok hF hG h
      obtain ⟨j, hj1, h⟩ := natO_ok hF hG h
      split at h
      · rename_i h0
        obtain rfl := vC_some h
        have h0 : i + j = 0 := h0
        obtain rfl : i = 0 := by omega
        obtain rfl : j = 0 := by omega
        have hx : a.eval x = .slice none 0 0 := hc
        exact ⟨.slice none 0 0, by rw [hx, run_cutA hT hu hs (bounds_ok hi1 hj1 (Nat.le_refl _) (Nat.le_refl _))]; simp, rfl⟩
      · cases h
    · rename_i b o len kn cap _
      obtain ⟨i, hi1, h⟩ := natO_ok hF hG h
      obtain ⟨j, hj1, h⟩ := natO_ok hF hG h
      cases kn with
      | true =>
        obtain ⟨r, hr, hx⟩ := hc
        obtain ⟨h1, h2, h3⟩ := cutKn_val hr h
        exact ⟨_, by rw [hx, run_cutA hT hu hs (bounds_ok hi1 hj1 h1 h2)], h3⟩
      | false =>
        obtain ⟨r, hr, hle, hx⟩ := hc
        simp only [cutUn] at h
        split at h
        · rename_i h1
          split at h
          · rename_i h2
            have h1 := Nat.le_of_ble_eq_true h1
            have h2 := Nat.le_of_ble_eq_true h2
            refine ⟨_, by rw [hx, run_cutA hT hu hs (bounds_ok hi1 hj1 h1 (by omega))], ?_⟩
            split at h
            · obtain rfl := vC_some h
              refine ⟨r, hr, by omega, ?_⟩
              split <;> simp [add_eq]
            · rename_i hj0
              split at h
              · rename_i he
                have he := Nat.eq_of_beq_eq_true he
                obtain rfl := vC_some h
                subst he
                refine (show ∃ a c, _ = Value.slice (some a) 0 c from ?_)
                split
                · exact ⟨_, _, by rw [Nat.sub_self]⟩
                · exact ⟨_, _, by rw [Nat.sub_self]; rfl⟩
              · rename_i he
                have hne : j ≠ i := fun e => by subst e; rw [Nat.beq_refl] at he; cases he
                obtain rfl := vC_some h
                refine ⟨r, hr, by simp only [Nat.add_eq, Nat.sub_eq]; omega, ?_⟩
                rw [if_neg (by omega)]
                simp [add_eq]
                omega
          · cases h
        · cases h
    · cases h
  · cases h
theorem cutSl3_ok {e sz : Nat} {lo : Option Operand} {hi mo : Operand} (hT : Tab Pr tt) (hF : FR m n F a) (hG : Globs m) (hu : under tt t = some (.slice e)) (hs : size tt e = some sz)
    (h : cutSl3 sz (opd x) (opdO lo) (opd hi) (opd mo) F = some v) : GoodP Pr m w (Instr.sliceAt t (a.eval x) (lo.map a.eval) (some (a.eval hi)) (some (a.eval mo))) v := by
  unfold cutSl3 at h
  split at h
  · rename_i c hc
    have hc := asC_ok hc (opd_ok hF hG x)
    split at h
    · obtain ⟨k, hk1, h⟩ := natO_ok (b := some mo) hF hG h
      obtain ⟨i, hi1, h⟩ := natO_ok (b := some hi) hF hG h
      obtain ⟨j, hj1, h⟩ := natO_ok hF hG h
      split at h
      · rename_i h0
        obtain rfl := vC_some h
        have h0 : i + (j + k) = 0 := h0
        obtain rfl : i = 0 := by omega
        obtain rfl : j = 0 := by omega
        obtain rfl : k = 0 := by omega
        have hx : a.eval x = .slice none 0 0 := hc
        exact ⟨.slice none 0 0, by rw [hx, run_cutA hT hu hs (bounds3_ok hk1 hi1 hj1 (Nat.le_refl _) (Nat.le_refl _) (Nat.le_refl _))]; simp, rfl⟩
      · cases h
    · rename_i b o len kn cap _
      obtain ⟨k, hk1, g1⟩ := natO_ok (b := some mo) hF hG h
      obtain ⟨i, hi1, g2⟩ := natO_ok (b := some hi) hF hG g1
      obtain ⟨j, hj1, h3⟩ := natO_ok hF hG g2
      clear h g1 g2
      have h := h3
      clear h3
      split at h
      · rename_i hle
        have hle := Nat.le_of_ble_eq_true hle
        cases kn with
        | true =>
          obtain ⟨r, hr, hx⟩ := hc
          obtain ⟨h1, h2, h3⟩ := cutKn_val hr h
          exact ⟨_, by rw [hx, run_cutA hT hu hs (bounds3_ok hk1 hi1 hj1 h1 h2 hle)], h3⟩
        | false =>
          obtain ⟨r, hr, hle2, hx⟩ := hc
          obtain ⟨h1, h2, h3⟩ := cutKn_val hr h
          have hle : k ≤ len := hle
          exact ⟨_, by rw [hx, run_cutA hT hu hs (bounds3_ok hk1 hi1 hj1 h1 h2 (by omega))], h3⟩
      · cases h
    · cases h
  · cases h
theorem bytes_extract (s : ByteArray) (l h : Nat) : Ev.bytes (s.extract l h) = ((Ev.bytes s).drop l).take (h - l) := by
  simp [Ev.bytes, ByteArray.data_extract, List.map_take, List.map_drop]
theorem cutStr_ok {lo hi : Option Operand} (hT : Tab Pr tt) (hF : FR m n F a) (hG : Globs m) (hu : under tt t = some .string)
    (h : cutStr (opd x) (opdO lo) (opdO hi) F = some v) : GoodP Pr m w (Instr.sliceAt t (a.eval x) (lo.map a.eval) (hi.map a.eval) none) v := by
  unfold cutStr at h
  split at h
  · rename_i s hs
    obtain ⟨q, hx, rfl⟩ := asC_ok hs (opd_ok hF hG x)
    obtain ⟨i, hi1, h⟩ := natO_ok hF hG h
    obtain ⟨j, hj1, h⟩ := natO_ok hF hG h
    rw [bytes_length] at hi1
    split at h
    · rename_i h1
      split at h
      · rename_i h2
        have h1 := Nat.le_of_ble_eq_true h1
        have h2 := Nat.le_of_ble_eq_true h2
        rw [bytes_length] at h2
        obtain rfl := vC_some h
        refine ⟨.string (q.extract j i), ?_, q.extract j i, rfl, bytes_extract q j i⟩
        simp [hx, Instr.sliceAt, Instr.slice, run_under hT hu, bounds_ok (b := false) hi1 hj1 h1 h2]
      · cases h
    · cases h
  · cases h
end
end Kv
end Go.Proofs.YtngfeflemblljaaGreatDoor
