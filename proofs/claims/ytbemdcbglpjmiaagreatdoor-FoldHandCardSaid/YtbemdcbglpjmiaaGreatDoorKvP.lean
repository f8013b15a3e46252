/- The fast evaluator: equality; keys of maps. No program in sight. -/
import Derived.Test.YtbemdcbglpjmiaaGreatDoorKvN
import Derived.Laws.StructEq
import Derived.ChangeKeysEq
namespace Go.Proofs.YtbemdcbglpjmiaaGreatDoor
open Go.RowKit
namespace Kv
open Ev
set_option linter.unusedVariables false
set_option linter.unusedSimpArgs false
/-- Two cells of one kind, and whether they are the same. -/
def Form (d : TypeDesc) (u u' : Value) (r : Bool) : Prop :=
  (∃ q k i j, d = .int q ∧ u = .int k i ∧ u' = .int k j ∧ r = decide (i = j)) ∨
  (∃ s s', d = .string ∧ u = .string s ∧ u' = .string s' ∧ r = decide (s = s')) ∨
  (∃ x y, d = .bool ∧ u = .bool x ∧ u' = .bool y ∧ r = decide (x = y))
theorem Form.same {d : TypeDesc} {u u' : Value} (h : Form d u u' true) : u = u' := by
  rcases h with ⟨q, k, i, j, _, rfl, rfl, h⟩ | ⟨s, s', _, rfl, rfl, h⟩ | ⟨x, y, _, rfl, rfl, h⟩
  · rw [of_decide_eq_true h.symm]
  · rw [of_decide_eq_true h.symm]
  · rw [of_decide_eq_true h.symm]
theorem Form.self {d : TypeDesc} {u u' : Value} {r : Bool} (h : Form d u u' r) : Form d u u true := by
  rcases h with ⟨q, k, i, j, h1, rfl, rfl, h⟩ | ⟨s, s', h1, rfl, rfl, h⟩ | ⟨x, y, h1, rfl, rfl, h⟩
  · exact .inl ⟨q, k, i, i, h1, rfl, rfl, by simp⟩
  · exact .inr (.inl ⟨s, s, h1, rfl, rfl, by simp⟩)
  · exact .inr (.inr ⟨x, x, h1, rfl, rfl, by simp⟩)
section
variable {Pr : Program} {w0 w : World} {m : M} {F : Fr} {a : Go.Act} {n : Nat} {v : V} {t : TypeId} {x y z : Operand} {tt : T TypeInfo}
theorem bEq_eq (x y : Bool) : bEq x y = decide (x = y) := by cases x <;> cases y <;> rfl
theorem fits_form {d : TypeDesc} {c c' : C} {u u' : Value} {r : Bool} (h : fits d c c' = some r) (hc : CR m c u) (hc' : CR m c' u') : Form d u u' r := by
  unfold fits at h
  split at h
  · split at h
    · split at h
      · split at h
        · rename_i hk
          cases h
          obtain rfl := kNum_inj hk
          exact .inl ⟨_, _, _, _, rfl, hc, hc', eqI_eq _ _⟩
        · cases h
      · obtain ⟨r', hr, hc'⟩ := hc'
        split at h
        · rename_i hk
          obtain rfl := kNum_inj hk
          exact .inl ⟨_, _, _, _, rfl, hc, hc', by rw [lfEq_ok r'.2 h, lfN_den]⟩
        · cases h
      · cases h
    · obtain ⟨r', hr, hc⟩ := hc
      split at h
      · split at h
        · rename_i hk
          obtain rfl := kNum_inj hk
          exact .inl ⟨_, _, _, _, rfl, hc, hc', by rw [lfEq_ok r'.2 h, lfN_den]⟩
        · cases h
      · obtain ⟨r2, hr2, hc'⟩ := hc'
        obtain rfl : r2 = r' := Option.some.inj (hr2.symm.trans hr)
        split at h
        · rename_i hk
          obtain rfl := kNum_inj hk
          exact .inl ⟨_, _, _, _, rfl, hc, hc', lfEq_ok r2.2 h⟩
        · cases h
      · cases h
    · cases h
  · split at h
    · split at h
      · cases h
        obtain ⟨s, rfl, rfl⟩ := hc
        obtain ⟨s', rfl, rfl⟩ := hc'
        refine .inr (.inl ⟨s, s', rfl, rfl, rfl, ?_⟩)
        rw [strEq_eq, Bool.eq_iff_iff]
        simp [bytes_eq_iff]
      · cases h
    · cases h
  · split at h
    · split at h
      · cases h
        exact .inr (.inr ⟨_, _, rfl, hc, hc', bEq_eq _ _⟩)
      · cases h
    · cases h
  · cases h
theorem Form.run {d : TypeDesc} {u u' : Value} {r : Bool} {k : Nat} (ht : Pr.underlying t = some d) (h : Form d u u' r) : (Op.equalIn (k + 1) t u u').run Pr w = .ok r w := by
  rcases h with ⟨q, k', i, j, rfl, rfl, rfl, rfl⟩ | ⟨s, s', rfl, rfl, rfl, rfl⟩ | ⟨x, y, rfl, rfl, rfl, rfl⟩
  · rw [run_equalIn_int w _ _ _ _ _ _ ht]; rfl
  · rw [run_equalIn_string w _ _ _ _ ht, toList_beq]
  · rw [run_equalIn_bool w _ _ _ _ ht]; rfl
theorem Form.part {d : TypeDesc} {u u' : Value} {r : Bool} {cs : Array Value} {off : Nat} (ht : Pr.underlying t = some d) (h : Form d u u' r) {b : Value} (hb : cs[off]? = some b) : (Go.part t cs off).run Pr w = .ok b w := by
  have hg : (Go.isAgg t).run Pr w = .ok false w := by
    rcases h with ⟨q, k', i, j, rfl, rfl, rfl, rfl⟩ | ⟨s, s', rfl, rfl, rfl, rfl⟩ | ⟨x, y, rfl, rfl, rfl, rfl⟩ <;> simp [Go.isAgg, run_underlying ht]
  simp only [Go.part, Sem.run_bind, hg, Result.andThen_ok, Bool.false_eq_true, if_false, hb, Sem.run_pure]
theorem Form.check {d : TypeDesc} {u u' : Value} {r em : Bool} {k : Nat} (ht : Pr.underlying t = some d) (h : Form d u u' r) : (Instr.checkKey em (k + 1) t u).run Pr w = .ok () w := by
  rcases h with ⟨q, k', i, j, rfl, rfl, rfl, rfl⟩ | ⟨s, s', rfl, rfl, rfl, rfl⟩ | ⟨x, y, rfl, rfl, rfl, rfl⟩ <;> simp [Instr.checkKey, run_underlying ht]
/-- Rows of such cells. -/
def EqVals : List TypeDesc → List Value → List Value → Bool → Prop
  | [], [], [], r => r = true
  | d :: ds, u :: us, u' :: us', r => ∃ x, Form d u u' x ∧ (x = true → EqVals ds us us' r) ∧ (x = false → r = false)
  | _, _, _, _ => False
theorem eqFlat_vals : ∀ {ds : List TypeDesc} {l r : List C} {us us' : List Value} {b : Bool}, eqFlat ds l r = some b → All2 (CR m) l us → All2 (CR m) r us' → EqVals ds us us' b
  | [], [], [], [], [], b, h, _, _ => by simp [eqFlat] at h; subst h; exact rfl
  | d :: ds, c :: l, c' :: r, u :: us, u' :: us', b, h, ⟨h1, h2⟩, ⟨h3, h4⟩ => by
    rw [eqFlat] at h
    split at h
    · rename_i x hx
      have hf := fits_form hx h1 h3
      split at h
      · exact ⟨true, hf, fun _ => eqFlat_vals h h2 h4, fun e => by cases e⟩
      · cases h
        exact ⟨false, hf, (fun e => by cases e), fun _ => rfl⟩
    · cases h
  | [], c :: l, _, _, _, b, h, _, _ => by simp [eqFlat] at h
  | [], [], c :: r, _, _, b, h, _, _ => by simp [eqFlat] at h
  | d :: ds, [], _, _, _, b, h, _, _ => by simp [eqFlat] at h
  | d :: ds, c :: l, [], _, _, b, h, _, _ => by simp [eqFlat] at h
theorem EqVals.same : ∀ {ds : List TypeDesc} {us us' : List Value}, EqVals ds us us' true → us = us'
  | [], [], [], _ => rfl
  | d :: ds, u :: us, u' :: us', ⟨x, h1, h2, h3⟩ => by
    cases x with
    | true => rw [h1.same, EqVals.same (h2 rfl)]
    | false => exact absurd (h3 rfl) (by simp)
theorem EqVals.bits : ∀ {ds : List TypeDesc} {us : List Value}, EqVals ds us us true → (us.zip us).all (fun p => Instr.sameBits 9999 p.1 p.2) = true
  | [], [], _ => rfl
  | d :: ds, u :: us, ⟨x, h1, h2, h3⟩ => by
    cases x with
    | true =>
      simp only [List.zip_cons_cons, List.all_cons, EqVals.bits (h2 rfl), Bool.and_true]
      rcases h1 with ⟨q, k', i, j, _, rfl, _, _⟩ | ⟨s, s', _, rfl, _, _⟩ | ⟨x, y, _, rfl, _, _⟩ <;> simp [Instr.sameBits, beq_toListBytes]
    | false => exact absurd (h3 rfl) (by simp)
/-- A type whose values are rows of such cells. -/
structure FlatOk (Pr : Program) (t : TypeId) (ds : List TypeDesc) : Prop where
  eq : ∀ (w : World) (d : Nat) (xs ys : Array Value) (b : Bool), EqVals ds xs.toList ys.toList b → (Op.equalIn (d + 2) t (.agg xs) (.agg ys)).run Pr w = .ok b w
  guard : Pr.eqGuardType Pr.depth t = false
  under : ∃ D, Pr.underlying t = some D ∧ ∀ u u', Instr.sameNow D u u' = none
  key : ∀ (w : World) (em : Bool) (d : Nat) (xs : Array Value), EqVals ds xs.toList xs.toList true → (Instr.checkKey em (d + 2) t (.agg xs)).run Pr w = .ok () w
/-- The fields of a struct, cell by cell. -/
def FieldsAre (Pr : Program) : Nat → List Field → List TypeDesc → Prop
  | _, [], [] => True
  | i, f :: fs, d :: ds => f.name ≠ "_" ∧ f.offset = i ∧ Pr.underlying f.type = some d ∧ FieldsAre Pr (i + 1) fs ds
  | _, _, _ => False
theorem run_fields (d : Nat) (xs ys : Array Value) {b : Bool} : ∀ {i : Nat} {fs : List Field} {ds : List TypeDesc}, FieldsAre Pr i fs ds → EqVals ds (xs.toList.drop i) (ys.toList.drop i) b →
    (Op.eqFields (d + 1) xs ys fs).run Pr w = .ok b w
  | i, [], [], _, h => by
    have : b = true := by
      generalize xs.toList.drop i = p at h
      generalize ys.toList.drop i = q at h
      cases p <;> cases q <;> first | exact h | exact h.elim
    simp [Op.eqFields, this]
  | i, f :: fs, dd :: ds, ⟨h1, h2, h3, h4⟩, h => by
    match hp : xs.toList.drop i, hq : ys.toList.drop i, h with
    | u :: us, u' :: us', h =>
      obtain ⟨x, g1, g2, g3⟩ := h
      have e1 : xs[f.offset]? = some u := by
        have := congrArg List.head? hp
        rw [h2]; simpa using this
      have e2 : ys[f.offset]? = some u' := by
        have := congrArg List.head? hq
        rw [h2]; simpa using this
      simp only [Op.eqFields, if_pos h1, Sem.run_bind, g1.part h3 e1, g1.part h3 e2, Result.andThen_ok, g1.run h3]
      cases x with
      | true =>
        simp only [Bool.not_true, Bool.false_eq_true, if_false]
        refine run_fields d xs ys h4 ?_
        have t1 : xs.toList.drop (i + 1) = us := by rw [← List.drop_drop, hp]; rfl
        have t2 : ys.toList.drop (i + 1) = us' := by rw [← List.drop_drop, hq]; rfl
        rw [t1, t2]
        exact g2 rfl
      | false => simp [g3 rfl]
    | [], l, h => cases l <;> exact h.elim
    | u :: us, [], h => exact h.elim
  | i, [], d :: ds, h, _ => h.elim
  | i, f :: fs, [], h, _ => h.elim
theorem head_of {l : List Value} {i : Nat} {u : Value} {us : List Value} (h : l.drop i = u :: us) : l[i]? = some u ∧ l.drop (i + 1) = us := by
  refine ⟨?_, by rw [← List.drop_drop, h]; rfl⟩
  have := congrArg List.head? h
  simpa using this
theorem run_items (d : Nat) {e : TypeId} {dd : TypeDesc} (he : Pr.underlying e = some dd) (xs ys : Array Value) {b : Bool} : ∀ {k i : Nat}, EqVals (List.replicate k dd) (xs.toList.drop i) (ys.toList.drop i) b →
    (Op.eqItems (d + 1) e 1 xs ys (List.range' i k)).run Pr w = .ok b w
  | 0, i, h => by
    have : b = true := by
      generalize xs.toList.drop i = p at h
      generalize ys.toList.drop i = q at h
      cases p <;> cases q <;> first | exact h | exact h.elim
    simp [Op.eqItems, this]
  | k + 1, i, h => by
    rw [List.replicate_succ] at h
    match hp : xs.toList.drop i, hq : ys.toList.drop i, h with
    | u :: us, u' :: us', h =>
      obtain ⟨x, g1, g2, g3⟩ := h
      obtain ⟨e1, t1⟩ := head_of hp
      obtain ⟨e2, t2⟩ := head_of hq
      rw [List.range'_succ, Op.eqItems]
      have e1 : xs[i * 1]? = some u := by simpa using e1
      have e2 : ys[i * 1]? = some u' := by simpa using e2
      simp only [Sem.run_bind, g1.part he e1, g1.part he e2, Result.andThen_ok, g1.run he]
      cases x with
      | true =>
        simp only [Bool.not_true, Bool.false_eq_true, if_false]
        refine run_items d he xs ys ?_
        rw [t1, t2]
        exact g2 rfl
      | false => simp [g3 rfl]
    | [], l, h => cases l <;> exact h.elim
    | u :: us, [], h => exact h.elim
theorem check_fields (em : Bool) (d : Nat) (xs : Array Value) : ∀ {i : Nat} {fs : List Field} {ds : List TypeDesc}, FieldsAre Pr i fs ds → EqVals ds (xs.toList.drop i) (xs.toList.drop i) true →
    ∀ f ∈ fs, f.name ≠ "_" ∧ ∃ u, (Go.part f.type xs f.offset).run Pr w = .ok u w ∧ (Instr.checkKey em (d + 1) f.type u).run Pr w = .ok () w
  | i, [], ds, _, _, f, hf => by cases hf
  | i, f :: fs, dd :: ds, ⟨h1, h2, h3, h4⟩, h, g, hg => by
    match hp : xs.toList.drop i, h with
    | u :: us, h =>
      obtain ⟨x, g1, g2, g3⟩ := h
      obtain ⟨e1, t1⟩ := head_of hp
      rcases List.mem_cons.1 hg with rfl | hg
      · have e1 : xs[g.offset]? = some u := by rw [h2]; simpa using e1
        exact ⟨h1, u, g1.part h3 e1, g1.check h3⟩
      · cases x with
        | true =>
          refine check_fields em d xs h4 ?_ g hg
          rw [t1]
          exact g2 rfl
        | false => exact absurd (g3 rfl) (by simp)
    | [], h => exact h.elim
  | i, f :: fs, [], h, _, _, _ => h.elim
theorem flat_struct {fs : Array Field} {ds : List TypeDesc} (hu : Pr.underlying t = some (.struct fs)) (hs : Pr.stoodInHeld t = false) (hg : Pr.eqGuardType Pr.depth t = false)
    (hf : FieldsAre Pr 0 fs.toList ds) : FlatOk Pr t ds := by
  have hfs : Pr.fieldsOf t = fs := by simp [Program.fieldsOf, hu]
  refine ⟨fun w d xs ys b h => ?_, hg, ⟨_, hu, fun u u' => by cases u <;> cases u' <;> rfl⟩, fun w em d xs h => ?_⟩
  · rw [run_equalIn_struct w (d + 1) t xs ys (by rw [hfs]; exact hu) hs, hfs]
    exact run_fields d xs ys hf (by simpa using h)
  · have hc := check_fields (w := w) em d xs hf (by simpa using h)
    rw [show d + 2 = (d + 1) + 1 from rfl, Instr.checkKey]
    simp only [Sem.run_bind, run_underlying hu, Result.andThen_ok]
    rw [← Array.forIn_toList]
    generalize fs.toList = L at hc
    induction L with
    | nil => simp
    | cons f L ih =>
      obtain ⟨h1, u, h2, h3⟩ := hc f (by simp)
      simp only [List.forIn_cons, Sem.run_bind, h1, ne_eq, not_false_eq_true, if_true, Result.andThen_ok, h2, h3, Sem.run_pure]
      exact ih fun g hg => hc g (by simp [hg])
theorem check_items (em : Bool) (d : Nat) {e : TypeId} {dd : TypeDesc} (he : Pr.underlying e = some dd) (xs : Array Value) : ∀ {k i : Nat}, EqVals (List.replicate k dd) (xs.toList.drop i) (xs.toList.drop i) true →
    ∀ j ∈ List.range' i k, ∃ u, (Go.part e xs (j * 1)).run Pr w = .ok u w ∧ (Instr.checkKey em (d + 1) e u).run Pr w = .ok () w
  | 0, i, _, j, hj => by simp at hj
  | k + 1, i, h, j, hj => by
    rw [List.replicate_succ] at h
    match hp : xs.toList.drop i, h with
    | u :: us, h =>
      obtain ⟨x, g1, g2, g3⟩ := h
      obtain ⟨e1, t1⟩ := head_of hp
      rw [List.range'_succ] at hj
      rcases List.mem_cons.1 hj with rfl | hj
      · have e1 : xs[j * 1]? = some u := by simpa using e1
        exact ⟨u, g1.part he e1, g1.check he⟩
      · cases x with
        | true =>
          refine check_items em d he xs (i := i + 1) ?_ j hj
          rw [t1]
          exact g2 rfl
        | false => exact absurd (g3 rfl) (by simp)
    | [], h => exact h.elim
theorem flat_array {k : Nat} {e : TypeId} {dd : TypeDesc} {i : TypeInfo} (hu : Pr.underlying t = some (.array k e)) (he : Pr.underlying e = some dd) (hi : Pr.info? e = some i) (h1 : Pr.cellsOf e = 1) (hg : Pr.eqGuardType Pr.depth t = false) :
    FlatOk Pr t (List.replicate k dd) := by
  refine ⟨fun w d xs ys b h => ?_, hg, ⟨_, hu, fun u u' => by cases u <;> cases u' <;> rfl⟩, fun w em d xs h => ?_⟩
  · rw [run_equalIn_array w (d + 1) xs ys hu hi, h1, List.range_eq_range']
    exact run_items d he xs ys (by simpa using h)
  · have hc := check_items (w := w) em d he xs (i := 0) (by simpa using h)
    rw [show d + 2 = (d + 1) + 1 from rfl, Instr.checkKey]
    simp only [Sem.run_bind, run_underlying hu, Result.andThen_ok]
    simp only [Std.Legacy.Range.forIn_eq_forIn_range', Std.Legacy.Range.size, Nat.sub_zero, Nat.add_one_sub_one, Nat.div_one]
    generalize List.range' 0 k = L at hc
    induction L with
    | nil => simp
    | cons j L ih =>
      obtain ⟨u, h2, h3⟩ := hc j (by simp)
      have h2 : (Go.part e xs (j * Pr.cellsOf e)).run Pr w = .ok u w := by rw [h1]; exact h2
      simp only [List.forIn_cons, Sem.run_bind, run_sizeOf w hi, Result.andThen_ok, h2, h3, Sem.run_pure]
      exact ih fun g hg => hc g (by simp [hg])
/-! ### How keys are compared -/
def KKOk (Pr : Program) (k : TypeId) : KK → Prop
  | .leaf d => Pr.underlying k = some d
  | .flat ds => FlatOk Pr k ds
/-- Two values of one such type, and whether they are the same. -/
def KForm (k : KK) (u u' : Value) (r : Bool) : Prop := match k with
  | .leaf d => Form d u u' r
  | .flat ds => ∃ xs ys, u = .agg xs ∧ u' = .agg ys ∧ EqVals ds xs.toList ys.toList r
theorem kk_form {k : KK} {p p' : P} {u u' : Value} {r : Bool} (h : kkEq k p p' = some r) (hp : PR m p u) (hp' : PR m p' u') : KForm k u u' r := by
  unfold kkEq at h
  split at h
  · split at h
    · split at h
      · exact fits_form h hp hp'
      · cases h
    · cases h
  · split at h
    · cases h
    · split at h
      · cases h
      · obtain ⟨xs, rfl, h1⟩ := hp
        obtain ⟨ys, rfl, h2⟩ := hp'
        exact ⟨xs, ys, rfl, rfl, eqFlat_vals h h1 h2⟩
theorem KForm.same {k : KK} {u u' : Value} (h : KForm k u u' true) : u = u' := by
  cases k with
  | leaf d => exact Form.same h
  | flat ds =>
    obtain ⟨xs, ys, rfl, rfl, h⟩ := h
    rw [Array.toList_inj.1 h.same]
theorem KForm.bits {k : KK} {u : Value} (h : KForm k u u true) : Instr.sameBits 10000 u u = true := by
  cases k with
  | leaf d =>
    rcases h with ⟨q, k', i, j, _, rfl, _, _⟩ | ⟨s, s', _, rfl, _, _⟩ | ⟨x, y, _, rfl, _, _⟩ <;> simp [Instr.sameBits, beq_toListBytes]
  | flat ds =>
    obtain ⟨xs, ys, rfl, h2, h⟩ := h
    cases h2
    simp only [Instr.sameBits, h.bits, beq_self_eq_true, Bool.and_true]
theorem KForm.run {k : KK} {u u' : Value} {r : Bool} (hk : KKOk Pr t k) (h : KForm k u u' r) : (Op.equal t u u').run Pr w = .ok r w := by
  cases k with
  | leaf d => exact Form.run (k := 9999) hk h
  | flat ds =>
    obtain ⟨xs, ys, rfl, rfl, h⟩ := h
    exact hk.eq w 9998 xs ys r h
theorem KForm.check {k : KK} {u : Value} {em : Bool} (hk : KKOk Pr t k) (h : KForm k u u true) : (Instr.checkKey em 10000 t u).run Pr w = .ok () w := by
  cases k with
  | leaf d => exact Form.check (k := 9999) hk h
  | flat ds =>
    obtain ⟨xs, ys, rfl, h2, h⟩ := h
    cases h2
    exact hk.key w em 9998 xs h
theorem KForm.guard {k : KK} {u u' : Value} {r : Bool} {op : BinOp} (hk : KKOk Pr t k) (h : KForm k u u' r) : (eqGuard op t x y u u').run Pr w = .ok () w := by
  cases k with
  | leaf d =>
    rcases h with ⟨q, k', i, j, _, rfl, rfl, _⟩ | ⟨s, s', _, rfl, rfl, _⟩ | ⟨x, y, _, rfl, rfl, _⟩ <;> (unfold eqGuard; cases op <;> simp)
  | flat ds =>
    obtain ⟨xs, ys, rfl, rfl, h⟩ := h
    exact run_eqGuard_agg w op t x y xs ys hk.guard
theorem bV_some {o : Option Bool} (h : bV o = some v) : ∃ b, o = some b ∧ v = .p (.c (.bool b)) := by
  cases o with
  | none => cases h
  | some b => cases h; exact ⟨b, rfl, rfl⟩
theorem nbV_some {o : Option Bool} (h : nbV o = some v) : ∃ b, o = some b ∧ v = .p (.c (.bool (!b))) := by
  cases o with
  | none => cases h
  | some b => cases h; exact ⟨b, rfl, by rw [bNot_eq]⟩
/-- Neither are both integers nor both strings. -/
def NoFast (k : KK) : Prop := (∀ q, k ≠ .leaf (.int q)) ∧ k ≠ .leaf .string
theorem KForm.bin {k : KK} {u u' : Value} {r : Bool} (hk : KKOk Pr t k) (hn : NoFast k) (h : KForm k u u' r) :
    (Go.binOp .eql t u u').run Pr w = .ok (.bool r) w ∧ (Go.binOp .neq t u u').run Pr w = .ok (.bool (!r)) w := by
  have hr := h.run (w := w) hk
  cases k with
  | leaf d =>
    rcases h with ⟨q, k', i, j, rfl, rfl, rfl, _⟩ | ⟨s, s', rfl, rfl, rfl, _⟩ | ⟨x, y, rfl, rfl, rfl, _⟩
    · exact absurd rfl (hn.1 q)
    · exact absurd rfl hn.2
    · simp only [Go.binOp, Sem.run_bind, hr, Result.andThen_ok, Sem.run_pure, and_self]
  | flat ds =>
    obtain ⟨xs, ys, rfl, rfl, h⟩ := h
    simp only [Go.binOp, Sem.run_bind, hr, Result.andThen_ok, Sem.run_pure, and_self]
theorem eqK_ok {k : KK} (hF : FR m n F a) (hG : Globs m) (hk : KKOk Pr t k) (hn : NoFast k) (h : onPP (opd x) (opd y) (eqK k) F = some v) :
    GoodP Pr m w (do eqGuard .eql t x y (a.eval x) (a.eval y); Go.binOp .eql t (a.eval x) (a.eval y)) v := by
  obtain ⟨c, d, hc, hd, h⟩ := onPP_ok hF hG h
  obtain ⟨b, h1, rfl⟩ := bV_some h
  have hf := kk_form h1 hc hd
  exact ⟨.bool b, by rw [Sem.run_bind, hf.guard hk]; exact (hf.bin hk hn).1, rfl⟩
theorem neK_ok {k : KK} (hF : FR m n F a) (hG : Globs m) (hk : KKOk Pr t k) (hn : NoFast k) (h : onPP (opd x) (opd y) (neK k) F = some v) :
    GoodP Pr m w (do eqGuard .neq t x y (a.eval x) (a.eval y); Go.binOp .neq t (a.eval x) (a.eval y)) v := by
  obtain ⟨c, d, hc, hd, h⟩ := onPP_ok hF hG h
  obtain ⟨b, h1, rfl⟩ := nbV_some h
  have hf := kk_form h1 hc hd
  exact ⟨.bool (!b), by rw [Sem.run_bind, hf.guard hk]; exact (hf.bin hk hn).2, rfl⟩
theorem eqNil_val {c d : C} {u u' : Value} {b : Bool} (h : eqNil c d = some b) (hc : CR m c u) (hd : CR m d u') :
    ∃ A l k A' l' k', u = .slice A l k ∧ u' = .slice A' l' k' ∧ (A = none ∧ b = A'.isNone ∨ A' = none ∧ b = A.isNone) := by
  have key : ∀ {c : C} {u : Value}, CR m c u → (c = .slx ∨ ∃ b o len kn cap, c = .sl b o len kn cap) → ∃ A l k, u = .slice (some A) l k := by
    intro c u hc he
    rcases he with rfl | ⟨b, o, len, kn, cap, rfl⟩
    · obtain ⟨A, k, rfl⟩ := hc; exact ⟨A, 0, k, rfl⟩
    · obtain ⟨q, k, _, rfl⟩ := sl_ok hc; exact ⟨_, _, k, rfl⟩
  have nil : ∀ {u : Value}, CR m .nsl u → u = .slice none 0 0 := fun h => h
  unfold eqNil at h
  split at h
  · obtain rfl := nil hc
    split at h
    · cases h; obtain rfl := nil hd; exact ⟨none, 0, 0, none, 0, 0, rfl, rfl, .inl ⟨rfl, rfl⟩⟩
    · cases h; obtain ⟨A, l, k, rfl⟩ := key hd (.inr ⟨_, _, _, _, _, rfl⟩); exact ⟨none, 0, 0, some A, l, k, rfl, rfl, .inl ⟨rfl, rfl⟩⟩
    · cases h; obtain ⟨A, l, k, rfl⟩ := key hd (.inl rfl); exact ⟨none, 0, 0, some A, l, k, rfl, rfl, .inl ⟨rfl, rfl⟩⟩
    · cases h
  · obtain ⟨A, l, k, rfl⟩ := key hc (.inr ⟨_, _, _, _, _, rfl⟩)
    split at h
    · cases h; obtain rfl := nil hd; exact ⟨some A, l, k, none, 0, 0, rfl, rfl, .inr ⟨rfl, rfl⟩⟩
    · cases h
  · obtain ⟨A, l, k, rfl⟩ := key hc (.inl rfl)
    split at h
    · cases h; obtain rfl := nil hd; exact ⟨some A, l, k, none, 0, 0, rfl, rfl, .inr ⟨rfl, rfl⟩⟩
    · cases h
  · cases h
theorem run_eqNil {e : TypeId} (hu : Pr.underlying t = some (.slice e)) {A A' : Option Addr} {l k l' k' : Nat} {b : Bool} (h : A = none ∧ b = A'.isNone ∨ A' = none ∧ b = A.isNone) :
    (Op.equal t (.slice A l k) (.slice A' l' k')).run Pr w = .ok b w := by
  show (Op.equalIn (9999 + 1) t (.slice A l k) (.slice A' l' k')).run Pr w = .ok b w
  generalize 9999 = d
  rcases h with ⟨rfl, rfl⟩ | ⟨rfl, rfl⟩
  · simp [Op.equalIn, run_underlying hu]
  · cases A <;> simp [Op.equalIn, run_underlying hu]
theorem eqN_ok {e : TypeId} (hF : FR m n F a) (hG : Globs m) (hu : Pr.underlying t = some (.slice e)) (h : on2 (opd x) (opd y) eqN F = some v) :
    GoodP Pr m w (do eqGuard .eql t x y (a.eval x) (a.eval y); Go.binOp .eql t (a.eval x) (a.eval y)) v := by
  obtain ⟨c, d, hc, hd, h⟩ := on2_ok hF hG h
  obtain ⟨b, h1, rfl⟩ := bV_some h
  obtain ⟨A, l, k, A', l', k', e1, e2, h2⟩ := eqNil_val h1 hc hd
  exact ⟨.bool b, by rw [e1, e2]; simp [eqGuard, Go.binOp, run_eqNil hu h2], rfl⟩
theorem neN_ok {e : TypeId} (hF : FR m n F a) (hG : Globs m) (hu : Pr.underlying t = some (.slice e)) (h : on2 (opd x) (opd y) neN F = some v) :
    GoodP Pr m w (do eqGuard .neq t x y (a.eval x) (a.eval y); Go.binOp .neq t (a.eval x) (a.eval y)) v := by
  obtain ⟨c, d, hc, hd, h⟩ := on2_ok hF hG h
  obtain ⟨b, h1, rfl⟩ := nbV_some h
  obtain ⟨A, l, k, A', l', k', e1, e2, h2⟩ := eqNil_val h1 hc hd
  exact ⟨.bool (!b), by rw [e1, e2]; simp [eqGuard, Go.binOp, run_eqNil hu h2], rfl⟩
theorem eqPtr_val {c d : C} {u u' : Value} {b : Bool} (h : eqPtr c d = some b) (hc : CR m c u) (hd : CR m d u') :
    ∃ A A' : Option Addr, u = .pointer A ∧ u' = .pointer A' ∧ (A = none ∧ b = A'.isNone ∨ A' = none ∧ b = A.isNone) := by
  have key : ∀ {a : Nat × Nat} {u : Value}, CR m (.ptr (some a)) u → ∃ A, u = .pointer (some A) := fun {a u} h => by
    obtain ⟨r, _, rfl⟩ : ∃ r, m a.1 = some r ∧ u = .pointer (some ⟨r.1, a.2, none⟩) := h
    exact ⟨_, rfl⟩
  have nil : ∀ {u : Value}, CR m (.ptr none) u → u = .pointer none := fun h => h
  unfold eqPtr at h
  split at h
  · rename_i a
    split at h
    · rename_i b'
      split at h
      · obtain rfl := nil hc
        split at h
        · cases h; obtain rfl := nil hd; exact ⟨none, none, rfl, rfl, .inl ⟨rfl, rfl⟩⟩
        · cases h; obtain ⟨A, rfl⟩ := key hd; exact ⟨none, some A, rfl, rfl, .inl ⟨rfl, rfl⟩⟩
      · obtain ⟨A, rfl⟩ := key hc
        split at h
        · cases h; obtain rfl := nil hd; exact ⟨some A, none, rfl, rfl, .inr ⟨rfl, rfl⟩⟩
        · cases h
    · cases h
  · cases h
theorem run_eqPtr {e : TypeId} (hu : Pr.underlying t = some (.pointer e)) {A A' : Option Addr} {b : Bool} (h : A = none ∧ b = A'.isNone ∨ A' = none ∧ b = A.isNone) :
    (Op.equal t (.pointer A) (.pointer A')).run Pr w = .ok b w := by
  show (Op.equalIn (9999 + 1) t (.pointer A) (.pointer A')).run Pr w = .ok b w
  generalize 9999 = d
  rcases h with ⟨rfl, rfl⟩ | ⟨rfl, rfl⟩
  · simp [Op.equalIn, run_underlying hu]
  · cases A <;> simp [Op.equalIn, run_underlying hu]
theorem eqQ_ok {e : TypeId} (hF : FR m n F a) (hG : Globs m) (hu : Pr.underlying t = some (.pointer e)) (h : on2 (opd x) (opd y) eqQ F = some v) :
    GoodP Pr m w (do eqGuard .eql t x y (a.eval x) (a.eval y); Go.binOp .eql t (a.eval x) (a.eval y)) v := by
  obtain ⟨c, d, hc, hd, h⟩ := on2_ok hF hG h
  obtain ⟨b, h1, rfl⟩ := bV_some h
  obtain ⟨A, A', e1, e2, h2⟩ := eqPtr_val h1 hc hd
  exact ⟨.bool b, by rw [e1, e2]; simp [eqGuard, Go.binOp, run_eqPtr hu h2], rfl⟩
theorem neQ_ok {e : TypeId} (hF : FR m n F a) (hG : Globs m) (hu : Pr.underlying t = some (.pointer e)) (h : on2 (opd x) (opd y) neQ F = some v) :
    GoodP Pr m w (do eqGuard .neq t x y (a.eval x) (a.eval y); Go.binOp .neq t (a.eval x) (a.eval y)) v := by
  obtain ⟨c, d, hc, hd, h⟩ := on2_ok hF hG h
  obtain ⟨b, h1, rfl⟩ := nbV_some h
  obtain ⟨A, A', e1, e2, h2⟩ := eqPtr_val h1 hc hd
  exact ⟨.bool (!b), by rw [e1, e2]; simp [eqGuard, Go.binOp, run_eqPtr hu h2], rfl⟩
theorem eqMap_val {c d : C} {u u' : Value} {b : Bool} (h : eqMap c d = some b) (hc : CR m c u) (hd : CR m d u') :
    ∃ A A' : Option Nat, u = .map A ∧ u' = .map A' ∧ (A = none ∧ b = A'.isNone ∨ A' = none ∧ b = A.isNone) := by
  have key : ∀ {a : Nat} {u : Value}, CR m (.map (some a)) u → ∃ A, u = .map (some A) := fun {a u} h => by
    obtain ⟨r, _, rfl⟩ : ∃ r, m a = some r ∧ u = .map (some r.1) := h
    exact ⟨_, rfl⟩
  have nil : ∀ {u : Value}, CR m (.map none) u → u = .map none := fun h => h
  unfold eqMap at h
  split at h
  · rename_i a
    split at h
    · rename_i b'
      split at h
      · obtain rfl := nil hc
        split at h
        · cases h; obtain rfl := nil hd; exact ⟨none, none, rfl, rfl, .inl ⟨rfl, rfl⟩⟩
        · cases h; obtain ⟨A, rfl⟩ := key hd; exact ⟨none, some A, rfl, rfl, .inl ⟨rfl, rfl⟩⟩
      · obtain ⟨A, rfl⟩ := key hc
        split at h
        · cases h; obtain rfl := nil hd; exact ⟨some A, none, rfl, rfl, .inr ⟨rfl, rfl⟩⟩
        · cases h
    · cases h
  · cases h
theorem run_eqMap {k e : TypeId} (hu : Pr.underlying t = some (.map k e)) {A A' : Option Nat} {b : Bool} (h : A = none ∧ b = A'.isNone ∨ A' = none ∧ b = A.isNone) :
    (Op.equal t (.map A) (.map A')).run Pr w = .ok b w := by
  show (Op.equalIn (9999 + 1) t (.map A) (.map A')).run Pr w = .ok b w
  generalize 9999 = d
  rcases h with ⟨rfl, rfl⟩ | ⟨rfl, rfl⟩
  · cases A' <;> simp [Op.equalIn, run_underlying hu]
  · cases A <;> simp [Op.equalIn, run_underlying hu]
theorem eqM_ok {k e : TypeId} (hF : FR m n F a) (hG : Globs m) (hu : Pr.underlying t = some (.map k e)) (h : on2 (opd x) (opd y) eqM F = some v) :
    GoodP Pr m w (do eqGuard .eql t x y (a.eval x) (a.eval y); Go.binOp .eql t (a.eval x) (a.eval y)) v := by
  obtain ⟨c, d, hc, hd, h⟩ := on2_ok hF hG h
  obtain ⟨b, h1, rfl⟩ := bV_some h
  obtain ⟨A, A', e1, e2, h2⟩ := eqMap_val h1 hc hd
  exact ⟨.bool b, by rw [e1, e2]; simp [eqGuard, Go.binOp, run_eqMap hu h2], rfl⟩
theorem neM_ok {k e : TypeId} (hF : FR m n F a) (hG : Globs m) (hu : Pr.underlying t = some (.map k e)) (h : on2 (opd x) (opd y) neM F = some v) :
    GoodP Pr m w (do eqGuard .neq t x y (a.eval x) (a.eval y); Go.binOp .neq t (a.eval x) (a.eval y)) v := by
  obtain ⟨c, d, hc, hd, h⟩ := on2_ok hF hG h
  obtain ⟨b, h1, rfl⟩ := nbV_some h
  obtain ⟨A, A', e1, e2, h2⟩ := eqMap_val h1 hc hd
  exact ⟨.bool (!b), by rw [e1, e2]; simp [eqGuard, Go.binOp, run_eqMap hu h2], rfl⟩
end
end Kv
end Go.Proofs.YtbemdcbglpjmiaaGreatDoor
