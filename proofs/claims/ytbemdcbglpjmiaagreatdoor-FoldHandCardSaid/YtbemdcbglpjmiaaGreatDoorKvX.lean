/- The fast evaluator: all its operations are the model's. No program in sight. -/
import Derived.Test.YtbemdcbglpjmiaaGreatDoorKvW
namespace Go.Proofs.YtbemdcbglpjmiaaGreatDoor
open Go.RowKit
namespace Kv
open Ev
set_option linter.unusedVariables false
set_option linter.unusedSimpArgs false
/-- What a closure says of the model's operation. -/
def AcOk (Pr : Program) (w0 : World) (o : Oper) : Ac → Prop
  | .pure f => ∀ (n : Nat) F (a : Go.Act) m w v, FR m n F a → Globs m → f F = some v → ∃ v', (execOp a.eval o).run Pr w = .ok (.value v') w ∧ VR m v v'
  | .read f => ∀ (n : Nat) F (a : Go.Act) m σ w v, FR m n F a → HR w0 m σ w → f F σ = some v → ∃ v', (execOp a.eval o).run Pr w = .ok (.value v') w ∧ VR m v v'
  | .alloc f => ∀ (n : Nat) F (a : Go.Act) m w z, FR m n F a → Globs m → f F = some z → ∃ v' ob k, (execOp a.eval o).run Pr w = .ok (.value v') (w.alloc ob) ∧
      ∀ (m' : M) x, Ext m m' → m' x = some (w.heap.size, k) → BR m' (w.heap.size, k) z.b (some ob) ∧ CR m' (z.pt x) v'
  | .loud f => ∀ (n : Nat) F (a : Go.Act) m σ w r, FR m n F a → HR w0 m σ w → f F σ = some r → Good Pr w0 m σ w (execOp a.eval o) r
  | .bad => True
section
variable {Pr : Program} {w0 : World} {o : Oper} {tt : T TypeInfo} {fl : T (List TypeDesc)}
theorem acP {f : Fr → Option V} (s : Go.Act → Sem Value) (hs : ∀ a, execOp a.eval o = (do pure (.value (← s a))))
    (h : ∀ (n : Nat) F (a : Go.Act) m w v, FR m n F a → Globs m → f F = some v → GoodP Pr m w (s a) v) : AcOk Pr w0 o (.pure f) := by
  intro n F a m w v hF hG hf
  obtain ⟨v', h1, h2⟩ := h n F a m w v hF hG hf
  exact ⟨v', by rw [hs]; simp [h1], h2⟩
theorem acR {f : Fr → St → Option V} (s : Go.Act → Sem Value) (hs : ∀ a, execOp a.eval o = (do pure (.value (← s a))))
    (h : ∀ (n : Nat) F (a : Go.Act) m σ w v, FR m n F a → HR w0 m σ w → f F σ = some v → GoodP Pr m w (s a) v) : AcOk Pr w0 o (.read f) := by
  intro n F a m σ w v hF hH hf
  obtain ⟨v', h1, h2⟩ := h n F a m σ w v hF hH hf
  exact ⟨v', by rw [hs]; simp [h1], h2⟩
theorem acA {f : Fr → Option Al} (s : Go.Act → Sem Value) (hs : ∀ a, execOp a.eval o = (do pure (.value (← s a))))
    (h : ∀ (n : Nat) F (a : Go.Act) m w z, FR m n F a → Globs m → f F = some z → GoodA Pr m w (s a) z) : AcOk Pr w0 o (.alloc f) := by
  intro n F a m w z hF hG hf
  obtain ⟨v', ob, k, h1, h2⟩ := h n F a m w z hF hG hf
  exact ⟨v', ob, k, by rw [hs]; simp [h1], h2⟩
theorem acL {f : Fr → St → Option R} (s : Go.Act → Sem Value) (hs : ∀ a, execOp a.eval o = (do pure (.value (← s a))))
    (h : ∀ (n : Nat) F (a : Go.Act) m σ w r, FR m n F a → HR w0 m σ w → f F σ = some r → GoodV Pr w0 m σ w (s a) r) : AcOk Pr w0 o (.loud f) := by
  intro n F a m σ w r hF hH hf
  rw [hs]
  exact (h n F a m σ w r hF hH hf).good
theorem kkOf_ok (hT : Tab Pr tt) (hfl : ∀ t ds, get fl t = some ds → FlatOk Pr t ds) {t : Nat} {kk : KK} (h : kkOf tt fl t = some kk) : KKOk Pr t kk := by
  unfold kkOf at h
  split at h
  · rename_i d hd
    have hu := under_ok hT hd
    split at h
    · cases h; exact hu
    · cases h; exact hu
    · cases h; exact hu
    · split at h
      · rename_i ds hds; cases h; exact hfl _ _ hds
      · cases h
  · cases h
theorem mkInt_ok {op : BinOp} {t yt : TypeId} {x y : Operand} (ho : ∀ a : Go.Act, execOp a.eval o = (do pure (.value (← (do eqGuard op t x y (a.eval x) (a.eval y); Go.binOp op t (a.eval x) (a.eval y)))))) :
    AcOk Pr w0 o (mkInt op (opd x) (opd y)) := by
  cases op <;> unfold mkInt <;> first
    | exact trivial
    | exact acP _ ho fun n F a m w v hF hG h => intOp_ok hF hG add_ok gAdd_ok h
    | exact acP _ ho fun n F a m w v hF hG h => intOp_ok hF hG sub_ok gSub_ok h
    | exact acP _ ho fun n F a m w v hF hG h => intOp_ok hF hG mul_ok gMul_ok h
    | exact acP _ ho fun n F a m w v hF hG h => intOpZ_ok hF hG quo_ok h
    | exact acP _ ho fun n F a m w v hF hG h => intOpZ_ok hF hG rem_ok h
    | exact acP _ ho fun n F a m w v hF hG h => intOp_ok hF hG eq_ok gEq_ok h
    | exact acP _ ho fun n F a m w v hF hG h => intOp_ok hF hG ne_ok gNe_ok h
    | exact acP _ ho fun n F a m w v hF hG h => intOp_ok hF hG lt_ok gLt_ok h
    | exact acP _ ho fun n F a m w v hF hG h => intOp_ok hF hG le_ok gLe_ok h
    | exact acP _ ho fun n F a m w v hF hG h => intOp_ok hF hG gt_ok gGt_ok h
    | exact acP _ ho fun n F a m w v hF hG h => intOp_ok hF hG ge_ok gGe_ok h
    | exact acP _ ho fun n F a m w v hF hG h => intOp_ok hF hG and_ok (gNo_ok _) h
    | exact acP _ ho fun n F a m w v hF hG h => intOp_ok hF hG or_ok (gNo_ok _) h
    | exact acP _ ho fun n F a m w v hF hG h => intOp_ok hF hG xor_ok (gNo_ok _) h
    | exact acP _ ho fun n F a m w v hF hG h => shOp_ok hF hG rfl shl_ok h
    | exact acP _ ho fun n F a m w v hF hG h => shOp_ok hF hG rfl shr_ok h
theorem mkStr_ok {op : BinOp} {t yt : TypeId} {x y : Operand} (ho : ∀ a : Go.Act, execOp a.eval o = (do pure (.value (← (do eqGuard op t x y (a.eval x) (a.eval y); Go.binOp op t (a.eval x) (a.eval y)))))) :
    AcOk Pr w0 o (mkStr op (opd x) (opd y)) := by
  cases op <;> unfold mkStr <;> first
    | exact trivial
    | exact acP _ ho fun n F a m w v hF hG h => sAdd_ok hF hG h
    | exact acP _ ho fun n F a m w v hF hG h => strOp_ok hF hG seq_ok tEq_ok h
    | exact acP _ ho fun n F a m w v hF hG h => strOp_ok hF hG sne_ok tNe_ok h
    | exact acP _ ho fun n F a m w v hF hG h => strOp_ok hF hG slt_ok (tNo_ok _) h
    | exact acP _ ho fun n F a m w v hF hG h => strOp_ok hF hG sle_ok (tNo_ok _) h
    | exact acP _ ho fun n F a m w v hF hG h => strOp_ok hF hG sgt_ok (tNo_ok _) h
    | exact acP _ ho fun n F a m w v hF hG h => strOp_ok hF hG sge_ok (tNo_ok _) h
theorem mkKK_ok {op : BinOp} {t yt : TypeId} {x y : Operand} {k : KK} (hk : KKOk Pr t k) (hn : NoFast k) (ho : ∀ a : Go.Act, execOp a.eval o = (do pure (.value (← (do eqGuard op t x y (a.eval x) (a.eval y); Go.binOp op t (a.eval x) (a.eval y)))))) :
    AcOk Pr w0 o (mkKK k op (opd x) (opd y)) := by
  cases op <;> unfold mkKK <;> first
    | exact trivial
    | exact acP _ ho fun n F a m w v hF hG h => eqK_ok hF hG hk hn h
    | exact acP _ ho fun n F a m w v hF hG h => neK_ok hF hG hk hn h
theorem mkNil_ok {op : BinOp} {t yt e : TypeId} {x y : Operand} (hu : Pr.underlying t = some (.slice e)) (ho : ∀ a : Go.Act, execOp a.eval o = (do pure (.value (← (do eqGuard op t x y (a.eval x) (a.eval y); Go.binOp op t (a.eval x) (a.eval y)))))) :
    AcOk Pr w0 o (mkNil op (opd x) (opd y)) := by
  cases op <;> unfold mkNil <;> first
    | exact trivial
    | exact acP _ ho fun n F a m w v hF hG h => eqN_ok hF hG hu h
    | exact acP _ ho fun n F a m w v hF hG h => neN_ok hF hG hu h
theorem mkPtrN_ok {op : BinOp} {t yt e : TypeId} {x y : Operand} (hu : Pr.underlying t = some (.pointer e)) (ho : ∀ a : Go.Act, execOp a.eval o = (do pure (.value (← (do eqGuard op t x y (a.eval x) (a.eval y); Go.binOp op t (a.eval x) (a.eval y)))))) :
    AcOk Pr w0 o (mkPtrN op (opd x) (opd y)) := by
  cases op <;> unfold mkPtrN <;> first
    | exact trivial
    | exact acP _ ho fun n F a m w v hF hG h => eqQ_ok hF hG hu h
    | exact acP _ ho fun n F a m w v hF hG h => neQ_ok hF hG hu h
theorem mkMapN_ok {op : BinOp} {t yt k e : TypeId} {x y : Operand} (hu : Pr.underlying t = some (.map k e)) (ho : ∀ a : Go.Act, execOp a.eval o = (do pure (.value (← (do eqGuard op t x y (a.eval x) (a.eval y); Go.binOp op t (a.eval x) (a.eval y)))))) :
    AcOk Pr w0 o (mkMapN op (opd x) (opd y)) := by
  cases op <;> unfold mkMapN <;> first
    | exact trivial
    | exact acP _ ho fun n F a m w v hF hG h => eqM_ok hF hG hu h
    | exact acP _ ho fun n F a m w v hF hG h => neM_ok hF hG hu h
theorem builtin_len {c : Call} {b : Builtin} (hc : c.callee = .builtin b) {t ty : TypeId} (hts : c.argTypes.toList = [t]) {a : Go.Act} {x : Operand} (ha : c.args.toList = [x]) (hb : b = .len) :
    (do let d ← resolve a.eval c ty; invoke d.target d.args : Sem Next) = (do pure (.value (← Builtin.len_ #[t] ty #[a.eval x]))) := by
  subst hb
  have h1 : c.argTypes = #[t] := Array.toList_inj.1 hts
  have h2 : c.args = #[x] := Array.toList_inj.1 ha
  unfold resolve
  simp only [hc, h1, h2]
  rw [pure_bind]
  simp only [invoke, builtin, List.map_toArray, List.map_cons, List.map_nil]
theorem builtin_two {c : Call} {b : Builtin} (hc : c.callee = .builtin b) {ty : TypeId} {a : Go.Act} {x y : Operand} (ha : c.args.toList = [x, y]) {g : Value → Value → Sem Value}
    (hb : ∀ ts : Array TypeId, ∀ cs : Array Bool, builtin b ts ty cs #[a.eval x, a.eval y] = (do pure (.value (← g (a.eval x) (a.eval y))))) :
    (do let d ← resolve a.eval c ty; invoke d.target d.args : Sem Next) = (do pure (.value (← g (a.eval x) (a.eval y)))) := by
  have h2 : c.args = #[x, y] := Array.toList_inj.1 ha
  rw [← hb c.argTypes (c.args.map fun | .const _ => true | _ => false)]
  unfold resolve
  simp only [hc, h2]
  rw [pure_bind]
  simp only [invoke, List.map_toArray, List.map_cons, List.map_nil]
  rfl
theorem opds_one {l : List Operand} {g : Get} (h : opds l = [g]) : ∃ x, l = [x] ∧ g = opd x := by
  match l, h with
  | [x], h => simp [opds] at h; exact ⟨x, rfl, h.symm⟩
theorem opds_two {l : List Operand} {g h : Get} (hl : opds l = [g, h]) : ∃ x y, l = [x, y] ∧ g = opd x ∧ h = opd y := by
  match l, hl with
  | [x, y], hl => simp [opds] at hl; exact ⟨x, y, rfl, hl.1.symm, hl.2.symm⟩
theorem builtin_ok (hT : Tab Pr tt) {c : Call} {b : Builtin} (hc : c.callee = .builtin b) {ty : TypeId} (ho : ∀ a : Go.Act, execOp a.eval o = (do let d ← resolve a.eval c ty; invoke d.target d.args)) :
    AcOk Pr w0 o (mkBuiltin tt b c.argTypes.toList (opds c.args.toList)) := by
  unfold mkBuiltin
  split
  · split
    · rename_i t g hts hl
      obtain ⟨x, hx, rfl⟩ := opds_one hl
      split
      · rename_i hu
        exact acP _ (fun a => (ho a).trans (builtin_len hc hts hx rfl)) fun n F a m w v hF hG h => lenStr_ok hT hF hG hu h
      · rename_i e hu
        exact acP _ (fun a => (ho a).trans (builtin_len hc hts hx rfl)) fun n F a m w v hF hG h => lenSl_ok hT hF hG hu h
      · exact trivial
    · exact trivial
  · split
    · rename_i t t' g h hts hl
      obtain ⟨x, y, hx, rfl, rfl⟩ := opds_two hl
      split
      · rename_i e e' hu hu'
        split
        · rename_i q hq
          refine acL (fun a => Builtin.append_ #[t, t'] ty #[a.eval x, a.eval y]) (fun a => (ho a).trans ?_) fun n F a m σ w r hF hH h => app_ok hT hF hH hu hu' (elem_ok hT hq) h
          have h1 : c.argTypes = #[t, t'] := Array.toList_inj.1 hts
          have h2 : c.args = #[x, y] := Array.toList_inj.1 hx
          unfold resolve
          simp only [hc, h1, h2]
          rw [pure_bind]
          simp only [invoke, builtin, List.map_toArray, List.map_cons, List.map_nil]
        · exact trivial
      · exact trivial
    · exact trivial
  · split
    · rename_i g h hl
      obtain ⟨x, y, hx, rfl, rfl⟩ := opds_two hl
      exact acP (fun a => Builtin.min2 (a.eval x) (a.eval y)) (fun a => (ho a).trans (builtin_two hc hx fun ts cs => by simp [builtin, Builtin.min_])) fun n F a m w v hF hG h => minmax_ok hF hG min2_ok h
    · exact trivial
  · split
    · rename_i g h hl
      obtain ⟨x, y, hx, rfl, rfl⟩ := opds_two hl
      exact acP (fun a => Builtin.max2 (a.eval x) (a.eval y)) (fun a => (ho a).trans (builtin_two hc hx fun ts cs => by simp [builtin, Builtin.max_])) fun n F a m w v hF hG h => minmax_ok hF hG max2_ok h
    · exact trivial
  · exact trivial
theorem act_ok (hT : Tab Pr tt) (hfl : ∀ t ds, get fl t = some ds → FlatOk Pr t ds) (o : Oper) : AcOk Pr w0 o (act tt fl o.op) := by
  obtain ⟨dst, op, type, pos, after, guard⟩ := o
  show AcOk Pr w0 _ (act tt fl op)
  cases op with
  | move x => exact fun n F a m w v hF hG h => ⟨a.eval x, rfl, mv_ok hF hG h⟩
  | assign x => exact fun n F a m w v hF hG h => ⟨a.eval x, rfl, mv_ok hF hG h⟩
  | pick c x y => exact fun n F a m w v hF hG h => pick_ok hF hG h
  | alloc e =>
    simp only [act]
    split
    · rename_i z hz
      exact acA _ (fun a => rfl) fun n F a m w z hF hG h => alloc_ok hT hz h
    · exact trivial
  | box e x => exact acA _ (fun a => rfl) fun n F a m w z hF hG h => box_ok hF hG h
  | build t ps =>
    simp only [act]
    split
    · rename_i z fs hz hu
      split
      · rename_i pl hpl
        exact acP _ (fun a => rfl) fun n F a m w v hF hG h => buildS_ok hT hF hG hz hu hpl h
      · exact trivial
    · rename_i z k e hz hu
      split
      · rename_i sz hsz
        exact acP _ (fun a => rfl) fun n F a m w v hF hG h => buildA_ok hT hF hG hz hu hsz h
      · exact trivial
    · exact trivial
  | buildSlice t k ps =>
    simp only [act]
    split
    · rename_i e hu
      split
      · rename_i q hq
        split
        · rename_i hle
          have hle := Nat.le_of_ble_eq_true hle
          exact acA _ (fun a => rfl) fun n F a m w z hF hG h => slice_ok hT hF hG hu (elem_ok hT hq) hle h
        · exact trivial
      · exact trivial
    · exact trivial
  | load t x =>
    simp only [act]
    split
    · rename_i k hg hs
      exact acR _ (fun a => rfl) fun n F a m σ w v hF hH h => loadA_ok hT hF hH hg hs h
    · rename_i _ hg
      exact acR _ (fun a => rfl) fun n F a m σ w v hF hH h => loadC_ok hT hF hH hg h
    · exact trivial
  | store t x y =>
    simp only [act]
    split
    · rename_i k hs
      exact fun n F a m σ w r hF hH h => storeP_ok hT hF hH hs h
    · exact trivial
  | nilCheck x => exact fun n F a m w v hF hG h => nonNil_ok hF hG rfl h
  | binOp op t x y yt =>
    simp only [act, mkBin]
    split
    · rename_i d hd
      split
      · exact mkInt_ok (yt := yt) fun a => rfl
      · exact mkStr_ok (yt := yt) fun a => rfl
      · exact mkKK_ok (yt := yt) (k := .leaf .bool) (under_ok hT hd) ⟨(fun q h => by cases h), (fun h => by cases h)⟩ fun a => rfl
      · exact mkNil_ok (yt := yt) (under_ok hT hd) fun a => rfl
      · exact mkPtrN_ok (yt := yt) (under_ok hT hd) fun a => rfl
      · exact mkMapN_ok (yt := yt) (under_ok hT hd) fun a => rfl
      · split
        · rename_i ds hds
          exact mkKK_ok (yt := yt) (k := .flat ds) (hfl _ _ hds) ⟨(fun q h => by cases h), (fun h => by cases h)⟩ fun a => rfl
        · exact trivial
    · exact trivial
  | unOp op t x =>
    cases op <;> first
      | exact trivial
      | exact acP _ (fun a => rfl) fun n F a m w v hF hG h => uNeg_ok hF hG h
      | exact acP _ (fun a => rfl) fun n F a m w v hF hG h => uNot_ok hF hG h
  | convert s d x =>
    simp only [act]
    split
    · rename_i ds k hs hd
      exact acP _ (fun a => rfl) fun n F a m w v hF hG h => conInt_ok hT hF hG hs hd h
    · rename_i hs hd
      exact acP _ (fun a => rfl) fun n F a m w v hF hG h => conStr_ok hT hF hG hs hd h
    · rename_i e hs hd
      split
      · rename_i he
        exact acR _ (fun a => rfl) fun n F a m σ w v hF hH h => conBytes_ok hT hF hH hs hd he h
      · exact trivial
    · exact trivial
  | makeFunc fn first cap =>
    simp only [act]
    split
    · split
      · rename_i hf
        exact acP _ (fun a => rfl) fun n F a m w v hF hG h => mkFn_ok hF hG hf h
      · exact trivial
    · exact trivial
  | makeMap t r =>
    simp only [act]
    split
    · exact acA _ (fun a => rfl) fun n F a m w z hF hG h => newMap_ok h
    · exact trivial
  | makeSlice t l c =>
    simp only [act]
    split
    · rename_i e hu
      split
      · rename_i q hq
        exact acA _ (fun a => rfl) fun n F a m w z hF hG h => make_ok hT hF hG hu (elem_ok hT hq) h
      · exact trivial
    · exact trivial
  | slice t x lo hi mx =>
    simp only [act]
    split
    · rename_i hu
      split
      · exact acP _ (fun a => rfl) fun n F a m w v hF hG h => cutStr_ok hT hF hG hu h
      · exact trivial
    · rename_i e hu
      split
      · rename_i sz hs
        split
        · exact acP _ (fun a => rfl) fun n F a m w v hF hG h => cutSl_ok hT hF hG hu hs h
        · split
          · exact acP _ (fun a => rfl) fun n F a m w v hF hG h => cutSl3_ok hT hF hG hu hs h
          · exact trivial
      · exact trivial
    · exact trivial
  | fieldAddr t x f =>
    simp only [act]
    split
    · rename_i y hy
      split
      · rename_i k hs
        exact acP _ (fun a => rfl) fun n F a m w v hF hG h => addOff_ok hT hF hG hy hs h
      · exact trivial
    · exact trivial
  | field t x f =>
    simp only [act]
    split
    · rename_i y hy
      split
      · rename_i k hg hs
        exact acP _ (fun a => rfl) fun n F a m w v hF hG h => fieldA_ok hT hF hG hy hg hs h
      · rename_i hg hs
        exact acP _ (fun a => rfl) fun n F a m w v hF hG h => fieldC_ok hT hF hG hy hg h
      · exact trivial
    · exact trivial
  | indexAddr t x i =>
    simp only [act]
    split
    · rename_i e hu
      split
      · rename_i sz hs
        exact acP _ (fun a => rfl) fun n F a m w v hF hG h => ixSl_ok hT hF hG hu hs h
      · exact trivial
    · rename_i k e hu
      split
      · rename_i sz hs
        exact acP _ (fun a => rfl) fun n F a m w v hF hG h => ixArr_ok hT hF hG hu hs h
      · exact trivial
    · exact trivial
  | index t x i =>
    simp only [act]
    split
    · rename_i hu
      exact acP _ (fun a => rfl) fun n F a m w v hF hG h => ixStr_ok hT hF hG hu h
    · rename_i k e hu
      split
      · rename_i sz hg hs
        exact acP _ (fun a => rfl) fun n F a m w v hF hG h => ixA_ok hT hF hG hu hg hs h
      · rename_i sz hg hs
        exact acP _ (fun a => rfl) fun n F a m w v hF hG h => ixC_ok hT hF hG hu hg hs h
      · exact trivial
    · exact trivial
  | lookup t x i ok =>
    simp only [act]
    split
    · rename_i k e hu
      split
      · rename_i z kk hz hk
        exact acR _ (fun a => rfl) fun n F a m σ w v hF hH h => lookup_ok hT hF hH hu hz (kkOf_ok hT hfl hk) h
      · exact trivial
    · exact trivial
  | mapUpdate t mm k x =>
    simp only [act]
    split
    · rename_i kt e hu
      split
      · rename_i kk hk
        exact fun n F a m σ w r hF hH h => insert_ok hT hF hH hu (kkOf_ok hT hfl hk) h
      · exact trivial
    · exact trivial
  | insert t mm k x =>
    simp only [act]
    split
    · rename_i kt e hu
      split
      · rename_i kk hk
        exact fun n F a m σ w r hF hH h => insert_ok hT hF hH hu (kkOf_ok hT hfl hk) h
      · exact trivial
    · exact trivial
  | range t x =>
    simp only [act]
    split
    · rename_i k e hu
      exact acL _ (fun a => rfl) fun n F a m σ w r hF hH h => rangeMap_ok hT hF hH hu h
    · exact trivial
  | next it s =>
    simp only [act]
    split
    · exact trivial
    · exact acL _ (fun a => rfl) fun n F a m σ w r hF hH h => nextMap_ok hF hH h
  | extract t i => exact acP _ (fun a => rfl) fun n F a m w v hF hG h => extr_ok hF hG h
  | call c =>
    simp only [act]
    split
    · rename_i b hc
      exact builtin_ok hT hc fun a => rfl
    · rename_i f hc
      split
      · exact fun n F a m σ w r hF hH h => callF_ok hF hH h hc rfl
      · exact fun n F a m σ w r hF hH h => callV_ok hF hH h hc rfl
      · exact trivial
    · exact trivial
  | _ => exact trivial
end
end Kv
end Go.Proofs.YtbemdcbglpjmiaaGreatDoor
