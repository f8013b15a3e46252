/- The fast evaluator: look-ups, strings out of bytes, what is built. No program in sight. The fast evaluator: structs, arrays and slices that are built. No program in sight. The fast evaluator: append. No program in sight. -/
import Derived.Test.YtbemdcbglpjmiaaGreatDoorKvP
import Derived.Deep.AppendSrc
namespace Go.Proofs.YtbemdcbglpjmiaaGreatDoor
open Go.RowKit
namespace Kv
open Ev
set_option linter.unusedVariables false
set_option linter.unusedSimpArgs false
/-- An entry. -/
def EntR (m : M) (e : Ent) (e' : MapEntry) : Prop := PR m e.1 e'.key ∧ PR m e.2.1 e'.val ∧ e'.born = e.2.2
/-- What is found. -/
def FoundR (m : M) (kv : Value) (res : List MapEntry) (i : Nat) : Option (Nat × P) → Option (Nat × Value) → Prop
  | none, o => o = none
  | some y, o => ∃ idx e', y.1 = i + idx ∧ o = some (y.1, e'.val) ∧ res[idx]? = some e' ∧ PR m y.2 e'.val ∧ e'.key = kv
theorem FoundR.succ {m : M} {kv : Value} {res : List MapEntry} {e : MapEntry} {i : Nat} {o : Option (Nat × P)} {o' : Option (Nat × Value)} (h : FoundR m kv res (i + 1) o o') : FoundR m kv (e :: res) i o o' := by
  cases o with
  | none => exact h
  | some y =>
    obtain ⟨idx, e', h1, h2, h3, h4⟩ := h
    exact ⟨idx + 1, e', by omega, h2, by simpa using h3, h4⟩
section
variable {Pr : Program} {w0 w : World} {m : M} {σ : St} {F : Fr} {a : Go.Act} {n : Nat} {v : V} {t : TypeId} {x y z : Operand} {tt : T TypeInfo}
theorem findK_cons (kk : KK) (k : P) (e : Ent) (es : List Ent) (i : Nat) : findK kk k (e :: es) i = match kkEq kk k e.1 with
    | some x => match x with
      | true => some (some (i, e.2.1))
      | false => findK kk k es (i + 1)
    | none => none := rfl
theorem Form.now {d : TypeDesc} {u u' : Value} {r : Bool} (h : Form d u u' r) : Instr.sameNow d u u' = some r := by
  rcases h with ⟨q, k', i, j, rfl, rfl, rfl, rfl⟩ | ⟨s, s', rfl, rfl, rfl, rfl⟩ | ⟨x, y, rfl, rfl, rfl, rfl⟩
  · simp [Instr.sameNow]; rfl
  · simp only [Instr.sameNow]
    rw [beq_toListBytes, toList_beq]
  · simp [Instr.sameNow]; rfl
theorem findNow_ok {d : TypeDesc} {key : P} {kv : Value} (hkey : PR m key kv) : ∀ {es : List Ent} {res : List MapEntry} {i : Nat} {o : Option (Nat × P)}, All2 (EntR m) es res → findK (.leaf d) key es i = some o →
    ∃ o', Instr.findNow d kv res i = some o' ∧ FoundR m kv res i o o'
  | [], [], i, o, _, h => by cases h; exact ⟨none, rfl, rfl⟩
  | e :: es, e' :: res, i, o, ⟨h1, h2⟩, h => by
    rw [findK_cons] at h
    split at h
    · rename_i x hx
      have hf : Form d kv e'.key x := kk_form hx hkey h1.1
      rw [Instr.findNow, hf.now]
      split at h
      · cases h
        exact ⟨some (i, e'.val), rfl, 0, e', rfl, rfl, rfl, h1.2.1, hf.same.symm⟩
      · obtain ⟨o', h3, h4⟩ := findNow_ok hkey h2 h
        exact ⟨o', h3, h4.succ⟩
    · cases h
theorem findAsking_ok {kk : KK} {key : P} {kv : Value} (hk : KKOk Pr t kk) (hkey : PR m key kv) : ∀ {es : List Ent} {res : List MapEntry} {i : Nat} {o : Option (Nat × P)}, All2 (EntR m) es res → findK kk key es i = some o →
    ∃ o', (Instr.findAsking t kv res i).run Pr w = .ok o' w ∧ FoundR m kv res i o o'
  | [], [], i, o, _, h => by cases h; exact ⟨none, by simp [Instr.findAsking], rfl⟩
  | e :: es, e' :: res, i, o, ⟨h1, h2⟩, h => by
    rw [findK_cons] at h
    split at h
    · rename_i x hx
      have hf := kk_form hx hkey h1.1
      simp only [Instr.findAsking, Sem.run_bind, hf.run hk, Result.andThen_ok]
      split at h
      · cases h
        exact ⟨some (i, e'.val), by simp, 0, e', rfl, rfl, rfl, h1.2.1, hf.same.symm⟩
      · obtain ⟨o', h3, h4⟩ := findAsking_ok hk hkey h2 h
        exact ⟨o', by simpa using h3, h4.succ⟩
    · cases h
theorem findKey_ok {kk : KK} {key : P} {kv : Value} (hk : KKOk Pr t kk) (hkey : PR m key kv) {es : List Ent} {res : List MapEntry} {o : Option (Nat × P)} (he : All2 (EntR m) es res) (h : findK kk key es 0 = some o) :
    ∃ o', (Instr.findKey t kv res).run Pr w = .ok o' w ∧ FoundR m kv res 0 o o' := by
  cases kk with
  | leaf d =>
    obtain ⟨o', h1, h2⟩ := findNow_ok hkey he h
    have hk : Pr.underlying t = some d := hk
    exact ⟨o', by simp [Instr.findKey, run_underlying hk, h1], h2⟩
  | flat ds =>
    obtain ⟨o', h1, h2⟩ := findAsking_ok (w := w) hk hkey he h
    obtain ⟨D, hD, hN⟩ := FlatOk.under hk
    match res, he, h1, h2 with
    | [], he, h1, h2 =>
      simp only [Instr.findAsking, Sem.run_pure] at h1
      injection h1 with h1
      subst h1
      exact ⟨none, by simp [Instr.findKey, run_underlying hD, Instr.findNow], h2⟩
    | e :: res, he, h1, h2 => exact ⟨o', by simp [Instr.findKey, run_underlying hD, Instr.findNow, hN, h1], h2⟩
theorem keyOk_form {kk : KK} {key : P} {kv : Value} (h : keyOk kk key = true) (hkey : PR m key kv) : KForm kk kv kv true := by
  unfold keyOk at h
  split at h
  · rename_i x hx
    subst h
    exact kk_form hx hkey hkey
  · cases h
theorem mapAt_ok {α : Type} {b : Nat} {f : List Ent → Nat → Option α} {q : α} (h : mapAt σ b f = some q) : ∃ es clk, σ.heap.get b = some (.map es clk) ∧ f es clk = some q := by
  unfold mapAt at h
  obtain ⟨hp, nx⟩ := σ
  simp only [get_eq] at h
  split at h
  · rename_i y hy
    split at h
    · exact ⟨_, _, hy, h⟩
    · cases h
  · cases h
theorem found_ok {ok b : Bool} {p : P} {u : Value} (h : found ok p b = some v) (hp : PR m p u) : VR m v (if ok then .tuple #[u, .bool b] else u) := by
  cases ok with
  | true => cases h; exact ⟨_, rfl, hp, rfl, trivial⟩
  | false => cases h; exact hp
theorem HR.mapAt (hH : HR w0 m σ w) {b : Nat} {r : Nat × Nat} {es : List Ent} {clk : Nat} (hb : σ.heap.get b = some (.map es clk)) (hr : m b = some r) :
    ∃ res, w.heap[r.1]? = some (.map res clk) ∧ (∀ e ∈ es, e.2.2 < clk) ∧ All2 (EntR m) es res.toList := by
  obtain ⟨res, h1, h2, h3⟩ := hH.live b _ r hb hr
  exact ⟨res, h1, h2, h3⟩
theorem run_getObj {b : Nat} {o : Obj} (h : w.heap[b]? = some o) (hn : ∀ c t f, o ≠ .cells c t f) : (getObj b).run Pr w = .ok o w := by
  unfold getObj
  simp only [Sem.run, h]
theorem lookup_ok {k e : TypeId} {zp : P} {kk : KK} {ok : Bool} (hT : Tab Pr tt) (hF : FR m n F a) (hH : HR w0 m σ w) (hu : under tt t = some (.map k e)) (hz : zero tt e = some zp) (hk : KKOk Pr k kk)
    (h : onCPS (opd x) (opd y) (lookupOp kk zp ok) F σ = some v) : GoodP Pr m w (Instr.lookup t (a.eval x) (a.eval y) ok) v := by
  obtain ⟨c, d, hc, hd, h⟩ := onCPS_ok hF hH.glob h
  unfold lookupOp at h
  split at h
  · cases h
  · rename_i hko
    have hkf := keyOk_form hko hd
    obtain ⟨zv, hz1, hz2⟩ := run_zero hT (w := w) m hz
    split at h
    · split at h
      · have hx : a.eval x = .map none := hc
        refine ⟨_, ?_, found_ok h hz2⟩
        have hf : (Instr.findKey k (a.eval y) []).run Pr w = .ok none w := by
          obtain ⟨o', h1, h2⟩ := findKey_ok (w := w) hk hd (es := []) (res := []) (o := none) trivial rfl
          have h2 : o' = none := h2
          rw [h1, h2]
        simp only [Instr.lookup, hx, Sem.run_bind, Sem.run_pure, Result.andThen_ok, run_under hT hu, hkf.check hk, hf, hz1]
      · rename_i b
        obtain ⟨es, clk, hb, h⟩ := mapAt_ok h
        obtain ⟨r, hr, hx⟩ := hc
        obtain ⟨res, h1, h2, h3⟩ := HR.mapAt hH hb hr
        unfold lookupIn at h
        split at h
        · rename_i o ho
          obtain ⟨o', g1, g2⟩ := findKey_ok (w := w) hk hd h3 ho
          split at h
          · rename_i yy
            obtain ⟨idx, e', q1, rfl, q3, q4, q5⟩ := g2
            refine ⟨_, ?_, found_ok h q4⟩
            simp only [Instr.lookup, hx, Sem.run_bind, Sem.run_pure, Result.andThen_ok, run_under hT hu, hkf.check hk, run_getObj h1 (by simp), g1]
          · have g2 : o' = none := g2
            subst g2
            refine ⟨_, ?_, found_ok h hz2⟩
            simp only [Instr.lookup, hx, Sem.run_bind, Sem.run_pure, Result.andThen_ok, run_under hT hu, hkf.check hk, run_getObj h1 (by simp), g1, hz1]
        · cases h
    · cases h
/-! ### Strings out of bytes -/
theorem bytesOf_ok : ∀ {l : List C} {s : List Nat} {vs : List Value}, bytesOf l = some s → All2 (CR m) l vs → ∃ us : List UInt8, s = us.map UInt8.toNat ∧ vs = us.map fun u => .int .u8 (u.toNat : Int)
  | [], s, [], h, _ => by cases h; exact ⟨[], rfl, rfl⟩
  | c :: l, s, u :: vs, h, ⟨h1, h2⟩ => by
    cases c with
    | int kd x =>
      cases kd with
      | u8 =>
        cases x with
        | ofNat k =>
          simp only [bytesOf] at h
          split at h
          · rename_i hle
            split at h
            · rename_i r hr
              cases h
              obtain ⟨us, rfl, rfl⟩ := bytesOf_ok hr h2
              have hle := Nat.le_of_ble_eq_true hle
              have h1 : u = .int .u8 (k : Nat) := h1
              have hk : (UInt8.ofNat k).toNat = k := by simp; omega
              exact ⟨UInt8.ofNat k :: us, by simp [hk], by simp [hk, h1]⟩
            · cases h
          · cases h
        | negSucc k => simp [bytesOf] at h
      | _ => simp [bytesOf] at h
    | _ => simp [bytesOf] at h
  | [], s, u :: vs, h, h' => h'.elim
  | c :: l, s, [], h, h' => h'.elim
theorem run_push : ∀ (us : List UInt8) (s : ByteArray),
    (forIn (m := Sem) (us.map fun u => Value.int .u8 (u.toNat : Int)) s fun c r => do
      match c with
      | .int .u8 n => pure (ForInStep.yield (r.push (UInt8.ofNat n.toNat)))
      | _ => do
        stuck "bytesToString: byte expected"
        pure (ForInStep.yield r)).run Pr w = .ok (s ++ ⟨us.toArray⟩) w
  | [], s => by
    simp only [List.map_nil, List.forIn_nil, Sem.run_pure]
    congr 1
    apply ByteArray.ext
    simp [ByteArray.data_append]
  | u :: us, s => by
    simp only [List.map_cons, List.forIn_cons, Sem.run_bind, Sem.run_pure, Result.andThen_ok]
    rw [run_push us]
    congr 1
    apply ByteArray.ext
    simp [ByteArray.data_append]
theorem conBytes_ok {s d e : TypeId} (hT : Tab Pr tt) (hF : FR m n F a) (hH : HR w0 m σ w) (hs : under tt s = some (.slice e)) (hd : under tt d = some .string) (he : under tt e = some (.int .u8))
    (h : on1S (opd x) conBytes F σ = some v) : GoodP Pr m w (Go.convert s d (a.eval x)) v := by
  obtain ⟨c, hc, h⟩ := on1S_ok hF hH.glob h
  unfold conBytes at h
  split at h
  · obtain rfl := vC_some h
    have hx : a.eval x = .slice none 0 0 := hc
    exact ⟨.string .empty, by simp [hx, Go.convert, run_under hT hs, run_under hT hd, run_under hT he, Conv.bytesToString], ⟨_, rfl, rfl⟩⟩
  · rename_i b o len kn cap
    obtain ⟨q, c', hq, hx⟩ := sl_ok hc
    rw [cellsAt_eq] at h
    split at h
    · rename_i l hl
      split at h
      · rename_i bs hbs
        obtain rfl := vC_some h
        obtain ⟨vs, h1, h2⟩ := hH.loadCells (Pr := Pr) hl hq
        obtain ⟨us, rfl, rfl⟩ := bytesOf_ok hbs h2
        refine ⟨.string (.empty ++ ⟨us.toArray⟩), ?_, .empty ++ ⟨us.toArray⟩, rfl, by simp [Ev.bytes, ByteArray.data_append]⟩
        have := run_push (Pr := Pr) (w := w) us .empty
        simp only [hx, Go.convert, Sem.run_bind, Sem.run_pure, Result.andThen_ok, run_under hT hs, run_under hT hd, run_under hT he, Conv.bytesToString, h1]
        rw [List.forIn_toArray]
        exact congrArg (fun r => Result.andThen r fun a w' => Result.ok (Value.string a) w') this
      · cases h
    · cases h
  · cases h
end
end Kv
end Go.Proofs.YtbemdcbglpjmiaaGreatDoor
namespace Go.Proofs.YtbemdcbglpjmiaaGreatDoor
open Go.RowKit
namespace Kv
open Ev
set_option linter.unusedVariables false
set_option linter.unusedSimpArgs false
theorem over_length : ∀ (k : Nat) (cs l : List C), k + l.length ≤ cs.length → (over cs k l).length = cs.length
  | 0, cs, l, h => by simp [over]; omega
  | k + 1, [], l, h => by simp at h
  | k + 1, c :: cs, l, h => by
    simp only [List.length_cons] at h
    simp [over, over_length k cs l (by omega)]
theorem over_get : ∀ (k : Nat) (cs l : List C) (j : Nat), k + l.length ≤ cs.length → (over cs k l)[j]? = if k ≤ j ∧ j < k + l.length then l[j - k]? else cs[j]?
  | 0, cs, l, j, h => by
    simp only [over, Nat.zero_le, true_and, Nat.zero_add, Nat.sub_zero]
    split
    · rename_i hj; rw [List.getElem?_append_left hj]
    · rename_i hj; rw [List.getElem?_append_right (by omega), List.getElem?_drop]; congr 1; omega
  | k + 1, [], l, j, h => by simp at h
  | k + 1, c :: cs, l, 0, h => by simp [over]
  | k + 1, c :: cs, l, j + 1, h => by
    simp only [List.length_cons] at h
    rw [over, List.getElem?_cons_succ, over_get k cs l j (by omega)]
    by_cases hj : k ≤ j ∧ j < k + l.length
    · rw [if_pos hj, if_pos (by omega), Nat.add_sub_add_right]
    · rw [if_neg hj, if_neg (by omega), List.getElem?_cons_succ]
theorem foldl_overA (off : Nat) : ∀ (vs : List Value) (i : Nat) (cur : Array Value), (vs.zipIdx i).foldl (fun cs (x : Value × Nat) => cs.setIfInBounds (off + x.2) x.1) cur = overA cur (off + i) vs
  | [], _, _ => rfl
  | v :: vs, i, cur => by
    rw [List.zipIdx_cons, List.foldl_cons, foldl_overA off vs (i + 1), overA]
    rfl
section
variable {Pr : Program} {w0 w : World} {m : M} {σ : St} {F : Fr} {a : Go.Act} {n : Nat} {v : V} {t : TypeId} {x y z : Operand} {tt : T TypeInfo}
theorem over_ok {cs l : List C} {cur vs : Array Value} {off : Nat} (h1 : All2 (CR m) cs cur.toList) (h2 : All2 (CR m) l vs.toList) (hle : off + l.length ≤ cs.length) :
    All2 (CR m) (over cs off l) (overA cur off vs.toList).toList := by
  have hl1 := h1.length
  have hl2 := h2.length
  simp only [Array.length_toList] at hl1
  refine All2.of_get (by rw [over_length _ _ _ hle, hl1, Array.length_toList, overA_size]) fun j c u hj hu => ?_
  rw [over_get _ _ _ _ hle] at hj
  rw [Array.getElem?_toList, overA_get _ _ _ _ (by omega)] at hu
  by_cases hin : off ≤ j ∧ j < off + l.length
  · rw [if_pos hin] at hj
    rw [if_pos (by omega)] at hu
    obtain ⟨u', g1, g2⟩ := h2.get hj
    rw [hu] at g1
    cases g1
    exact g2
  · rw [if_neg hin] at hj
    rw [if_neg (by omega)] at hu
    obtain ⟨u', g1, g2⟩ := h1.get hj
    rw [Array.getElem?_toList, hu] at g1
    cases g1
    exact g2
theorem fill_ok (hF : FR m n F a) (hG : Globs m) (place : Nat → Option (Nat × Nat)) : ∀ (ps : List (Nat × Operand)) {cs l : List C} {cur : Array Value}, All2 (CR m) cs cur.toList → fillP place F (opdsN ps) cs = some l →
    ∃ cells, Instr.fill place cur (ps.map fun p => (p.1, a.eval p.2)) = some cells ∧ All2 (CR m) l cells.toList
  | [], cs, l, cur, h1, h => by cases h; exact ⟨cur, rfl, h1⟩
  | p :: ps, cs, l, cur, h1, h => by
    simp only [opdsN, fillP] at h
    split at h
    · cases h
    · rename_i u hu
      have hu := asP_ok hu (opd_ok hF hG p.2)
      split at h
      · cases h
      · rename_i pl hpl
        split at h
        · rename_i h2
          split at h
          · rename_i h3
            have h2 := Nat.eq_of_beq_eq_true h2
            have h3 := Nat.le_of_ble_eq_true h3
            have hlc := h1.length
            have hlu := hu.cells.length
            simp only [Array.length_toList] at hlc hlu
            simp only [Nat.add_eq] at h3
            obtain ⟨cells, g1, g2⟩ := fill_ok hF hG place ps (over_ok h1 hu.cells (by omega)) h
            refine ⟨cells, ?_, g2⟩
            rw [List.map_cons, Instr.fill]
            simp only [hpl]
            have hn : ((a.eval p.2).cells.size ≠ pl.2 || pl.1 + (a.eval p.2).cells.size > cur.size) = false := by
              simp only [ne_eq, Bool.or_eq_false_iff, decide_eq_false_iff_not, Decidable.not_not, gt_iff_lt, Nat.not_lt]
              omega
            rw [hn]
            simp only [Bool.false_eq_true, if_false]
            rw [← Array.foldl_toList, Array.toList_zipIdx, foldl_overA pl.1 _ 0, Nat.add_zero]
            exact g1
          · cases h
        · cases h
theorem nthP_eq : ∀ (l : List (Nat × Nat)) (i : Nat), nthP l i = l[i]?
  | [], i => by cases i <;> rfl
  | a :: l, 0 => rfl
  | a :: l, i + 1 => by rw [nthP, nthP_eq l i, List.getElem?_cons_succ]
theorem places_ok (hT : Tab Pr tt) : ∀ {fs : List Field} {pl : List (Nat × Nat)}, places tt fs = some pl →
    (fs.mapM (m := Sem) fun f => do pure (f.offset, ← sizeOf f.type)).run Pr w = .ok pl w
  | [], pl, h => by cases h; simp
  | f :: fs, pl, h => by
    simp only [places] at h
    split at h
    · rename_i k hk
      split at h
      · rename_i r hr
        cases h
        have ih := places_ok hT hr
        simp only [List.mapM_cons, Sem.run_bind, run_size hT hk, Result.andThen_ok, Sem.run_pure, ih]
      · cases h
    · cases h
theorem run_mapM_array {α β : Type} (f : α → Sem β) (xs : Array α) {l : List β} (h : (xs.toList.mapM f).run Pr w = .ok l w) : (xs.mapM f).run Pr w = .ok l.toArray w := by
  rw [Array.mapM_eq_mapM_toList]
  simp [h]
theorem buildS_ok {fs : Array Field} {pl : List (Nat × Nat)} {ps : Array (Nat × Operand)} {zp : P} (hT : Tab Pr tt) (hF : FR m n F a) (hG : Globs m) (hz : zero tt t = some zp) (hu : under tt t = some (.struct fs)) (hp : places tt fs.toList = some pl)
    (h : buildP (nthP pl) zp.cells (opdsN ps.toList) F = some v) : GoodP Pr m w (Instr.build t (ps.map fun (i, x) => (i, a.eval x))) v := by
  unfold buildP at h
  split at h
  · rename_i cs hcs
    cases h
    obtain ⟨zv, h1, h2⟩ := run_zero hT (w := w) m hz
    obtain ⟨cells, h3, h4⟩ := fill_ok hF hG _ _ h2.cells hcs
    refine ⟨.agg cells, ?_, cells, rfl, h4⟩
    have h5 := run_mapM_array (Pr := Pr) (w := w) _ fs (places_ok hT hp)
    have h6 : Instr.fill (pl.toArray[·]?) zv.cells (ps.map fun (i, x) => (i, a.eval x)).toList = some cells := by
      rw [← h3, Array.toList_map]
      congr 1
      funext i
      rw [nthP_eq]; simp
    simp only [Instr.build, Sem.run_bind, h1, Result.andThen_ok, run_under hT hu, h5, h6, Sem.run_pure]
  · cases h
theorem buildA_ok {e k len : Nat} {ps : Array (Nat × Operand)} {zp : P} (hT : Tab Pr tt) (hF : FR m n F a) (hG : Globs m) (hz : zero tt t = some zp) (hu : under tt t = some (.array len e)) (hs : size tt e = some k)
    (h : buildP (placeA k) zp.cells (opdsN ps.toList) F = some v) : GoodP Pr m w (Instr.build t (ps.map fun (i, x) => (i, a.eval x))) v := by
  unfold buildP at h
  split at h
  · rename_i cs hcs
    cases h
    obtain ⟨zv, h1, h2⟩ := run_zero hT (w := w) m hz
    obtain ⟨cells, h3, h4⟩ := fill_ok hF hG _ _ h2.cells hcs
    refine ⟨.agg cells, ?_, cells, rfl, h4⟩
    have h6 : Instr.fill (fun i => some (i * k, k)) zv.cells (ps.map fun (i, x) => (i, a.eval x)).toList = some cells := by
      rw [← h3, Array.toList_map]; rfl
    simp only [Instr.build, Sem.run_bind, h1, Result.andThen_ok, run_under hT hu, run_size hT hs, h6, Sem.run_pure]
  · cases h
/-! ### Rows of zeros -/
theorem reps_length (z : List C) : ∀ n, (reps z n).length = n * z.length
  | 0 => by simp [reps]
  | n + 1 => by simp [reps, reps_length z n, Nat.add_mul, Nat.add_comm]
theorem reps_get (z : List C) : ∀ (n j : Nat), j < n * z.length → (reps z n)[j]? = z[j % z.length]?
  | 0, j, h => by simp at h
  | n + 1, j, h => by
    rw [reps]
    by_cases hj : j < z.length
    · rw [List.getElem?_append_left hj, Nat.mod_eq_of_lt hj]
    · rw [Nat.add_mul, Nat.one_mul] at h
      rw [List.getElem?_append_right (by omega), reps_get z n _ (by omega)]
      congr 1
      rw [← Nat.mod_eq_sub_mod (by omega)]
theorem zeros_ok {z : List C} {zv : Array Value} {sz k : Nat} (h : All2 (CR m) z zv.toList) (hs : z.length = sz) : All2 (CR m) (reps z k) ((Array.range (k * sz)).map (fun i => zv[i % zv.size]!)).toList := by
  have hl := h.length
  simp only [Array.length_toList] at hl
  subst hs
  refine All2.of_get (by simp [reps_length]) fun j c u hj hu => ?_
  have hlt : j < k * z.length := by
    rw [← reps_length]
    exact (List.getElem?_eq_some_iff.1 hj).1
  rw [reps_get z k j hlt] at hj
  obtain ⟨u', g1, g2⟩ := h.get hj
  have hlt2 : j % z.length < zv.size := by
    rw [← hl]
    refine Nat.mod_lt _ ?_
    rcases Nat.eq_zero_or_pos z.length with h0 | h0
    · rw [h0] at hlt; simp at hlt
    · exact h0
  have : u = u' := by
    rw [Array.getElem?_toList] at hu g1
    rw [Array.getElem?_map, Array.getElem?_range, if_pos hlt] at hu
    simp only [Option.map_some, Option.some.injEq] at hu
    rw [← hu, ← hl]
    rw [Array.getElem?_eq_getElem hlt2] at g1
    injection g1 with g1
    rw [← g1, getElem!_pos zv _ hlt2]
  rw [this]; exact g2
structure ElemOk (Pr : Program) (tt : T TypeInfo) (e sz : Nat) (z : List C) : Prop where
  size : Ev.size tt e = some sz
  pos : 0 < sz
  info : ∃ i zv, Pr.info? e = some i ∧ i.size = sz ∧ i.bytes ≤ 1048576 ∧ i.zero = some zv ∧ (∀ m, All2 (CR m) z zv.cells.toList)
  len : z.length = sz
theorem elem_ok (hT : Tab Pr tt) {e : Nat} {q : Nat × List C} (h : elemOf tt e = some q) : ElemOk Pr tt e q.1 q.2 := by
  unfold elemOf at h
  split at h
  · cases h
  · rename_i sz hsz
    split at h
    · cases h
    · rename_i by' hby
      split at h
      · cases h
      · rename_i z hz
        split at h
        · rename_i hb
          cases h
          simp only [Bool.and_eq_true] at hb
          obtain ⟨⟨h1, h2⟩, h3⟩ := hb
          have h1 := Nat.le_of_ble_eq_true h1
          have h2 := Nat.le_of_ble_eq_true h2
          have h3 := Nat.eq_of_beq_eq_true h3
          refine ⟨hsz, h1, ?_, h3⟩
          unfold Ev.size at hsz
          unfold tbytes at hby
          unfold Ev.zero at hz
          split at hsz
          · rename_i i hi
            rw [hi] at hby hz
            cases hsz
            cases hby
            simp only at hz
            split at hz
            · rename_i zv hzv
              exact ⟨i, zv, hT.info _ _ hi, rfl, h2, hzv, fun m => (ofV_ok m hz).cells⟩
            · cases hz
          · cases hsz
        · cases h
theorem slice_ok {e len sz : Nat} {z : List C} {ps : Array (Nat × Operand)} {zz : Al} (hT : Tab Pr tt) (hF : FR m n F a) (hG : Globs m) (hu : under tt t = some (.slice e)) (he : ElemOk Pr tt e sz z) (hb : len * sz ≤ 100000)
    (h : buildS e len sz (reps z len) (opdsN ps.toList) F = some zz) : GoodA Pr m w (Instr.buildSlice t len (ps.map fun (i, x) => (i, a.eval x))) zz := by
  unfold buildS at h
  split at h
  · rename_i cs hcs
    cases h
    obtain ⟨i, zv, hi, h1, h2, h3, h4⟩ := he.info
    have hzr : (zeroValue e).run Pr w = .ok zv w := by simp [zeroValue, typeInfo, hi, h3]
    have hz : All2 (CR m) (reps z len) ((Array.range (len * sz)).map (fun i => (if len * sz = 0 then #[] else zv.cells)[i % (if len * sz = 0 then (#[] : Array Value) else zv.cells).size]!)).toList := by
      by_cases h0 : len * sz = 0
      · have : len = 0 := by
          rcases Nat.mul_eq_zero.1 h0 with h | h
          · exact h
          · exact absurd he.pos (by omega)
        subst this
        simp [reps]; trivial
      · simp only [if_neg h0]
        exact zeros_ok (h4 m) he.len
    obtain ⟨cells, g1, g2⟩ := fill_ok hF hG _ _ hz hcs
    refine ⟨.slice (some ⟨w.heap.size, 0, none⟩) len len, .cells cells e, 0, ?_, fun m' xx ex hx => ⟨row_ok (g2.imp fun _ _ => CR.ext ex), _, hx, rfl⟩⟩
    have h6 : Instr.fill (fun i => some (i * sz, sz)) ((Array.range (len * sz)).map (fun i => (if len * sz = 0 then #[] else zv.cells)[i % (if len * sz = 0 then (#[] : Array Value) else zv.cells).size]!)) (ps.map fun (i, x) => (i, a.eval x)).toList = some cells := by
      rw [← g1, Array.toList_map]; rfl
    have h7 : ¬ (len * sz > 2 ^ 24) := by
      have : (2 : Nat) ^ 24 = 16777216 := by decide
      omega
    by_cases h0 : len * sz = 0
    · simp only [if_pos h0] at h6
      simp only [Instr.buildSlice, Sem.run_bind, run_under hT hu, Result.andThen_ok, run_size hT he.size, if_neg h7, if_pos h0, Sem.run_pure, h6, Go.newRow, newObj, Sem.run]
      rfl
    · simp only [if_neg h0] at h6
      simp only [Instr.buildSlice, Sem.run_bind, run_under hT hu, Result.andThen_ok, run_size hT he.size, if_neg h7, if_neg h0, Sem.run_pure, hzr, h6, Go.newRow, newObj, Sem.run]
      rfl
  · cases h
theorem make_ok {e sz : Nat} {z : List C} {zz : Al} (hT : Tab Pr tt) (hF : FR m n F a) (hG : Globs m) (hu : under tt t = some (.slice e)) (he : ElemOk Pr tt e sz z)
    (h : on2 (opd x) (opd y) (makeS e z) F = some zz) : GoodA Pr m w (Instr.makeSlice t (a.eval x) (a.eval y)) zz := by
  obtain ⟨c, d, hc, hd, h⟩ := on2_ok hF hG h
  obtain ⟨k1, l, hx, h⟩ := natOf_ok h hc
  obtain ⟨k2, cp, hy, h⟩ := natOf_ok h hd
  split at h
  · rename_i h1
    split at h
    · rename_i h2
      cases h
      have h1 := Nat.le_of_ble_eq_true h1
      have h2 := Nat.le_of_ble_eq_true h2
      obtain ⟨i, zv, hi, g1, g2, g3, g4⟩ := he.info
      have hzr : (zeroValue e).run Pr w = .ok zv w := by simp [zeroValue, typeInfo, hi, g3]
      have hz : All2 (CR m) (reps z cp) ((Array.range (cp * sz)).map (fun i => (if cp * sz = 0 then #[] else zv.cells)[i % (if cp * sz = 0 then (#[] : Array Value) else zv.cells).size]!)).toList := by
        by_cases h0 : cp * sz = 0
        · have : cp = 0 := by
            rcases Nat.mul_eq_zero.1 h0 with h | h
            · exact h
            · exact absurd he.pos (by omega)
          subst this
          simp [reps]; trivial
        · simp only [if_neg h0]
          exact zeros_ok (g4 m) he.len
      refine ⟨.slice (some ⟨w.heap.size, 0, none⟩) l cp, .cells ((Array.range (cp * sz)).map (fun i => (if cp * sz = 0 then #[] else zv.cells)[i % (if cp * sz = 0 then (#[] : Array Value) else zv.cells).size]!)) e, 0, ?_,
        fun m' xx ex hx => ⟨row_ok (hz.imp fun _ _ => CR.ext ex), _, hx, rfl⟩⟩
      have w1 : IntKind.i64.wrap (l : Int) = l := by simp [IntKind.wrap, IntKind.bits, IntKind.signed]; omega
      have w2 : IntKind.i64.wrap (cp : Int) = cp := by simp [IntKind.wrap, IntKind.bits, IntKind.signed]; omega
      have hbc : i.bytes * cp ≤ 1048576 * 100000 := Nat.mul_le_mul g2 h2
      have hbc' : ((i.bytes : Int) * (cp : Int)) ≤ 104857600000 := by
        have := Int.ofNat_le.2 hbc
        simpa using this
      have hti : (typeInfo e).run Pr w = .ok i w := by simp [typeInfo, hi]
      have hcond : ((decide ((cp : Int) < 0) || decide (((i.bytes : Nat) : Int) * (cp : Int) > 2 ^ 48)) || decide ((l : Int) < 0) || decide ((l : Int) > (cp : Int))) = false := by
        have : (2 : Int) ^ 48 = 281474976710656 := by decide
        simp only [Bool.or_eq_false_iff, decide_eq_false_iff_not]
        omega
      have hask : (askRoom (cp * i.bytes)).run Pr w = .ok () w := by unfold askRoom; split <;> simp
      by_cases h0 : cp * sz = 0
      · simp only [Instr.makeSlice, hx, hy, asInt, asIntOf, Sem.run_bind, Sem.run_pure, Result.andThen_ok, run_under hT hu, hti, w1, w2, hcond, Bool.false_eq_true, if_false, Int.toNat_natCast, hask, run_size hT he.size, if_pos h0, Go.newRow, newObj, Sem.run]
        rfl
      · simp only [Instr.makeSlice, hx, hy, asInt, asIntOf, Sem.run_bind, Sem.run_pure, Result.andThen_ok, run_under hT hu, hti, w1, w2, hcond, Bool.false_eq_true, if_false, Int.toNat_natCast, hask, run_size hT he.size, if_neg h0, hzr, Go.newRow, newObj, Sem.run]
        rfl
    · cases h
  · cases h
end
end Kv
end Go.Proofs.YtbemdcbglpjmiaaGreatDoor
namespace Go.Proofs.YtbemdcbglpjmiaaGreatDoor
open Go.RowKit
namespace Kv
open Ev
set_option linter.unusedVariables false
set_option linter.unusedSimpArgs false
theorem below_drew (w : World) : Below w.heap.size w w.drew := ⟨rfl, rfl, rfl, Nat.le_refl _, fun _ _ => rfl⟩
theorem cr_one {m : M} {c : C} {u : Value} (h : CR m c u) : u.oneCell' = true := by
  obtain ⟨h1, h2⟩ := CR.one h
  cases u with
  | agg cs => exact absurd rfl (h1 cs)
  | tuple cs => exact absurd rfl (h2 cs)
  | _ => rfl
theorem all2_one {m : M} : ∀ {l : List C} {vs : List Value}, All2 (CR m) l vs → ∀ u ∈ vs, u.oneCell' = true
  | [], [], _, u, h => by cases h
  | c :: l, v :: vs, ⟨h1, h2⟩, u, h => by
    rcases List.mem_cons.1 h with rfl | h
    · exact cr_one h1
    · exact all2_one h2 u h
section
variable {Pr : Program} {w0 w : World} {m : M} {σ σ' : St} {F : Fr} {a : Go.Act} {n : Nat} {r : R} {t : TypeId} {x y z : Operand} {tt : T TypeInfo}
/-- What is appended. -/
theorem src_ok {e' sz k : Nat} {l : List C} {c : C} {u : Value} {t' : TypeId} (hk : Pr.underlying t' = some (.slice e')) (hH : HR w0 m σ w) (hc : CR m c u) (h : slCells σ sz c = some (k, l)) :
    ∃ vs, Src Pr sz t' u k vs w ∧ All2 (CR m) l vs := by
  unfold slCells at h
  split at h
  · cases h
    have hc : u = .slice none 0 0 := hc
    subst hc
    exact ⟨[], ⟨.inl ⟨e', hk⟩, fun w' => by simp [Builtin.lenOf], by simp [Builtin.firstCells], by simp [Builtin.firstCells], by simp, by simp⟩, trivial⟩
  · cases h
    obtain ⟨A, cap, rfl⟩ := hc
    exact ⟨[], ⟨.inl ⟨e', hk⟩, fun w' => by simp [Builtin.lenOf], by simp [Builtin.firstCells, loadCells, loadCellsFrom], by simp [Builtin.firstCells, loadCells, loadCellsFrom], by simp, by simp⟩, trivial⟩
  · rename_i b o len kn cap
    rw [cellsAt_eq] at h
    split at h
    · rename_i l' hl
      cases h
      obtain ⟨q, c', hq, rfl⟩ := sl_ok hc
      obtain ⟨cur, ty, fr, vs, g1, g2, g3, g4⟩ := hH.cells hl hq
      have g2 : vs.length = k * sz := g2
      have r1 : (loadCells ⟨q.1, o, none⟩ (k * sz)).run Pr w = .ok vs.toArray w := by rw [← g2]; exact Ev.run_loadCells g1 vs g3
      have r2 : (loadCells ⟨q.1, o, none⟩ (k * sz)).run Pr w.drew = .ok vs.toArray w.drew := by rw [← g2]; exact Ev.run_loadCells (w := w.drew) g1 vs g3
      exact ⟨vs, ⟨.inl ⟨e', hk⟩, fun w' => by simp [Builtin.lenOf], r1, r2, g2, all2_one g4⟩, g4⟩
    · cases h
  · cases h
variable {e sz k ty : Nat} {zz : List C} {t' : TypeId} {u : Value} {news : List Value}
theorem run_app0 {i : TypeInfo} (hu : Pr.underlying t = some (.slice e)) (hi : Pr.info? e = some i) (hs : i.size = sz) (hsrc : Src Pr sz t' u 0 news w) {A : Option Addr} {len cap : Nat} (hle : len ≤ cap) :
    (Builtin.append_ #[t, t'] ty #[.slice A len cap, u]).run Pr w = .ok (.slice A len cap) w := by
  subst hs
  have hn : news = [] := List.eq_nil_of_length_eq_zero (by simpa using hsrc.newsLen)
  have hc := hsrc.cells
  rw [hn] at hc
  rcases hsrc.kind with ⟨e', hk⟩ | hk <;> cases A <;> simp [Builtin.append_, run_underlying hu, run_underlying hk, sizeOf, typeInfo, hi, hsrc.len, hle, hc, storeCells]
theorem run_appIn {i : TypeInfo} (hu : Pr.underlying t = some (.slice e)) (hi : Pr.info? e = some i) (hs : i.size = sz) (hsrc : Src Pr sz t' u k news w) {b o len cap : Nat} {w' : World} (hle : len + k ≤ cap)
    (hst : (storeCells ⟨b, o + len * sz, none⟩ news).run Pr w = .ok () w') :
    (Builtin.append_ #[t, t'] ty #[.slice (some ⟨b, o, none⟩) len cap, u]).run Pr w = .ok (.slice (some ⟨b, o, none⟩) (len + k) cap) w' := by
  subst hs
  rcases hsrc.kind with ⟨e', hk⟩ | hk <;> simp [Builtin.append_, run_underlying hu, run_underlying hk, sizeOf, typeInfo, hi, hsrc.len, hle, hsrc.cells, add_eq, hst]
/-- A new row, of what is read and what is appended. -/
theorem grown_ok (he : ElemOk Pr tt e sz zz) (hu : Pr.underlying t = some (.slice e)) (hH : HR w0 m σ w) {olds : List Value} {A : Option Addr} {len cap : Nat}
    (hold : (Builtin.firstCells sz len (.slice A len cap)).run Pr w.drew = .ok olds.toArray w.drew) (hlo : olds.length = len * sz) (hsrc : Src Pr sz t' u k news w) (hg : cap < len + k) (hsm : len + k ≤ 1048576)
    {cs : T C} (hcs : ∀ j c, j < (len + k) * sz → cs.get j = some c → ∃ v, (olds ++ news)[j]? = some v ∧ CR m c v) {nx : Nat} (hnx : nx = σ.next) :
    ∃ v' w' q, Gr m σ w (m.add nx q) ⟨σ.heap.put nx (some (.row e ((len + k) * sz) cs (some sz))), nx + 1⟩ w' ∧ (Builtin.append_ #[t, t'] ty #[.slice A len cap, u]).run Pr w = .ok v' w' ∧
      HR w0 (m.add nx q) ⟨σ.heap.put nx (some (.row e ((len + k) * sz) cs (some sz))), nx + 1⟩ w' ∧ CR (m.add nx q) (.sl nx 0 (len + k) false 0) v' := by
  subst hnx
  obtain ⟨i, zv, hi, h1, h2, h3, h4⟩ := he.info
  subst h1
  have hb : (len + k) * i.bytes ≤ 140737488355328 := by
    have := Nat.mul_le_mul hsm h2
    omega
  have hr := run_append_grow_src (P := Pr) w t t' ty e i zv hu hi h3 A len cap olds hold u k news hsrc hg (by omega) (growslice_fits hg hb)
  have hge := grownCap_ge w (len + k) cap e
  have hzs : zv.cells.size = i.size := by
    have := (h4 m).length
    rw [he.len] at this
    simpa using this.symm
  have hlen : (olds ++ news).length = (len + k) * i.size := by rw [List.length_append, hlo, hsrc.newsLen, Nat.add_mul]
  have hsz : ((olds ++ news).toArray ++ Builtin.zeroCells zv.cells (grownCap w (len + k) cap e - (len + k))).size = grownCap w (len + k) cap e * i.size := by
    rw [Array.size_append, size_zeroCells, hzs, List.size_toArray, hlen, ← Nat.add_mul]
    congr 1
    omega
  have hle : (len + k) * i.size ≤ grownCap w (len + k) cap e * i.size := Nat.mul_le_mul_right _ hge
  have hH' := hH.of_world (below_drew w)
  have hB : BR (m.add σ.next (w.drew.heap.size, grownCap w (len + k) cap e)) (w.drew.heap.size, grownCap w (len + k) cap e) (.row e ((len + k) * i.size) cs (some i.size))
      (some (.cells ((olds ++ news).toArray ++ Builtin.zeroCells zv.cells (grownCap w (len + k) cap e - (len + k))) e)) := by
    refine ⟨_, _, (0, 0), rfl, by simp, by rw [hsz]; exact hle, fun j c hj hc => ?_, hsz⟩
    obtain ⟨v, g1, g2⟩ := hcs j c hj hc
    refine ⟨v, ?_, g2.ext (M.ext_add _ (hH.fresh _ (Nat.le_refl _)))⟩
    rw [Array.getElem?_append_left (by rw [List.size_toArray, hlen]; exact hj)]
    simpa using g1
  exact ⟨_, _, (w.drew.heap.size, grownCap w (len + k) cap e), (Gr.of_world hH (below_drew w)).trans (Gr.new hH' _ _ _), hr, HR.new hH' _ _ _ hB, _, M.add_same .., by simp; exact hge, rfl⟩
theorem appNew_ok (he : ElemOk Pr tt e sz zz) (hu : Pr.underlying t = some (.slice e)) (hH : HR w0 m σ w) {ls l : List C} {olds : List Value} {A : Option Addr} {len cap : Nat}
    (hold : (Builtin.firstCells sz len (.slice A len cap)).run Pr w.drew = .ok olds.toArray w.drew) (hlo : olds.length = len * sz) (hls : All2 (CR m) ls olds) (hsrc : Src Pr sz t' u k news w) (hl : All2 (CR m) l news) (hg : cap < len + k)
    (h : appNew e sz (len + k) (ls ++ l) σ = some r) : GoodV Pr w0 m σ w (Builtin.append_ #[t, t'] ty #[.slice A len cap, u]) r := by
  unfold appNew at h
  split at h
  · rename_i hsm
    have hsm := Nat.le_of_ble_eq_true hsm
    obtain ⟨hp, nx⟩ := σ
    have hlen : (ls ++ l).length = (len + k) * sz := by rw [List.length_append, hls.length, hl.length, hlo, hsrc.newsLen, Nat.add_mul]
    obtain ⟨v', w', q, g1, g2, g3, g4⟩ := grown_ok he hu hH hold hlo hsrc hg hsm (cs := fill (ls ++ l) .nil 0) (fun j c hj hc => by
      rw [fill_eq, T.get_fill, T.get_nil] at hc
      split at hc
      · exact (All2.append hls hl).get (by simpa using hc)
      · cases hc) rfl
    have h' : some (R.val (.p (.c (.sl nx 0 (len + k) false 0))) ⟨put hp nx (some (.row e (ls ++ l).length (fill (ls ++ l) .nil 0) (some sz))), Nat.succ nx⟩) = some r := h
    rw [hlen, put_eq] at h'
    cases h'
    exact ⟨_, v', w', g1, g2, g3, g4⟩
  · cases h
theorem appIn_ok {i : TypeInfo} (hi : Pr.info? e = some i) (hs : i.size = sz) (hu : Pr.underlying t = some (.slice e)) (hH : HR w0 m σ w) {l : List C} {b o len cap rc : Nat} {kn : Bool} {q : Nat × Nat} (hq : m b = some q) (hsrc : Src Pr sz t' u k news w) (hl : All2 (CR m) l news) (hle : len + k ≤ rc)
    (hv : CR m (.sl b o (len + k) kn cap) (.slice (some ⟨q.1, o, none⟩) (len + k) rc)) (h : appIn b o len k sz cap kn l σ = some r) : GoodV Pr w0 m σ w (Builtin.append_ #[t, t'] ty #[.slice (some ⟨q.1, o, none⟩) len rc, u]) r := by
  unfold appIn at h
  split at h
  · rename_i σ' hp
    obtain ⟨w', g1, g2, g3⟩ := hH.put (Pr := Pr) (putCells_ok hp) hq hl
    obtain rfl := rC_some h
    exact ⟨m, _, w', g3, run_appIn hu hi hs hsrc hle g1, g2, hv⟩
  · cases h
theorem HR.drop (hH : HR w0 m σ w) (b : Nat) : HR w0 m ⟨σ.heap.put b none, σ.next⟩ w := by
  have key : ∀ i x, (σ.heap.put b none).get i = some x → σ.heap.get i = some x := fun i x h => by
    rw [T.get_put] at h
    split at h
    · cases h
    · exact h
  exact ⟨hH.below, hH.glob, hH.sym, hH.most, hH.fresh, hH.own, fun i x r hi hr => hH.live i x r (key i x hi) hr, fun i j bi bj r q hi hj hr hq hrq => hH.inj i j bi bj r q (key _ _ hi) (key _ _ hj) hr hq hrq⟩
theorem Gr.drop (hH : HR w0 m σ w) {b : Nat} {q : Nat × Nat} (hb : m b = some q) : Gr m σ w m ⟨σ.heap.put b none, σ.next⟩ w :=
  ⟨Ext.refl m, hH.fresh, Nat.le_refl _, Nat.le_refl _, fun _ _ h => .inl h, fun i _ hi => T.put_ne _ _ (fun he => by rw [he, hb] at hi; cases hi),
    fun i _ hi => (T.get_put _ _ _ _).trans (by split <;> first | rfl | exact hi), fun _ _ _ => rfl⟩
/-- A block that goes on under another number. -/
theorem HR.rename (hH : HR w0 m σ w) {b : Nat} {x : B} {q : Nat × Nat} (h64 : 64 ≤ b) (hb : σ.heap.get b = some x) (hq : m b = some q) {x' : B} {o : Obj} (hx : BR m q x' (some o)) :
    HR w0 (m.add σ.next q) ⟨(σ.heap.put b none).put σ.next (some x'), σ.next + 1⟩ (setB w q.1 o) := by
  have hn : m σ.next = none := hH.fresh _ (Nat.le_refl _)
  have ex := M.ext_add q hn
  have hmost := hH.most
  have hlt := (hH.live b x q hb hq).lt
  have hown := hH.own b q h64 hq
  have hbn : b ≠ σ.next := fun e => by rw [e, hn] at hq; cases hq
  have old : ∀ i y, i ≠ σ.next → ((σ.heap.put b none).put σ.next (some x')).get i = some y → i ≠ b ∧ σ.heap.get i = some y := fun i y hi h => by
    rw [T.put_ne _ _ hi, T.get_put] at h
    split at h
    · cases h
    · exact ⟨by assumption, h⟩
  have new : ((σ.heap.put b none).put σ.next (some x')).get σ.next = some x' := T.put_same ..
  refine ⟨⟨hH.below.os, hH.below.tape, hH.below.output, by rw [setB_size]; exact hH.below.size, fun k hk => ?_⟩, fun g hg => by rw [M.add_ne _ _ (by omega)]; exact hH.glob g hg, by rw [M.add_ne _ _ (by omega)]; exact hH.sym, by show 64 ≤ σ.next + 1; omega,
    fun i hi => by have hi : σ.next + 1 ≤ i := hi; rw [M.add_ne _ _ (by omega)]; exact hH.fresh i (by omega), fun i r hi hr => ?_, fun i y r hi hr => ?_, fun i j yi yj r p hi hj hr hp hrp => ?_⟩
  · rw [setB_ne _ _ (by omega)]; exact hH.below.block k hk
  · rw [setB_size]
    by_cases he : i = σ.next
    · rw [he, M.add_same] at hr; cases hr; exact hown
    · rw [M.add_ne _ _ he] at hr; exact hH.own i r hi hr
  · by_cases he : i = σ.next
    · rw [he] at hi hr
      rw [M.add_same] at hr
      cases hr
      rw [new] at hi
      cases hi
      rw [setB_same _ _ hlt]
      exact hx.ext ex
    · rw [M.add_ne _ _ he] at hr
      obtain ⟨h1, h2⟩ := old i y he hi
      rw [setB_ne]
      · exact (hH.live i y r h2 hr).ext ex
      · exact fun hc => h1 (hH.inj i b y x r q h2 hb hr hq hc)
  · by_cases h1 : i = σ.next <;> by_cases h2 : j = σ.next
    · rw [h1, h2]
    · rw [h1, M.add_same] at hr
      cases hr
      rw [M.add_ne _ _ h2] at hp
      obtain ⟨g1, g2⟩ := old j yj h2 hj
      exact absurd (hH.inj j b yj x p q g2 hb hp hq hrp.symm) g1
    · rw [h2, M.add_same] at hp
      cases hp
      rw [M.add_ne _ _ h1] at hr
      obtain ⟨g1, g2⟩ := old i yi h1 hi
      exact absurd (hH.inj i b yi x r q g2 hb hr hq hrp) g1
    · rw [M.add_ne _ _ h1] at hr
      rw [M.add_ne _ _ h2] at hp
      exact hH.inj i j yi yj r p (old i yi h1 hi).2 (old j yj h2 hj).2 hr hp hrp
theorem Gr.rename (hH : HR w0 m σ w) {b : Nat} {x : B} {q : Nat × Nat} (hb : σ.heap.get b = some x) (hq : m b = some q) (x' : B) (o : Obj) :
    Gr m σ w (m.add σ.next q) ⟨(σ.heap.put b none).put σ.next (some x'), σ.next + 1⟩ (setB w q.1 o) := by
  have hn : m σ.next = none := hH.fresh _ (Nat.le_refl _)
  refine ⟨M.ext_add q hn, hH.fresh, Nat.le_succ _, Nat.le_of_eq (setB_size ..).symm, fun i r hr => ?_, fun i hi hm => ?_, fun i hi hd => ?_, fun c _ hc => setB_ne _ _ fun he => hc b x q hb hq he.symm⟩
  · by_cases he : i = σ.next
    · rw [he, M.add_same] at hr
      cases hr
      exact .inr ⟨he ▸ hn, he ▸ Nat.le_refl _, .inr ⟨b, x, q, hb, hq, rfl⟩⟩
    · rw [M.add_ne _ _ he] at hr
      exact .inl hr
  · show ((σ.heap.put b none).put σ.next (some x')).get i = _
    rw [T.put_ne _ _ (by omega), T.put_ne _ _ fun he => by rw [he, hq] at hm; cases hm]
  · show ((σ.heap.put b none).put σ.next (some x')).get i = none
    rw [T.put_ne _ _ (by omega), T.get_put]
    split
    · rfl
    · exact hd
theorem appGrow_ok (he : ElemOk Pr tt e sz zz) (hu : Pr.underlying t = some (.slice e)) (hH : HR w0 m σ w) {l : List C} {b len : Nat} {cs : T C} {q : Nat × Nat} (hq : m b = some q)
    (hb : σ.heap.get b = some (.row e (len * sz) cs (some sz))) (hlen : len ≤ q.2) (hsrc : Src Pr sz t' u k news w) (hl : All2 (CR m) l news)
    (h : appGrow e sz b len k cs l σ = some r) : GoodV Pr w0 m σ w (Builtin.append_ #[t, t'] ty #[.slice (some ⟨q.1, 0, none⟩) len q.2, u]) r := by
  unfold appGrow at h
  split at h
  · rename_i h64
    have h64 := Nat.le_of_ble_eq_true h64
    split at h
    · rename_i hsm
      have hsm := Nat.le_of_ble_eq_true hsm
      obtain ⟨hp, nx⟩ := σ
      have h' : some (R.val (.p (.c (.sl nx 0 (len + k) false 0))) ⟨put (put hp b none) nx (some (.row e ((len + k) * sz) (fill l cs (len * sz)) (some sz))), Nat.succ nx⟩) = some r := h
      rw [put_eq, put_eq] at h'
      have hlk : l.length = k * sz := by rw [hl.length, hsrc.newsLen]
      by_cases hroom : len + k ≤ q.2
      · cases h'
        obtain ⟨cur, tyy, fr, g1, g2, g3, g4, g5⟩ := hH.live b _ q hb hq
        have hsize : (len + k) * sz ≤ cur.size := by rw [g5]; exact Nat.mul_le_mul_right _ hroom
        have hone : ∀ v ∈ news, (∀ cs, v ≠ .agg cs) ∧ ∀ cs, v ≠ .tuple cs := by
          intro v hv
          have := hsrc.one v hv
          constructor <;> (intro cs hc; subst hc; simp [Value.oneCell'] at this)
        have hn : news.length = k * sz := hsrc.newsLen
        rw [Nat.add_mul] at hsize
        have hst := run_storeCells (Pr := Pr) (b := q.1) (o := 0 + len * sz) news 0 w cur g1 (by omega) g2 hone
        refine ⟨_, _, _, Gr.rename hH hb hq _ _, run_appIn (o := 0) hu he.info.choose_spec.choose_spec.1 he.info.choose_spec.choose_spec.2.1 hsrc hroom hst, HR.rename hH h64 hb hq ?_, q, M.add_same .., by omega, rfl⟩
        refine ⟨_, tyy, fr, rfl, by rw [overA_size]; exact g2, by rw [overA_size, Nat.add_mul]; exact hsize, fun j c hj hc => ?_, by rw [overA_size]; exact g5⟩
        rw [fill_eq, T.get_fill] at hc
        rw [overA_get _ _ _ _ (by omega)]
        by_cases hin : len * sz ≤ j ∧ j < len * sz + l.length
        · rw [if_pos hin] at hc
          rw [if_pos (by omega)]
          obtain ⟨v, e1, e2⟩ := hl.get hc
          exact ⟨v, by rw [← e1]; congr 1; omega, e2⟩
        · rw [if_neg hin] at hc
          rw [if_neg (by omega)]
          rw [Nat.add_mul] at hj
          exact g4 j c (by omega) hc
      · have hD := HR.drop hH b
        obtain ⟨cur, tyy, fr, g1, g2, g3, g4, g5⟩ := hH.live b _ q hb hq
        have hlo : (cur.toList.take (len * sz)).length = len * sz := by simp; omega
        have hold : (Builtin.firstCells sz len (.slice (some ⟨q.1, 0, none⟩) len q.2)).run Pr w.drew = .ok (cur.toList.take (len * sz)).toArray w.drew := by
          have : (loadCells ⟨q.1, 0, none⟩ (cur.toList.take (len * sz)).length).run Pr w.drew = .ok (cur.toList.take (len * sz)).toArray w.drew :=
            Ev.run_loadCells (w := w.drew) g1 _ fun j hj => by rw [List.getElem?_take, if_pos (by omega)]; simp
          rw [hlo] at this
          exact this
        have key : ∀ j c, j < (len + k) * sz → (fill l cs (len * sz)).get j = some c → ∃ v, (cur.toList.take (len * sz) ++ news)[j]? = some v ∧ CR m c v := by
          intro j c hj hc
          rw [fill_eq, T.get_fill] at hc
          rw [Nat.add_mul] at hj
          by_cases hin : len * sz ≤ j ∧ j < len * sz + l.length
          · rw [if_pos hin] at hc
            rw [List.getElem?_append_right (by omega), hlo]
            exact hl.get hc
          · rw [if_neg hin] at hc
            have hj2 : j < len * sz := by omega
            obtain ⟨v, e1, e2⟩ := g4 j c hj2 hc
            refine ⟨v, ?_, e2⟩
            rw [List.getElem?_append_left (by omega), List.getElem?_take, if_pos hj2]
            simpa using e1
        obtain ⟨v', w', p, e1, e2, e3, e4⟩ := grown_ok (ty := ty) he hu hD hold hlo hsrc (by omega) hsm key rfl
        cases h'
        exact ⟨_, v', w', (Gr.drop hH hq).trans e1, e2, e3, e4⟩
    · cases h
  · cases h
end
end Kv
end Go.Proofs.YtbemdcbglpjmiaaGreatDoor
