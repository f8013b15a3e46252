/- The fast evaluator: look-ups, strings out of bytes, what is built. No program in sight. -/
import Derived.Test.YtngfeflemblljaaGreatDoorKvP
namespace Go.Proofs.YtngfeflemblljaaGreatDoor
open Go.RowKit
namespace Kv
open Ev
set_option linter.unusedVariables false
set_option linter.unusedSimpArgs false
/-- An entry. -/
def EntR (m : M) (e : Ent) (e' : MapEntry) : Prop := PR m e.1 e'.key ∧ PR m e.2.1 e'.val ∧ e'.born = e.2.2
/-- What is found. -/
def FoundR (m : M) (kv : Value) (res : List MapEntry) (i : Nat) : Option (Nat × P) → Option (Nat × Value) → Prop
  | none, o => o = none
  | some y, o => ∃ idx e', y.1 = i + idx ∧ o = some (y.1, e'.val) ∧ res[idx]? = some e' ∧ PR m y.2 e'.val ∧ e'.key = kv
theorem FoundR.succ {m : M} {kv : Value} {res : List MapEntry} {e : MapEntry} {i : Nat} {o : Option (Nat × P)} {o' : Option (Nat × Value)} (h : FoundR m kv res (i + 1) o o') : FoundR m kv (e :: res) i o o' := by
  cases o with
  | none => exact h
  | some y =>
    obtain ⟨idx, e', h1, h2, h3, h4⟩ := h
    exact ⟨idx + 1, e', by omega, h2, by simpa using h3, h4⟩
section
variable {Pr : Program} {w0 w : World} {m : M} {σ : St} {F : Fr} {a : Go.Act} {n : Nat} {v : V} {t : TypeId} {x y z : Operand} {tt : T TypeInfo}
theorem findK_cons (kk : KK) (k : P) (e : Ent) (es : List Ent) (i : Nat) : findK kk k (e :: es) i = match kkEq kk k e.1 with
    | some x => match x with
      | true => some (some (i, e.2.1))
      | false => findK kk k es (i + 1)
    | none => none := rfl
theorem Form.now {d : TypeDesc} {u u' : Value} {r : Bool} (h : Form d u u' r) : Instr.sameNow d u u' = some r := by
  rcases h with ⟨q, k', i, j, rfl, rfl, rfl, rfl⟩ | ⟨s, s', rfl, rfl, rfl, rfl⟩ | ⟨x, y, rfl, rfl, rfl, rfl⟩
  · simp [Instr.sameNow]; rfl
  · simp only [Instr.sameNow]
    rw [beq_toListBytes, toList_beq]
  · simp [Instr.sameNow]; rfl
theorem findNow_ok {d : TypeDesc} {key : P} {kv : Value} (hkey : PR m key kv) : ∀ {es : List Ent} {res : List MapEntry} {i : Nat} {o : Option (Nat × P)}, All2 (EntR m) es res → findK (.leaf d) key es i = some o →
    ∃ o', Instr.findNow d kv res i = some o' ∧ FoundR m kv res i o o'
  | [], [], i, o, _, h => by cases h; exact ⟨none, rfl, rfl⟩
  | e :: es, e' :: res, i, o, ⟨h1, h2⟩, h => by
    rw [findK_cons] at h
    split at h
    · rename_i x hx
      have hf : Form d kv e'.key x := kk_form hx hkey h1.1
      rw [Instr.findNow, hf.now]
      split at h
      · cases h
        exact ⟨some (i, e'.val), rfl, 0, e', rfl, rfl, rfl, h1.2.1, hf.same.symm⟩
      · obtain ⟨o', h3, h4⟩ := findNow_ok hkey h2 h
        exact ⟨o', h3, h4.succ⟩
    · cases h
theorem findAsking_ok {kk : KK} {key : P} {kv : Value} (hk : KKOk Pr t kk) (hkey : PR m key kv) : ∀ {es : List Ent} {res : List MapEntry} {i : Nat} {o : Option (Nat × P)}, All2 (EntR m) es res → findK kk key es i = some o →
    ∃ o', (Instr.findAsking t kv res i).run Pr w = .ok o' w ∧ FoundR m kv res i o o'
  | [], [], i, o, _, h => by cases h; exact ⟨none, by simp [Instr.findAsking], rfl⟩
  | e :: es, e' :: res, i, o, ⟨h1, h2⟩, h => by
    rw [findK_cons] at h
    split at h
    · rename_i x hx
      have hf := kk_form hx hkey h1.1
      simp only [Instr.findAsking, Sem.run_bind, hf.run hk, Result.andThen_ok]
      split at h
      · cases h
        exact ⟨some (i, e'.val), by simp, 0, e', rfl, rfl, rfl, h1.2.1, hf.same.symm⟩
      · obtain ⟨o', h3, h4⟩ := findAsking_ok hk hkey h2 h
        exact ⟨o', by simpa using h3, h4.succ⟩
    · cases h
theorem findKey_ok {kk : KK} {key : P} {kv : Value} (hk : KKOk Pr t kk) (hkey : PR m key kv) {es : List Ent} {res : List MapEntry} {o : Option (Nat × P)} (he : All2 (EntR m) es res) (h : findK kk key es 0 = some o) :
    ∃ o', (Instr.findKey t kv res).run Pr w = .ok o' w ∧ FoundR m kv res 0 o o' := by
  cases kk with
  | leaf d =>
    obtain ⟨o', h1, h2⟩ := findNow_ok hkey he h
    have hk : Pr.underlying t = some d := hk
    exact ⟨o', by simp [Instr.findKey, run_underlying hk, h1], h2⟩
  | flat ds =>
    obtain ⟨o', h1, h2⟩ := findAsking_ok (w := w) hk hkey he h
    obtain ⟨D, hD, hN⟩ := FlatOk.under hk
    match res, he, h1, h2 with
    | [], he, h1, h2 =>
      simp only [Instr.findAsking, Sem.run_pure] at h1
      injection h1 with h1
      subst h1
      exact ⟨none, by simp [Instr.findKey, run_underlying hD, Instr.findNow], h2⟩
    | e :: res, he, h1, h2 => exact ⟨o', by simp [Instr.findKey, run_underlying hD, Instr.findNow, hN, h1], h2⟩
theorem keyOk_form {kk : KK} {key : P} {kv : Value} (h : keyOk kk key = true) (hkey : PR m key kv) : KForm kk kv kv true := by
  unfold keyOk at h
  split at h
  · rename_i x hx
    subst h
    exact kk_form hx hkey hkey
  · cases h
theorem mapAt_ok {α : Type} {b : Nat} {f : List Ent → Nat → Option α} {q : α} (h : mapAt σ b f = some q) : ∃ es clk, σ.heap.get b = some (.map es clk) ∧ f es clk = some q := by
  unfold mapAt at h
  obtain ⟨hp, nx⟩ := σ
  simp only [get_eq] at h
  split at h
  · rename_i y hy
    split at h
    · exact ⟨_, _, hy, h⟩
    · cases h
  · cases h
theorem found_ok {ok b : Bool} {p : P} {u : Value} (h : found ok p b = some v) (hp : PR m p u) : VR m v (if ok then .tuple #[u, .bool b] else u) := by
  cases ok with
  | true => cases h; exact ⟨_, rfl, hp, rfl, trivial⟩
  | false => cases h; exact hp
theorem HR.mapAt (hH : HR w0 m σ w) {b : Nat} {r : Nat × Nat} {es : List Ent} {clk : Nat} (hb : σ.heap.get b = some (.map es clk)) (hr : m b = some r) :
    ∃ res, w.heap[r.1]? = some (.map res clk) ∧ (∀ e ∈ es, e.2.2 < clk) ∧ All2 (EntR m) es res.toList := by
  obtain ⟨res, h1, h2, h3⟩ := hH.live b _ r hb hr
  exact ⟨res, h1, h2, h3⟩
theorem run_getObj {b : Nat} {o : Obj} (h : w.heap[b]? = some o) (hn : ∀ c t f, o ≠ .cells c t f) : (getObj b).run Pr w = .ok o w := by
  unfold getObj
  simp only [Sem.run, h]
theorem lookup_ok {k e : TypeId} {zp : P} {kk : KK} {ok : Bool} (hT : Tab Pr tt) (hF : FR m n F a) (hH : HR w0 m σ w) (hu : under tt t = some (.map k e)) (hz : zero tt e = some zp) (hk : KKOk Pr k kk)
    (h : onCPS (opd x) (opd y) (lookupOp kk zp ok) F σ = some v) : GoodP Pr m w (Instr.lookup t (a.eval x) (a.eval y) ok) v := by
  obtain ⟨c, d, hc, hd, h⟩ := onCPS_ok hF hH.glob h
  unfold lookupOp at h
  split at h
  · cases h
  · rename_i hko
    have hkf := keyOk_form hko hd
    obtain ⟨zv, hz1, hz2⟩ := run_zero hT (w := w) m hz
    split at h
    · split at h
      · have hx : a.eval x = .map none := hc
        refine ⟨_, ?_, found_ok h hz2⟩
        have hf : (Instr.findKey k (a.eval y) []).run Pr w = .ok none w := by
          obtain ⟨o', h1, h2⟩ := findKey_ok (w := w) hk hd (es := []) (res := []) (o := none) trivial rfl
          have h2 : o' = none := h2
          rw [h1, h2]
        simp only [Instr.lookup, hx, Sem.run_bind, Sem.run_pure, Result.andThen_ok, run_under hT hu, hkf.check hk, hf, hz1]
      · rename_i b
        obtain ⟨es, clk, hb, h⟩ := mapAt_ok h
        obtain ⟨r, hr, hx⟩ := hc
        obtain ⟨res, h1, h2, h3⟩ := HR.mapAt hH hb hr
        unfold lookupIn at h
        split at h
        · rename_i o ho
          obtain ⟨o', g1, g2⟩ := findKey_ok (w := w) hk hd h3 ho
          split at h
          · rename_i yy
            obtain ⟨idx, e', q1, rfl, q3, q4, q5⟩ := g2
            refine ⟨_, ?_, found_ok h q4⟩
            simp only [Instr.lookup, hx, Sem.run_bind, Sem.run_pure, Result.andThen_ok, run_under hT hu, hkf.check hk, run_getObj h1 (by simp), g1]
          · have g2 : o' = none := g2
            subst g2
            refine ⟨_, ?_, found_ok h hz2⟩
            simp only [Instr.lookup, hx, Sem.run_bind, Sem.run_pure, Result.andThen_ok, run_under hT hu, hkf.check hk, run_getObj h1 (by simp), g1, hz1]
        · cases h
    · cases h
/-! ### Strings out of bytes -/
theorem bytesOf_ok : ∀ {l : List C} {s : List Nat} {vs : List Value}, bytesOf l = some s → All2 (CR m) l vs → ∃ us : List UInt8, s = us.map UInt8.toNat ∧ vs = us.map fun u => .int .u8 (u.toNat : Int)
  | [], s, [], h, _ => by cases h; exact ⟨[], rfl, rfl⟩
  | c :: l, s, u :: vs, h, ⟨h1, h2⟩ => by
    cases c with
    | int kd x =>
      cases kd with
      | u8 =>
        cases x with
        | ofNat k =>
          simp only [bytesOf] at h
          split at h
          · rename_i hle
            split at h
            · rename_i r hr
              cases h
              obtain ⟨us, rfl, rfl⟩ := bytesOf_ok hr h2
              have hle := Nat.le_of_ble_eq_true hle
              have h1 : u = .int .u8 (k : Nat) := h1
              have hk : (UInt8.ofNat k).toNat = k := by simp; omega
              exact ⟨UInt8.ofNat k :: us, by simp [hk], by simp [hk, h1]⟩
            · cases h
          · cases h
        | negSucc k => simp [bytesOf] at h
      | _ => simp [bytesOf] at h
    | _ => simp [bytesOf] at h
  | [], s, u :: vs, h, h' => h'.elim
  | c :: l, s, [], h, h' => h'.elim
theorem run_push : ∀ (us : List UInt8) (s : ByteArray),
    (forIn (m := Sem) (us.map fun u => Value.int .u8 (u.toNat : Int)) s fun c r => do
      match c with
      | .int .u8 n => pure (ForInStep.yield (r.push (UInt8.ofNat n.toNat)))
      | _ => do
        stuck "bytesToString: byte expected"
        pure (ForInStep.yield r)).run Pr w = .ok (s ++ ⟨us.toArray⟩) w
  | [], s => by
    simp only [List.map_nil, List.forIn_nil, Sem.run_pure]
    congr 1
    apply ByteArray.ext
    simp [ByteArray.data_append]
  | u :: us, s => by
    simp only [List.map_cons, List.forIn_cons, Sem.run_bind, Sem.run_pure, Result.andThen_ok]
    rw [run_push us]
    congr 1
    apply ByteArray.ext
    simp [ByteArray.data_append]
theorem conBytes_ok {s d e : TypeId} (hT : Tab Pr tt) (hF : FR m n F a) (hH : HR w0 m σ w) (hs : under tt s = some (.slice e)) (hd : under tt d = some .string) (he : under tt e = some (.int .u8))
    (h : on1S (opd x) conBytes F σ = some v) : GoodP Pr m w (Go.convert s d (a.eval x)) v := by
  obtain ⟨c, hc, h⟩ := on1S_ok hF hH.glob h
  unfold conBytes at h
  split at h
  · obtain rfl := vC_some h
    have hx : a.eval x = .slice none 0 0 := hc
    exact ⟨.string .empty, by simp [hx, Go.convert, run_under hT hs, run_under hT hd, run_under hT he, Conv.bytesToString], ⟨_, rfl, rfl⟩⟩
  · rename_i b o len kn cap
    obtain ⟨q, c', hq, hx⟩ := sl_ok hc
    rw [cellsAt_eq] at h
    split at h
    · rename_i l hl
      split at h
      · rename_i bs hbs
        obtain rfl := vC_some h
        obtain ⟨vs, h1, h2⟩ := hH.loadCells (Pr := Pr) hl hq
        obtain ⟨us, rfl, rfl⟩ := bytesOf_ok hbs h2
        refine ⟨.string (.empty ++ ⟨us.toArray⟩), ?_, .empty ++ ⟨us.toArray⟩, rfl, by simp [Ev.bytes, ByteArray.data_append]⟩
        have := run_push (Pr := Pr) (w := w) us .empty
        simp only [hx, Go.convert, Sem.run_bind, Sem.run_pure, Result.andThen_ok, run_under hT hs, run_under hT hd, run_under hT he, Conv.bytesToString, h1]
        rw [List.forIn_toArray]
        exact congrArg (fun r => Result.andThen r fun a w' => Result.ok (Value.string a) w') this
      · cases h
    · cases h
  · cases h
end
end Kv
end Go.Proofs.YtngfeflemblljaaGreatDoor
