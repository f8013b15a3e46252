/- The fast evaluator: code. No program in sight. -/
import Derived.Test.YtbemdcbglpjmiaaGreatDoorKvB
namespace Go.Proofs.YtbemdcbglpjmiaaGreatDoor
open Go.RowKit
namespace Kv
open Ev
set_option linter.unusedVariables false

noncomputable def opds : List Operand → List Get
  | [] => []
  | x :: l => opd x :: opds l
noncomputable def opdsN : List (Nat × Operand) → List (Nat × Get)
  | [] => []
  | x :: l => (x.1, opd x.2) :: opdsN l
noncomputable def opdO : Option Operand → Option Get
  | none => none
  | some x => some (opd x)
def valsOf (F : Fr) : List Get → List V
  | [] => []
  | g :: l => g.f F :: valsOf F l
def callF (f : Nat) (l : List Get) (F : Fr) (σ : St) : Option R := some (.call f (valsOf F l) σ)
def ptrs : List (Nat × Nat) → List V
  | [] => []
  | a :: l => .c (.ptr (some a)) :: ptrs l
def callV (g : Get) (l : List Get) (F : Fr) (σ : St) : Option R := match asC (g.f F) with
  | some (.fn f cap) => some (.call f (valsOf F l ++ ptrs cap) σ)
  | _ => none
def addrs (F : Fr) : List Get → Option (List (Nat × Nat))
  | [] => some []
  | g :: l => match asC (g.f F) with
    | some (.ptr (some a)) => match addrs F l with
      | some r => some (a :: r)
      | none => none
    | _ => none
def mkFn (f : Nat) (l : List Get) (F : Fr) : Option V := match addrs F l with
  | some r => vC (.fn f r)
  | none => none
def mv (g : Get) (F : Fr) : Option V := some (g.f F)
def pick (c a b : Get) (F : Fr) : Option V := match asC (c.f F) with
  | some (.bool b') => match b' with
    | true => some (a.f F)
    | false => some (b.f F)
  | _ => none
def nonNil (c : C) : Option V := match c with
  | .ptr (some _) => vC c
  | .fn _ _ => vC c
  | _ => none
def nthL {α : Type} : List α → Nat → Option α
  | [], _ => none
  | a :: l, 0 => some a
  | a :: l, n + 1 => nthL l n
def extr (g : Get) (i : Nat) (F : Fr) : Option V := match g.f F with
  | .tup l => match nthL l i with
    | some x => some (.p x)
    | none => none
  | _ => none
/-- An element's cells: how many, and its zero. -/
noncomputable def elemOf (tt : T TypeInfo) (e : Nat) : Option (Nat × List C) := match size tt e with
  | none => none
  | some sz => match tbytes tt e with
    | none => none
    | some by' => match zero tt e with
      | none => none
      | some z => match Nat.ble 1 sz && Nat.ble by' 1048576 && Nat.beq z.cells.length sz with
        | true => some (sz, z.cells)
        | false => none
/-- How keys of this type are compared. -/
noncomputable def kkOf (tt : T TypeInfo) (fl : T (List TypeDesc)) (t : Nat) : Option KK := match under tt t with
  | some d => match d with
    | .int _ => some (.leaf d)
    | .string => some (.leaf d)
    | .bool => some (.leaf d)
    | _ => match get fl t with
      | some ds => some (.flat ds)
      | none => none
  | none => none
noncomputable def mkBuiltin (tt : T TypeInfo) (b : Builtin) (ts : List TypeId) (l : List Get) : Ac := match b with
  | .len => match ts, l with
    | [t], [g] => match under tt t with
      | some .string => .pure (on1 g lenStr)
      | some (.slice _) => .pure (on1 g lenSl)
      | _ => .bad
    | _, _ => .bad
  | .append => match ts, l with
    | [t, t'], [g, h] => match under tt t, under tt t' with
      | some (.slice e), some (.slice _) => match elemOf tt e with
        | some x => .loud (on2S g h (app e x.1))
        | none => .bad
      | _, _ => .bad
    | _, _ => .bad
  | .min => match l with
    | [g, h] => .pure (on2 g h (intOp minI gNo))
    | _ => .bad
  | .max => match l with
    | [g, h] => .pure (on2 g h (intOp maxI gNo))
    | _ => .bad
  | _ => .bad
noncomputable def act (tt : T TypeInfo) (fl : T (List TypeDesc)) (o : Op) : Ac := match o with
  | .move x => .pure (mv (opd x))
  | .assign x => .pure (mv (opd x))
  | .pick c a b => .pure (pick (opd c) (opd a) (opd b))
  | .alloc e => match zero tt e with
    | some z => .alloc (allocP e z)
    | none => .bad
  | .box e x => .alloc (onP (opd x) (boxP e))
  | .build t ps => match zero tt t, under tt t with
    | some z, some (.struct fs) => match places tt fs.toList with
      | some pl => .pure (buildP (nthP pl) z.cells (opdsN ps.toList))
      | none => .bad
    | some z, some (.array _ e) => match size tt e with
      | some n => .pure (buildP (placeA n) z.cells (opdsN ps.toList))
      | none => .bad
    | _, _ => .bad
  | .buildSlice t n ps => match under tt t with
    | some (.slice e) => match elemOf tt e with
      | some x => match Nat.ble (Nat.mul n x.1) 100000 with
        | true => .alloc (buildS e n x.1 (reps x.2 n) (opdsN ps.toList))
        | false => .bad
      | none => .bad
    | _ => .bad
  | .load t a => match Ev.isAgg tt t, size tt t with
    | some true, some n => .read (on1S (opd a) (loadA n))
    | some false, _ => .read (on1S (opd a) loadC)
    | _, _ => .bad
  | .store t a x => match size tt t with
    | some n => .loud (onCPS (opd a) (opd x) (storeP n))
    | none => .bad
  | .nilCheck x => .pure (on1 (opd x) nonNil)
  | .binOp op t x y _ => mkBin tt fl op t (opd x) (opd y)
  | .unOp op _ x => mkUn op (opd x)
  | .convert s d x => match under tt s, under tt d with
    | some _, some (.int k) => .pure (on1 (opd x) (conInt k))
    | some .string, some .string => .pure (on1 (opd x) conStr)
    | some (.slice e), some .string => match under tt e with
      | some (.int .u8) => .read (on1S (opd x) conBytes)
      | _ => .bad
    | _, _ => .bad
  | .makeFunc fn first cap => match fn with
    | .func f => match first.toList with
      | [] => .pure (mkFn f (opds cap.toList))
      | _ => .bad
    | _ => .bad
  | .makeMap _ r => match r with
    | none => .alloc newMap
    | some _ => .bad
  | .makeSlice t l c => match under tt t with
    | some (.slice e) => match elemOf tt e with
      | some x => .alloc (on2 (opd l) (opd c) (makeS e x.2))
      | none => .bad
    | _ => .bad
  | .slice t x lo hi mx => match under tt t with
    | some .string => match mx with
      | none => .pure (cutStr (opd x) (opdO lo) (opdO hi))
      | some _ => .bad
    | some (.slice e) => match size tt e with
      | some sz => match mx with
        | none => .pure (cutSl sz (opd x) (opdO lo) (opdO hi))
        | some m => match hi with
          | some h => .pure (cutSl3 sz (opd x) (opdO lo) (opd h) (opd m))
          | none => .bad
      | none => .bad
    | _ => .bad
  | .fieldAddr t x f => match fieldOff tt t f with
    | some y => match size tt y.1 with
      | some (_ + 1) => .pure (on1 (opd x) (addOff y.2))
      | _ => .bad
    | none => .bad
  | .field t x f => match fieldOff tt t f with
    | some y => match Ev.isAgg tt y.1, size tt y.1 with
      | some true, some n => .pure (onP (opd x) (partA n y.2))
      | some false, some 1 => .pure (onP (opd x) (partC y.2))
      | _, _ => .bad
    | none => .bad
  | .indexAddr t x i => match under tt t with
    | some (.slice e) => match size tt e with
      | some sz => .pure (on2 (opd x) (opd i) (ixSl sz))
      | none => .bad
    | some (.array n e) => match size tt e with
      | some sz => .pure (on2 (opd x) (opd i) (ixArr n sz))
      | none => .bad
    | _ => .bad
  | .index t x i => match under tt t with
    | some .string => .pure (on2 (opd x) (opd i) ixStr)
    | some (.array n e) => match Ev.isAgg tt e, size tt e with
      | some true, some sz => .pure (onPC (opd x) (opd i) (ixA n sz))
      | some false, some sz => .pure (onPC (opd x) (opd i) (ixC n sz))
      | _, _ => .bad
    | _ => .bad
  | .lookup t x i ok => match under tt t with
    | some (.map k e) => match zero tt e, kkOf tt fl k with
      | some z, some kk => .read (onCPS (opd x) (opd i) (lookupOp kk z ok))
      | _, _ => .bad
    | _ => .bad
  | .mapUpdate t m k x => match under tt t with
    | some (.map kt _) => match kkOf tt fl kt with
      | some kk => .loud (onCPPS (opd m) (opd k) (opd x) (insertOp kk))
      | none => .bad
    | _ => .bad
  | .insert t m k x => match under tt t with
    | some (.map kt _) => match kkOf tt fl kt with
      | some kk => .loud (onCPPS (opd m) (opd k) (opd x) (insertOp kk))
      | none => .bad
    | _ => .bad
  | .range t x => match under tt t with
    | some (.map _ _) => .loud (on1S (opd x) rangeMap)
    | _ => .bad
  | .next it s => match s with
    | true => .bad
    | false => .loud (on1S (opd it) nextMap)
  | .extract t i => .pure (extr (opd t) i)
  | .call c => match c.callee with
    | .builtin b => mkBuiltin tt b c.argTypes.toList (opds c.args.toList)
    | .value f => match f with
      | .func n => .loud (callF n (opds c.args.toList))
      | .tmp t => .loud (callV (opd (.tmp t)) (opds c.args.toList))
      | _ => .bad
    | .invoke _ _ => .bad
  | _ => .bad
/-- An operation that is carried out now. -/
structure Act where
  f : Fr → St → Option R
def pureF (f : Fr → Option V) (F : Fr) (σ : St) : Option R := match f F with
  | some v => rV σ v
  | none => none
def readF (f : Fr → St → Option V) (F : Fr) (σ : St) : Option R := match f F σ with
  | some v => rV σ v
  | none => none
noncomputable def allocF (f : Fr → Option Al) (F : Fr) (σ : St) : Option R := match f F with
  | some a => newB a.b σ fun n σ => rC σ (a.pt n)
  | none => none
def badF (_ : Fr) (_ : St) : Option R := none
noncomputable def runA (a : Ac) : Act := match a with
  | .pure f => ⟨pureF f⟩
  | .read f => ⟨readF f⟩
  | .alloc f => ⟨allocF f⟩
  | .loud f => ⟨f⟩
  | .bad => ⟨badF⟩
/-! ### Code, as closures -/
inductive E
  | normal
  | exit (id : Nat)
  | ret
abbrev CallT := Nat → List V → St → Option (V × St)
structure Step where
  f : CallT → Fr → St → Option (Fr × St)
structure Run where
  f : CallT → Fr → St → Option (E × Fr × St)
noncomputable def putV (p : Option Path) (v : V) (F : Fr) : Fr := match p with
  | some p => putP v p F
  | none => F
noncomputable def finish (p : Option Path) (call : CallT) (F : Fr) (r : Option R) : Option (Fr × St) := match r with
  | none => none
  | some r => match r with
    | .val v σ => some (putV p v F, σ)
    | .skip σ => some (putV p .undef F, σ)
    | .call f args σ => match call f args σ with
      | some x => some (putV p x.1 F, x.2)
      | none => none
noncomputable def stepA (p : Option Path) (a : Act) (call : CallT) (F : Fr) (σ : St) : Option (Fr × St) := finish p call F (a.f F σ)
noncomputable def stepG (g : Path) (b : Bool) (p : Option Path) (a : Act) (call : CallT) (F : Fr) (σ : St) : Option (Fr × St) :=
  match getP g F with
  | .p (.c (.bool x)) => match (match b with | true => x | false => bNot x) with
    | true => finish p call F (a.f F σ)
    | false => some (putV p .undef F, σ)
  | .undef => some (putV p .undef F, σ)
  | _ => none
noncomputable def dstP (d : Option Nat) : Option Path := match d with
  | some t => some (path t)
  | none => none
/-- The slot that is written is one of n. -/
def dstOk (n : Nat) (d : Option Nat) : Bool := match d with
  | some t => Nat.ble (Nat.succ t) n
  | none => true
def noStep : Step := ⟨fun _ _ _ => none⟩
noncomputable def step (tt : T TypeInfo) (fl : T (List TypeDesc)) (n : Nat) (ops : Array Oper) (o : Oper) : Step := match dstOk n o.dst with
  | false => noStep
  | true => match o.guard with
    | none => ⟨stepA (dstP o.dst) (runA (act tt fl o.op))⟩
    | some (j, b) => match ops[j]? with
      | some q => match q.dst with
        | some d => ⟨stepG (path d) b (dstP o.dst) (runA (act tt fl o.op))⟩
        | none => noStep
      | none => noStep
def done (call : CallT) (F : Fr) (σ : St) : Option (E × Fr × St) := some (.normal, F, σ)
def after (s : Step) (r : Run) (call : CallT) (F : Fr) (σ : St) : Option (E × Fr × St) := match s.f call F σ with
  | some x => r.f call x.1 x.2
  | none => none
noncomputable def steps (tt : T TypeInfo) (fl : T (List TypeDesc)) (n : Nat) (ops : Array Oper) : List Oper → Run
  | [] => ⟨done⟩
  | o :: l => ⟨after (step tt fl n ops o) (steps tt fl n ops l)⟩
/-! A region whose order is drawn: it is carried out in the order of the text; where a reading may come earlier or later it must read the same there. -/
/-- An operation of such a region; whom it waits for, as bits. -/
structure Dop where
  i : Nat
  o : Oper
  mask : Nat
noncomputable def maskOf (acc : T Nat) (j : Nat) : List Edge → Option Nat
  | [] => some 0
  | e :: l => match maskOf acc j l with
    | none => none
    | some s => match Region.binds .any e with
      | false => some s
      | true => match Nat.ble (Nat.succ e.on) j with
        | false => none
        | true => match get acc e.on with
          | some a => some (Nat.lor s (Nat.lor (Nat.pow 2 e.on) a))
          | none => none
noncomputable def prep (acc : T Nat) (j : Nat) : List Oper → Option (List Dop)
  | [] => some []
  | o :: l => match maskOf acc j o.after.toList with
    | none => none
    | some s => match prep (put acc j (some s)) (Nat.succ j) l with
      | none => none
      | some r => some (⟨j, o, s⟩ :: r)
def Ac.isLoud (a : Ac) : Bool := match a with
  | .loud _ => true
  | _ => false
def Ac.isAlloc (a : Ac) : Bool := match a with
  | .alloc _ => true
  | _ => false
def hasN (x : Nat) : List Nat → Bool
  | [] => false
  | y :: l => match Nat.beq x y with
    | true => true
    | false => hasN x l
def hitsN (d : Option Nat) (l : List Nat) : Bool := match d with
  | some x => hasN x l
  | none => false
def looks (ops : Array Oper) (o : Oper) : List Nat := o.looksAt ops
def namesOf (ops : Array Oper) (o : Oper) : List Nat := match o.dst with
  | some d => d :: looks ops o
  | none => looks ops o
/-- The one must wait for the other. -/
noncomputable def conf (tt : T TypeInfo) (fl : T (List TypeDesc)) (ops : Array Oper) (a b : Oper) : Bool :=
  ((act tt fl a.op).isLoud && (act tt fl b.op).isLoud) || hitsN a.dst (namesOf ops b) || hitsN b.dst (namesOf ops a)
def bit (s i : Nat) : Bool := Nat.testBit s i
noncomputable def pairsOk (tt : T TypeInfo) (fl : T (List TypeDesc)) (ops : Array Oper) : List Dop → Bool
  | [] => true
  | a :: l => (l.all fun b => !conf tt fl ops a.o b.o || bit b.mask a.i) && pairsOk tt fl ops l
noncomputable def regOk (tt : T TypeInfo) (fl : T (List TypeDesc)) (ops : Array Oper) : Bool := match prep .nil 0 ops.toList with
  | some l => pairsOk tt fl ops l
  | none => false
noncomputable def codeOk (tt : T TypeInfo) (fl : T (List TypeDesc)) : Code → Bool
  | .region _ ops d => match d with
    | true => regOk tt fl ops
    | false => true
  | .seq a b => codeOk tt fl a && codeOk tt fl b
  | .cond _ a b => codeOk tt fl a && codeOk tt fl b
  | .block _ a => codeOk tt fl a
  | .loop a => codeOk tt fl a
  | _ => true
noncomputable def paths : List Nat → List Path
  | [] => []
  | t :: l => path t :: paths l
/-- A frame of these slots alone. -/
noncomputable def restr (F : Fr) : List Path → Fr
  | [] => .nil
  | p :: l => putP (getP p F) p (restr F l)
structure Rd where
  i : Nat
  mask : Nat
  g : St → Option V
  v : V
structure Bd where
  q : Nat
  σ : St
  pm : Nat
structure Tl where
  rds : List Rd
  bds : List Bd
  F : Fr
  σ : St
/-- Whether the operation is wanted. -/
noncomputable def want (ops : Array Oper) (o : Oper) (F : Fr) : Option Bool := match o.guard with
  | none => some true
  | some x => match ops[x.1]? with
    | some q => match q.dst with
      | some d => match getP (path d) F with
        | .p (.c (.bool b)) => some (match x.2 with | true => b | false => bNot b)
        | .undef => some false
        | _ => none
      | none => none
    | none => none
noncomputable def dloud (call : CallT) (r : Option R) : Option (V × St) := match r with
  | none => none
  | some r => match r with
    | .val v σ => some (v, σ)
    | .skip σ => some (.undef, σ)
    | .call f args σ => call f args σ
noncomputable def dstep (ac : Ac) (call : CallT) (x : Nat) (F : Fr) (σ : St) : Option (V × St) := match ac with
  | .pure f => match f F with
    | some v => some (v, σ)
    | none => none
  | .read f => match f F σ with
    | some v => some (v, σ)
    | none => none
  | .alloc f => match f F with
    | some a => some (.c (a.pt x), ⟨put σ.heap x (some a.b), σ.next⟩)
    | none => none
  | .loud f => dloud call (f F σ)
  | .bad => none
def addRd (ac : Ac) (d : Dop) (F : Fr) (v : V) (l : List Rd) : List Rd := match ac with
  | .read f => ⟨d.i, d.mask, f F, v⟩ :: l
  | _ => l
def addBd (loud : Bool) (q : Nat) (σ : St) (pm : Nat) (l : List Bd) : List Bd := match loud with
  | true => ⟨q, σ, pm⟩ :: l
  | false => l
noncomputable def passed (tt : T TypeInfo) (fl : T (List TypeDesc)) (n : Nat) (ops : Array Oper) (call : CallT) : List Dop → Nat → Nat → Nat → Fr → St → Option Tl
  | [], i, _, pm, F, σ => some ⟨[], [⟨i, σ, pm⟩], F, σ⟩
  | d :: l, i, x, pm, F, σ => match dstOk n d.o.dst with
    | false => none
    | true => match want ops d.o F with
      | none => none
      | some b => match b with
        | false => match passed tt fl n ops call l (Nat.succ i) (match (act tt fl d.o.op).isAlloc with | true => Nat.succ x | false => x)
            (match (act tt fl d.o.op).isLoud with | true => Nat.lor pm d.mask | false => pm) (putV (dstP d.o.dst) .undef F) σ with
          | none => none
          | some t => some ⟨t.rds, addBd (act tt fl d.o.op).isLoud i σ pm t.bds, t.F, t.σ⟩
        | true => match dstep (act tt fl d.o.op) call x (restr F (paths (looks ops d.o))) σ with
          | none => none
          | some y => match passed tt fl n ops call l (Nat.succ i) (match (act tt fl d.o.op).isAlloc with | true => Nat.succ x | false => x)
              (match (act tt fl d.o.op).isLoud with | true => Nat.lor pm d.mask | false => pm) (putV (dstP d.o.dst) y.1 F) y.2 with
            | none => none
            | some t => some ⟨addRd (act tt fl d.o.op) d (restr F (paths (looks ops d.o))) y.1 t.rds, addBd (act tt fl d.o.op).isLoud i σ pm t.bds, t.F, t.σ⟩
def vSame (a b : V) : Bool := decide (a = b)
noncomputable def rdOk (r : Rd) (b : Bd) : Bool := match bit r.mask b.q || bit b.pm r.i with
  | true => true
  | false => match r.g b.σ with
    | some v => vSame v r.v
    | none => false
noncomputable def allocs (tt : T TypeInfo) (fl : T (List TypeDesc)) : List Oper → Nat
  | [] => 0
  | o :: l => match (act tt fl o.op).isAlloc with
    | true => Nat.succ (allocs tt fl l)
    | false => allocs tt fl l
noncomputable def allNone (h : T B) (x : Nat) : Nat → Bool
  | 0 => true
  | n + 1 => match get h x with
    | none => allNone h (Nat.succ x) n
    | some _ => false
noncomputable def drawn (tt : T TypeInfo) (fl : T (List TypeDesc)) (n : Nat) (ops : Array Oper) (ds : Option (List Dop)) (k : Nat) (call : CallT) (F : Fr) (σ : St) : Option (E × Fr × St) := match ds with
  | none => none
  | some l => match allNone σ.heap σ.next k with
    | false => none
    | true => match passed tt fl n ops call l 0 σ.next 0 F ⟨σ.heap, Nat.add σ.next k⟩ with
      | none => none
      | some t => match t.rds.all fun r => t.bds.all fun b => rdOk r b with
        | true => some (.normal, t.F, t.σ)
        | false => none
noncomputable def region (tt : T TypeInfo) (fl : T (List TypeDesc)) (n : Nat) (ops : Array Oper) (d : Bool) : Run := match d with
  | false => steps tt fl n ops ops.toList
  | true => ⟨drawn tt fl n ops (prep .nil 0 ops.toList) (allocs tt fl ops.toList)⟩
def seqR (a b : Run) (call : CallT) (F : Fr) (σ : St) : Option (E × Fr × St) := match a.f call F σ with
  | none => none
  | some x => match x.1 with
    | .normal => b.f call x.2.1 x.2.2
    | _ => some x
def condR (g : Get) (a b : Run) (call : CallT) (F : Fr) (σ : St) : Option (E × Fr × St) := match asC (g.f F) with
  | some (.bool x) => match x with
    | true => a.f call F σ
    | false => b.f call F σ
  | _ => none
def blockR (id : Nat) (a : Run) (call : CallT) (F : Fr) (σ : St) : Option (E × Fr × St) := match a.f call F σ with
  | none => none
  | some x => match x.1 with
    | .exit i => match Nat.beq i id with
      | true => some (.normal, x.2)
      | false => some x
    | _ => some x
noncomputable def loopR (a : Run) (n : Nat) (call : CallT) : Fr → St → Option (E × Fr × St) :=
  Nat.rec (motive := fun _ => Fr → St → Option (E × Fr × St)) (fun _ _ => none) (fun _ ih F σ => match a.f call F σ with
    | none => none
    | some x => match x.1 with
      | .normal => ih x.2.1 x.2.2
      | _ => some x) n
noncomputable def loopF (a : Run) (call : CallT) (F : Fr) (σ : St) : Option (E × Fr × St) := loopR a 100000 call F σ
def exitR (e : E) (call : CallT) (F : Fr) (σ : St) : Option (E × Fr × St) := some (e, F, σ)
noncomputable def code (tt : T TypeInfo) (fl : T (List TypeDesc)) (n : Nat) : Code → Run
  | .skip => ⟨done⟩
  | .region _ ops d => region tt fl n ops d
  | .seq a b => ⟨seqR (code tt fl n a) (code tt fl n b)⟩
  | .cond c x y => ⟨condR (opd c) (code tt fl n x) (code tt fl n y)⟩
  | .block id b => ⟨blockR id (code tt fl n b)⟩
  | .loop b => ⟨loopF (code tt fl n b)⟩
  | .exit id => ⟨exitR (.exit id)⟩
  | .label _ => ⟨done⟩
  | .ret => ⟨exitR .ret⟩
  | _ => ⟨fun _ _ _ => none⟩
structure Res where
  f : Fr → St → Option P
def resT (p : Get) (F : Fr) (σ : St) : Option P := asP (p.f F)
noncomputable def resC (p : Get) (F : Fr) (σ : St) : Option P := match asC (p.f F) with
  | some c => withPtr c fun b o => match cellAt σ b o with
    | some x => some (.c x)
    | none => none
  | none => none
noncomputable def resA (p : Get) (n : Nat) (F : Fr) (σ : St) : Option P := match asC (p.f F) with
  | some c => withPtr c fun b o => match cellsAt σ b o n with
    | some l => some (.agg l)
    | none => none
  | none => none
noncomputable def resOf (tt : T TypeInfo) : ResultVar → Res
  | .tmp t => ⟨resT (opd (.tmp t))⟩
  | .cell a t => match Ev.isAgg tt t, size tt t with
    | some true, some n => ⟨resA (opd (.tmp a)) n⟩
    | some false, _ => ⟨resC (opd (.tmp a))⟩
    | _, _ => ⟨fun _ _ => none⟩
noncomputable def ress (tt : T TypeInfo) : List ResultVar → List Res
  | [] => []
  | r :: l => resOf tt r :: ress tt l
def resL (F : Fr) (σ : St) : List Res → Option (List P)
  | [] => some []
  | r :: l => match r.f F σ with
    | some x => match resL F σ l with
      | some q => some (x :: q)
      | none => none
    | none => none
def back (l : List Res) (F : Fr) (σ : St) : Option (V × St) := match l with
  | [r] => match r.f F σ with
    | some x => some (.p x, σ)
    | none => none
  | l => match resL F σ l with
    | some q => some (.tup q, σ)
    | none => none
/-- A function, as a closure. -/
structure Fun where
  f : CallT → List V → St → Option (V × St)
def bodyR (a : Run) (l : List Res) (call : CallT) (F : Fr) (σ : St) : Option (V × St) := match a.f call F σ with
  | some x => match x.1 with
    | .exit _ => none
    | _ => back l x.2.1 x.2.2
  | none => none
noncomputable def funR (a : Run) (l : List Res) (call : CallT) (args : List V) (σ : St) : Option (V × St) := bodyR a l call (fill args .nil 0) σ
noncomputable def func (tt : T TypeInfo) (fl : T (List TypeDesc)) (fn : Func) : Fun := match fn.body with
  | some c => ⟨funR (code tt fl fn.ntmps c) (ress tt fn.results.toList)⟩
  | none => ⟨fun _ _ _ => none⟩
noncomputable def callK (tt : T TypeInfo) (fl : T (List TypeDesc)) (ff : T Func) (prim : Nat → Option Fun) (self : CallT) (f : Nat) (args : List V) (σ : St) : Option (V × St) := match prim f with
  | some x => x.f self args σ
  | none => match get ff f with
    | some fn => (func tt fl fn).f self args σ
    | none => none
noncomputable def eval (tt : T TypeInfo) (fl : T (List TypeDesc)) (ff : T Func) (prim : Nat → Option Fun) (n : Nat) : CallT :=
  Nat.rec (motive := fun _ => CallT) (fun _ _ _ => none) (fun _ self => callK tt fl ff prim self) n
def St.start : St := ⟨.nil, 64⟩
end Kv
end Go.Proofs.YtbemdcbglpjmiaaGreatDoor
