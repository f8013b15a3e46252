/- The fast evaluator: operations. No program in sight. -/
import Derived.Test.YtbemdcbglpjmiaaGreatDoorKvA
namespace Go.Proofs.YtbemdcbglpjmiaaGreatDoor
open Go.RowKit
namespace Kv
open Ev
set_option linter.unusedVariables false

noncomputable def strEq (a : List Nat) : List Nat → Bool :=
  List.rec (motive := fun _ => List Nat → Bool) (fun b => List.rec (motive := fun _ => Bool) true (fun _ _ _ => false) b)
    (fun x _ ih b => List.rec (motive := fun _ => Bool) false (fun y r _ => Bool.rec (motive := fun _ => Bool) false (ih r) (Nat.beq x y)) b) a
noncomputable def strLt (a : List Nat) : List Nat → Bool :=
  List.rec (motive := fun _ => List Nat → Bool) (fun b => List.rec (motive := fun _ => Bool) false (fun _ _ _ => true) b)
    (fun x _ ih b => List.rec (motive := fun _ => Bool) false (fun y r _ => Bool.rec (motive := fun _ => Bool) (Nat.ble (Nat.succ x) y) (ih r) (Nat.beq x y)) b) a
def lfs : List Nat → List Lf
  | [] => []
  | n :: s => lfN (.ofNat n) :: lfs s
/-- A text's letters. -/
def symS (c : C) : Option (List Lf) := match c with
  | .str s => some (lfs s)
  | .sst l => some l
  | _ => none
def sstEq : List Lf → List Lf → Option Bool
  | [], [] => some true
  | [], _ :: _ => some false
  | _ :: _, [] => some false
  | x :: s, y :: t => match lfEq x y with
    | some b => match b with
      | true => sstEq s t
      | false => some false
    | none => match sstEq s t with
      | some b => match b with
        | true => none
        | false => some false
      | none => none
def tEq (x y : List Lf) : Option V := boolO (sstEq x y)
def tNe (x y : List Lf) : Option V := boolO (notO (sstEq x y))
def tNo (_ _ : List Lf) : Option V := none
def tAdd (x y : List Lf) : Option V := match Nat.ble (Nat.add x.length y.length) 1000000 with
  | true => vC (.sst (x ++ y))
  | false => none
def withS2 (g : List Lf → List Lf → Option V) (c d : C) : Option V := match symS c with
  | some x => match symS d with
    | some y => g x y
    | none => none
  | none => none
def strOp (f : List Nat → List Nat → C) (g : List Lf → List Lf → Option V) (c d : C) : Option V := match c with
  | .str s => match d with
    | .str t => vC (f s t)
    | _ => withS2 g c d
  | _ => withS2 g c d
noncomputable def sAdd (c d : C) : Option V := match c with
  | .str s => match d with
    | .str t => match Nat.ble (Nat.add s.length t.length) 1000000 with
      | true => vC (.str (s ++ t))
      | false => none
    | _ => withS2 tAdd c d
  | _ => withS2 tAdd c d
noncomputable def sEq (s t : List Nat) : C := .bool (strEq s t)
noncomputable def sNe (s t : List Nat) : C := .bool (bNot (strEq s t))
noncomputable def sLt (s t : List Nat) : C := .bool (strLt s t)
noncomputable def sLe (s t : List Nat) : C := .bool (strLt s t || strEq s t)
noncomputable def sGt (s t : List Nat) : C := .bool (bNot (strLt s t || strEq s t))
noncomputable def sGe (s t : List Nat) : C := .bool (bNot (strLt s t))
/-! Equality: of cells of one kind, of rows of such cells, of slices with nil. -/
def bEq (x y : Bool) : Bool := match x with
  | true => y
  | false => bNot y
noncomputable def fits (d : TypeDesc) (a b : C) : Option Bool := match d with
  | .int _ => match a with
    | .int k x => match b with
      | .int k' y => match Nat.beq (kNum k) (kNum k') with
        | true => some (eqI x y)
        | false => none
      | .sy k' l => match Nat.beq (kNum k) (kNum k') with
        | true => lfEq (lfN x) l
        | false => none
      | _ => none
    | .sy k l => match b with
      | .int k' y => match Nat.beq (kNum k) (kNum k') with
        | true => lfEq l (lfN y)
        | false => none
      | .sy k' l' => match Nat.beq (kNum k) (kNum k') with
        | true => lfEq l l'
        | false => none
      | _ => none
    | _ => none
  | .string => match a with
    | .str s => match b with
      | .str t => some (strEq s t)
      | _ => none
    | _ => none
  | .bool => match a with
    | .bool x => match b with
      | .bool y => some (bEq x y)
      | _ => none
    | _ => none
  | _ => none
noncomputable def eqFlat : List TypeDesc → List C → List C → Option Bool
  | [], [], [] => some true
  | d :: ds, a :: l, b :: r => match fits d a b with
    | some x => match x with
      | true => eqFlat ds l r
      | false => some false
    | none => none
  | _, _, _ => none
def eqNil (c d : C) : Option Bool := match c with
  | .nsl => match d with
    | .nsl => some true
    | .sl _ _ _ _ _ => some false
    | .slx => some false
    | _ => none
  | .sl _ _ _ _ _ => match d with
    | .nsl => some false
    | _ => none
  | .slx => match d with
    | .nsl => some false
    | _ => none
  | _ => none
def bV (x : Option Bool) : Option V := match x with
  | some b => vC (.bool b)
  | none => none
def nbV (x : Option Bool) : Option V := match x with
  | some b => vC (.bool (bNot b))
  | none => none
/-- How keys of a type are compared. -/
inductive KK
  | leaf (d : TypeDesc)
  | flat (ds : List TypeDesc)
noncomputable def kkEq (k : KK) (x y : P) : Option Bool := match k with
  | .leaf d => match x with
    | .c a => match y with
      | .c b => fits d a b
      | .agg _ => none
    | .agg _ => none
  | .flat ds => match x with
    | .c _ => none
    | .agg l => match y with
      | .c _ => none
      | .agg r => eqFlat ds l r
noncomputable def eqK (k : KK) (x y : P) : Option V := bV (kkEq k x y)
noncomputable def neK (k : KK) (x y : P) : Option V := nbV (kkEq k x y)
def eqN (x y : C) : Option V := bV (eqNil x y)
def neN (x y : C) : Option V := nbV (eqNil x y)
noncomputable def mkInt (op : BinOp) (g h : Get) : Ac := match op with
  | .add => .pure (on2 g h (intOp iAdd gAdd))
  | .sub => .pure (on2 g h (intOp iSub gSub))
  | .mul => .pure (on2 g h (intOp iMul gMul))
  | .quo => .pure (on2 g h (intOpZ iQuo))
  | .rem => .pure (on2 g h (intOpZ iRem))
  | .eql => .pure (on2 g h (intOp iEq gEq))
  | .neq => .pure (on2 g h (intOp iNe gNe))
  | .lss => .pure (on2 g h (intOp iLt gLt))
  | .leq => .pure (on2 g h (intOp iLe gLe))
  | .gtr => .pure (on2 g h (intOp iGt gGt))
  | .geq => .pure (on2 g h (intOp iGe gGe))
  | .and => .pure (on2 g h (intOp (iBits fun _ a b => a &&& b) gNo))
  | .or => .pure (on2 g h (intOp (iBits fun _ a b => a ||| b) gNo))
  | .xor => .pure (on2 g h (intOp (iBits fun _ a b => a ^^^ b) gNo))
  | .shl => .pure (on2 g h (shOp iShl))
  | .shr => .pure (on2 g h (shOp iShr))
  | _ => .bad
noncomputable def mkStr (op : BinOp) (g h : Get) : Ac := match op with
  | .add => .pure (on2 g h sAdd)
  | .eql => .pure (on2 g h (strOp sEq tEq))
  | .neq => .pure (on2 g h (strOp sNe tNe))
  | .lss => .pure (on2 g h (strOp sLt tNo))
  | .leq => .pure (on2 g h (strOp sLe tNo))
  | .gtr => .pure (on2 g h (strOp sGt tNo))
  | .geq => .pure (on2 g h (strOp sGe tNo))
  | _ => .bad
noncomputable def mkKK (k : KK) (op : BinOp) (g h : Get) : Ac := match op with
  | .eql => .pure (onPP g h (eqK k))
  | .neq => .pure (onPP g h (neK k))
  | _ => .bad
noncomputable def mkNil (op : BinOp) (g h : Get) : Ac := match op with
  | .eql => .pure (on2 g h eqN)
  | .neq => .pure (on2 g h neN)
  | _ => .bad
def eqPtr (c d : C) : Option Bool := match c with
  | .ptr a => match d with
    | .ptr b => match a with
      | none => match b with
        | none => some true
        | some _ => some false
      | some _ => match b with
        | none => some false
        | some _ => none
    | _ => none
  | _ => none
def eqMap (c d : C) : Option Bool := match c with
  | .map a => match d with
    | .map b => match a with
      | none => match b with
        | none => some true
        | some _ => some false
      | some _ => match b with
        | none => some false
        | some _ => none
    | _ => none
  | _ => none
def eqQ (x y : C) : Option V := bV (eqPtr x y)
def neQ (x y : C) : Option V := nbV (eqPtr x y)
def eqM (x y : C) : Option V := bV (eqMap x y)
def neM (x y : C) : Option V := nbV (eqMap x y)
noncomputable def mkPtrN (op : BinOp) (g h : Get) : Ac := match op with
  | .eql => .pure (on2 g h eqQ)
  | .neq => .pure (on2 g h neQ)
  | _ => .bad
noncomputable def mkMapN (op : BinOp) (g h : Get) : Ac := match op with
  | .eql => .pure (on2 g h eqM)
  | .neq => .pure (on2 g h neM)
  | _ => .bad
noncomputable def mkBin (tt : T TypeInfo) (fl : T (List TypeDesc)) (op : BinOp) (t : Nat) (g h : Get) : Ac := match under tt t with
  | some d => match d with
    | .int _ => mkInt op g h
    | .string => mkStr op g h
    | .bool => mkKK (.leaf .bool) op g h
    | .slice _ => mkNil op g h
    | .pointer _ => mkPtrN op g h
    | .map _ _ => mkMapN op g h
    | _ => match get fl t with
      | some ds => mkKK (.flat ds) op g h
      | none => .bad
  | none => .bad
def uNeg (c : C) : Option V := match c with
  | .int k n => vC (.int k (wrapQ k (Int.sub 0 n)))
  | _ => none
def uNot (c : C) : Option V := match c with
  | .bool b => vC (.bool (bNot b))
  | _ => none
def mkUn (op : UnOp) (g : Get) : Ac := match op with
  | .neg => .pure (on1 g uNeg)
  | .not => .pure (on1 g uNot)
  | _ => .bad

/-! ### Memory -/
noncomputable def newB (b : B) (σ : St) (k : Nat → St → Option R) : Option R := match σ with
  | ⟨h, n⟩ => k n ⟨put h n (some b), Nat.succ n⟩
noncomputable def rowOf (t : Nat) (l : List C) : B := .row t l.length (fill l .nil 0) none
noncomputable def withRow (σ : St) (b : Nat) {α : Type} (k : Nat → Nat → T C → Option Nat → Option α) : Option α := match σ with
  | ⟨h, _⟩ => match get h b with
    | some x => match x with
      | .row t n cs u => k t n cs u
      | _ => none
    | none => none
noncomputable def cellsAt (σ : St) (b o n : Nat) : Option (List C) := withRow σ b fun _ m cs _ => match Nat.ble (Nat.add o n) m with
  | true => take cs n o
  | false => none
noncomputable def cellAt (σ : St) (b o : Nat) : Option C := withRow σ b fun _ m cs _ => match Nat.ble (Nat.succ o) m with
  | true => get cs o
  | false => none
noncomputable def putB (σ : St) (b : Nat) (x : B) : St := match σ with
  | ⟨h, n⟩ => ⟨put h b (some x), n⟩
noncomputable def putCells (σ : St) (b o : Nat) (l : List C) : Option St := withRow σ b fun t n cs u => match Nat.ble (Nat.add o l.length) n with
  | true => match Nat.ble 64 b with
    | true => some (putB σ b (.row t n (fill l cs o) u))
    | false => none
  | false => none
def withPtr {α : Type} (c : C) (k : Nat → Nat → Option α) : Option α := match c with
  | .ptr a => match a with
    | some x => k x.1 x.2
    | none => none
  | _ => none
noncomputable def loadC (c : C) (σ : St) : Option V := withPtr c fun b o => match cellAt σ b o with
  | some x => vC x
  | none => none
noncomputable def loadA (n : Nat) (c : C) (σ : St) : Option V := withPtr c fun b o => match cellsAt σ b o n with
  | some l => some (.p (.agg l))
  | none => none
noncomputable def storeP (n : Nat) (c : C) (x : P) (σ : St) : Option R := withPtr c fun b o => match Nat.beq x.cells.length n with
  | true => match putCells σ b o x.cells with
    | some σ' => some (.skip σ')
    | none => none
  | false => none
def mkPtr (x : Nat) : C := .ptr (some (x, 0))
def mkSl (len cap x : Nat) : C := .sl x 0 len true cap
def mkMap (x : Nat) : C := .map (some x)
noncomputable def boxP (t : Nat) (x : P) : Option Al := some ⟨rowOf t x.cells, mkPtr⟩
noncomputable def allocP (t : Nat) (z : P) (_ : Fr) : Option Al := some ⟨rowOf t z.cells, mkPtr⟩
noncomputable def newMap (_ : Fr) : Option Al := some ⟨.map [] 0, mkMap⟩
def natOf {α : Type} (c : C) (k : Nat → Option α) : Option α := match c with
  | .int _ n => match n with
    | .ofNat m => k m
    | .negSucc _ => none
  | _ => none
def partC (off : Nat) (x : P) : Option V := match x with
  | .agg l => match l.drop off with
    | c :: _ => vC c
    | [] => none
  | .c _ => none
def partA (n off : Nat) (x : P) : Option V := match x with
  | .agg l => match Nat.ble (Nat.add off n) l.length with
    | true => some (.p (.agg ((l.drop off).take n)))
    | false => none
  | .c _ => none
def ixA (n sz : Nat) (x : P) (i : C) : Option V := natOf i fun k => match Nat.ble (Nat.succ k) n with
  | true => partA sz (Nat.mul k sz) x
  | false => none
def ixC (n sz : Nat) (x : P) (i : C) : Option V := natOf i fun k => match Nat.ble (Nat.succ k) n with
  | true => partC (Nat.mul k sz) x
  | false => none
def addOff (off : Nat) (c : C) : Option V := withPtr c fun b o => vC (.ptr (some (b, Nat.add o off)))
def fieldOff (tt : T TypeInfo) (t f : Nat) : Option (Nat × Nat) := match under tt t with
  | some (.struct fs) => match fs[f]? with
    | some g => some (g.type, g.offset)
    | none => none
  | _ => none
def ixSl (sz : Nat) (c i : C) : Option V := natOf i fun n => match c with
  | .sl b o len _ _ => match Nat.ble (Nat.succ n) len with
    | true => vC (.ptr (some (b, Nat.add o (Nat.mul n sz))))
    | false => none
  | _ => none
def ixArr (len sz : Nat) (c i : C) : Option V := natOf i fun n => withPtr c fun b o => match Nat.ble (Nat.succ n) len with
  | true => vC (.ptr (some (b, Nat.add o (Nat.mul n sz))))
  | false => none
def ixStr (c i : C) : Option V := natOf i fun n => match c with
  | .str s => match s.drop n with
    | x :: _ => vC (.int .u8 (.ofNat x))
    | [] => none
  | .sst s => match s.drop n with
    | x :: _ => match isN x with
      | true => vC (.int .u8 (lfLo x))
      | false => vC (.sy .u8 x)
    | [] => none
  | _ => none
def goI (n : Nat) : C := .int .i64 (.ofNat n)
def lenStr (c : C) : Option V := match c with
  | .str s => vC (goI s.length)
  | .sst s => vC (goI s.length)
  | _ => none
def lenSl (c : C) : Option V := match c with
  | .nsl => vC (goI 0)
  | .sl _ _ n _ _ => vC (goI n)
  | .slx => vC (goI 0)
  | _ => none
def natO {α : Type} (g : Option Get) (d : Nat) (F : Fr) (k : Nat → Option α) : Option α := match g with
  | none => k d
  | some g => match asC (g.f F) with
    | some c => natOf c k
    | none => none
/-- Letters that are all known. -/
def concS : List Lf → Option (List Nat)
  | [] => some []
  | x :: l => match isN x with
    | true => match lfLo x with
      | .ofNat n => match concS l with
        | some r => some (n :: r)
        | none => none
      | .negSucc _ => none
    | false => none
def mkS (l : List Lf) : Option V := match concS l with
  | some s => vC (.str s)
  | none => vC (.sst l)
def cutStr (x : Get) (lo hi : Option Get) (F : Fr) : Option V := match asC (x.f F) with
  | some c => match c with
    | .str s => natO hi s.length F fun h => natO lo 0 F fun l => match Nat.ble l h with
      | true => match Nat.ble h s.length with
        | true => vC (.str ((s.drop l).take (Nat.sub h l)))
        | false => none
      | false => none
    | .sst s => natO hi s.length F fun h => natO lo 0 F fun l => match Nat.ble l h with
      | true => match Nat.ble h s.length with
        | true => mkS ((s.drop l).take (Nat.sub h l))
        | false => none
      | false => none
    | _ => none
  | none => none
def cutKn (b o sz l h m : Nat) : Option V := match Nat.ble l h with
  | true => match Nat.ble h m with
    | true => vC (.sl b (match Nat.beq m l with | true => o | false => Nat.add o (Nat.mul l sz)) (Nat.sub h l) true (Nat.sub m l))
    | false => none
  | false => none
def cutUn (b o sz len d l h : Nat) : Option V := match Nat.ble l h with
  | true => match Nat.ble h len with
    | true => match l with
      | 0 => vC (.sl b o h false d)
      | _ => match Nat.beq l h with
        | true => vC .slx
        | false => vC (.sl b (Nat.add o (Nat.mul l sz)) (Nat.sub h l) false (Nat.add d l))
    | false => none
  | false => none
/-- x[lo:hi]. -/
def cutSl (sz : Nat) (x : Get) (lo hi : Option Get) (F : Fr) : Option V := match asC (x.f F) with
  | some c => match c with
    | .nsl => natO hi 0 F fun h => natO lo 0 F fun l => match Nat.add h l with
      | 0 => vC .nsl
      | _ => none
    | .sl b o len kn cap => natO hi len F fun h => natO lo 0 F fun l => match kn with
      | true => cutKn b o sz l h cap
      | false => cutUn b o sz len cap l h
    | _ => none
  | none => none
/-- x[lo:hi:max]. -/
def cutSl3 (sz : Nat) (x : Get) (lo : Option Get) (hi mx : Get) (F : Fr) : Option V := match asC (x.f F) with
  | some c => match c with
    | .nsl => natO (some mx) 0 F fun m => natO (some hi) 0 F fun h => natO lo 0 F fun l => match Nat.add h (Nat.add l m) with
      | 0 => vC .nsl
      | _ => none
    | .sl b o len kn cap => natO (some mx) 0 F fun m => natO (some hi) 0 F fun h => natO lo 0 F fun l => match Nat.ble m (match kn with | true => cap | false => len) with
      | true => cutKn b o sz l h m
      | false => none
    | _ => none
  | none => none
/-! ### append -/
noncomputable def slCells (σ : St) (sz : Nat) (c : C) : Option (Nat × List C) := match c with
  | .nsl => some (0, [])
  | .slx => some (0, [])
  | .sl b o n _ _ => match cellsAt σ b o (Nat.mul n sz) with
    | some l => some (n, l)
    | none => none
  | _ => none
noncomputable def appNew (t sz n : Nat) (l : List C) (σ : St) : Option R := match Nat.ble n 1048576 with
  | true => newB (.row t l.length (fill l .nil 0) (some sz)) σ fun b σ => rC σ (.sl b 0 n false 0)
  | false => none
noncomputable def appGrow (t sz b n m : Nat) (cs : T C) (new : List C) (σ : St) : Option R := match Nat.ble 64 b with
  | true => match Nat.ble (Nat.add n m) 1048576 with
    | true => newB (.row t (Nat.mul (Nat.add n m) sz) (fill new cs (Nat.mul n sz)) (some sz)) ⟨put σ.heap b none, σ.next⟩ fun b' σ => rC σ (.sl b' 0 (Nat.add n m) false 0)
    | false => none
  | false => none
noncomputable def appIn (b o len m sz cap : Nat) (kn : Bool) (new : List C) (σ : St) : Option R := match putCells σ b (Nat.add o (Nat.mul len sz)) new with
  | some σ' => rC σ' (.sl b o (Nat.add len m) kn cap)
  | none => none
noncomputable def appKn (t sz b o len m cap : Nat) (new : List C) (σ : St) : Option R := match Nat.ble (Nat.add len m) cap with
  | true => appIn b o len m sz cap true new σ
  | false => match cellsAt σ b o (Nat.mul len sz) with
    | some old => appNew t sz (Nat.add len m) (old ++ new) σ
    | none => none
noncomputable def appUn (t sz b o len m d : Nat) (new : List C) (σ : St) : Option R := withRow σ b fun t' n cs u => match u with
  | none => none
  | some sz' => match Nat.beq sz sz' && Nat.beq t t' with
    | false => none
    | true => match Nat.beq o (Nat.mul d sz) with
      | false => none
      | true => match Nat.ble (Nat.add o (Nat.mul (Nat.add len m) sz)) n with
        | true => appIn b o len m sz d false new σ
        | false => match Nat.beq n (Nat.mul len sz) with
          | true => match d with
            | 0 => appGrow t sz b len m cs new σ
            | _ => none
          | false => none
noncomputable def app (t sz : Nat) (s x : C) (σ : St) : Option R := match slCells σ sz x with
  | some y => match y with
    | (m, new) => match m with
      | 0 => match s with
        | .nsl => rC σ s
        | .slx => rC σ s
        | .sl _ _ len kn cap => match kn with
          | true => match Nat.ble len cap with
            | true => rC σ s
            | false => none
          | false => rC σ s
        | _ => none
      | _ => match s with
        | .nsl => appNew t sz m new σ
        | .sl b o len kn cap => match kn with
          | true => appKn t sz b o len m cap new σ
          | false => appUn t sz b o len m cap new σ
        | _ => none
  | none => none
def minI (k : IntKind) (a b : Int) : C := .int k (match leI a b with | true => a | false => b)
def maxI (k : IntKind) (a b : Int) : C := .int k (match leI b a with | true => a | false => b)
/-! ### Maps -/
abbrev Ent := P × P × Nat
noncomputable def findK (kk : KK) (k : P) (es : List Ent) : Nat → Option (Option (Nat × P)) :=
  List.rec (motive := fun _ => Nat → Option (Option (Nat × P))) (fun _ => some none) (fun e _ ih i => match kkEq kk k e.1 with
    | some x => match x with
      | true => some (some (i, e.2.1))
      | false => ih (Nat.succ i)
    | none => none) es
def found (ok : Bool) (x : P) (b : Bool) : Option V := match ok with
  | true => some (.tup [x, .c (.bool b)])
  | false => some (.p x)
noncomputable def mapAt (σ : St) (r : Nat) {α : Type} (k : List Ent → Nat → Option α) : Option α := match σ with
  | ⟨h, _⟩ => match get h r with
    | some x => match x with
      | .map es clk => k es clk
      | _ => none
    | none => none
noncomputable def lookupIn (kk : KK) (z : P) (ok : Bool) (k : P) (es : List Ent) : Option V := match findK kk k es 0 with
  | some x => match x with
    | some y => found ok y.2 true
    | none => found ok z false
  | none => none
/-- The key is one of its kind. -/
noncomputable def keyOk (kk : KK) (k : P) : Bool := match kkEq kk k k with
  | some x => x
  | none => false
noncomputable def lookupOp (kk : KK) (z : P) (ok : Bool) (c : C) (k : P) (σ : St) : Option V := match keyOk kk k with
  | false => none
  | true => match c with
    | .map x => match x with
      | none => found ok z false
      | some r => mapAt σ r fun es _ => lookupIn kk z ok k es
    | _ => none
def setAt {α : Type} (f : α → α) : List α → Nat → List α
  | [], _ => []
  | a :: l, 0 => f a :: l
  | a :: l, n + 1 => a :: setAt f l n
noncomputable def insertIn (kk : KK) (r : Nat) (k v : P) (σ : St) (es : List Ent) (clk : Nat) : Option R := match findK kk k es 0 with
  | some x => match x with
    | some y => some (.skip (putB σ r (.map (setAt (fun e => (k, v, e.2.2)) es y.1) clk)))
    | none => some (.skip (putB σ r (.map (es ++ [(k, v, clk)]) (Nat.succ clk))))
  | none => none
noncomputable def insertOp (kk : KK) (c : C) (k v : P) (σ : St) : Option R := match keyOk kk k with
  | false => none
  | true => match c with
    | .map x => match x with
      | none => none
      | some r => match Nat.ble 64 r with
        | true => mapAt σ r fun es clk => insertIn kk r k v σ es clk
        | false => none
    | _ => none
noncomputable def rangeMap (c : C) (σ : St) : Option R := match c with
  | .map x => match x with
    | none => none
    | some r => mapAt σ r fun _ clk => newB (.miter r clk [] clk) σ fun b σ => rC σ (mkPtr b)
  | _ => none
def rV (σ : St) (v : V) : Option R := some (.val v σ)
noncomputable def nextIn (b r since last : Nat) (seen : List Nat) (σ : St) (es : List Ent) (clk : Nat) : Option R := match es with
  | [] => rV σ (.tup [.c (.bool false)])
  | e :: l => match l with
    | _ :: _ => none
    | [] => match seen with
      | [] => match Nat.ble (Nat.succ e.2.2) since with
        | true => rV (putB σ b (.miter r since [e.2.2] clk)) (.tup [.c (.bool true), e.1, e.2.1])
        | false => none
      | s :: q => match q with
        | _ :: _ => none
        | [] => match Nat.beq s e.2.2 with
          | true => match Nat.ble (Nat.succ e.2.2) last with
            | true => rV σ (.tup [.c (.bool false)])
            | false => none
          | false => none
noncomputable def nextMap (c : C) (σ : St) : Option R := withPtr c fun b o => match o with
  | 0 => match Nat.ble 64 b with
    | true => match get σ.heap b with
      | some (.miter r since seen last) => mapAt σ r fun es clk => nextIn b r since last seen σ es clk
      | _ => none
    | false => none
  | _ => none
/-! ### Building -/
def over (cs : List C) : Nat → List C → List C
  | 0, l => l ++ cs.drop l.length
  | k + 1, l => match cs with
    | [] => []
    | c :: r => c :: over r k l
def fillP (place : Nat → Option (Nat × Nat)) (F : Fr) : List (Nat × Get) → List C → Option (List C)
  | [], cells => some cells
  | x :: rest, cells => match asP (x.2.f F) with
    | none => none
    | some v => match place x.1 with
      | none => none
      | some y => match Nat.beq v.cells.length y.2 with
        | true => match Nat.ble (Nat.add y.1 y.2) cells.length with
          | true => fillP place F rest (over cells y.1 v.cells)
          | false => none
        | false => none
def nthP : List (Nat × Nat) → Nat → Option (Nat × Nat)
  | [], _ => none
  | a :: l, 0 => some a
  | a :: l, n + 1 => nthP l n
def places (tt : T TypeInfo) : List Field → Option (List (Nat × Nat))
  | [] => some []
  | f :: l => match size tt f.type with
    | some n => match places tt l with
      | some r => some ((f.offset, n) :: r)
      | none => none
    | none => none
def placeA (n i : Nat) : Option (Nat × Nat) := some (Nat.mul i n, n)
def reps (z : List C) : Nat → List C
  | 0 => []
  | n + 1 => z ++ reps z n
def buildP (place : Nat → Option (Nat × Nat)) (z : List C) (l : List (Nat × Get)) (F : Fr) : Option V := match fillP place F l z with
  | some cs => some (.p (.agg cs))
  | none => none
noncomputable def buildS (t len sz : Nat) (z : List C) (l : List (Nat × Get)) (F : Fr) : Option Al := match fillP (placeA sz) F l z with
  | some cs => some ⟨rowOf t cs, mkSl len len⟩
  | none => none
noncomputable def makeS (t : Nat) (z : List C) (l c : C) : Option Al := natOf l fun l => natOf c fun c => match Nat.ble l c with
  | true => match Nat.ble c 100000 with
    | true => some ⟨rowOf t (reps z c), mkSl l c⟩
    | false => none
  | false => none
/-! ### Conversions -/
def conInt (k : IntKind) (c : C) : Option V := match c with
  | .int _ n => vC (.int k (wrapQ k n))
  | .sy _ l => lfK k l
  | _ => none
def conStr (c : C) : Option V := match c with
  | .str s => vC (.str s)
  | .sst s => vC (.sst s)
  | _ => none
def bytesOf : List C → Option (List Nat)
  | [] => some []
  | c :: l => match c with
    | .int k x => match k with
      | .u8 => match x with
        | .ofNat n => match Nat.ble n 255 with
          | true => match bytesOf l with
            | some r => some (n :: r)
            | none => none
          | false => none
        | .negSucc _ => none
      | _ => none
    | _ => none
noncomputable def conBytes (c : C) (σ : St) : Option V := match c with
  | .nsl => vC (.str [])
  | .sl b o n _ _ => match cellsAt σ b o n with
    | some l => match bytesOf l with
      | some s => vC (.str s)
      | none => none
    | none => none
  | _ => none
end Kv
end Go.Proofs.YtbemdcbglpjmiaaGreatDoor
