/- EmitTells' first: the calls that are known, the tables. -/
import Derived.Test.YtngfeflemblljaaGreatDoorLvA
import Derived.KernelRfl
namespace Go.Proofs.YtngfeflemblljaaGreatDoor
open Go.RowKit
namespace Kv
open Ev
def ip (n : Nat) : C := .int .i64 (.ofNat n)
def im (n : Nat) : C := .int .i64 (.negSucc n)
def termsL : LB := .row 54 (some 6) [ip 1, .str [], ip 1, .str [], im 0, im 0, ip 1, .str [], ip 2, .str [], im 0, im 0, ip 6, .str [], ip 0, .str [], ip 0, ip 1]
def stepsL : LB := .row 151 (some 10) [ip 2, .str [], .str [], .str [], .str [], ip 2, .nsl, .nsl, .nsl, ip 1, ip 0, .str [], .str [], .str [], .str [], im 0, .nsl, .nsl, .nsl, im 0]
def viewsL : LB := .row 188 (some 2) [.bool true, .nsl, .bool true, .nsl]
def procV : V := .p (.agg [.str [109, 97, 105, 110], .nsl, .sl 143 0 3 false 0, .sl 146 0 2 false 0])
def stepV (i : Bool) : V := match i with
  | false => .p (.agg [ip 2, .str [], .str [], .str [], .str [], ip 2, .nsl, .nsl, .nsl, ip 1])
  | true => .p (.agg [ip 0, .str [], .str [], .str [], .str [], im 0, .nsl, .nsl, .nsl, im 0])
/-- live.uses of the two steps. -/
def usesO (i : Bool) : Orc := ⟨73, [procV, stepV i], [(143, termsL)], 2000, .p (.c .nsl), [], 2100⟩
/-- live.in. -/
def liveO (V nx : Nat) : Orc := ⟨45, [procV, .p (.c (.sl V 0 2 false 0))], [(143, termsL), (146, stepsL), (V, viewsL)], nx, .p (.c (.sl nx 0 2 true 2)), [(nx, .row 23 none [.nsl, .nsl])], nx + 1⟩
def firstOrcs : List Orc := [liveO 570 579, liveO 791 800, liveO 1038 1047]
noncomputable def tt : T TypeInfo := ofList Tryz.prog.types.toList
noncomputable def ff : T Func := ofList Tryz.prog.funcs.toList
def leaf (n : Nat) : List TypeDesc := List.replicate n (.int .i64)
/-- Structs and arrays that are compared. -/
noncomputable def fl : T (List TypeDesc) := put .nil 83 (some [.int .i64, .int .i64, .int .i64])
def ixIn (s : List Nat) (n : Nat) : Int := match s.findIdx? (fun (x : Nat) => Nat.beq x n) with
  | some i => .ofNat i
  | none => .negSucc 0
/-- internal/bytealg.IndexByteString. -/
def ixByte (_ : CallT) (l : List V) (σ : St) : Option (V × St) := match l with
  | [.p (.c (.str s)), .p (.c (.int .u8 (.ofNat n)))] => match Nat.ble n 255 with
    | true => some (.p (.c (.int .i64 (ixIn s n))), σ)
    | false => none
  | _ => none
def isOrc (f : Nat) : List Orc → Bool
  | [] => false
  | o :: l => match Nat.beq f o.f with
    | true => true
    | false => isOrc f l
noncomputable def prim (l : List Orc) (f : Nat) : Option Fun := match Nat.beq f 278 with
  | true => some ⟨ixByte⟩
  | false => match isOrc f l with
    | true => some ⟨fun _ args σ => tryAll f args σ l⟩
    | false => none
noncomputable def ev (l : List Orc) : CallT := eval tt fl ff (prim l) 200
/-- first. -/
noncomputable def firstFact : Bool := match ev firstOrcs 4 [] (lst 64 []) with
  | some x => vSame x.1 (.p (.c (.bool true)))
  | none => false
end Kv
end Go.Proofs.YtngfeflemblljaaGreatDoor
