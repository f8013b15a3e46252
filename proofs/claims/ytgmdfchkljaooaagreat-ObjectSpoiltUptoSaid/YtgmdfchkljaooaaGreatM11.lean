/- Typed functions. -/
import Derived.Test.YtgmdfchkljaooaaGreatM06
import Derived.Test.YtgmdfchkljaooaaGreatM07
import Derived.Test.YtgmdfchkljaooaaGreatM09
import Derived.Test.YtgmdfchkljaooaaGreatM10
noncomputable section
namespace Go.Proofs.YtgmdfchkljaooaaGreat
namespace cB
open bx (T)
set_option linter.unusedVariables false
set_option maxRecDepth 100000
def aaX:aw:=aZ [(0,ag)]
def aq3:aw:=aZ [(0,aN)]
def Ru:aw:=⟨[(3,zV),(4,.tok [.int .u8] 0 [])],[.a6 [.int .u8]]⟩
def aq2:bB:=[((.exit 0),⟨[(3,zV),(4,.tok [.int .u8] 1 [])],[.gone,.a6 [.int .u8]]⟩)]
def Jx (x:U Ru):Option (U Ru⊕bA aq2):=cond (fM (aO.w .u64 128) x.1.1) ((de 1 x.1.2.1 (cx [((q9 (fk .u8 x.1.1) (aO.w .u8 128)),())])).bind λcf=>(tW x.1.1 (aO.w .u64 7)).bind λv4=>some (.inl ((v4,cf,()),((),())))) (some (.inr ((x.1.1,x.1.2.1,()),((),(),()))))
def yx (x:U aaX):Option (U aq3):=(zT (fk .u64 x.1.1) (aO.w .u64 1)).bind λv1=>(tW x.1.1 (aO.w .u64 63)).bind λv2=>(a_ Jx (((ph v1 (fk .u64 v2)),L.nil,()),((),()))).bind λbf=>(de 1 bf.1.2.1 (cx [((fk .u8 bf.1.1),())])).bind λmE=>some (((og mE),()),())
def acW:aw:=⟨[(0,b9),(1,ag)],[.box [.tok [.int .u8] 1 []],.a6 [.int .u8]]⟩
def aui:aw:=⟨[],[.box [.tok [.int .u8] 2 []],.gone,.a6 [.int .u8]]⟩
def Dy (x:U acW):Option (U aui):=(yx ((x.1.2.1,()),())).bind λaB=>(rF aB.1.1).bind λeo=>(de 1 x.2.1.1 eo).bind λcf=>some ((),((cf,()),(),(),()))
def acT:aw:=⟨[(0,b9),(1,ag)],[.box [.tok [.int .u8] 1 []],.a6 [.int .u8]]⟩
def at9:aw:=⟨[],[.box [.tok [.int .u8] 2 []],.gone,.a6 [.int .u8]]⟩
def kX (x:U acT):Option (U at9):=(Dy (((),x.1.2.1,()),((x.2.1.1,()),(),()))).bind λaB=>some ((),((aB.2.1.1,()),(),(),()))
def ac2:aw:=⟨[(0,b9),(1,aN)],[.box [.tok [.int .u8] 1 []],.a6 [.int .u8]]⟩
def auw:aw:=⟨[],[.box [.tok [.int .u8] 2 []],.gone,.a6 [.int .u8]]⟩
def oI (x:U ac2):Option (U auw):=(kX (((),(mF x.1.2.1),()),((x.2.1.1,()),(),()))).bind λaB=>(rF x.1.2.1).bind λeo=>(de 1 aB.2.1.1 eo).bind λcf=>some ((),((cf,()),(),(),()))
def abM:aw:=⟨[(0,b9),(1,ak bM),(2,.fn 61 [(0,0)] [])],[.box [.tok [.int .u8] 1 []],.a6 [.int .u8]]⟩
def ar8:aw:=⟨[],[.box [.tok [.int .u8] 2 []],.gone,.a6 [.int .u8]]⟩
def abL:aw:=⟨[(2,.fn 61 [(0,0)] []),(12,ak bM),(13,ag),(14,ag)],[.box [.tok [.int .u8] 1 []],.a6 [.int .u8]]⟩
def ar6:bB:=[((.exit 0),⟨[],[.box [.tok [.int .u8] 2 []],.gone,.a6 [.int .u8]]⟩)]
def Df (x:U abL):Option (U abL⊕bA ar6):=cond (bh x.1.2.2.2.1 x.1.2.2.1) ((a7 x.1.2.1 (x.1.2.2.2.1).1).bind λaX=>(oI (((),aX.1,()),((x.2.1.1,()),(),()))).bind λa1=>some (.inl (((),x.1.2.1,x.1.2.2.1,(bg x.1.2.2.2.1 (W 1)),()),((a1.2.1.1,()),(),())))) (some (.inr ((),((x.2.1.1,()),(),(),()))))
def JL (x:U abM):Option (U ar8):=(kX (((),(bj x.1.2.1),()),((x.2.1.1,()),(),()))).bind λaB=>(a_ Df (((),x.1.2.1,(bj x.1.2.1),(W 0),()),((aB.2.1.1,()),(),()))).bind λa2=>some ((),((a2.2.1.1,()),(),(),()))
def acN:aw:=⟨[(0,b9),(1,.agg jG)],[.box [.tok [.int .u8] 1 []],.a6 [.int .u8]]⟩
def atV:aw:=⟨[],[.box [.tok [.int .u8] 2 []],.gone,.a6 [.int .u8]]⟩
def Dx (x:U acN):Option (U atV):=(kX (((),x.1.2.1.1,()),((x.2.1.1,()),(),()))).bind λaB=>(oI (((),x.1.2.1.2.1,()),((aB.2.1.1,()),(),()))).bind λaG=>some ((),((aG.2.1.1,()),(),(),()))
def acM:aw:=⟨[(0,b9),(1,.agg eb)],[.box [.tok [.int .u8] 1 []],.a6 [.int .u8]]⟩
def atS:aw:=⟨[],[.box [.tok [.int .u8] 2 []],.gone,.a6 [.int .u8]]⟩
def J5 (x:U acM):Option (U atS):=(oI (((),x.1.2.1.1,()),((x.2.1.1,()),(),()))).bind λaB=>(Dx (((),(x.1.2.1.2.1,x.1.2.1.2.2.1,()),()),((aB.2.1.1,()),(),()))).bind λaG=>(kX (((),x.1.2.1.2.2.2.1,()),((aG.2.1.1,()),(),()))).bind λa1=>some ((),((a1.2.1.1,()),(),(),()))
def aba:aw:=⟨[(0,b9),(1,ak eb),(2,.fn 66 [(0,0)] [])],[.box [.tok [.int .u8] 1 []],.a6 [.int .u8]]⟩
def arf:aw:=⟨[],[.box [.tok [.int .u8] 2 []],.gone,.a6 [.int .u8]]⟩
def aa':aw:=⟨[(2,.fn 66 [(0,0)] []),(12,ak eb),(13,ag),(14,ag)],[.box [.tok [.int .u8] 1 []],.a6 [.int .u8]]⟩
def are:bB:=[((.exit 0),⟨[],[.box [.tok [.int .u8] 2 []],.gone,.a6 [.int .u8]]⟩)]
def C5 (x:U aa'):Option (U aa'⊕bA are):=cond (bh x.1.2.2.2.1 x.1.2.2.1) ((a7 x.1.2.1 (x.1.2.2.2.1).1).bind λaX=>(J5 (((),aX,()),((x.2.1.1,()),(),()))).bind λa1=>some (.inl (((),x.1.2.1,x.1.2.2.1,(bg x.1.2.2.2.1 (W 1)),()),((a1.2.1.1,()),(),())))) (some (.inr ((),((x.2.1.1,()),(),(),()))))
def C4 (x:U aba):Option (U arf):=(kX (((),(bj x.1.2.1),()),((x.2.1.1,()),(),()))).bind λaB=>(a_ C5 (((),x.1.2.1,(bj x.1.2.1),(W 0),()),((aB.2.1.1,()),(),()))).bind λa2=>some ((),((a2.2.1.1,()),(),(),()))
def ac0:aw:=⟨[(0,.agg eg),(1,b9)],[.box [.ptr 1 0],.box [.tok [.int .u8] 2 []],.a6 [.int .u8]]⟩
def aup:aw:=⟨[],[.box [.ptr 1 0],.box [.tok [.int .u8] 3 []],.gone,.a6 [.int .u8]]⟩
def Kb (x:U ac0):Option (U aup):=(oI (((),x.1.1.1,()),((x.2.2.1.1,()),(),()))).bind λaB=>(oI (((),x.1.1.2.1,()),((aB.2.1.1,()),(),()))).bind λaG=>(C4 (((),x.1.1.2.2.1,(),()),((aG.2.1.1,()),(),()))).bind λa1=>some ((),(((),()),(a1.2.1.1,()),(),(),()))
def aby:aw:=⟨[(0,b9),(1,ak eg),(2,.fn 64 [] [(2,0)])],[.box [.tok [.int .u8] 1 []],.a6 [.int .u8],.box [b9]]⟩
def arQ:aw:=⟨[],[.box [.tok [.int .u8] 3 []],.gone,.box [b9],.a6 [.int .u8]]⟩
def abx:aw:=⟨[(2,.fn 64 [] [(0,0)]),(12,ak eg),(13,ag),(14,ag)],[.box [.ptr 1 0],.box [.tok [.int .u8] 2 []],.a6 [.int .u8]]⟩
def arO:bB:=[((.exit 0),⟨[],[.box [.ptr 1 0],.box [.tok [.int .u8] 3 []],.gone,.a6 [.int .u8]]⟩)]
def Da (x:U abx):Option (U abx⊕bA arO):=cond (bh x.1.2.2.2.1 x.1.2.2.1) ((a7 x.1.2.1 (x.1.2.2.2.1).1).bind λaX=>(Kb ((aX,(),()),(((),()),(x.2.2.1.1,()),(),()))).bind λa1=>some (.inl (((),x.1.2.1,x.1.2.2.1,(bg x.1.2.2.2.1 (W 1)),()),(((),()),(a1.2.2.1.1,()),(),())))) (some (.inr ((),(((),()),(x.2.2.1.1,()),(),(),()))))
def JI (x:U aby):Option (U arQ):=(kX (((),(bj x.1.2.1),()),((x.2.1.1,()),(),()))).bind λaB=>(a_ Da (((),x.1.2.1,(bj x.1.2.1),(W 0),()),(((),()),(aB.2.1.1,()),(),()))).bind λa2=>some ((),((a2.2.2.1.1,()),(),((),()),(),()))
def ac1:aw:=⟨[(0,b9),(1,.agg cV)],[.box [.tok [.int .u8] 1 []],.a6 [.int .u8]]⟩
def aut:aw:=⟨[],[.box [.tok [.int .u8] 2 []],.gone,.a6 [.int .u8]]⟩
def Ka (x:U ac1):Option (U aut):=(oI (((),x.1.2.1.1,()),((x.2.1.1,()),(),()))).bind λaB=>(JL (((),x.1.2.1.2.1,(),()),((aB.2.1.1,()),(),()))).bind λaG=>(JI (((),x.1.2.1.2.2.1,(),()),((aG.2.1.1,()),(),((),()),()))).bind λa1=>some ((),((a1.2.1.1,()),(),(),()))
def abB:aw:=⟨[(0,b9),(1,ak cV),(2,.fn 29 [(0,0)] [])],[.box [.tok [.int .u8] 1 []],.a6 [.int .u8]]⟩
def arV:aw:=⟨[],[.box [.tok [.int .u8] 2 []],.gone,.a6 [.int .u8]]⟩
def abA:aw:=⟨[(2,.fn 29 [(0,0)] []),(12,ak cV),(13,ag),(14,ag)],[.box [.tok [.int .u8] 1 []],.a6 [.int .u8]]⟩
def arT:bB:=[((.exit 0),⟨[],[.box [.tok [.int .u8] 2 []],.gone,.a6 [.int .u8]]⟩)]
def Db (x:U abA):Option (U abA⊕bA arT):=cond (bh x.1.2.2.2.1 x.1.2.2.1) ((a7 x.1.2.1 (x.1.2.2.2.1).1).bind λaX=>(Ka (((),aX,()),((x.2.1.1,()),(),()))).bind λa1=>some (.inl (((),x.1.2.1,x.1.2.2.1,(bg x.1.2.2.2.1 (W 1)),()),((a1.2.1.1,()),(),())))) (some (.inr ((),((x.2.1.1,()),(),(),()))))
def JJ (x:U abB):Option (U arV):=(kX (((),(bj x.1.2.1),()),((x.2.1.1,()),(),()))).bind λaB=>(a_ Db (((),x.1.2.1,(bj x.1.2.1),(W 0),()),((aB.2.1.1,()),(),()))).bind λa2=>some ((),((a2.2.1.1,()),(),(),()))
def acU:aw:=⟨[(0,.agg gz),(1,b9)],[.box [.ptr 1 0],.box [.tok [.int .u8] 2 []],.a6 [.int .u8]]⟩
def aub:aw:=⟨[],[.box [.ptr 1 0],.box [.tok [.int .u8] 3 []],.gone,.a6 [.int .u8]]⟩
def J_ (x:U acU):Option (U aub):=(kX (((),x.1.1.1,()),((x.2.2.1.1,()),(),()))).bind λaB=>(oI (((),x.1.1.2.1,()),((aB.2.1.1,()),(),()))).bind λaG=>(C4 (((),x.1.1.2.2.1,(),()),((aG.2.1.1,()),(),()))).bind λa1=>some ((),(((),()),(a1.2.1.1,()),(),(),()))
def abE:aw:=⟨[(0,b9),(1,ak gz),(2,.fn 68 [] [(2,0)])],[.box [.tok [.int .u8] 1 []],.a6 [.int .u8],.box [b9]]⟩
def ar0:aw:=⟨[],[.box [.tok [.int .u8] 3 []],.gone,.box [b9],.a6 [.int .u8]]⟩
def abD:aw:=⟨[(2,.fn 68 [] [(0,0)]),(12,ak gz),(13,ag),(14,ag)],[.box [.ptr 1 0],.box [.tok [.int .u8] 2 []],.a6 [.int .u8]]⟩
def arY:bB:=[((.exit 0),⟨[],[.box [.ptr 1 0],.box [.tok [.int .u8] 3 []],.gone,.a6 [.int .u8]]⟩)]
def Dc (x:U abD):Option (U abD⊕bA arY):=cond (bh x.1.2.2.2.1 x.1.2.2.1) ((a7 x.1.2.1 (x.1.2.2.2.1).1).bind λaX=>(J_ ((aX,(),()),(((),()),(x.2.2.1.1,()),(),()))).bind λa1=>some (.inl (((),x.1.2.1,x.1.2.2.1,(bg x.1.2.2.2.1 (W 1)),()),(((),()),(a1.2.2.1.1,()),(),())))) (some (.inr ((),(((),()),(x.2.2.1.1,()),(),(),()))))
def JK (x:U abE):Option (U ar0):=(kX (((),(bj x.1.2.1),()),((x.2.1.1,()),(),()))).bind λaB=>(a_ Dc (((),x.1.2.1,(bj x.1.2.1),(W 0),()),(((),()),(aB.2.1.1,()),(),()))).bind λa2=>some ((),((a2.2.2.1.1,()),(),((),()),(),()))
def acV:aw:=⟨[(0,b9),(1,.agg dt)],[.box [.tok [.int .u8] 1 []],.a6 [.int .u8]]⟩
def auf:aw:=⟨[],[.box [.tok [.int .u8] 2 []],.gone,.a6 [.int .u8]]⟩
def J9 (x:U acV):Option (U auf):=(oI (((),x.1.2.1.1,()),((x.2.1.1,()),(),()))).bind λaB=>(JK (((),x.1.2.1.2.1,(),()),((aB.2.1.1,()),(),((),()),()))).bind λaG=>some ((),((aG.2.1.1,()),(),(),()))
def abv:aw:=⟨[(0,b9),(1,ak dt),(2,.fn 31 [(0,0)] [])],[.box [.tok [.int .u8] 1 []],.a6 [.int .u8]]⟩
def arL:aw:=⟨[],[.box [.tok [.int .u8] 2 []],.gone,.a6 [.int .u8]]⟩
def abu:aw:=⟨[(2,.fn 31 [(0,0)] []),(12,ak dt),(13,ag),(14,ag)],[.box [.tok [.int .u8] 1 []],.a6 [.int .u8]]⟩
def arJ:bB:=[((.exit 0),⟨[],[.box [.tok [.int .u8] 2 []],.gone,.a6 [.int .u8]]⟩)]
def C' (x:U abu):Option (U abu⊕bA arJ):=cond (bh x.1.2.2.2.1 x.1.2.2.1) ((a7 x.1.2.1 (x.1.2.2.2.1).1).bind λaX=>(J9 (((),aX,()),((x.2.1.1,()),(),()))).bind λa1=>some (.inl (((),x.1.2.1,x.1.2.2.1,(bg x.1.2.2.2.1 (W 1)),()),((a1.2.1.1,()),(),())))) (some (.inr ((),((x.2.1.1,()),(),(),()))))
def JH (x:U abv):Option (U arL):=(kX (((),(bj x.1.2.1),()),((x.2.1.1,()),(),()))).bind λaB=>(a_ C' (((),x.1.2.1,(bj x.1.2.1),(W 0),()),((aB.2.1.1,()),(),()))).bind λa2=>some ((),((a2.2.1.1,()),(),(),()))
def abf:aw:=⟨[(0,b9),(1,ak jG),(2,.fn 70 [(0,0)] [])],[.box [.tok [.int .u8] 1 []],.a6 [.int .u8]]⟩
def ark:aw:=⟨[],[.box [.tok [.int .u8] 2 []],.gone,.a6 [.int .u8]]⟩
def abe:aw:=⟨[(2,.fn 70 [(0,0)] []),(12,ak jG),(13,ag),(14,ag)],[.box [.tok [.int .u8] 1 []],.a6 [.int .u8]]⟩
def ari:bB:=[((.exit 0),⟨[],[.box [.tok [.int .u8] 2 []],.gone,.a6 [.int .u8]]⟩)]
def C6 (x:U abe):Option (U abe⊕bA ari):=cond (bh x.1.2.2.2.1 x.1.2.2.1) ((a7 x.1.2.1 (x.1.2.2.2.1).1).bind λaX=>(Dx (((),aX,()),((x.2.1.1,()),(),()))).bind λa1=>some (.inl (((),x.1.2.1,x.1.2.2.1,(bg x.1.2.2.2.1 (W 1)),()),((a1.2.1.1,()),(),())))) (some (.inr ((),((x.2.1.1,()),(),(),()))))
def JC (x:U abf):Option (U ark):=(kX (((),(bj x.1.2.1),()),((x.2.1.1,()),(),()))).bind λaB=>(a_ C6 (((),x.1.2.1,(bj x.1.2.1),(W 0),()),((aB.2.1.1,()),(),()))).bind λa2=>some ((),((a2.2.1.1,()),(),(),()))
def abH:aw:=⟨[(0,b9),(1,ak aW),(2,.fn 60 [(0,0)] [])],[.box [.tok [.int .u8] 1 []],.a6 [.int .u8]]⟩
def ar4:aw:=⟨[],[.box [.tok [.int .u8] 2 []],.gone,.a6 [.int .u8]]⟩
def abG:aw:=⟨[(2,.fn 60 [(0,0)] []),(12,ak aW),(13,ag),(14,ag)],[.box [.tok [.int .u8] 1 []],.a6 [.int .u8]]⟩
def ar3:bB:=[((.exit 0),⟨[],[.box [.tok [.int .u8] 2 []],.gone,.a6 [.int .u8]]⟩)]
def De (x:U abG):Option (U abG⊕bA ar3):=cond (bh x.1.2.2.2.1 x.1.2.2.1) ((a7 x.1.2.1 (x.1.2.2.2.1).1).bind λaX=>(kX (((),aX.1,()),((x.2.1.1,()),(),()))).bind λa1=>some (.inl (((),x.1.2.1,x.1.2.2.1,(bg x.1.2.2.2.1 (W 1)),()),((a1.2.1.1,()),(),())))) (some (.inr ((),((x.2.1.1,()),(),(),()))))
def Dd (x:U abH):Option (U ar4):=(kX (((),(bj x.1.2.1),()),((x.2.1.1,()),(),()))).bind λaB=>(a_ De (((),x.1.2.1,(bj x.1.2.1),(W 0),()),((aB.2.1.1,()),(),()))).bind λa2=>some ((),((a2.2.1.1,()),(),(),()))
def acQ:aw:=⟨[(0,.agg c_),(1,b9)],[.box [.ptr 1 0],.box [.tok [.int .u8] 2 []],.a6 [.int .u8]]⟩
def atY:aw:=⟨[],[.box [.ptr 1 0],.box [.tok [.int .u8] 3 []],.gone,.a6 [.int .u8]]⟩
def J7 (x:U acQ):Option (U atY):=(oI (((),x.1.1.1,()),((x.2.2.1.1,()),(),()))).bind λaB=>(kX (((),x.1.1.2.1,()),((aB.2.1.1,()),(),()))).bind λaG=>(kX (((),x.1.1.2.2.1,()),((aG.2.1.1,()),(),()))).bind λa1=>some ((),(((),()),(a1.2.1.1,()),(),(),()))
def abr:aw:=⟨[(0,b9),(1,ak c_),(2,.fn 123 [] [(2,0)])],[.box [.tok [.int .u8] 1 []],.a6 [.int .u8],.box [b9]]⟩
def arG:aw:=⟨[],[.box [.tok [.int .u8] 3 []],.gone,.box [b9],.a6 [.int .u8]]⟩
def abq:aw:=⟨[(2,.fn 123 [] [(0,0)]),(12,ak c_),(13,ag),(14,ag)],[.box [.ptr 1 0],.box [.tok [.int .u8] 2 []],.a6 [.int .u8]]⟩
def arE:bB:=[((.exit 0),⟨[],[.box [.ptr 1 0],.box [.tok [.int .u8] 3 []],.gone,.a6 [.int .u8]]⟩)]
def C_ (x:U abq):Option (U abq⊕bA arE):=cond (bh x.1.2.2.2.1 x.1.2.2.1) ((a7 x.1.2.1 (x.1.2.2.2.1).1).bind λaX=>(J7 ((aX,(),()),(((),()),(x.2.2.1.1,()),(),()))).bind λa1=>some (.inl (((),x.1.2.1,x.1.2.2.1,(bg x.1.2.2.2.1 (W 1)),()),(((),()),(a1.2.2.1.1,()),(),())))) (some (.inr ((),(((),()),(x.2.2.1.1,()),(),(),()))))
def JG (x:U abr):Option (U arG):=(kX (((),(bj x.1.2.1),()),((x.2.1.1,()),(),()))).bind λaB=>(a_ C_ (((),x.1.2.1,(bj x.1.2.1),(W 0),()),(((),()),(aB.2.1.1,()),(),()))).bind λa2=>some ((),((a2.2.2.1.1,()),(),((),()),(),()))
def acR:aw:=⟨[(0,.agg fV),(1,b9)],[.box [.ptr 1 0],.box [.tok [.int .u8] 2 []],.a6 [.int .u8]]⟩
def at2:aw:=⟨[],[.box [.ptr 1 0],.box [.tok [.int .u8] 3 []],.gone,.a6 [.int .u8]]⟩
def J8 (x:U acR):Option (U at2):=(oI (((),x.1.1.1,()),((x.2.2.1.1,()),(),()))).bind λaB=>(oI (((),x.1.1.2.1,()),((aB.2.1.1,()),(),()))).bind λaG=>(Dd (((),x.1.1.2.2.1,(),()),((aG.2.1.1,()),(),()))).bind λa1=>some ((),(((),()),(a1.2.1.1,()),(),(),()))
def abl:aw:=⟨[(0,b9),(1,ak fV),(2,.fn 125 [] [(2,0)])],[.box [.tok [.int .u8] 1 []],.a6 [.int .u8],.box [b9]]⟩
def arw:aw:=⟨[],[.box [.tok [.int .u8] 3 []],.gone,.box [b9],.a6 [.int .u8]]⟩
def abk:aw:=⟨[(2,.fn 125 [] [(0,0)]),(12,ak fV),(13,ag),(14,ag)],[.box [.ptr 1 0],.box [.tok [.int .u8] 2 []],.a6 [.int .u8]]⟩
def aru:bB:=[((.exit 0),⟨[],[.box [.ptr 1 0],.box [.tok [.int .u8] 3 []],.gone,.a6 [.int .u8]]⟩)]
def C8 (x:U abk):Option (U abk⊕bA aru):=cond (bh x.1.2.2.2.1 x.1.2.2.1) ((a7 x.1.2.1 (x.1.2.2.2.1).1).bind λaX=>(J8 ((aX,(),()),(((),()),(x.2.2.1.1,()),(),()))).bind λa1=>some (.inl (((),x.1.2.1,x.1.2.2.1,(bg x.1.2.2.2.1 (W 1)),()),(((),()),(a1.2.2.1.1,()),(),())))) (some (.inr ((),(((),()),(x.2.2.1.1,()),(),(),()))))
def JE (x:U abl):Option (U arw):=(kX (((),(bj x.1.2.1),()),((x.2.1.1,()),(),()))).bind λaB=>(a_ C8 (((),x.1.2.1,(bj x.1.2.1),(W 0),()),(((),()),(aB.2.1.1,()),(),()))).bind λa2=>some ((),((a2.2.2.1.1,()),(),((),()),(),()))
def acS:aw:=⟨[(0,b9),(1,.agg eF)],[.box [.tok [.int .u8] 1 []],.a6 [.int .u8]]⟩
def at6:aw:=⟨[],[.box [.tok [.int .u8] 2 []],.gone,.a6 [.int .u8]]⟩
def J6 (x:U acS):Option (U at6):=(kX (((),x.1.2.1.1,()),((x.2.1.1,()),(),()))).bind λaB=>(kX (((),x.1.2.1.2.1,()),((aB.2.1.1,()),(),()))).bind λaG=>(kX (((),x.1.2.1.2.2.1,()),((aG.2.1.1,()),(),()))).bind λa1=>(Dy (((),x.1.2.1.2.2.2.1,()),((a1.2.1.1,()),(),()))).bind λa2=>(oI (((),x.1.2.1.2.2.2.2.1,()),((a2.2.1.1,()),(),()))).bind λbf=>(oI (((),x.1.2.1.2.2.2.2.2.1,()),((bf.2.1.1,()),(),()))).bind λbO=>(Dd (((),x.1.2.1.2.2.2.2.2.2.1,(),()),((bO.2.1.1,()),(),()))).bind λbU=>(JG (((),x.1.2.1.2.2.2.2.2.2.2.1,(),()),((bU.2.1.1,()),(),((),()),()))).bind λcD=>(JE (((),x.1.2.1.2.2.2.2.2.2.2.2.1,(),()),((cD.2.1.1,()),(),((),()),()))).bind λbV=>some ((),((bV.2.1.1,()),(),(),()))
def abo:aw:=⟨[(0,b9),(1,ak eF),(2,.fn 72 [(0,0)] [])],[.box [.tok [.int .u8] 1 []],.a6 [.int .u8]]⟩
def arB:aw:=⟨[],[.box [.tok [.int .u8] 2 []],.gone,.a6 [.int .u8]]⟩
def abn:aw:=⟨[(2,.fn 72 [(0,0)] []),(12,ak eF),(13,ag),(14,ag)],[.box [.tok [.int .u8] 1 []],.a6 [.int .u8]]⟩
def arz:bB:=[((.exit 0),⟨[],[.box [.tok [.int .u8] 2 []],.gone,.a6 [.int .u8]]⟩)]
def C9 (x:U abn):Option (U abn⊕bA arz):=cond (bh x.1.2.2.2.1 x.1.2.2.1) ((a7 x.1.2.1 (x.1.2.2.2.1).1).bind λaX=>(J6 (((),aX,()),((x.2.1.1,()),(),()))).bind λa1=>some (.inl (((),x.1.2.1,x.1.2.2.1,(bg x.1.2.2.2.1 (W 1)),()),((a1.2.1.1,()),(),())))) (some (.inr ((),((x.2.1.1,()),(),(),()))))
def JF (x:U abo):Option (U arB):=(kX (((),(bj x.1.2.1),()),((x.2.1.1,()),(),()))).bind λaB=>(a_ C9 (((),x.1.2.1,(bj x.1.2.1),(W 0),()),((aB.2.1.1,()),(),()))).bind λa2=>some ((),((a2.2.1.1,()),(),(),()))
def acZ:aw:=⟨[(0,b9),(1,.agg mR)],[.box [.tok [.int .u8] 1 []],.a6 [.int .u8]]⟩
def aul:aw:=⟨[],[.box [.tok [.int .u8] 2 []],.gone,.a6 [.int .u8]]⟩
def J' (x:U acZ):Option (U aul):=(oI (((),x.1.2.1.1,()),((x.2.1.1,()),(),()))).bind λaB=>(JC (((),x.1.2.1.2.1,(),()),((aB.2.1.1,()),(),()))).bind λaG=>(kX (((),x.1.2.1.2.2.1,()),((aG.2.1.1,()),(),()))).bind λa1=>(JF (((),x.1.2.1.2.2.2.1,(),()),((a1.2.1.1,()),(),()))).bind λa2=>some ((),((a2.2.1.1,()),(),(),()))
def abi:aw:=⟨[(0,b9),(1,ak mR),(2,.fn 33 [(0,0)] [])],[.box [.tok [.int .u8] 1 []],.a6 [.int .u8]]⟩
def arq:aw:=⟨[],[.box [.tok [.int .u8] 2 []],.gone,.a6 [.int .u8]]⟩
def abh:aw:=⟨[(2,.fn 33 [(0,0)] []),(12,ak mR),(13,ag),(14,ag)],[.box [.tok [.int .u8] 1 []],.a6 [.int .u8]]⟩
def aro:bB:=[((.exit 0),⟨[],[.box [.tok [.int .u8] 2 []],.gone,.a6 [.int .u8]]⟩)]
def C7 (x:U abh):Option (U abh⊕bA aro):=cond (bh x.1.2.2.2.1 x.1.2.2.1) ((a7 x.1.2.1 (x.1.2.2.2.1).1).bind λaX=>(J' (((),aX,()),((x.2.1.1,()),(),()))).bind λa1=>some (.inl (((),x.1.2.1,x.1.2.2.1,(bg x.1.2.2.2.1 (W 1)),()),((a1.2.1.1,()),(),())))) (some (.inr ((),((x.2.1.1,()),(),(),()))))
def JD (x:U abi):Option (U arq):=(kX (((),(bj x.1.2.1),()),((x.2.1.1,()),(),()))).bind λaB=>(a_ C7 (((),x.1.2.1,(bj x.1.2.1),(W 0),()),((aB.2.1.1,()),(),()))).bind λa2=>some ((),((a2.2.1.1,()),(),(),()))
def aa6:aw:=aZ [(0,aN)]
def ara:aw:=aZ [(0,.leaf (.int .u32))]
def Rz:aw:=aZ [(0,aN),(3,.leaf (.int .u32)),(6,ag),(7,ag)]
def aa5:bB:=[((.exit 0),aZ [(3,.leaf (.int .u32))])]
def JB (x:U Rz):Option (U Rz⊕bA aa5):=cond (bh x.1.2.2.2.1 x.1.2.2.1) ((u6 x.1.1 (x.1.2.2.2.1).1).bind λv1=>some (.inl ((x.1.1,(tT (ph x.1.2.1 (fk .u32 v1)) (aO.w .u32 16777619)),x.1.2.2.1,(bg x.1.2.2.2.1 (W 1)),()),()))) (some (.inr ((x.1.2.1,()),())))
def z7 (x:U aa6):Option (U ara):=(a_ JB ((x.1.1,(aO.w .u32 2166136261),(mF x.1.1),(W 0),()),())).bind λaG=>some ((aG.1.1,()),())
def abO:aw:=aZ [(0,.leaf (.int .u32))]
def ar':aw:=aZ [(0,aN)]
def Dg (x:U abO):Option (U ar'):=(tW x.1.1 (aO.w .u64 24)).bind λv1=>(tW x.1.1 (aO.w .u64 16)).bind λv2=>(tW x.1.1 (aO.w .u64 8)).bind λcZ=>some (((og (cx [((fk .u8 v1),()),((fk .u8 v2),()),((fk .u8 cZ),()),((fk .u8 x.1.1),())])),()),())
def aa8:aw:=aZ [(0,.agg qS)]
def arc:aw:=aZ [(0,aN),(1,ag)]
def C3 (x:U aa8):Option (U arc):=(JJ (((),x.1.1.1,(),()),(((cx [((aO.w .u8 82),()),((aO.w .u8 80),()),((aO.w .u8 84),()),((aO.w .u8 49),())]),()),(),()))).bind λaB=>(JH (((),x.1.1.2.1,(),()),((aB.2.1.1,()),(),()))).bind λaG=>(JD (((),x.1.1.2.2.1,(),()),((aG.2.1.1,()),(),()))).bind λa1=>(z7 (((og a1.2.1.1),()),())).bind λa2=>(Dg ((a2.1.1,()),())).bind λbf=>(rF bf.1.1).bind λmE=>(de 1 a1.2.1.1 mE).bind λj1=>cond (bh (W 65536) (bj j1)) (some (((S ⟨#[]⟩),(W 3300),()),())) (some (((og j1),(W 0),()),()))
def aa3:aw:=aZ [(0,aN)]
def aq7:aw:=aZ [(0,ag),(1,ag),(2,bP)]
def aa2:aw:=aZ [(6,ag),(7,.leaf (.int .u8))]
def aa1:bB:=[jB [],((.exit 0),aZ [])]
def aa0 (x:U aa2):Option (bA aa1):=cond (bd x.1.1 (W 9)) (cond (bh (aO.w .u8 1) x.1.2.1) (some (.inr ((),()))) (some (.inl ((),())))) (some (.inl ((),())))
def Rv:aw:=aZ [(0,aN),(5,zV),(6,ag)]
def aq5:bB:=[((.exit 0),aZ []),gA [(2,ag),(3,ag),(4,bP)]]
def JA (x:U Rv):Option (U Rv⊕bA aq5):=cond (bh x.1.2.2.1 (mF x.1.1)) (cond (bh x.1.2.2.1 (W 10)) ((u6 x.1.1 (x.1.2.2.1).1).bind λv1=>(aa0 ((x.1.2.2.1,v1,()),())).bind λaG=>Sum.elim (λa1=>(zT (fk .u64 (q8 v1 (aO.w .u8 127))) (tT (W 7) x.1.2.2.1)).bind λc5=>cond (bh v1 (aO.w .u8 128)) (cond (bd v1 (aO.w .u8 0)) (cond (bh (W 0) x.1.2.2.1) (some (.inr (.inl ((),())))) ((tW (q9 x.1.2.1 c5) (aO.w .u64 1)).bind λv6=>some (.inr (.inr (((ph (fk .i64 v6) (tU (fk .i64 (q8 (q9 x.1.2.1 c5) (aO.w .u64 1))))),(bg x.1.2.2.1 (W 1)),true,()),()))))) ((tW (q9 x.1.2.1 c5) (aO.w .u64 1)).bind λdN=>some (.inr (.inr (((ph (fk .i64 dN) (tU (fk .i64 (q8 (q9 x.1.2.1 c5) (aO.w .u64 1))))),(bg x.1.2.2.1 (W 1)),true,()),()))))) (some (.inl ((x.1.1,(q9 x.1.2.1 c5),(bg x.1.2.2.1 (W 1)),()),())))) (λa2=>some (.inr (.inl ((),())))) aG) (some (.inr (.inl ((),()))))) (some (.inr (.inl ((),()))))
def Jz (x:U aa3):Option (U aq7):=(a_ JA ((x.1.1,(aO.w .u64 0),(W 0),()),())).bind λcD=>Sum.elim (λbV=>some (((W 0),(W 0),false,()),())) (λcu=>some ((cu.1.1,cu.1.2.1,cu.1.2.2.1,()),())) cD
def acH:aw:=⟨[(0,b9)],[.box [aN,bP]]⟩
def atA:aw:=⟨[(0,ag)],[.box [aN,bP]]⟩
def z8 (x:U acH):Option (U atA):=(Jz ((x.2.1.1,()),())).bind λaB=>cond (!aB.1.2.2.1) (some (((W 0),()),((x.2.1.1,true,()),()))) (cond (x.2.1.2.1) (some (((W 0),()),((x.2.1.1,true,()),()))) ((oo x.2.1.1 (aB.1.2.1).1 x.2.1.1.1.size).bind λv2=>some ((aB.1.1,()),((v2,x.2.1.2.1,()),()))))
def acG:aw:=⟨[(0,b9)],[.box [aN,bP]]⟩
def aty:aw:=⟨[(0,ag)],[.box [aN,bP]]⟩
def pw (x:U acG):Option (U aty):=(z8 (((),()),(x.2.1,()))).bind λaB=>cond (bh aB.1.1 (W 0)) (some (((W 0),()),((aB.2.1.1,true,()),()))) (cond (bh (mF aB.2.1.1) aB.1.1) (some (((W 0),()),((aB.2.1.1,true,()),()))) (cond (aB.2.1.2.1) (some (((W 0),()),(aB.2.1,()))) (some ((aB.1.1,()),(aB.2.1,())))))
def acL:aw:=⟨[(0,b9)],[.box [aN,bP]]⟩
def atO:aw:=⟨[(0,aN)],[.box [aN,bP]]⟩
def oH (x:U acL):Option (U atO):=(pw (((),()),(x.2.1,()))).bind λaB=>(oo aB.2.1.1 0 (aB.1.1).1).bind λv2=>(oo aB.2.1.1 (aB.1.1).1 aB.2.1.1.1.size).bind λcZ=>some ((v2,()),((cZ,aB.2.1.2.1,()),()))
def acu:aw:=⟨[(0,b9),(1,.fn 78 [(0,0)] [])],[.box [aN,bP]]⟩
def as3:aw:=⟨[(0,ak bM)],[.box [aN,bP]]⟩
def acs:aw:=⟨[(0,b9),(1,.fn 78 [(0,0)] []),(5,.tok bM 1 []),(6,ag)],[.box [aN,bP],.a6 bM]⟩
def as1:bB:=[((.exit 0),⟨[(5,.tok bM 2 [])],[.box [aN,bP],.gone,.a6 bM]⟩)]
def Dv (x:U acs):Option (U acs⊕bA as1):=cond (bh (W 0) x.1.2.2.2.1) (cond (!x.2.1.2.1) ((oH (((),()),(x.2.1,()))).bind λaG=>(de 16 x.1.2.2.1 (cx [(aG.1.1,())])).bind λcf=>some (.inl (((),(),cf,(gf x.1.2.2.2.1 (W 1)),()),(aG.2.1,(),())))) (some (.inr ((x.1.2.2.1,()),(x.2.1,(),(),()))))) (some (.inr ((x.1.2.2.1,()),(x.2.1,(),(),()))))
def JV (x:U acu):Option (U as3):=(pw (((),()),(x.2.1,()))).bind λaB=>(a_ Dv (((),(),L.nil,aB.1.1,()),(aB.2.1,(),()))).bind λa2=>some ((a2.1.1,()),(a2.2.1,()))
def acD:aw:=⟨[(0,b9)],[.box [aN,bP]]⟩
def atn:aw:=⟨[(0,ag)],[.box [aN,bP]]⟩
def rh (x:U acD):Option (U atn):=(z8 (((),()),(x.2.1,()))).bind λaB=>some ((aB.1.1,()),(aB.2.1,()))
def acx:aw:=⟨[(0,b9)],[.box [aN,bP]]⟩
def as_:aw:=⟨[(0,.agg jG)],[.box [aN,bP]]⟩
def Dw (x:U acx):Option (U as_):=(rh (((),()),(x.2.1,()))).bind λaB=>(oH (((),()),(aB.2.1,()))).bind λaG=>some (((aB.1.1,aG.1.1,()),()),(aG.2.1,()))
def acw:aw:=⟨[(0,b9)],[.box [aN,bP]]⟩
def as7:aw:=⟨[(0,.agg eb)],[.box [aN,bP]]⟩
def JW (x:U acw):Option (U as7):=(oH (((),()),(x.2.1,()))).bind λaB=>(Dw (((),()),(aB.2.1,()))).bind λaG=>(rh (((),()),(aG.2.1,()))).bind λa1=>some (((aB.1.1,aG.1.1.1,aG.1.1.2.1,a1.1.1,()),()),(a1.2.1,()))
def abS:aw:=⟨[(0,b9),(1,.fn 83 [(0,0)] [])],[.box [aN,bP]]⟩
def asc:aw:=⟨[(0,ak eb)],[.box [aN,bP]]⟩
def abR:aw:=⟨[(0,b9),(1,.fn 83 [(0,0)] []),(5,.tok eb 1 []),(6,ag)],[.box [aN,bP],.a6 eb]⟩
def asb:bB:=[((.exit 0),⟨[(5,.tok eb 2 [])],[.box [aN,bP],.gone,.a6 eb]⟩)]
def Di (x:U abR):Option (U abR⊕bA asb):=cond (bh (W 0) x.1.2.2.2.1) (cond (!x.2.1.2.1) ((JW (((),()),(x.2.1,()))).bind λaG=>(de 48 x.1.2.2.1 (cx [aG.1.1])).bind λcf=>some (.inl (((),(),cf,(gf x.1.2.2.2.1 (W 1)),()),(aG.2.1,(),())))) (some (.inr ((x.1.2.2.1,()),(x.2.1,(),(),()))))) (some (.inr ((x.1.2.2.1,()),(x.2.1,(),(),()))))
def Dh (x:U abS):Option (U asc):=(pw (((),()),(x.2.1,()))).bind λaB=>(a_ Di (((),(),L.nil,aB.1.1,()),(aB.2.1,(),()))).bind λa2=>some ((a2.1.1,()),(a2.2.1,()))
def acJ:aw:=⟨[(0,b9)],[.box [.ptr 1 0],.box [aN,bP]]⟩
def atH:aw:=⟨[(0,.agg eg)],[.box [.ptr 1 0],.box [aN,bP]]⟩
def J4 (x:U acJ):Option (U atH):=(oH (((),()),(x.2.2.1,()))).bind λaB=>(oH (((),()),(aB.2.1,()))).bind λaG=>(Dh (((),(),()),(aG.2.1,()))).bind λa1=>some (((aB.1.1,aG.1.1,a1.1.1,()),()),(((),()),a1.2.1,()))
def ace:aw:=⟨[(0,b9),(1,.fn 81 [] [(1,0)])],[.box [aN,bP],.box [b9]]⟩
def asL:aw:=⟨[(0,ak eg)],[.box [aN,bP],.box [b9]]⟩
def acd:aw:=⟨[(0,b9),(1,.fn 81 [] [(1,0)]),(5,.tok eg 2 []),(6,ag)],[.box [aN,bP],.box [b9],.a6 eg]⟩
def asJ:bB:=[((.exit 0),⟨[(5,.tok eg 3 [])],[.box [aN,bP],.box [b9],.gone,.a6 eg]⟩)]
def Dq (x:U acd):Option (U acd⊕bA asJ):=cond (bh (W 0) x.1.2.2.2.1) (cond (!x.2.1.2.1) ((J4 (((),()),(((),()),x.2.1,()))).bind λaG=>(de 56 x.1.2.2.1 (cx [aG.1.1])).bind λcf=>some (.inl (((),(),cf,(gf x.1.2.2.2.1 (W 1)),()),(aG.2.2.1,((),()),(),())))) (some (.inr ((x.1.2.2.1,()),(x.2.1,((),()),(),(),()))))) (some (.inr ((x.1.2.2.1,()),(x.2.1,((),()),(),(),()))))
def JS (x:U ace):Option (U asL):=(pw (((),()),(x.2.1,()))).bind λaB=>(a_ Dq (((),(),L.nil,aB.1.1,()),(aB.2.1,((),()),(),()))).bind λa2=>some ((a2.1.1,()),(a2.2.1,((),()),()))
def acK:aw:=⟨[(0,b9)],[.box [aN,bP]]⟩
def atL:aw:=⟨[(0,.agg cV)],[.box [aN,bP]]⟩
def J3 (x:U acK):Option (U atL):=(oH (((),()),(x.2.1,()))).bind λaB=>(JV (((),(),()),(aB.2.1,()))).bind λaG=>(JS (((),(),()),(aG.2.1,((),()),()))).bind λa1=>some (((aB.1.1,aG.1.1,a1.1.1,()),()),(a1.2.1,()))
def ach:aw:=⟨[(0,b9),(1,.fn 37 [(0,0)] [])],[.box [aN,bP]]⟩
def asQ:aw:=⟨[(0,ak cV)],[.box [aN,bP]]⟩
def acg:aw:=⟨[(0,b9),(1,.fn 37 [(0,0)] []),(5,.tok cV 1 []),(6,ag)],[.box [aN,bP],.a6 cV]⟩
def asO:bB:=[((.exit 0),⟨[(5,.tok cV 2 [])],[.box [aN,bP],.gone,.a6 cV]⟩)]
def Dr (x:U acg):Option (U acg⊕bA asO):=cond (bh (W 0) x.1.2.2.2.1) (cond (!x.2.1.2.1) ((J3 (((),()),(x.2.1,()))).bind λaG=>(de 64 x.1.2.2.1 (cx [aG.1.1])).bind λcf=>some (.inl (((),(),cf,(gf x.1.2.2.2.1 (W 1)),()),(aG.2.1,(),())))) (some (.inr ((x.1.2.2.1,()),(x.2.1,(),(),()))))) (some (.inr ((x.1.2.2.1,()),(x.2.1,(),(),()))))
def JT (x:U ach):Option (U asQ):=(pw (((),()),(x.2.1,()))).bind λaB=>(a_ Dr (((),(),L.nil,aB.1.1,()),(aB.2.1,(),()))).bind λa2=>some ((a2.1.1,()),(a2.2.1,()))
def acE:aw:=⟨[(0,b9)],[.box [.ptr 1 0],.box [aN,bP]]⟩
def atq:aw:=⟨[(0,.agg gz)],[.box [.ptr 1 0],.box [aN,bP]]⟩
def J1 (x:U acE):Option (U atq):=(rh (((),()),(x.2.2.1,()))).bind λaB=>(oH (((),()),(aB.2.1,()))).bind λaG=>(Dh (((),(),()),(aG.2.1,()))).bind λa1=>some (((aB.1.1,aG.1.1,a1.1.1,()),()),(((),()),a1.2.1,()))
def ack:aw:=⟨[(0,b9),(1,.fn 85 [] [(1,0)])],[.box [aN,bP],.box [b9]]⟩
def asV:aw:=⟨[(0,ak gz)],[.box [aN,bP],.box [b9]]⟩
def acj:aw:=⟨[(0,b9),(1,.fn 85 [] [(1,0)]),(5,.tok gz 2 []),(6,ag)],[.box [aN,bP],.box [b9],.a6 gz]⟩
def asT:bB:=[((.exit 0),⟨[(5,.tok gz 3 [])],[.box [aN,bP],.box [b9],.gone,.a6 gz]⟩)]
def Ds (x:U acj):Option (U acj⊕bA asT):=cond (bh (W 0) x.1.2.2.2.1) (cond (!x.2.1.2.1) ((J1 (((),()),(((),()),x.2.1,()))).bind λaG=>(de 48 x.1.2.2.1 (cx [aG.1.1])).bind λcf=>some (.inl (((),(),cf,(gf x.1.2.2.2.1 (W 1)),()),(aG.2.2.1,((),()),(),())))) (some (.inr ((x.1.2.2.1,()),(x.2.1,((),()),(),(),()))))) (some (.inr ((x.1.2.2.1,()),(x.2.1,((),()),(),(),()))))
def JU (x:U ack):Option (U asV):=(pw (((),()),(x.2.1,()))).bind λaB=>(a_ Ds (((),(),L.nil,aB.1.1,()),(aB.2.1,((),()),(),()))).bind λa2=>some ((a2.1.1,()),(a2.2.1,((),()),()))
def acF:aw:=⟨[(0,b9)],[.box [aN,bP]]⟩
def atv:aw:=⟨[(0,.agg dt)],[.box [aN,bP]]⟩
def J0 (x:U acF):Option (U atv):=(oH (((),()),(x.2.1,()))).bind λaB=>(JU (((),(),()),(aB.2.1,((),()),()))).bind λaG=>some (((aB.1.1,aG.1.1,()),()),(aG.2.1,()))
def aca:aw:=⟨[(0,b9),(1,.fn 39 [(0,0)] [])],[.box [aN,bP]]⟩
def asG:aw:=⟨[(0,ak dt)],[.box [aN,bP]]⟩
def ab':aw:=⟨[(0,b9),(1,.fn 39 [(0,0)] []),(5,.tok dt 1 []),(6,ag)],[.box [aN,bP],.a6 dt]⟩
def asE:bB:=[((.exit 0),⟨[(5,.tok dt 2 [])],[.box [aN,bP],.gone,.a6 dt]⟩)]
def Dp (x:U ab'):Option (U ab'⊕bA asE):=cond (bh (W 0) x.1.2.2.2.1) (cond (!x.2.1.2.1) ((J0 (((),()),(x.2.1,()))).bind λaG=>(de 40 x.1.2.2.1 (cx [aG.1.1])).bind λcf=>some (.inl (((),(),cf,(gf x.1.2.2.2.1 (W 1)),()),(aG.2.1,(),())))) (some (.inr ((x.1.2.2.1,()),(x.2.1,(),(),()))))) (some (.inr ((x.1.2.2.1,()),(x.2.1,(),(),()))))
def JR (x:U aca):Option (U asG):=(pw (((),()),(x.2.1,()))).bind λaB=>(a_ Dp (((),(),L.nil,aB.1.1,()),(aB.2.1,(),()))).bind λa2=>some ((a2.1.1,()),(a2.2.1,()))
def abX:aw:=⟨[(0,b9),(1,.fn 88 [(0,0)] [])],[.box [aN,bP]]⟩
def asg:aw:=⟨[(0,ak jG)],[.box [aN,bP]]⟩
def abW:aw:=⟨[(0,b9),(1,.fn 88 [(0,0)] []),(5,.tok jG 1 []),(6,ag)],[.box [aN,bP],.a6 jG]⟩
def ase:bB:=[((.exit 0),⟨[(5,.tok jG 2 [])],[.box [aN,bP],.gone,.a6 jG]⟩)]
def Dj (x:U abW):Option (U abW⊕bA ase):=cond (bh (W 0) x.1.2.2.2.1) (cond (!x.2.1.2.1) ((Dw (((),()),(x.2.1,()))).bind λaG=>(de 24 x.1.2.2.1 (cx [aG.1.1])).bind λcf=>some (.inl (((),(),cf,(gf x.1.2.2.2.1 (W 1)),()),(aG.2.1,(),())))) (some (.inr ((x.1.2.2.1,()),(x.2.1,(),(),()))))) (some (.inr ((x.1.2.2.1,()),(x.2.1,(),(),()))))
def JM (x:U abX):Option (U asg):=(pw (((),()),(x.2.1,()))).bind λaB=>(a_ Dj (((),(),L.nil,aB.1.1,()),(aB.2.1,(),()))).bind λa2=>some ((a2.1.1,()),(a2.2.1,()))
def aco:aw:=⟨[(0,b9),(1,.fn 86 [(0,0)] [])],[.box [aN,bP]]⟩
def asZ:aw:=⟨[(0,ak aW)],[.box [aN,bP]]⟩
def acn:aw:=⟨[(0,b9),(1,.fn 86 [(0,0)] []),(5,.tok aW 1 []),(6,ag)],[.box [aN,bP],.a6 aW]⟩
def asY:bB:=[((.exit 0),⟨[(5,.tok aW 2 [])],[.box [aN,bP],.gone,.a6 aW]⟩)]
def Du (x:U acn):Option (U acn⊕bA asY):=cond (bh (W 0) x.1.2.2.2.1) (cond (!x.2.1.2.1) ((rh (((),()),(x.2.1,()))).bind λaG=>(de 8 x.1.2.2.1 (cx [(aG.1.1,())])).bind λcf=>some (.inl (((),(),cf,(gf x.1.2.2.2.1 (W 1)),()),(aG.2.1,(),())))) (some (.inr ((x.1.2.2.1,()),(x.2.1,(),(),()))))) (some (.inr ((x.1.2.2.1,()),(x.2.1,(),(),()))))
def Dt (x:U aco):Option (U asZ):=(pw (((),()),(x.2.1,()))).bind λaB=>(a_ Du (((),(),L.nil,aB.1.1,()),(aB.2.1,(),()))).bind λa2=>some ((a2.1.1,()),(a2.2.1,()))
def acA:aw:=⟨[(0,b9)],[.box [.ptr 1 0],.box [aN,bP]]⟩
def atc:aw:=⟨[(0,.agg c_)],[.box [.ptr 1 0],.box [aN,bP]]⟩
def JY (x:U acA):Option (U atc):=(oH (((),()),(x.2.2.1,()))).bind λaB=>(rh (((),()),(aB.2.1,()))).bind λaG=>(rh (((),()),(aG.2.1,()))).bind λa1=>some (((aB.1.1,aG.1.1,a1.1.1,()),()),(((),()),a1.2.1,()))
def ab9:aw:=⟨[(0,b9),(1,.fn 134 [] [(1,0)])],[.box [aN,bP],.box [b9]]⟩
def asB:aw:=⟨[(0,ak c_)],[.box [aN,bP],.box [b9]]⟩
def ab8:aw:=⟨[(0,b9),(1,.fn 134 [] [(1,0)]),(5,.tok c_ 2 []),(6,ag)],[.box [aN,bP],.box [b9],.a6 c_]⟩
def asz:bB:=[((.exit 0),⟨[(5,.tok c_ 3 [])],[.box [aN,bP],.box [b9],.gone,.a6 c_]⟩)]
def Dn (x:U ab8):Option (U ab8⊕bA asz):=cond (bh (W 0) x.1.2.2.2.1) (cond (!x.2.1.2.1) ((JY (((),()),(((),()),x.2.1,()))).bind λaG=>(de 32 x.1.2.2.1 (cx [aG.1.1])).bind λcf=>some (.inl (((),(),cf,(gf x.1.2.2.2.1 (W 1)),()),(aG.2.2.1,((),()),(),())))) (some (.inr ((x.1.2.2.1,()),(x.2.1,((),()),(),(),()))))) (some (.inr ((x.1.2.2.1,()),(x.2.1,((),()),(),(),()))))
def JQ (x:U ab9):Option (U asB):=(pw (((),()),(x.2.1,()))).bind λaB=>(a_ Dn (((),(),L.nil,aB.1.1,()),(aB.2.1,((),()),(),()))).bind λa2=>some ((a2.1.1,()),(a2.2.1,((),()),()))
def acB:aw:=⟨[(0,b9)],[.box [.ptr 1 0],.box [aN,bP]]⟩
def atg:aw:=⟨[(0,.agg fV)],[.box [.ptr 1 0],.box [aN,bP]]⟩
def JZ (x:U acB):Option (U atg):=(oH (((),()),(x.2.2.1,()))).bind λaB=>(oH (((),()),(aB.2.1,()))).bind λaG=>(Dt (((),(),()),(aG.2.1,()))).bind λa1=>some (((aB.1.1,aG.1.1,a1.1.1,()),()),(((),()),a1.2.1,()))
def ab3:aw:=⟨[(0,b9),(1,.fn 136 [] [(1,0)])],[.box [aN,bP],.box [b9]]⟩
def asr:aw:=⟨[(0,ak fV)],[.box [aN,bP],.box [b9]]⟩
def ab2:aw:=⟨[(0,b9),(1,.fn 136 [] [(1,0)]),(5,.tok fV 2 []),(6,ag)],[.box [aN,bP],.box [b9],.a6 fV]⟩
def asp:bB:=[((.exit 0),⟨[(5,.tok fV 3 [])],[.box [aN,bP],.box [b9],.gone,.a6 fV]⟩)]
def Dl (x:U ab2):Option (U ab2⊕bA asp):=cond (bh (W 0) x.1.2.2.2.1) (cond (!x.2.1.2.1) ((JZ (((),()),(((),()),x.2.1,()))).bind λaG=>(de 56 x.1.2.2.1 (cx [aG.1.1])).bind λcf=>some (.inl (((),(),cf,(gf x.1.2.2.2.1 (W 1)),()),(aG.2.2.1,((),()),(),())))) (some (.inr ((x.1.2.2.1,()),(x.2.1,((),()),(),(),()))))) (some (.inr ((x.1.2.2.1,()),(x.2.1,((),()),(),(),()))))
def JO (x:U ab3):Option (U asr):=(pw (((),()),(x.2.1,()))).bind λaB=>(a_ Dl (((),(),L.nil,aB.1.1,()),(aB.2.1,((),()),(),()))).bind λa2=>some ((a2.1.1,()),(a2.2.1,((),()),()))
def acC:aw:=⟨[(0,b9)],[.box [aN,bP]]⟩
def atk:aw:=⟨[(0,.agg eF)],[.box [aN,bP]]⟩
def JX (x:U acC):Option (U atk):=(rh (((),()),(x.2.1,()))).bind λaB=>(rh (((),()),(aB.2.1,()))).bind λaG=>(rh (((),()),(aG.2.1,()))).bind λa1=>(z8 (((),()),(a1.2.1,()))).bind λa2=>(oH (((),()),(a2.2.1,()))).bind λbf=>(oH (((),()),(bf.2.1,()))).bind λbO=>(Dt (((),(),()),(bO.2.1,()))).bind λbU=>(JQ (((),(),()),(bU.2.1,((),()),()))).bind λcD=>(JO (((),(),()),(cD.2.1,((),()),()))).bind λbV=>some (((aB.1.1,aG.1.1,a1.1.1,a2.1.1,bf.1.1,bO.1.1,bU.1.1,cD.1.1,bV.1.1,()),()),(bV.2.1,()))
def ab6:aw:=⟨[(0,b9),(1,.fn 90 [(0,0)] [])],[.box [aN,bP]]⟩
def asw:aw:=⟨[(0,ak eF)],[.box [aN,bP]]⟩
def ab5:aw:=⟨[(0,b9),(1,.fn 90 [(0,0)] []),(5,.tok eF 1 []),(6,ag)],[.box [aN,bP],.a6 eF]⟩
def asu:bB:=[((.exit 0),⟨[(5,.tok eF 2 [])],[.box [aN,bP],.gone,.a6 eF]⟩)]
def Dm (x:U ab5):Option (U ab5⊕bA asu):=cond (bh (W 0) x.1.2.2.2.1) (cond (!x.2.1.2.1) ((JX (((),()),(x.2.1,()))).bind λaG=>(de 136 x.1.2.2.1 (cx [aG.1.1])).bind λcf=>some (.inl (((),(),cf,(gf x.1.2.2.2.1 (W 1)),()),(aG.2.1,(),())))) (some (.inr ((x.1.2.2.1,()),(x.2.1,(),(),()))))) (some (.inr ((x.1.2.2.1,()),(x.2.1,(),(),()))))
def JP (x:U ab6):Option (U asw):=(pw (((),()),(x.2.1,()))).bind λaB=>(a_ Dm (((),(),L.nil,aB.1.1,()),(aB.2.1,(),()))).bind λa2=>some ((a2.1.1,()),(a2.2.1,()))
def acI:aw:=⟨[(0,b9)],[.box [aN,bP]]⟩
def atD:aw:=⟨[(0,.agg mR)],[.box [aN,bP]]⟩
def J2 (x:U acI):Option (U atD):=(oH (((),()),(x.2.1,()))).bind λaB=>(JM (((),(),()),(aB.2.1,()))).bind λaG=>(rh (((),()),(aG.2.1,()))).bind λa1=>(JP (((),(),()),(a1.2.1,()))).bind λa2=>some (((aB.1.1,aG.1.1,a1.1.1,a2.1.1,()),()),(a2.2.1,()))
def ab0:aw:=⟨[(0,b9),(1,.fn 41 [(0,0)] [])],[.box [aN,bP]]⟩
def asm:aw:=⟨[(0,ak mR)],[.box [aN,bP]]⟩
def abZ:aw:=⟨[(0,b9),(1,.fn 41 [(0,0)] []),(5,.tok mR 1 []),(6,ag)],[.box [aN,bP],.a6 mR]⟩
def asj:bB:=[((.exit 0),⟨[(5,.tok mR 2 [])],[.box [aN,bP],.gone,.a6 mR]⟩)]
def Dk (x:U abZ):Option (U abZ⊕bA asj):=cond (bh (W 0) x.1.2.2.2.1) (cond (!x.2.1.2.1) ((J2 (((),()),(x.2.1,()))).bind λaG=>(de 72 x.1.2.2.1 (cx [aG.1.1])).bind λcf=>some (.inl (((),(),cf,(gf x.1.2.2.2.1 (W 1)),()),(aG.2.1,(),())))) (some (.inr ((x.1.2.2.1,()),(x.2.1,(),(),()))))) (some (.inr ((x.1.2.2.1,()),(x.2.1,(),(),()))))
def JN (x:U ab0):Option (U asm):=(pw (((),()),(x.2.1,()))).bind λaB=>(a_ Dk (((),(),L.nil,aB.1.1,()),(aB.2.1,(),()))).bind λa2=>some ((a2.1.1,()),(a2.2.1,()))
def Rw:aw:=aZ [(0,aN)]
def Rx:aw:=aZ [(0,.agg qS),(1,ag)]
def z6 (x:U Rw):Option (U Rx):=cond (bh (mF x.1.1) (W 8)) (some (((L.nil,L.nil,L.nil,()),(W 3301),()),())) (cond (bh (W 65536) (mF x.1.1)) (some (((L.nil,L.nil,L.nil,()),(W 3301),()),())) ((oo x.1.1 0 ((W 4)).1).bind λv1=>cond (!cC v1 (S ⟨#[82,80,84,49]⟩)) (some (((L.nil,L.nil,L.nil,()),(W 3301),()),())) ((oo x.1.1 0 ((gf (mF x.1.1) (W 4))).1).bind λv2=>(oo x.1.1 ((gf (mF x.1.1) (W 4))).1 x.1.1.1.size).bind λcZ=>(z7 ((v2,()),())).bind λa2=>(Dg ((a2.1.1,()),())).bind λbf=>cond (!cC bf.1.1 cZ) (some (((L.nil,L.nil,L.nil,()),(W 3301),()),())) ((oo v2 ((W 4)).1 v2.1.size).bind λv6=>(JT (((),(),()),((v6,false,()),()))).bind λbU=>(JR (((),(),()),(bU.2.1,()))).bind λcD=>(JN (((),(),()),(cD.2.1,()))).bind λbV=>cond (bV.2.1.2.1) (some (((L.nil,L.nil,L.nil,()),(W 3301),()),())) (cond (!cC bV.2.1.1 (S ⟨#[]⟩)) (some (((L.nil,L.nil,L.nil,()),(W 3301),()),())) (some (((bU.1.1,cD.1.1,bV.1.1,()),(W 0),()),())))))))
def aaZ:bI:=⟨.nil,[]⟩
theorem aq1:cl 22 0 Jx:=ct aaZ [] []
theorem aaY:bC 22 yx:=bN aaZ [cr aq1] []
def auh:bI:=⟨.nil,[aR aaY]⟩
theorem acX:bC 120 Dy:=bN auh [] []
def at8:bI:=⟨.nil,[aR acX]⟩
theorem nq:bC 60 kX:=bN at8 [] []
def auv:bI:=⟨.nil,[aR nq]⟩
theorem s_:bC 61 oI:=bN auv [] []
def abN:bI:=⟨.nil,[aR nq,aR s_]⟩
theorem ar5:cl 62 0 Df:=ct abN [] []
theorem ar7:bC 62 JL:=bN abN [cr ar5] []
def atU:bI:=⟨(put .nil 3 .bX),[aR nq,aR s_]⟩
theorem acO:bC 70 Dx:=bN atU [] []
def atQ:bI:=⟨(put .nil 3 .bX),[aR nq,aR s_,aR acO]⟩
theorem atP:bC 66 J5:=bN atQ [] []
def abc:bI:=⟨(put .nil 7 .bX),[aR nq,aR atP]⟩
theorem ard:cl 65 0 C5:=ct abc [] []
theorem abb:bC 65 C4:=bN abc [cr ard] []
def auo:bI:=⟨(put .nil 2 .bX),[aR s_,aR abb]⟩
theorem aun:bC 64 Kb:=bN auo [] []
def abz:bI:=⟨(put .nil 7 .bX),[aR nq,aR aun]⟩
theorem arN:cl 63 0 Da:=ct abz [] []
theorem arP:bC 63 JI:=bN abz [cr arN] []
def aus:bI:=⟨(put .nil 3 .bX),[aR s_,aR ar7,aR arP]⟩
theorem aur:bC 29 Ka:=bN aus [] []
def abC:bI:=⟨(put .nil 7 .bX),[aR aur,aR nq]⟩
theorem arS:cl 28 0 Db:=ct abC [] []
theorem arU:bC 28 JJ:=bN abC [cr arS] []
def aua:bI:=⟨(put .nil 2 .bX),[aR nq,aR s_,aR abb]⟩
theorem at':bC 68 J_:=bN aua [] []
def abF:bI:=⟨(put .nil 7 .bX),[aR nq,aR at']⟩
theorem arX:cl 67 0 Dc:=ct abF [] []
theorem arZ:bC 67 JK:=bN abF [cr arX] []
def aue:bI:=⟨(put .nil 3 .bX),[aR s_,aR arZ]⟩
theorem aud:bC 31 J9:=bN aue [] []
def abw:bI:=⟨(put .nil 7 .bX),[aR aud,aR nq]⟩
theorem arI:cl 30 0 C':=ct abw [] []
theorem arK:bC 30 JH:=bN abw [cr arI] []
def abg:bI:=⟨(put .nil 7 .bX),[aR nq,aR acO]⟩
theorem arh:cl 69 0 C6:=ct abg [] []
theorem arj:bC 69 JC:=bN abg [cr arh] []
def abJ:bI:=⟨.nil,[aR nq]⟩
theorem ar2:cl 121 0 De:=ct abJ [] []
theorem abI:bC 121 Dd:=bN abJ [cr ar2] []
def atX:bI:=⟨(put .nil 2 .bX),[aR nq,aR s_]⟩
theorem atW:bC 123 J7:=bN atX [] []
def abt:bI:=⟨(put .nil 7 .bX),[aR nq,aR atW]⟩
theorem arD:cl 122 0 C_:=ct abt [] []
theorem arF:bC 122 JG:=bN abt [cr arD] []
def at1:bI:=⟨(put .nil 2 .bX),[aR s_,aR abI]⟩
theorem at0:bC 125 J8:=bN at1 [] []
def abm:bI:=⟨(put .nil 7 .bX),[aR nq,aR at0]⟩
theorem art:cl 124 0 C8:=ct abm [] []
theorem arv:bC 124 JE:=bN abm [cr art] []
def at5:bI:=⟨(put .nil 3 .bX),[aR nq,aR s_,aR acX,aR abI,aR arF,aR arv]⟩
theorem at4:bC 72 J6:=bN at5 [] []
def abp:bI:=⟨(put .nil 7 .bX),[aR nq,aR at4]⟩
theorem ary:cl 71 0 C9:=ct abp [] []
theorem arA:bC 71 JF:=bN abp [cr ary] []
def auk:bI:=⟨(put .nil 3 .bX),[aR nq,aR s_,aR arj,aR arA]⟩
theorem auj:bC 33 J':=bN auk [] []
def abj:bI:=⟨(put .nil 7 .bX),[aR auj,aR nq]⟩
theorem arn:cl 32 0 C7:=ct abj [] []
theorem arp:bC 32 JD:=bN abj [cr arn] []
def aa7:bI:=⟨.nil,[]⟩
theorem aq':cl 20 0 JB:=ct aa7 [] []
theorem RA:bC 20 z7:=bN aa7 [cr aq'] []
def ar_:bI:=⟨.nil,[]⟩
theorem abP:bC 34 Dg:=bN ar_ [] []
def arb:bI:=⟨(put (put .nil 1 .bX) 5 .tok),[aR RA,aR arU,aR arK,aR arp,aR abP]⟩
theorem aa9:bC 11 C3:=bN arb [] []
def aa4:bI:=⟨.nil,[]⟩
theorem aq4:cl 18 0 JA:=ct aa4 [] [.c 11 aa2 aa1]
theorem aq6:bC 18 Jz:=bN aa4 [cr aq4] []
def atz:bI:=⟨.nil,[aR aq6]⟩
theorem RC:bC 131 z8:=bN atz [] []
def atx:bI:=⟨.nil,[aR RC]⟩
theorem ri:bC 77 pw:=bN atx [] []
def atN:bI:=⟨.nil,[aR ri]⟩
theorem s9:bC 78 oH:=bN atN [] []
def acv:bI:=⟨.nil,[aR ri,aR s9]⟩
theorem as0:cl 79 0 Dv:=ct acv [] []
theorem as2:bC 79 JV:=bN acv [cr as0] []
def atm:bI:=⟨.nil,[aR RC]⟩
theorem yy:bC 86 rh:=bN atm [] []
def as9:bI:=⟨.nil,[aR s9,aR yy]⟩
theorem acy:bC 88 Dw:=bN as9 [] []
def as6:bI:=⟨.nil,[aR s9,aR yy,aR acy]⟩
theorem as5:bC 83 JW:=bN as6 [] []
def abU:bI:=⟨.nil,[aR ri,aR as5]⟩
theorem asa:cl 82 0 Di:=ct abU [] []
theorem abT:bC 82 Dh:=bN abU [cr asa] []
def atG:bI:=⟨.nil,[aR s9,aR abT]⟩
theorem atF:bC 81 J4:=bN atG [] []
def acf:bI:=⟨.nil,[aR ri,aR atF]⟩
theorem asI:cl 80 0 Dq:=ct acf [] []
theorem asK:bC 80 JS:=bN acf [cr asI] []
def atK:bI:=⟨.nil,[aR s9,aR as2,aR asK]⟩
theorem atJ:bC 37 J3:=bN atK [] []
def aci:bI:=⟨.nil,[aR atJ,aR ri]⟩
theorem asN:cl 36 0 Dr:=ct aci [] []
theorem asP:bC 36 JT:=bN aci [cr asN] []
def atp:bI:=⟨.nil,[aR s9,aR abT,aR yy]⟩
theorem ato:bC 85 J1:=bN atp [] []
def acm:bI:=⟨.nil,[aR ri,aR ato]⟩
theorem asS:cl 84 0 Ds:=ct acm [] []
theorem asU:bC 84 JU:=bN acm [cr asS] []
def atu:bI:=⟨.nil,[aR s9,aR asU]⟩
theorem att:bC 39 J0:=bN atu [] []
def acb:bI:=⟨.nil,[aR att,aR ri]⟩
theorem asD:cl 38 0 Dp:=ct acb [] []
theorem asF:bC 38 JR:=bN acb [cr asD] []
def abY:bI:=⟨.nil,[aR ri,aR acy]⟩
theorem asd:cl 87 0 Dj:=ct abY [] []
theorem asf:bC 87 JM:=bN abY [cr asd] []
def acq:bI:=⟨.nil,[aR ri,aR yy]⟩
theorem asX:cl 132 0 Du:=ct acq [] []
theorem acp:bC 132 Dt:=bN acq [cr asX] []
def atb:bI:=⟨.nil,[aR s9,aR yy]⟩
theorem ata:bC 134 JY:=bN atb [] []
def ab_:bI:=⟨.nil,[aR ri,aR ata]⟩
theorem asy:cl 133 0 Dn:=ct ab_ [] []
theorem asA:bC 133 JQ:=bN ab_ [cr asy] []
def atf:bI:=⟨.nil,[aR s9,aR acp]⟩
theorem ate:bC 136 JZ:=bN atf [] []
def ab4:bI:=⟨.nil,[aR ri,aR ate]⟩
theorem aso:cl 135 0 Dl:=ct ab4 [] []
theorem asq:bC 135 JO:=bN ab4 [cr aso] []
def atj:bI:=⟨.nil,[aR s9,aR yy,aR RC,aR acp,aR asA,aR asq]⟩
theorem ati:bC 90 JX:=bN atj [] []
def ab7:bI:=⟨.nil,[aR ri,aR ati]⟩
theorem ast:cl 89 0 Dm:=ct ab7 [] []
theorem asv:bC 89 JP:=bN ab7 [cr ast] []
def atC:bI:=⟨.nil,[aR s9,aR yy,aR asf,aR asv]⟩
theorem atB:bC 41 J2:=bN atC [] []
def ab1:bI:=⟨.nil,[aR atB,aR ri]⟩
theorem asi:cl 40 0 Dk:=ct ab1 [] []
theorem asl:bC 40 JN:=bN ab1 [cr asi] []
def aq_:bI:=⟨.nil,[aR RA,aR abP,aR asP,aR asF,aR asl]⟩
theorem aq9:bC 13 z6:=bN aq_ [] []
def ah3:aw:=aZ []
def aHE:aw:=aZ [(0,bP)]
def N7 (x:U ah3):Option (U aHE):=(C3 (((L.nil,L.nil,L.nil,()),()),())).bind λaB=>(yx (((W 0),()),())).bind λaG=>cond (cC aG.1.1 (S ⟨#[0]⟩)) ((yx (((W (-1)),()),())).bind λa1=>cond (cC a1.1.1 (S ⟨#[1]⟩)) ((yx (((W 64),()),())).bind λa2=>cond (cC a2.1.1 (S ⟨#[128,1]⟩)) (cond (bd aB.1.2.1 (W 0)) (cond (bd (mF aB.1.1) (W 11)) ((oo aB.1.1 0 ((W 7)).1).bind λc5=>cond (cC c5 (S ⟨#[82,80,84,49,0,0,0]⟩)) ((z7 (((S ⟨#[]⟩),()),())).bind λbO=>some (((bd bO.1.1 (aO.w .u32 2166136261)),()),())) (some ((false,()),()))) (some ((false,()),()))) (some ((false,()),()))) (some ((false,()),()))) (some ((false,()),()))) (some ((false,()),()))
def ah2:aw:=aZ [(0,ak aW),(1,ag),(2,.leaf (.int .u8))]
def aHB:aw:=aZ [(0,bP)]
def Ug (x:U ah2):Option (U aHB):=(N7 ((),())).bind λaB=>cond (!aB.1.1) (some ((false,()),())) ((Kp ((x.1.1,(W 0),(W 0),()),())).bind λaG=>(Kn ((aG.1.1,()),())).bind λa1=>cond (!a1.1.2.1) (some ((true,()),())) ((C3 ((a1.1.1,()),())).bind λa2=>cond (!bd a2.1.2.1 (W 0)) (some (((bd a2.1.2.1 (W 3300)),()),())) ((rF a2.1.1).bind λgv=>(Ko ((x.1.2.1,(tT (W 8) (W (gv.1.length:Nat))),()),())).bind λbO=>(x3 bO.1.1 (W 8)).bind λdN=>(x3 bO.1.1 (W 8)).bind λdj=>cond (decide (0<=(dj).1)&&decide ((dj).1<(gv.1.length:Nat))) ((e3 gv ((dj).1).toNat).bind λeK=>(tV bO.1.1 (W 8)).bind λv10=>(zT (aO.w .u8 1) v10).bind λv11=>cond (decide (0<=(dN).1)&&decide ((dN).1<(gv.1.length:Nat))) ((e3 gv ((dN).1).toNat).bind λjw=>(z6 (((og (ec gv ((dN).1).toNat ((ph eK.1 v11),()))),()),())).bind λcG=>(mg a2.1.1 (og (cx [(x.1.2.2.1,())]))).bind λiK=>(z6 ((iK,()),())).bind λdD=>(oo a2.1.1 0 ((gf (mF a2.1.1) (W 1))).1).bind λlJ=>(z6 ((lJ,()),())).bind λfo=>cond (bd cG.1.2.1 (W 3301)) (cond (bd dD.1.2.1 (W 3301)) (some (((bd fo.1.2.1 (W 3301)),()),())) (some ((false,()),()))) (some ((false,()),()))) (none)) (none))))
def aHD:bI:=⟨.nil,[aR aa9,aR RA,aR aaY]⟩
theorem aHC:bC 6 N7:=bN aHD [] []
def aHA:bI:=⟨(put (put (put (put (put .nil 7 .bX) 13 .bX) 15 .bX) 17 .bX) 39 (.arr [false])),[aR aHC,aR auQ,aR auY,aR aa9,aR aq9,aR auU]⟩
theorem aHz:bC 5 Ug:=bN aHA [] []
def aL {α:Type} (o:Option α) (P:α->Prop):Prop:=∃y,o=some y/\P y
section
variable{α β AW:Type} {P Q:α->Prop} {R:β->Prop}
theorem an {y:α} (h:P y):aL (some y) P:=⟨y,rfl,h⟩
theorem bG {R:β->Prop} {y:α} (h:P y):aL (some (Sum.inl y:α⊕β)) (Sum.elim P R):=⟨_,rfl,h⟩
theorem ba {R:β->Prop} {y:β} (h:R y):aL (some (Sum.inr y:α⊕β)) (Sum.elim P R):=⟨_,rfl,h⟩
theorem af {o:Option α} {f:α->Option β} (h:aL o P) (bu:∀a,P a->aL (f a) R):aL (o.bind f) R:=by
 obtain⟨a,rfl,bW⟩:=h;exact bu a bW
theorem ah {b:Bool} {x y:Option α} (aa:b=true->aL x P) (ae:b=false->aL y P):aL (cond b x y) P:=by
 cases b with
 |true=>exact aa rfl
 |false=>exact ae rfl
theorem dZ {S:AW->Prop} {s:α⊕β} {f:α->Option AW} {g:β->Option AW} (aU:Sum.elim P R s) (aa:∀a,P a->aL (f a) S) (ae:∀b,R b->aL (g b) S):aL (Sum.elim f g s) S:=by
 cases s with
 |inl a=>exact aa a aU
 |inr b=>exact ae b aU
theorem aL.mono {o:Option α} (h:aL o P) (ay:∀y,P y->Q y):aL o Q:=by
 obtain⟨y,aa,ae⟩:=h;exact⟨y,aa,ay y ae⟩
theorem cJ {h:α->Option (α⊕β)} (A1:α->Prop) (G2:α->Nat) (aU:∀x,A1 x->aL (h x) (Sum.elim (λg9=>A1 g9/\G2 g9<G2 x) R)):∀x,A1 x->aL (a_ h x) R:=by
 have key:∀n x,G2 x<n->A1 x->aL (a_ h x) R:=by
  intro n;induction n with
  |zero=>intro x aV;omega
  |succ n b_=>
   intro x aV aD;obtain⟨r,aa,ae⟩:=aU x aD;cases r with
   |inl g9=>
    rw[aoo aa];have ae:A1 g9/\G2 g9<G2 x:=ae;exact b_ g9 ab ae.1
   |inr y=>exact⟨y,aon aa,ae⟩
 exactλx=>key _ x (Nat.lt_succ_self _)
end
section
variable{k cj:IntKind}
theorem wrap64 (n:Int):IntKind.i64.wrap n=(n+9223372036854775808)%18446744073709551616-9223372036854775808:=by
 show(if(true&&decide (n%(2^64:Int)>=(2^(64-1):Int)))=true then n%(2^64:Int)-(2^64:Int) else n%(2^64:Int))=_;have aE:(2^64:Int)=18446744073709551616:=by decide
 have aX:(2^(64-1):Int)=9223372036854775808:=by decide
 rw[aE,aX];simp only[Bool.true_and,decide_eq_true_eq];split<;>omega
theorem th (n:Int):IntKind.u64.wrap n=n%18446744073709551616:=by
 show(if(false&&decide (n%(2^64:Int)>=(2^(64-1):Int)))=true then n%(2^64:Int)-(2^64:Int) else n%(2^64:Int))=_;have aE:(2^64:Int)=18446744073709551616:=by decide
 rw[aE];simp
theorem AS (n:Int):IntKind.u8.wrap n=n%256:=by
 show(if(false&&decide (n%(2^8:Int)>=(2^(8-1):Int)))=true then n%(2^8:Int)-(2^8:Int) else n%(2^8:Int))=_;have aE:(2^8:Int)=256:=by decide
 rw[aE];simp
theorem L.b {α:Type} (l:L α):l.1.length<=140737488355328:=l.2
theorem S.b (s:ew):s.1.size<=9223372036854775807:=s.2
theorem aO.sC (x:aO .i64):-9223372036854775808<=x.1/\x.1<=9223372036854775807:=x.2
theorem YN (n:Int):(aO.w k n).1=k.wrap n:=rfl
theorem anz (a b:aO k):(bg a b).1=k.wrap (a.1+b.1):=rfl
theorem anP (a b:aO k):(gf a b).1=k.wrap (a.1-b.1):=rfl
theorem Iy (a b:aO k):(tT a b).1=k.wrap (a.1*b.1):=rfl
theorem r2 (a:aO k):(fk cj a).1=cj.wrap a.1:=rfl
theorem YI (a:aO k):(tU a).1=k.wrap (0-a.1):=rfl
theorem anH (a b:aO k):(zP a b).1=min a.1 b.1:=by
 unfold zP;by_cases h:a.1<=b.1
 ·simp[h,Int.min_eq_left h]
 ·simp[h];omega
theorem anG (a b:aO k):(imax a b).1=max a.1 b.1:=by
 unfold imax;by_cases h:b.1<=a.1
 ·simp[h,Int.max_eq_left h]
 ·simp[h];omega
theorem aoh {α:Type} (l:L α):(bj l).1=l.1.length:=rfl
theorem aoi (s:ew):(mF s).1=s.1.size:=rfl
theorem anF (a b:aO k):bh a b=true↔a.1<b.1:=by simp[bh]
theorem anE (a b:aO k):bh a b=false↔b.1<=a.1:=by simp[bh]
theorem anD (a b:aO k):fM a b=true↔a.1<=b.1:=by simp[fM]
theorem anC (a b:aO k):fM a b=false↔b.1<a.1:=by simp[fM]
theorem anB (a b:aO k):bd a b=true↔a.1=b.1:=by simp[bd]
theorem anA (a b:aO k):bd a b=false↔¬a.1=b.1:=by simp[bd]
theorem akN (s t:ew):cC s t=true↔s=t:=by simp[cC]
theorem akM (s t:ew):cC s t=false↔¬s=t:=by simp[cC]
theorem aqT (b:Bool):(!b)=true↔b=false:=by cases b<;>simp
theorem aqR (b:Bool):(!b)=false↔b=true:=by cases b<;>simp
theorem aqK {α:Type}:(L.nil:L α).1=[]:=rfl
end
section
variable{α:Type} {k cj:IntKind}
theorem eG {l:L α} {i:Int} (h:0<=i/\i<l.1.length):aL (a7 l i) (λe=>l.1[i.toNat]? =some e):=by
 have bK:i.toNat<l.1.length:=ab;refine⟨l.1[i.toNat], ?_,e_ bK⟩;unfold a7;rw[show decide (0<=i)=true from decide_eq_true h.1];exact e_ bK
theorem ld {l:L α} {i:Nat} (h:i<l.1.length):aL (e3 l i) (λe=>l.1[i]? =some e):=⟨l.1[i],e_ h,e_ h⟩
theorem zU {s:ew} {i:Int} (h:0<=i/\i<s.1.size):aL (u6 s i) (λu=>∃b,s.1.data[i.toNat]? =some b/\u.1=(b.toNat:Int)):=by
 have bK:i.toNat<s.1.data.size:=by have:s.1.data.size=s.1.size:=rfl;omega
 unfold u6;rw[show decide (0<=i)=true from decide_eq_true h.1,Array.getElem?_eq_getElem bK];exact⟨_,rfl,_,rfl,rfl⟩
theorem pT {l:L α} {di aj:Int} (h:0<=di/\di<=aj/\aj<=l.1.length):aL (nf l di aj) (λr=>r.1=(l.1.drop di.toNat).take (aj-di).toNat/\(r.1.length:Int)=aj-di):=by
 unfold nf;rw[show(decide (0<=di)&&decide (di<=aj)&&decide (aj<=l.1.length))=true by simp[h]];refine⟨_,rfl,rfl, ?_⟩;show(((l.1.drop di.toNat).take (aj-di).toNat).length:Int)=_;rw[List.length_take,List.length_drop];omega
theorem Pd {s:ew} {di aj:Int} (h:0<=di/\di<=aj/\aj<=s.1.size):aL (oo s di aj) (λr=>r.1=s.1.extract di.toNat aj.toNat/\(r.1.size:Int)=aj-di):=by
 unfold oo;rw[dif_pos (by simp[h])];refine⟨_,rfl,rfl, ?_⟩;show((s.1.extract di.toNat aj.toNat).size:Int)=_;rw[ByteArray.size_extract];omega
theorem dv {eR:Nat} {l r:L α} (h:(l.1.length+r.1.length)*eR<=140737488355328/\l.1.length+r.1.length<=1048576000):aL (de eR l r) (λx=>x.1=l.1++r.1/\x.1.length=l.1.length+r.1.length):=by
 unfold de;rw[dif_pos (by simp[room,h])];exact⟨_,rfl,rfl,bY⟩
theorem oh {s t:ew} (h:s.1.size+t.1.size<=9223372036854775807):aL (mg s t) (λu=>u.1=s.1++t.1/\u.1.size=s.1.size+t.1.size):=by
 unfold mg;rw[dif_pos h];exact⟨_,rfl,rfl,ByteArray.size_append⟩
theorem tZ {eR:Nat} {n:aO k} {z:α} (h:0<=n.1/\n.1.toNat*eR<=140737488355328/\n.1.toNat<=1048576000):aL (qE eR n z) (λl=>l.1=List.replicate n.1.toNat z/\l.1.length=n.1.toNat):=by
 unfold qE;rw[dif_pos (by simp[room,h])];exact⟨_,rfl,rfl,List.length_replicate⟩
theorem ID {a b:aO k} (h:b.1≠0):aL (x3 a b) (λc=>c.1=k.wrap (Int.tdiv a.1 b.1)):=by
 unfold x3;rw[show decide (b.1=0)=false from decide_eq_false h];exact⟨_,rfl,rfl⟩
theorem x4 {a b:aO k} (h:b.1≠0):aL (tV a b) (λc=>c.1=k.wrap (Int.tmod a.1 b.1)):=by
 unfold tV;rw[show decide (b.1=0)=false from decide_eq_false h];exact⟨_,rfl,rfl⟩
theorem QE {a:aO k} {b:aO cj} (h:0<=b.1):aL (zT a b) (λc=>c.1=k.wrap (a.1*(2^(min b.1.toNat k.bits):Nat))):=by
 unfold zT;rw[show decide (0<=b.1)=true from decide_eq_true h];exact⟨_,rfl,rfl⟩
theorem x5 {a:aO k} {b:aO cj} (h:0<=b.1):aL (tW a b) (λc=>c.1=k.wrap (Int.fdiv a.1 (2^(min b.1.toNat k.bits):Nat))):=by
 unfold tW;rw[show decide (0<=b.1)=true from decide_eq_true h];exact⟨_,rfl,rfl⟩
theorem ajZ {s:ew} (h:s.1.size<=140737488355328):aL (rF s) (λl=>l.1.length=s.1.size):=by
 unfold rF;rw[dif_pos h];refine⟨_,rfl, ?_⟩;show(s.1.data.toList.map _).length=_;rw[List.length_map,Array.length_toList];rfl
end
theorem aI:(∀{k:IntKind} (n:Int),(aO.w k n).1=k.wrap n)/\(∀{k:IntKind} (a b:aO k),(bg a b).1=k.wrap (a.1+b.1))/\(∀{k:IntKind} (a b:aO k),(gf a b).1=k.wrap (a.1-b.1))/\(∀{k:IntKind} (a b:aO k),(tT a b).1=k.wrap (a.1*b.1))/\(∀{k:IntKind} (a:aO k),(tU a).1=k.wrap (0-a.1))/\(∀{k cj:IntKind} (a:aO k),(fk cj a).1=cj.wrap a.1)/\(∀{α:Type} (l:L α),(bj l).1=l.1.length)/\(∀s:ew,(mF s).1=s.1.size)/\(∀{α:Type},(L.nil:L α).1=[])/\(∀n:Int,IntKind.i64.wrap n=(n+9223372036854775808)%18446744073709551616-9223372036854775808)/\(∀n:Int,IntKind.u64.wrap n=n%18446744073709551616)/\(∀n:Int,IntKind.u8.wrap n=n%256)/\(∀{k:IntKind} (a b:aO k),(zP a b).1=min a.1 b.1)/\(∀{k:IntKind} (a b:aO k),(imax a b).1=max a.1 b.1):=⟨YN,anz,anP,Iy,YI,r2,aoh,aoi,aqK,wrap64,th,AS,anH,anG⟩
theorem ya {α:Type} (l:List α) (h:l.length<=100):(cx l).1.length=l.length:=by rw[fT ab]
theorem b5:(∀{α:Type},([]:List α).length=0)/\(∀{α:Type} (a:α) (l:List α),(a::l).length=l.length+1)/\(∀{α:Type} (l r:List α),(l++r).length=l.length+r.length)/\
 (∀{α:Type} (l:L α) (i:Nat) (x:α),(ec l i x).1.length=l.1.length)/\(∀{α:Type},(cx ([]:List α)).1.length=0)/\(∀{α:Type} (a:α),(cx [a]).1.length=1)/\(∀{α:Type} (a b:α),(cx [a,b]).1.length=2)/\
 (∀{α:Type} (a b c:α),(cx [a,b,c]).1.length=3)/\(∀{α:Type} (a b c d:α),(cx [a,b,c,d]).1.length=4)/\(∀{α:Type} (a b c d e:α),(cx [a,b,c,d,e]).1.length=5)/\(∀{α:Type} (a b c d e f:α),(cx [a,b,c,d,e,f]).1.length=6)/\
 (∀l:L (D [.int .u8]),(og l).1.size=l.1.length):=
 ⟨λ{_}=>dw,λ{_} _ _=>gO,λ{_} _ _=>bY,λ{_} l i x=>by simp[ec],λ{_}=>ya [] (by simp),λ{_} a=>ya [a] (by simp),λ{_} a b=>ya [a,b] (by simp),
  λ{_} a b c=>ya [a,b,c] (by simp),λ{_} a b c d=>ya [a,b,c,d] (by simp),λ{_} a b c d e=>ya [a,b,c,d,e] (by simp),λ{_} a b c d e f=>ya [a,b,c,d,e,f] (by simp),λl=>by
  show((l.1.map _).toArray).size=_
  simp⟩
theorem cc:(∀{k:IntKind} (a b:aO k),(bh a b=true)=(a.1<b.1))/\(∀{k:IntKind} (a b:aO k),(bh a b=false)=(b.1<=a.1))/\(∀{k:IntKind} (a b:aO k),(fM a b=true)=(a.1<=b.1))/\
 (∀{k:IntKind} (a b:aO k),(fM a b=false)=(b.1<a.1))/\(∀{k:IntKind} (a b:aO k),(bd a b=true)=(a.1=b.1))/\(∀{k:IntKind} (a b:aO k),(bd a b=false)=¬a.1=b.1)/\
 (∀s t:ew,(cC s t=true)=(s=t))/\(∀s t:ew,(cC s t=false)=¬s=t)/\(∀b:Bool,((!b)=true)=(b=false))/\(∀b:Bool,((!b)=false)=(b=true))/\
 (∀p q:Bool,((p&&q)=true)=(p=true/\q=true))/\(∀p q:Bool,((p||q)=true)=(p=true\/q=true))/\(∀p q:Bool,((p&&q)=false)=(p=true->q=false))/\(∀p q:Bool,((p||q)=false)=(p=false/\q=false)):=
 ⟨λa b=>propext (anF a b),λa b=>propext (anE a b),λa b=>propext (anD a b),λa b=>propext (anC a b),λa b=>propext (anB a b),λa b=>propext (anA a b),
  λs t=>propext (akN s t),λs t=>propext (akM s t),λb=>propext (aqT b),λb=>propext (aqR b),λp q=>by cases p<;>simp,λp q=>by simp,λp q=>by cases p<;>simp,λp q=>by simp⟩
theorem av:type_of%(And.intro cc (And.intro aI (And.intro (@decide_eq_true_eq) (@decide_eq_false_iff_not)))):=And.intro cc (And.intro aI (And.intro (@decide_eq_true_eq) (@decide_eq_false_iff_not)))
theorem dA {p:Prop} (h:p:=by simp only[aI,b5] at*<;>omega):p:=h
theorem db {p:Prop} (h:p:=by simp only[aI,b5];omega):p:=h
theorem k2 {p:Prop} (h:p:=by simp only[b5];omega):p:=h
theorem dR {p:Prop} (h:p:=by dsimp only<;>simp only[aI,b5] at*<;>omega):p:=h
theorem eQ {p:Prop} (h:p:=by dsimp only<;>simp only[aI]<;>omega):p:=h
theorem gI {p:Prop} (h:p:=by dsimp only[Sum.elim]<;>omega):p:=h
theorem fW {p:Prop} (h:p:=by dsimp only<;>omega):p:=h
theorem cw {p:Prop} (h:p:=by dsimp only[Sum.elim]<;>exact aY):p:=h
theorem iu {p:Prop} (h:p:=by dsimp only[Sum.elim]<;>rfl):p:=h
theorem pN {p:Prop} (h:p:=by dsimp only[Sum.elim]<;>(simp only[aI];decide)):p:=h
theorem mv {p:Prop} (h:p:=by dsimp only<;>(intro ay;contradiction)):p:=h
theorem bk {α β:Type} {l:L α} {i:Int} {f:α->Option β} {R:β->Prop} (bu:∀e,l.1[i.toNat]? =some e->aL (f e) R) (h:0<=i/\i<l.1.length:=by omega):aL ((a7 l i).bind f) R:=af (eG h) bu
theorem hY {α β:Type} {l:L α} {i:Nat} {f:α->Option β} {R:β->Prop} (bu:∀e,l.1[i]? =some e->aL (f e) R) (h:i<l.1.length:=by omega):aL ((e3 l i).bind f) R:=af (ld h) bu
set_option linter.unusedSimpArgs false
def oN (f:Nat->Nat):Nat->Nat
 |0=>0
 |n+1=>oN f n+f n
theorem UC (f g:Nat->Nat):∀n,oN (λx=>f x+g x) n=oN f n+oN g n
 |0=>rfl
 |n+1=>by have:=UC f g n;simp only[oN];omega
theorem aiw {f g:Nat->Nat}:∀n,(∀x,x<n->f x<=g x)->oN f n<=oN g n
 |0,_=>Nat.le_refl _
 |n+1,h=>by have:=aiw (f:=f) (g:=g) n (λx aV=>h x ab);have:=h n ab;simp only[oN];omega
theorem aiy {a:Nat}:∀n,a<n->1<=oN (λx=>if x=a then 1 else 0) n
 |n+1,h=>by
  simp only[oN];by_cases ax:a<n;have:=aiy n ax;omega;rw[if_pos ab];omega
theorem aix {f:Nat->Nat}:∀n,(∀x,f x<=1)->oN f n<=n
 |0,_=>Nat.le_refl _
 |n+1,h=>by have:=aix n h;have:=h n;simp only[oN];omega
inductive n8 (ch:Nat->List Nat) (a:Nat):Nat->Prop
  |refl:n8 ch a a
  |tail {b c}:n8 ch a b->c∈ch b->n8 ch a c
def dl (ch:Nat->List Nat) (a x:Nat):Nat:=by classical exact if n8 ch a x then 1 else 0
theorem Wu (ch a x):dl ch a x<=1:=by unfold dl;split<;>omega
theorem aiz (ch:Nat->List Nat) (n:Nat):∀l:List Nat,(l.map λc=>oN (dl ch c) n).sum=oN (λx=>(l.map λc=>dl ch c x).sum) n
 |[]=>by
  have:∀n,oN (λx=>0) n=0:=λn=>by induction n with|zero=>rfl|succ n b_=>simp only[oN];omega
  simp[this]
 |c::l=>by
  have:=aiz ch n l;simp only[List.map_cons,List.sum_cons];rw[this,<-UC]
theorem weight {n:Nat} {ch:Nat->List Nat} {ρ:Nat->Nat} (aJ:∀a c,c∈ch a->ρ a<ρ c)
 (hu:∀(a b i j c:Nat),(ch a)[i]? =some c->(ch b)[j]? =some c->a=b/\i=j):∃w:Nat->Nat,(∀a,w a<=n)/\∀a,a<n->1+((ch a).map w).sum<=w a:=by
 have ah6:∀{a x},n8 ch a x->a=x\/ρ a<ρ x:=λh=>by
  induction h with
  |refl=>exact .inl rfl
  |tail aa ae b_=>have:=aJ _ _ ae;rcases b_ with rfl|b_<;>exact .inr ab
 have bb:∀{a c x},c∈ch a->n8 ch c x->n8 ch a x:=λaq h=>by
  induction h with
  |refl=>exact .tail .refl aq
  |tail aa ae b_=>exact .tail b_ ae
 have up:∀{a b c:Nat},c∈ch a->c∈ch b->a=b:=λaa ae=>by
  obtain⟨i,aa⟩:=List.getElem?_of_mem aa;obtain⟨j,ae⟩:=List.getElem?_of_mem ae;exact(hu _ _ _ _ _ aa ae).1
 have cmp:∀{a b x},n8 ch a x->n8 ch b x->n8 ch a b\/n8 ch b a:=λ{a b x} h=>by
  induction h with
  |refl=>exactλh=>.inr h
  |tail aa ae b_=>
   intro h;cases h with
   |refl=>exact .inl (.tail aa ae)
   |tail aF aQ=>rw[up ae aQ] at b_;exact b_ aF
 have aH3:∀{a c c' x},c∈ch a->c'∈ch a->n8 ch c x->n8 ch c' x->c=c':=λ{a c c' x} h h' r lY=>by
  have key:∀{c c'},c∈ch a->c'∈ch a->n8 ch c c'->c=c':=λ{c c'} h h' r=>by
   cases r with
   |refl=>rfl
   |tail aF aQ=>
    rw[up aQ h'] at aF;have:=aJ _ _ h;rcases ah6 aF with q|q<;>(first|subst q|skip)<;>omega
  rcases cmp r lY with q|q;exact key h h' q;exact(key h' h q).symm
 refine⟨λa=>oN (dl ch a) n,λa=>aix n (Wu ch a),λa bW=> ?_⟩;rw[aiz];refine ij (Nat.add_le_add_right (aiy n bW) _) ?_;rw[<-UC];refine aiw n λx _=> ?_;have one:∀(l:List Nat) (k:Nat),(∀i c,l[i]? =some c->(ch a)[k+i]? =some c)->(l.map λc=>dl ch c x).sum<=1:=λl=>by
  induction l with
  |nil=>intro k _;simp
  |cons c l b_=>
   intro k aP;have b_:=b_ (k+1) λi c h=>by have:=aP (i+1) c (by simpa using h);rw[show k+1+i=k+(i+1) by omega];exact this
   simp only[List.map_cons,List.sum_cons];by_cases aq:n8 ch c x;have ax:∀eu:List Nat,(∀c',c'∈eu->¬n8 ch c' x)->(eu.map λc=>dl ch c x).sum=0:=λeu=>by
    induction eu with
    |nil=>intro _;rfl
    |cons e eu Cv=>
     intro h;simp only[List.map_cons,List.sum_cons];rw[Cv λc' q=>h c' (List.mem_cons_of_mem _ q)];unfold dl;rw[if_neg (h e (mw ..))]
   rw[ax l λc' jN am4=> ?_];exact Wu _ _ _;obtain⟨i,aj⟩:=List.getElem?_of_mem jN;have aa:=aP 0 c rfl;have ae:=aP (i+1) c' (by simpa using aj);have e:=aH3 (List.mem_of_getElem? aa) (List.mem_of_getElem? ae) aq am4;subst e;have:=(hu _ _ _ _ _ aa ae).2;omega;have:dl ch c x=0:=by unfold dl;rw[if_neg aq]
   omega
 have aa:=one (ch a) 0 λi c h=>by rw[fL];exact h
 by_cases aV:x=a;subst aV;have ax:∀l:List Nat,(∀c,c∈l->c∈ch x)->(l.map λc=>dl ch c x).sum=0:=λl=>by
  induction l with
  |nil=>intro _;rfl
  |cons e l b_=>
   intro h;simp only[List.map_cons,List.sum_cons];rw[b_ λc q=>h c (List.mem_cons_of_mem _ q)];unfold dl;rw[if_neg λq=> ?_];have:=aJ _ _ (h e (mw ..));rcases ah6 q with q|q<;>(first|subst q|skip)<;>omega
 rw[ax _ λc h=>h,if_pos rfl];unfold dl;rw[if_pos .refl];exact Nat.le_refl _;rw[if_neg aV,fL];by_cases bW:n8 ch a x;unfold dl at aa⊢;rw[if_pos bW];exact aa;have ax:∀l:List Nat,(∀c,c∈l->c∈ch a)->(l.map λc=>dl ch c x).sum=0:=λl=>by
  induction l with
  |nil=>intro _;rfl
  |cons e l b_=>
   intro h;simp only[List.map_cons,List.sum_cons];rw[b_ λc q=>h c (List.mem_cons_of_mem _ q)];unfold dl;rw[if_neg λq=>bW (bb (h e (mw ..)) q)]
 rw[ax _ λc h=>h];exact Nat.zero_le _
def kO (k:Int):Int:=if k<0\/19<k then-1 else if k<=5 then 0 else if k=15\/k=16 then 1 else 2
def tC (l:List (D ck)) (C:Int->Prop) (j:Int):Prop:=∃e:D ck,l[j.toNat]? =some e/\0<=kO e.1.1/\(0<=e.2.2.2.2.1.1->e.2.2.2.2.1.1<j/\C e.2.2.2.2.1.1)/\(0<=e.2.2.2.2.2.1.1->e.2.2.2.2.2.1.1<j/\C e.2.2.2.2.2.1.1)/\(kO e.1.1≠0->0<=e.2.2.2.2.1.1)/\(kO e.1.1=2->0<=e.2.2.2.2.2.1.1)/\e.2.2.2.1.1.size<=24
def oJ (e:D ck) (s:Nat):Int:=if s=0 then e.2.2.2.2.1.1 else e.2.2.2.2.2.1.1
def OT (l:List (D ck)) (C:Int->Prop):Prop:=∀(a b:Int) (s t:Nat) (e f:D ck),C a->C b->l[a.toNat]? =some e->l[b.toNat]? =some f->s<2->t<2->0<=oJ e s->oJ e s=oJ f t->a=b/\s=t
def m9 (l:List (D ck)) (n:Nat) (j:Int):Prop:=∃(C:Int->Prop) (w:Int->Nat),C j/\w j<=n/\∀k,C k->0<=k/\tC l C k/\∀e:D ck,l[k.toNat]? =some e->1+(if 0<=e.2.2.2.2.1.1 then w e.2.2.2.2.1.1 else 0)+(if 0<=e.2.2.2.2.2.1.1 then w e.2.2.2.2.2.1.1 else 0)<=w k
theorem m9.node {l:List (D ck)} {n:Nat} {j:Int} (h:m9 l n j):0<=j/\∃a b,1+a+b<=n/\tC l (λ_=>True) j/\∀e:D ck,l[j.toNat]? =some e->(0<=e.2.2.2.2.1.1->m9 l a e.2.2.2.2.1.1)/\(0<=e.2.2.2.2.2.1.1->m9 l b e.2.2.2.2.2.1.1):=by
 obtain⟨C,w,aa,hw,ae⟩:=h;obtain⟨bl,⟨e,aF,aQ,bn,cy,fj,fX⟩,aU⟩:=ae j aa;have aU:=aU e aF;refine⟨bl,(if 0<=e.2.2.2.2.1.1 then w e.2.2.2.2.1.1 else 0),(if 0<=e.2.2.2.2.2.1.1 then w e.2.2.2.2.2.1.1 else 0),ab,⟨e,aF,aQ,λq=>⟨(bn q).1,aY⟩,λq=>⟨(cy q).1,aY⟩,fj,fX⟩,λe' fe=> ?_⟩;rw[aF] at fe;cases fe;exact⟨λq=>⟨C,w,(bn q).2,by rw[if_pos q];exact Nat.le_refl _,ae⟩,λq=>⟨C,w,(cy q).2,by rw[if_pos q];exact Nat.le_refl _,ae⟩⟩
theorem m9.mono {l n m j} (h:m9 l n j) (hm:n<=m):m9 l m j:=by
 obtain⟨C,w,aa,hw,ae⟩:=h;exact⟨C,w,aa,ab,ae⟩
theorem m9.aqP {l:List (D ck)} {n:Nat} {j:Int} (h:m9 l n j):0<=j/\tC l (m9 l n) j:=by
 obtain⟨bl,a,b,Xp,⟨e,aF,aQ,bn,cy,fj,fX⟩,aU⟩:=h.node;obtain⟨s1,s2⟩:=aU e aF;exact⟨bl,e,aF,aQ,λq=>⟨(bn q).1,(s1 q).mono ab⟩,λq=>⟨(cy q).1,(s2 q).mono ab⟩,fj,fX⟩
theorem m9.make {l:List (D ck)} {C:Int->Prop} {j:Int} (au:C j) (rL:∀k,C k->0<=k/\tC l C k) (hu:OT l C):m9 l l.length j:=by
 classical
 let ops:D ck->List Nat:=λe=>(if 0<=e.2.2.2.2.1.1 then[e.2.2.2.2.1.1.toNat] else[])++(if 0<=e.2.2.2.2.2.1.1 then[e.2.2.2.2.2.1.1.toNat] else[])
 let ch:Nat->List Nat:=λa=>if C (a:Int) then(match l[a]? with|some e=>ops e|none=>[]) else[]
 have zB:∀(a:Nat) (e:D ck),C (a:Int)->l[a]? =some e->ch a=ops e:=λa e aa ae=>by simp only[ch,if_pos aa,ae]
 have get:∀(a i c:Nat),(ch a)[i]? =some c->∃e s,C (a:Int)/\l[a]? =some e/\s<2/\0<=oJ e s/\oJ e s=(c:Int)/\((0<=e.2.2.2.2.1.1/\s=i)\/(¬0<=e.2.2.2.2.1.1/\s=1/\i=0)):=λa i c h=>by
  by_cases bW:C (a:Int);obtain⟨_,e,aF,aQ,bn,cy,_⟩:=rL _ bW;have aF:l[a]? =some e:=aF;rw[zB a e bW aF] at h;by_cases gr:0<=e.2.2.2.2.1.1;by_cases e7:0<=e.2.2.2.2.2.1.1;simp only[ops,if_pos gr,if_pos e7] at h
  match i,h with
  |0,h=>cases h;exact⟨e,0,bW,aF,ab,gr,by simp[oJ];omega,.inl ⟨gr,rfl⟩⟩
  |1,h=>cases h;exact⟨e,1,bW,aF,ab,e7,by simp[oJ];omega,.inl ⟨gr,rfl⟩⟩
  |i+2,h=>simp at h
  simp only[ops,if_pos gr,if_neg e7] at h
  match i,h with
  |0,h=>cases h;exact⟨e,0,bW,aF,ab,gr,by simp[oJ];omega,.inl ⟨gr,rfl⟩⟩
  |i+1,h=>simp at h
  by_cases e7:0<=e.2.2.2.2.2.1.1;simp only[ops,if_neg gr,if_pos e7] at h
  match i,h with
  |0,h=>cases h;exact⟨e,1,bW,aF,ab,e7,by simp[oJ];omega,.inr ⟨gr,rfl,rfl⟩⟩
  |i+1,h=>simp at h
  simp only[ops,if_neg gr,if_neg e7] at h;simp at h;simp only[ch,if_neg bW] at h;simp at h
 obtain⟨w,hw,aU⟩:=weight (n:=l.length) (ch:=ch) (ρ:=λa=>l.length-a) (λa c aq=>by
  obtain⟨i,aj⟩:=List.getElem?_of_mem aq;obtain⟨e,s,cm,cF,dy,e8,ki,_⟩:=get a i c aj;have bK:=(ed.1 cF).1;obtain⟨_,e',aF,aQ,bn,cy,_⟩:=rL _ cm;have aF:l[a]? =some e':=aF;rw[cF] at aF;cases aF;have:(c:Int)<a:=by
   rw[<-ki];unfold oJ at e8⊢;by_cases aU:s=0;rw[if_pos aU] at e8⊢;exact(bn e8).1;rw[if_neg aU] at e8⊢;exact(cy e8).1
  show l.length-a<l.length-c
  omega) (λa b i j c aa ae=>by
  obtain⟨e,s,cm,cF,dy,e8,ki,lX⟩:=get a i c aa;obtain⟨f,t,gW,fU,jo,mm,vt,aKH⟩:=get b j c ae;obtain⟨jD,kj⟩:=hu _ _ s t e f cm gW cF fU dy jo e8 (ki.trans vt.symm);have jD:a=b:=ab;subst jD;rw[cF] at fU;cases fU;refine⟨rfl, ?_⟩
  omega)
 refine⟨C,λk=>w k.toNat,au,hw _,λk aP=> ?_⟩;obtain⟨bl,sO⟩:=rL k aP;refine⟨bl,sO,λe he=> ?_⟩;have o9:C ((k.toNat:Nat):Int):=by rw[show((k.toNat:Nat):Int)=k by omega];exact aP
 have:=aU k.toNat (ed.1 he).1;rw[zB _ e o9 he] at this;refine ij ?_ this;simp only[ops];split<;>split<;>simp<;>omega
def sy (l:List (D ck)) (j:Int):Prop:=m9 l 160 j
theorem sy.node {l:List (D ck)} {j:Int} (h:sy l j):0<=j/\tC l (sy l) j:=m9.aqP h
def gy (d:List (D [.int .i64])) (j:Int):Prop:=0<=j/\∃e:D [.int .i64],d[j.toNat]? =some e/\0<e.1.1
theorem gy.set {d:L (D [.int .i64])} {j:Int} (h:gy d.1 j) {k:Nat} {v:D [.int .i64]} (aM:0<v.1.1):gy (ec d k v).1 j:=by
 obtain⟨bl,e,aa,ae⟩:=h;refine⟨bl, ?_⟩;show∃e,(d.1.set k v)[j.toNat]? =some e/\_;by_cases aP:k=j.toNat;subst aP;exact⟨v,by rw[List.getElem?_set_self (ed.1 aa).1],aM⟩;exact⟨e,by rw[l9 aP];exact aa,ae⟩
theorem gy.Uq {d:L (D [.int .i64])} {j:Int} (bl:0<=j) (au:j.toNat<d.1.length) {v:D [.int .i64]} (aM:0<v.1.1):gy (ec d j.toNat v).1 j:=
 ⟨bl,v,by show(d.1.set j.toNat v)[j.toNat]? =_;rw[List.getElem?_set_self au],aM⟩
theorem gy.UG {d:L (D [.int .i64])} {j k:Int} {v:D [.int .i64]} (bl:0<=k) (h:gy (ec d k.toNat v).1 j):gy d.1 j\/j=k:=by
 obtain⟨jz,e,aF,aQ⟩:=h;have aF:(d.1.set k.toNat v)[j.toNat]? =some e:=aF;by_cases aP:k.toNat=j.toNat;exact .inr ab;rw[l9 aP] at aF;exact .inl ⟨jz,e,aF,aQ⟩
def wV (d:List (D [.int .i64])):Prop:=∀(j:Nat) (e:D [.int .i64]),d[j]? =some e->0<=e.1.1
theorem wV.set {d:L (D [.int .i64])} (h:wV d.1) {k:Nat} {v:D [.int .i64]} (aM:0<=v.1.1):wV (ec d k v).1:=λj e he=>by
 have he:(d.1.set k v)[j]? =some e:=he;by_cases aP:k=j;subst aP;rw[List.getElem?_set] at he;split at he;split at he;cases he;exact aM;cases he;exact absurd rfl ‹_›;rw[l9 aP] at he;exact h j e he
theorem afD:∀x:U afC,(True)->aL (E2 x) (λy=>True):=by
 intro x aD;unfold E2;apply ah<;>intro aC<;>simp only[av] at aC;exact an aY;exact an aY
theorem azS:∀x:U SY,(True)->aL (SX x) (λy=>True):=by
 intro x aD;unfold SX;apply ah<;>intro aC<;>simp only[av] at aC;exact an cw;apply ah<;>intro aT<;>simp only[av] at aT;exact an cw;apply ah<;>intro bJ<;>simp only[av] at bJ;exact an cw;apply ah<;>intro c7<;>simp only[av] at c7;exact an cw;apply ah<;>intro dM<;>simp only[av] at dM;exact an cw;apply ah<;>intro fH<;>simp only[av] at fH;exact an cw;apply ah<;>intro gF<;>simp only[av] at gF;exact an cw;apply ah<;>intro iy<;>simp only[av] at iy;exact an cw;apply ah<;>intro kG<;>simp only[av] at kG;exact an cw;apply ah<;>intro m1<;>simp only[av] at m1;exact an cw;apply ah<;>intro ou<;>simp only[av] at ou;exact an cw;apply ah<;>intro qY<;>simp only[av] at qY;exact an cw;apply ah<;>intro uS<;>simp only[av] at uS;exact an cw;apply ah<;>intro xw<;>simp only[av] at xw;exact an cw;apply ah<;>intro BT<;>simp only[av] at BT;exact an cw;apply ah<;>intro BU<;>simp only[av] at BU;exact an cw;apply ah<;>intro BV<;>simp only[av] at BV;exact an cw;apply ah<;>intro BW<;>simp only[av] at BW;exact an cw;apply ah<;>intro PZ<;>simp only[av] at PZ;exact an cw;exact an cw
theorem azT:∀x:U S0,(True)->aL (SZ x) (λy=>True):=by
 intro x aD;unfold SZ;apply ah<;>intro aC<;>simp only[av] at aC;exact an cw;apply ah<;>intro aT<;>simp only[av] at aT;exact an cw;apply ah<;>intro bJ<;>simp only[av] at bJ;exact an cw;apply ah<;>intro c7<;>simp only[av] at c7;exact an cw;apply ah<;>intro dM<;>simp only[av] at dM;exact an cw;apply ah<;>intro fH<;>simp only[av] at fH;exact an cw;apply ah<;>intro gF<;>simp only[av] at gF;exact an cw;apply ah<;>intro iy<;>simp only[av] at iy;exact an cw;apply ah<;>intro kG<;>simp only[av] at kG;exact an cw;apply ah<;>intro m1<;>simp only[av] at m1;exact an cw;apply ah<;>intro ou<;>simp only[av] at ou;exact an cw;apply ah<;>intro qY<;>simp only[av] at qY;exact an cw;apply ah<;>intro uS<;>simp only[av] at uS;exact an cw;apply ah<;>intro xw<;>simp only[av] at xw;exact an cw;apply ah<;>intro BT<;>simp only[av] at BT;exact an cw;apply ah<;>intro BU<;>simp only[av] at BU;exact an cw;apply ah<;>intro BV<;>simp only[av] at BV;exact an cw;apply ah<;>intro BW<;>simp only[av] at BW;exact an cw;exact an cw
theorem azX:∀x:U afb,(True)->aL (LP x) (λy=>True):=by
 intro x aD;unfold LP;refine af (azS _ aY) λaB cd=> ?_;apply ah<;>intro aC<;>simp only[av] at aC;exact an aY;refine af (azT _ aY) λaG cn=> ?_;apply ah<;>intro aT<;>simp only[av] at aT;exact an aY;exact an aY
theorem aAG:∀x:U afz,(True)->aL (L1 x) (λy=>True):=by
 intro x aD;unfold L1;apply ah<;>intro aC<;>simp only[av] at aC;exact an aY;exact an aY
theorem az4:∀x:U ET,(0<=x.1.2.1.1)->aL (a_ LR x) (Sum.elim (λy=>True) (λy=>y.1.1=false)):=
 cJ (λx:U ET=>0<=x.1.2.1.1) (λx:U ET=>((x.1.1.1.size:Int)-x.1.2.1.1).toNat) (λx aD=>by
  unfold LR;have X5:=S.b x.1.1;apply ah<;>intro aC<;>simp only[av] at aC;refine af (zU ab) λv4 pe=> ?_;refine af (afD _ aY) λbf cU=> ?_;apply ah<;>intro aT<;>simp only[av] at aT;refine af (zU ab) λv6 zO=> ?_;refine af (aAG _ aY) λbU en=> ?_;apply ah<;>intro bJ<;>simp only[av] at bJ;exact ba cw;exact bG ⟨dR,dR⟩;exact bG ⟨dR,dR⟩;exact ba cw)
theorem lk:∀x:U afd,(True)->aL (kz x) (λy=>y.1.1=true->1<=x.1.1.1.size/\x.1.1.1.size<=12):=by
 intro x aD;unfold kz;have X5:=S.b x.1.1;apply ah<;>intro aC<;>simp only[av] at aC;exact an mv;apply ah<;>intro aT<;>simp only[av] at aT;exact an mv;refine af (zU dA) λv1 rY=> ?_;refine af (afD _ aY) λaG cn=> ?_;apply ah<;>intro bJ<;>simp only[av] at bJ;exact an mv;refine af (azX _ aY) λa1 cq=> ?_;apply ah<;>intro c7<;>simp only[av] at c7;exact an mv;refine af (az4 _ dA) λcD eY=> ?_;dsimp only at eY;refine dZ eY (λbV dV=> ?_) (λcu eZ=> ?_);exact an (by(dsimp only)<;>(intro ay;(constructor<;>omega)));exact an (by(dsimp only)<;>(intro ay;(constructor<;>omega)))
theorem aAa (l:L (D [.str])) (s:ew):∀x:U EW,(x.1.1=l/\x.1.2.1=s/\0<=x.1.2.2.1.1)->aL (a_ Aq x) (Sum.elim (λy=>True) (λy=>0<=y.1.1.1/\y.1.1.1<l.1.length/\l.1[y.1.1.1.toNat]? =some (s,()))):=
 cJ (λx:U EW=>x.1.1=l/\x.1.2.1=s/\0<=x.1.2.2.1.1) (λx:U EW=>((x.1.1.1.length:Int)-x.1.2.2.1.1).toNat) (λx aD=>by
  unfold Aq;have jZ:=L.b x.1.1;apply ah<;>intro aC<;>simp only[av] at aC;refine bk λaE cL=> ?_;apply ah<;>intro aT<;>simp only[av] at aT;exact ba (by(dsimp only[Sum.elim])<;>(obtain⟨bo,cO,bD⟩:=aD;subst bo cO;exact⟨bD,aC,by rw[cL,<-aT]⟩));exact bG ⟨(by(dsimp only)<;>(obtain⟨bo,cO,bD⟩:=aD;refine⟨bo,cO, ?_⟩;simp only[aI,b5] at*;omega)),dR⟩;exact ba cw)
theorem afk:∀x:U S1,(True)->aL (uo x) (λy=>-1<=y.1.1.1/\y.1.1.1<x.1.1.1.length/\(0<=y.1.1.1->x.1.1.1[y.1.1.1.toNat]? =some (x.1.2.1,()))):=by
 intro x aD;unfold uo;refine af (aAa (x.1.1) (x.1.2.1) _ (by(exact⟨rfl,rfl,by simp only[aI];decide⟩))) λaG cn=> ?_;dsimp only at cn;refine dZ cn (λa1 cq=> ?_) (λa2 c9=> ?_);exact an (by(dsimp only)<;>(refine⟨by simp only[aI];decide,by simp only[aI];omega,λq=> ?_⟩;simp only[aI] at q;omega));exact an (by(dsimp only)<;>(exact⟨by have:=c9.1;omega,c9.2.1,λ_=>c9.2.2⟩))
theorem vp:∀x:U SV,(True)->aL (oK x) (λy=>y.1.1=true->∃j:Nat,x.1.1.1[j]? =some (x.1.2.1,())):=by
 intro x aD;unfold oK;refine af (afk _ aY) λaB cd=> ?_;dsimp only at cd;exact an (by(dsimp only)<;>(intro ay;simp only[cc,aI] at ay;exact⟨_,cd.2.2 ab⟩))
theorem az8:∀x:U EV,(0<=x.1.2.1.1)->aL (a_ LS x) (Sum.elim (λy=>True) (λy=>True)):=
 cJ (λx:U EV=>0<=x.1.2.1.1) (λx:U EV=>((x.1.1.1.length:Int)-x.1.2.1.1).toNat) (λx aD=>by
  unfold LS;have jZ:=L.b x.1.1;apply ah<;>intro aC<;>simp only[av] at aC;refine af (pT ab) λv1 rY=> ?_;refine bk λaX df=> ?_;refine af (vp _ aY) λa1 cq=> ?_;dsimp only at cq;apply ah<;>intro aT<;>simp only[av] at aT;exact ba cw;exact bG ⟨dR,dR⟩;exact ba cw)
theorem afi:∀x:U aff,(True)->aL (EU x) (λy=>True):=by
 intro x aD;unfold EU;refine af (az8 _ dA) λa2 c9=> ?_;dsimp only at c9;refine dZ c9 (λbf cU=> ?_) (λbO dB=> ?_);exact an aY;exact an aY
theorem aA6 (n:Nat):∀x:U E5,(0<=x.1.2.2.1.1/\x.1.2.2.1.1<=n/\x.1.1.1.length=n)->aL (a_ L4 x) (λy=>0<=y.1.1.1/\y.1.1.1<=n):=
 cJ (λx:U E5=>0<=x.1.2.2.1.1/\x.1.2.2.1.1<=n/\x.1.1.1.length=n) (λx:U E5=>((x.1.1.1.length:Int)-x.1.2.2.1.1).toNat) (λx aD=>by
  unfold L4;have jZ:=L.b x.1.1;apply ah<;>intro aC<;>simp only[av] at aC;refine bk λaE cL=> ?_;apply ah<;>intro aT<;>simp only[av] at aT;exact bG ⟨dR,dR⟩;exact ba gI;exact ba gI)
theorem afP:∀x:U afM,(x.1.1.1.length<=100000000)->aL (E4 x) (λy=>y.1.1.1.length<=x.1.1.1.length+1/\1<=y.1.1.1.length):=by
 intro x aD;unfold E4;refine af (aA6 (x.1.1.1.length) _ (by(and_intros<;>(intros)<;>(simp only[aI,b5] at*<;>omega)))) λaG cn=> ?_;dsimp only at cn;have jZ:=L.b x.1.1;apply ah<;>intro aC<;>simp only[av] at aC;refine bk λbL eT=> ?_;apply ah<;>intro aT<;>simp only[av] at aT;exact an fW;refine af (pT ab) λv4 pe=> ?_;refine af (dv dA) λgv kU=> ?_;refine af (dv dA) λmE v5=> ?_;refine af (pT ab) λdN xS=> ?_;refine af (dv dA) λjA oy=> ?_;exact an dR;refine af (pT ab) λfx Yv=> ?_;refine af (dv dA) λoE sQ=> ?_;refine af (dv dA) λq_ B9=> ?_;refine af (pT ab) λeH aKa=> ?_;refine af (dv dA) λm3 Ca=> ?_;exact an dR
theorem aAe (n:Nat) (aA:n<=10000000):∀x:U EY,(0<=x.1.2.2.1.1/\x.1.2.1.1.length<=x.1.2.2.1.1+1/\x.1.2.2.1.1<=n/\x.1.1.1.length=n/\1<=x.1.2.1.1.length)->aL (a_ LV x) (λy=>y.1.1.1.length<=n+1/\1<=y.1.1.1.length):=
 cJ (λx:U EY=>0<=x.1.2.2.1.1/\x.1.2.1.1.length<=x.1.2.2.1.1+1/\x.1.2.2.1.1<=n/\x.1.1.1.length=n/\1<=x.1.2.1.1.length) (λx:U EY=>((x.1.1.1.length:Int)-x.1.2.2.1.1).toNat) (λx aD=>by
  unfold LV;have jZ:=L.b x.1.1;apply ah<;>intro aC<;>simp only[av] at aC;refine bk λaE cL=> ?_;refine af (afP _ dA) λaG cn=> ?_;dsimp only at cn;exact bG ⟨dR,dR⟩;exact ba gI)
theorem Ar:∀x:U afl,(x.1.1.1.length<=10000000)->aL (vq x) (λy=>y.1.1.1.length<=x.1.1.1.length+1/\1<=y.1.1.1.length):=by
 intro x aD;unfold vq;refine af (aAe (x.1.1.1.length) ab _ (by(and_intros<;>(intros)<;>(simp only[aI,b5] at*<;>omega)))) λa1 cq=> ?_;dsimp only at cq;exact an fW
theorem azL:∀x:U SU,(True)->aL (SS x) (λy=>True):=by
 intro x aD;unfold SS;apply ah<;>intro aC<;>simp only[av] at aC;exact an cw;exact an cw
theorem au3 (k:Nat) (h:10^k<=18446744073709551615):k<=19:=by
 rcases jL 19 k with g|g;have:10^20<=10^k:=Nat.pow_le_pow_right bp g;have e:(10:Nat)^20=100000000000000000000:=by decide
 omega;exact g
theorem aiB (a:Int) (h:0<=a):Int.tdiv a 10=a/10:=Int.tdiv_eq_ediv_of_nonneg h
theorem azO:∀x:U ES,(x.1.2.1.1.length<=20/\(0<x.1.1.1->x.1.1.1.toNat*10^x.1.2.1.1.length<=18446744073709551615))->aL (a_ LO x) (λy=>y.1.1.1.length<=20/\1<=y.1.1.1.length):=
 cJ (λx:U ES=>x.1.2.1.1.length<=20/\(0<x.1.1.1->x.1.1.1.toNat*10^x.1.2.1.1.length<=18446744073709551615)) (λx:U ES=>x.1.1.1.toNat+(1-x.1.2.1.1.length)) (λx aD=>by
  unfold LO;have hu:=x.1.1.2;have Iq:0<=x.1.1.1:=hu.1;have ee:(aO.w .u64 10).1=10:=rfl;have fQ:(aO.w .u64 0).1=0:=rfl;obtain⟨alJ,alK⟩:=aD;apply ah<;>intro ai;simp only[cc,fQ] at ai;refine af (x4 (by rw[ee];decide)) λv2 _=> ?_;have az:=alK ai;have bw:10^x.1.2.1.1.length<=18446744073709551615:=ij (Nat.le_mul_of_pos_left _ ab) az;have a3:=au3 _ bw;refine af (dv (by simp only[b5];omega)) λcf k9=> ?_;simp only[b5] at k9;refine af (ID (by rw[ee];decide)) λv4 pe=> ?_;rw[ee,aiB _ Iq] at pe;have aJ5:x.1.1.1<=18446744073709551615:=hu.2;have aM:v4.1=x.1.1.1/10:=by rw[pe,th];omega
  refine bG ⟨⟨by dsimp only;omega,λk_=> ?_⟩,by dsimp only;omega⟩;dsimp only at k_⊢;rw[k9.2,Nat.add_comm,Nat.pow_succ,Nat.mul_comm (10^_) 10,<-Nat.mul_assoc];refine ij (mS _ ?_) az;omega;apply ah<;>intro aq;simp only[cc,aI] at ai aq;refine af (x4 (by rw[ee];decide)) λv2 _=> ?_;refine af (dv (by simp only[b5];omega)) λcf k9=> ?_;simp only[b5] at k9;refine af (ID (by rw[ee];decide)) λv4 pe=> ?_;rw[ee,aiB _ Iq] at pe;have aM:v4.1=0:=by rw[pe,th];omega
  exact bG ⟨⟨by dsimp only;omega,λk_=>by dsimp only at k_;omega⟩,by dsimp only;omega⟩;simp only[cc,aI] at aq;exact ba ⟨alJ,by dsimp only;omega⟩)
theorem ae_:∀x:U ae7,(True)->aL (ER x) (λy=>y.1.1.1.size<=21):=by
 intro x aD;unfold ER;refine af (azL _ aY) λaB cd=> ?_;have ans:=aB.1.1.2.2;have aKg:aB.1.1.1<=18446744073709551615:=ans;refine af (azO _ (by(refine⟨Nat.zero_le _,λ_=> ?_⟩;show aB.1.1.1.toNat*1<=_;omega))) λcD eY=> ?_;dsimp only at eY;have Pr:(S ⟨#[45]⟩).1.size=1:=rfl;apply ah<;>intro aC<;>simp only[av] at aC;refine af (oh dA) λfx Yv=> ?_;exact an dR;exact an dR
theorem S_:∀x:U afy,(True)->aL (As x) (λy=>y.1.1.1=kO x.1.1.1):=by
 intro x aD;unfold As;apply ah<;>intro aC<;>simp only[av] at aC;exact an (by(dsimp only)<;>(simp only[kO,aI] at*;(repeat' split)<;>omega));apply ah<;>intro aT<;>simp only[av] at aT;exact an (by(dsimp only)<;>(simp only[kO,aI] at*;(repeat' split)<;>omega));apply ah<;>intro bJ<;>simp only[av] at bJ;exact an (by(dsimp only)<;>(simp only[kO,aI] at*;(repeat' split)<;>omega));apply ah<;>intro c7<;>simp only[av] at c7;exact an (by(dsimp only)<;>(simp only[kO,aI] at*;(repeat' split)<;>omega));apply ah<;>intro dM<;>simp only[av] at dM;exact an (by(dsimp only)<;>(simp only[kO,aI] at*;(repeat' split)<;>omega));exact an (by(dsimp only)<;>(simp only[kO,aI] at*;(repeat' split)<;>omega))
theorem aAu:∀x:U S4,(True)->aL (S3 x) (Sum.elim (λy=>0<=x.1.2.1.1/\(x.1.2.1.1<2->x.1.1.2.2.2.2.2.1.1=-1)/\(x.1.2.1.1<1->x.1.1.2.2.2.2.1.1=-1)) (λy=>y.1.1=false)):=by
 intro x aD;unfold S3;apply ah<;>intro aC<;>simp only[av] at aC;exact an cw;apply ah<;>intro aT<;>simp only[av] at aT;apply ah<;>intro bJ<;>simp only[av] at bJ;exact an cw;apply ah<;>intro c7<;>simp only[av] at c7;apply ah<;>intro dM<;>simp only[av] at dM;exact an cw;exact an gI;exact an gI;apply ah<;>intro fH<;>simp only[av] at fH;apply ah<;>intro gF<;>simp only[av] at gF;exact an cw;exact an gI;exact an gI
theorem aAv:∀x:U S6,(True)->aL (S5 x) (λy=>True):=by
 intro x aD;unfold S5;apply ah<;>intro aC<;>simp only[av] at aC;refine af (lk _ aY) λbf cU=> ?_;dsimp only at cU;apply ah<;>intro aT<;>simp only[av] at aT;exact an cw;apply ah<;>intro bJ<;>simp only[av] at bJ;exact an cw;exact an cw;apply ah<;>intro c7<;>simp only[av] at c7;exact an cw;exact an cw
theorem aAw:∀x:U S8,(True)->aL (S7 x) (λy=>True):=by
 intro x aD;unfold S7;apply ah<;>intro aC<;>simp only[av] at aC;exact an cw;apply ah<;>intro aT<;>simp only[av] at aT;exact an cw;apply ah<;>intro bJ<;>simp only[av] at bJ;exact an cw;exact an cw
theorem aAA:∀x:U afx,(True)->aL (L0 x) (λy=>y.1.1=true->0<=kO x.1.1.1.1/\(kO x.1.1.1.1<2->x.1.1.2.2.2.2.2.1.1=-1)/\(kO x.1.1.1.1<1->x.1.1.2.2.2.2.1.1=-1)/\x.1.1.2.2.2.1.1.size<=24):=by
 intro x aD;unfold L0;refine af (S_ _ aY) λaB cd=> ?_;dsimp only at cd;refine af (aAu _ aY) λaG cn=> ?_;dsimp only at cn;refine dZ cn (λa1 cq=> ?_) (λa2 c9=> ?_);refine af (aAv _ aY) λbO dB=> ?_;refine af (aAw _ aY) λbU en=> ?_;apply ah<;>intro aC<;>simp only[av] at aC;apply ah<;>intro aT<;>simp only[av] at aT;apply ah<;>intro bJ<;>simp only[av] at bJ;exact an (by(dsimp only)<;>(intro ay;(rw[cd] at cq;exact⟨cq.1,cq.2.1,cq.2.2,by rw[aC];decide⟩)));exact an mv;exact an mv;apply ah<;>intro c7<;>simp only[av] at c7;apply ah<;>intro dM<;>simp only[av] at dM;apply ah<;>intro fH<;>simp only[av] at fH;exact an (by(dsimp only)<;>(intro ay;(rw[cd] at cq;exact⟨cq.1,cq.2.1,cq.2.2,by simp only[cc,aI] at ay;omega⟩)));exact an mv;exact an mv;apply ah<;>intro gF<;>simp only[av] at gF;apply ah<;>intro iy<;>simp only[av] at iy;exact an mv;exact an mv;exact an mv;exact an (by(dsimp only)<;>(intro ay;(rw[c9] at ay;contradiction)))
theorem aA8:∀x:U Tn,(0<=x.1.2.1.1/\x.1.2.1.1<x.1.1.1.length)->aL (Tm x) (λy=>∃e,x.1.1.1[x.1.2.1.1.toNat]? =some e/\y.1.1=if x.1.2.2.1.1=1 then e.2.2.2.2.2.1 else x.1.2.2.2.1):=by
 intro x aD;unfold Tm;apply ah<;>intro aC<;>simp only[av] at aC;refine bk λee lB=> ?_;exact an ⟨_,lB,by rw[if_pos ab]⟩;exact an ⟨_,e_ ab,by rw[if_neg ab]⟩
theorem aBc (l:L (D ck)) (i:Int) (e:D ck) (he:l.1[i.toNat]? =some e) (bW:kO e.1.1<=2) (d0:L (D [.int .i64])) (aly:∃q:D [.int .i64],d0.1[i.toNat]? =some q/\0<q.1.1/\q.1.1<=24) (rS:0<=i) (zE:i<l.1.length):
 ∀x:U L8,(x.1.1=l/\x.2.1.1.length=l.1.length/\x.1.2.2.1.1=i/\0<=x.1.2.2.2.2.1.1/\x.1.2.2.2.1.1=kO e.1.1/\(∀j,gy d0.1 j->gy x.2.1.1 j)/\(∀j,i<=j->x.2.1.1[j.toNat]? =d0.1[j.toNat]?)/\
  (∀j,gy x.2.1.1 j->gy d0.1 j\/j<i)/\(0<x.1.2.2.2.2.1.1->e.2.2.2.2.1.1<i/\gy x.2.1.1 e.2.2.2.2.1.1)/\(1<x.1.2.2.2.2.1.1->e.2.2.2.2.2.1.1<i/\gy x.2.1.1 e.2.2.2.2.2.1.1)/\wV x.2.1.1/\(0<x.1.2.2.2.2.1.1->¬gy d0.1 e.2.2.2.2.1.1)/\(1<x.1.2.2.2.2.1.1->¬gy d0.1 e.2.2.2.2.2.1.1/\e.2.2.2.2.1.1≠e.2.2.2.2.2.1.1))->
 aL (a_ L7 x) (Sum.elim (λy=>y.2.1.1.length=l.1.length/\(∀j,gy d0.1 j->gy y.2.1.1 j)/\(∀j,i<=j->y.2.1.1[j.toNat]? =d0.1[j.toNat]?)/\
  (∀j,gy y.2.1.1 j->gy d0.1 j\/j<i)/\(1<=kO e.1.1->e.2.2.2.2.1.1<i/\gy y.2.1.1 e.2.2.2.2.1.1)/\(2<=kO e.1.1->e.2.2.2.2.2.1.1<i/\gy y.2.1.1 e.2.2.2.2.2.1.1)/\wV y.2.1.1/\(1<=kO e.1.1->¬gy d0.1 e.2.2.2.2.1.1)/\(2<=kO e.1.1->¬gy d0.1 e.2.2.2.2.2.1.1/\e.2.2.2.2.1.1≠e.2.2.2.2.2.1.1)) (λy=>y.1.2.1=false)):=
 cJ _ (λx:U L8=>(x.1.2.2.2.1.1-x.1.2.2.2.2.1.1).toNat) (λx aD=>by
  unfold L7;obtain⟨bo,cO,bD,cz,fY,hM,lT,p6,Cw,anU,YT,YU,anV⟩:=aD;have Ie:=L.b l;apply ah<;>intro aC;simp only[cc,aI] at aC;refine af (eG (by rw[bo,bD];omega)) λeK kr=> ?_;rw[bo,bD,he] at kr;cases kr;refine af (aA8 _ (by dsimp only;rw[bo,bD];omega)) λb6 eU=> ?_;dsimp only at eU;rw[bo,bD] at eU;obtain⟨e',fe,eU⟩:=eU;rw[he] at fe;cases fe;have jW:b6.1.1=if x.1.2.2.2.2.1.1=1 then e.2.2.2.2.2.1 else e.2.2.2.2.1:=eU
  apply ah<;>intro aT;exact ba rfl;apply ah<;>intro bJ;exact ba rfl;simp only[cc,aI] at aT bJ;have bl:0<=b6.1.1.1:=ab;have aa:b6.1.1.1<i:=by rw[<-bD];exact bJ
  apply ah<;>intro c7;refine hY λjw kT=> ?_;apply ah<;>intro dM;exact ba rfl;apply ah<;>intro fH;refine af (ld (by rw[bD];omega)) λj9 ov=> ?_;rw[bD,lT i (Int.le_refl _)] at ov;obtain⟨q,am1,Yj,aJ_⟩:=aly;rw[am1] at ov;cases ov;apply ah<;>intro gF;refine hY λiX mi=> ?_;have xL:¬gy x.2.1.1 b6.1.1.1:=λ⟨_,q,cm,cF⟩=>by
   rw[kT] at cm;cases cm;simp only[cc,aI] at dM;omega
  have k_:0<(bg j9.1 (W 1)).1:=by simp only[aI];omega
  refine bG ⟨⟨bo, ?_,bD, ?_,fY,λj au=>(hM j au).set k_,λj au=> ?_,λj au=> ?_,λaP=> ?_,λaP=> ?_,YT.set (Int.le_of_lt k_),λaP=> ?_,λaP=> ?_⟩, ?_⟩;simp only[b5];exact cO;simp only[aI];omega;show(x.2.1.1.set b6.1.1.1.toNat _)[j.toNat]? =_;rw[l9 ab];exact lT j au;rcases gy.UG bl au with g|g;exact p6 j g;exact .inr ab;dsimp only at aP⊢;by_cases ax:x.1.2.2.2.2.1.1=0;rw[if_neg ab] at jW;rw[<-jW];exact⟨aa,gy.Uq bl ab k_⟩;obtain⟨aF,aQ⟩:=Cw ab;exact⟨aF,aQ.set k_⟩;dsimp only at aP⊢;simp only[aI] at aP;have ax:x.1.2.2.2.2.1.1=1:=ab;rw[if_pos ax] at jW;rw[<-jW];exact⟨aa,gy.Uq bl ab k_⟩;dsimp only at aP⊢;by_cases ax:x.1.2.2.2.2.1.1=0;rw[if_neg ab] at jW;rw[<-jW];exactλq=>xL (hM _ q);exact YU ab;dsimp only at aP⊢;simp only[aI] at aP;have ax:x.1.2.2.2.2.1.1=1:=ab;rw[if_pos ax] at jW;rw[<-jW];exact⟨λq=>xL (hM _ q),λq=>xL (q▸(Cw ab).2)⟩;dsimp only;simp only[aI];omega;exfalso;simp only[cc,decide_eq_true_eq,decide_eq_false_iff_not] at gF;omega;exfalso;simp only[cc,decide_eq_true_eq,decide_eq_false_iff_not] at fH;omega;exfalso;simp only[cc,decide_eq_true_eq,decide_eq_false_iff_not] at c7;omega;simp only[cc,aI] at aC;refine ba ⟨cO,hM,lT,p6,λaP=>Cw ab,λaP=>anU ab,YT,λaP=>YU ab,λaP=>anV ab⟩)
theorem aA' (l:L (D ck)) (root:Int):∀x:U L6,(x.1.1=l/\x.2.1.1.length=l.1.length/\x.1.2.2.1.1<l.1.length/\-1<=x.1.2.2.1.1/\gy x.2.1.1 root/\(∀j,x.1.2.2.1.1<j->gy x.2.1.1 j->tC l.1 (gy x.2.1.1) j)/\wV x.2.1.1/\OT l.1 (λj=>x.1.2.2.1.1<j/\gy x.2.1.1 j))->
 aL (a_ L5 x) (Sum.elim (λy=>y.2.1.1.length=l.1.length/\gy y.2.1.1 root/\(∀j,gy y.2.1.1 j->tC l.1 (gy y.2.1.1) j)/\OT l.1 (gy y.2.1.1)) (λy=>y.1.2.1=false)):=
 cJ _ (λx:U L6=>(x.1.2.2.1.1+1).toNat) (λx aD=>by
  unfold L5;obtain⟨bo,cO,bD,cz,fY,hM,lT,p6⟩:=aD;have Ie:=L.b l;apply ah<;>intro aC;simp only[cc,aI] at aC;have rS:0<=x.1.2.2.1.1:=ab;apply ah<;>intro aT;refine hY λbL eT=> ?_;apply ah<;>intro bJ;simp only[cc,aI] at bJ;refine bG ⟨⟨bo,cO, ?_, ?_,fY,λj au bw=> ?_,lT,λa b s t e f bW ai=> ?_⟩, ?_⟩;simp only[aI];omega;simp only[aI];omega;simp only[aI] at au;by_cases ax:j=x.1.2.2.1.1;subst ax;obtain⟨_,e,aF,aQ⟩:=bw;rw[eT] at aF;cases aF;omega;exact hM j ab bw;have ay:∀j,(gf x.1.2.2.1 (W 1)).1<j/\gy x.2.1.1 j->x.1.2.2.1.1<j/\gy x.2.1.1 j:=λj au=>by
   simp only[aI] at au;refine⟨?_,au.2⟩;by_cases ax:j=x.1.2.2.1.1;obtain⟨_,_,e,aF,aQ⟩:=au;subst ax;rw[eT] at aF;cases aF;omega;omega
  exact p6 a b s t e f (ay a bW) (ay b ai);simp only[aI];omega;refine af (eG (by rw[bo];omega)) λcM fA=> ?_;rw[bo] at fA;refine af (aAA _ trivial) λbf cU=> ?_;dsimp only at cU;apply ah<;>intro c7;exact ba rfl;simp only[cc] at c7;obtain⟨dE,dc,gT,sB⟩:=cU c7;apply ah<;>intro dM;refine hY λdh gl=> ?_;rw[eT] at gl;cases gl;apply ah<;>intro fH;exact ba rfl;refine af (eG (by rw[bo];omega)) λfD jO=> ?_;rw[bo,fA] at jO;cases jO;refine af (S_ _ trivial) λcD eY=> ?_;dsimp only at eY;simp only[cc,aI] at bJ fH;have v8:=lT _ _ eT;have amY:0<bL.1.1:=ab;have alT:kO cM.1.1<=2:=by unfold kO;(repeat' split)<;>omega
  refine af (aBc l x.1.2.2.1.1 cM fA alT x.2.1 ⟨bL,eT,amY,ab⟩ rS bD _ ⟨bo,cO,rfl,by simp only[aI];decide,eY,λj au=>au,λj _=>rfl,λj au=>.inl au,λaP=> ?_,λaP=> ?_,lT,λaP=> ?_,λaP=> ?_⟩) λdD gR=> ?_;simp only[aI] at aP;omega;simp only[aI] at aP;omega;simp only[aI] at aP;omega;simp only[aI] at aP;omega;refine dZ gR (λeN gm=> ?_) (λfo iA=> ?_);obtain⟨eL,fw,gS,lW,jC,m4,DF,qK,nv⟩:=gm;refine bG ⟨⟨bo,eL, ?_, ?_,fw _ fY,λj au bw=> ?_,DF,λa b s t e f bW ai uY zC aU bH bl gM=> ?_⟩, ?_⟩;simp only[aI];omega;simp only[aI];omega;simp only[aI] at au;have up:∀{C U2:Int->Prop},(∀k,C k->U2 k)->tC l.1 C j->tC l.1 U2 j:=λaq ⟨e,aF,aQ,bn,cy,fj,fX⟩=>⟨e,aF,aQ,λq=>⟨(bn q).1,aq _ (bn q).2⟩,λq=>⟨(cy q).1,aq _ (cy q).2⟩,fj,fX⟩;by_cases ax:j=x.1.2.2.1.1;subst ax;refine⟨cM,fA,dE,λq=> ?_,λq=> ?_,λq=> ?_,λq=> ?_,sB⟩;refine jC ?_;rcases Int.lt_or_le (kO cM.1.1) 1 with g|g;have:=gT g;omega;exact g;refine m4 ?_;rcases Int.lt_or_le (kO cM.1.1) 2 with g|g;have:=dc g;omega;exact g;exact(jC ab).2.1;exact(m4 ab).2.1;rcases lW j bw with g|g;exact up fw (hM j ab g);omega;have aaV:∀(s:Nat),s<2->0<=oJ cM s->¬gy x.2.1.1 (oJ cM s):=λs aU Cp=>by
   unfold oJ at Cp⊢;by_cases ax:s=0;rw[if_pos ax] at Cp⊢;refine qK ?_;rcases Int.lt_or_le (kO cM.1.1) 1 with g|g;have:=gT g;omega;exact g;rw[if_neg ax] at Cp⊢;refine(nv ?_).1;rcases Int.lt_or_le (kO cM.1.1) 2 with g|g;have:=dc g;omega;exact g
  have ac3:∀(b:Int) (f:D ck) (t:Nat),x.1.2.2.1.1<b->gy x.2.1.1 b->l.1[b.toNat]? =some f->0<=oJ f t->gy x.2.1.1 (oJ f t):=λb f t aa ae az a9=>by
   obtain⟨f',aF,aQ,bn,cy,fj,fX⟩:=hM b aa ae;rw[az] at aF;cases aF;unfold oJ at a9⊢;by_cases ax:t=0;rw[if_pos ax] at a9⊢;exact(bn a9).2;rw[if_neg ax] at a9⊢;exact(cy a9).2
  have pl:∀b,(gf x.1.2.2.1 (W 1)).1<b/\gy eN.2.1.1 b->b=x.1.2.2.1.1\/(x.1.2.2.1.1<b/\gy x.2.1.1 b):=λb ai=>by
   obtain⟨aa,ae⟩:=ai;simp only[aI] at aa;rcases lW b ae with g|g;by_cases ax:b=x.1.2.2.1.1;exact .inl ax;exact .inr ⟨ab,g⟩;omega
  rcases pl a bW with AI|AI<;>rcases pl b ai with AJ|AJ;subst AI;subst AJ;rw[fA] at uY zC;cases uY;cases zC;refine⟨rfl, ?_⟩;have eD:0<=cM.2.2.2.2.2.1.1->cM.2.2.2.2.1.1≠cM.2.2.2.2.2.1.1:=λq=>(nv (by
   rcases Int.lt_or_le (kO cM.1.1) 2 with g|g;have:=dc g;omega;exact g)).2
  by_cases ax:s=0<;>by_cases xU:t=0<;>simp only[oJ,ax,xU,if_true,if_false,Nat.one_ne_zero] at gM bl<;>omega;subst AI;rw[fA] at uY;cases uY;refine absurd ?_ (aaV s aU bl);rw[gM];exact ac3 b f t AJ.1 AJ.2 zC (by rw[<-gM];exact bl);subst AJ;rw[fA] at zC;cases zC;refine absurd ?_ (aaV t bH (by rw[<-gM];exact bl));rw[<-gM];exact ac3 a e s AI.1 AI.2 uY bl;exact p6 a b s t e f AI AJ uY zC aU bH bl gM;simp only[aI];omega;exact ba iA;exfalso;simp only[cc,decide_eq_true_eq,decide_eq_false_iff_not] at dM;omega;exfalso;simp only[cc,decide_eq_true_eq,decide_eq_false_iff_not] at aT;omega;simp only[cc,aI] at aC;exact ba ⟨cO,fY,λj bw=>hM j (by have:=bw.1;omega) bw,λa b s t e f bW ai=>p6 a b s t e f ⟨by have:=bW.1;omega,bW⟩ ⟨by have:=ai.1;omega,ai⟩⟩)
theorem afT:∀x:U afR,True->aL (E6 x) (λy=>y.1.2.1=true->y.1.1.1.length=x.1.1.1.length/\x.1.1.1.length<=160/\0<=x.1.2.1.1/\x.1.2.1.1<x.1.1.1.length/\sy x.1.1.1 x.1.2.1.1/\(∀j,gy y.1.1.1 j->tC x.1.1.1 (gy y.1.1.1) j)):=by
 intro x _;unfold E6;have Ie:=L.b x.1.1;apply ah<;>intro aC;exact an (λq=>by cases q);apply ah<;>intro aT;exact an (λq=>by cases q);apply ah<;>intro bJ;exact an (λq=>by cases q);simp only[cc,aI] at aC aT bJ;refine af (tZ (by simp only[aI];omega)) λdC kf=> ?_;obtain⟨kf,nm⟩:=kf;simp only[aI] at nm;apply ah<;>intro c7;refine hY λaX df=> ?_;have aa:0<(W 1).1:=by decide
 refine af (aA' x.1.1 x.1.2.1.1 _ ⟨rfl, ?_, ?_, ?_,gy.Uq ab ab aa,λj au bw=> ?_,wV.set (λj e h=> ?_) (Int.le_of_lt aa),λa b s t e f bW ai=> ?_⟩) λe4 kv=> ?_;dsimp only;simp only[b5];omega;dsimp only;omega;dsimp only;omega;dsimp only at au bw;rcases gy.UG ab bw with g|g;obtain⟨_,e,aF,aQ⟩:=g;rw[kf,List.getElem?_replicate] at aF;split at aF;cases aF;exact absurd aQ bp;cases aF;omega;rw[kf,List.getElem?_replicate] at h;split at h;cases h;decide;cases h;have ay:∀j,x.1.2.1.1<j->¬gy (ec dC x.1.2.1.1.toNat (W 1,())).1 j:=λj au bw=>by
  rcases gy.UG ab bw with g|g;obtain⟨_,e,aF,aQ⟩:=g;rw[kf,List.getElem?_replicate] at aF;split at aF;cases aF;exact absurd aQ bp;cases aF;omega
 exact absurd bW.2 (ay a bW.1);refine dZ kv (λfI jP=> ?_) (λga kI=> ?_);obtain⟨eL,fw,gS,lW⟩:=jP;exact an (λ_=>⟨eL,ab,ab,ab,(m9.make fw (λk aP=>⟨aP.1,gS k aP⟩) lW).mono ab,gS⟩);exact an (λq=>by rw[show ga.1.2.1=false from kI] at q;cases q);exfalso;simp only[cc,decide_eq_true_eq,decide_eq_false_iff_not] at c7;omega
theorem aAm (n:Nat):∀x:U E0,(x.1.1.1.length=n/\x.1.2.1.1.length=n/\x.2.1.1.length=n/\0<=x.1.2.2.2.1.1)->aL (a_ LX x) (λy=>y.2.1.1.length=n):=
 cJ (λx:U E0=>x.1.1.1.length=n/\x.1.2.1.1.length=n/\x.2.1.1.length=n/\0<=x.1.2.2.2.1.1) (λx:U E0=>((x.1.1.1.length:Int)-x.1.2.2.2.1.1).toNat) (λx aD=>by
  unfold LX;have jZ:=L.b x.1.1;apply ah<;>intro aC<;>simp only[av] at aC;refine bk λbL eT=> ?_;apply ah<;>intro aT<;>simp only[av] at aT;refine hY λcM fA=> ?_;exact bG ⟨dR,dR⟩;exfalso
  (omega)
  exact ba gI)
theorem afr:∀x:U afo,(True)->aL (EZ x) (λy=>y.1.2.1=true->y.1.1.1.length=x.1.1.1.length/\x.1.1.1.length<=160/\0<=x.1.2.1.1/\x.1.2.1.1<x.1.1.1.length/\sy x.1.1.1 x.1.2.1.1):=by
 intro x aD;unfold EZ;refine af (afT _ aY) λaB cd=> ?_;dsimp only at cd;apply ah<;>intro aC<;>simp only[av] at aC;exact an mv;have t0:=cd aC;obtain⟨t1,t2,t3,t4,t5,_⟩:=t0;refine af (tZ dA) λeo nm=> ?_;refine af (aAm (x.1.1.1.length) _ (by(and_intros<;>(intros)<;>first|omega|(simp only[aI,b5] at*<;>omega)))) λbf cU=> ?_;dsimp only at cU;exact an (by(dsimp only)<;>(intro ay;exact⟨cU,t2,t3,t4,t5⟩))
theorem aAq:∀x:U E1,((x.1.2.2.1=true->x.1.2.1.1.length=x.1.1.1.length/\x.1.1.1.length<=160/\x.1.2.2.2.2.1.1<=x.1.1.1.length)/\0<=x.1.2.2.2.2.1.1/\x.1.2.2.2.1.1.length<=x.1.2.2.2.2.1.1/\(x.1.2.2.1=false->x.1.2.2.2.2.1.1=0))->aL (a_ LZ x) (λy=>y.1.1.1.length<=160):=
 cJ (λx:U E1=>(x.1.2.2.1=true->x.1.2.1.1.length=x.1.1.1.length/\x.1.1.1.length<=160/\x.1.2.2.2.2.1.1<=x.1.1.1.length)/\0<=x.1.2.2.2.2.1.1/\x.1.2.2.2.1.1.length<=x.1.2.2.2.2.1.1/\(x.1.2.2.1=false->x.1.2.2.2.2.1.1=0)) (λx:U E1=>(x.1.1.1.length-x.1.2.2.2.2.1.1).toNat) (λx aD=>by
  unfold LZ;obtain⟨bo,cO,bD,cz⟩:=aD;apply ah<;>intro aC<;>simp only[av] at aC;have fY:=bo aC;clear bo cz;have jZ:=L.b x.1.1;apply ah<;>intro aT<;>simp only[av] at aT;refine bk λaX df=> ?_;apply ah<;>intro bJ<;>simp only[av] at bJ;refine bk λbL eT=> ?_;apply ah<;>intro c7<;>simp only[av] at c7;refine bk λcM fA=> ?_;refine af (afP _ dA) λbf cU=> ?_;dsimp only at cU;exact bG ⟨(by(dsimp only)<;>(refine⟨λ_=> ?_, ?_, ?_,λq=> ?_⟩<;>first|(simp only[aI,b5] at*<;>omega)|(rw[aC] at q;cases q))),dR⟩;exact bG ⟨(by(dsimp only)<;>(refine⟨λ_=> ?_, ?_, ?_,λq=> ?_⟩<;>first|(simp only[aI,b5] at*<;>omega)|(rw[aC] at q;cases q))),dR⟩;exact bG ⟨(by(dsimp only)<;>(refine⟨λ_=> ?_, ?_, ?_,λq=> ?_⟩<;>first|(simp only[aI,b5] at*<;>omega)|(rw[aC] at q;cases q))),dR⟩;exact ba gI;have hM:=cz aC;clear bo cz;exact ba gI)
theorem aAt:∀x:U afs,(True)->aL (LY x) (λy=>y.1.1.1.length<=160):=by
 intro x aD;unfold LY;refine af (afr _ aY) λaB cd=> ?_;dsimp only at cd;refine af (aAq _ (by(exact⟨λq=>by obtain⟨t1,t2,_⟩:=cd q;exact⟨t1,t2,by simp only[aI];omega⟩,by simp only[aI];decide,by simp only[aI,b5];decide,λ_=>by simp only[aI];decide⟩))) λbO dB=> ?_;dsimp only at dB;exact an fW
theorem aAj:∀x:U afn,(True)->aL (LW x) (λy=>y.1.1=true->x.1.1.1.length<=160/\0<=x.1.2.1.1/\x.1.2.1.1<x.1.1.1.length/\sy x.1.1.1 x.1.2.1.1):=by
 intro x aD;unfold LW;refine af (afT _ aY) λaB cd=> ?_;dsimp only at cd;exact an (by(dsimp only)<;>(intro ay;obtain⟨t1,t2,t3,t4,t5,_⟩:=cd ay;exact⟨t2,t3,t4,t5⟩))
theorem aBg:∀x:U E7,(0<=x.1.2.2.1.1)->aL (a_ L_ x) (Sum.elim (λy=>True) (λy=>True)):=
 cJ (λx:U E7=>0<=x.1.2.2.1.1) (λx:U E7=>((x.1.1.1.length:Int)-x.1.2.2.1.1).toNat) (λx aD=>by
  unfold L_;have jZ:=L.b x.1.1;apply ah<;>intro aC<;>simp only[av] at aC;refine bk λaE cL=> ?_;apply ah<;>intro aT<;>simp only[av] at aT;refine bk λaX df=> ?_;apply ah<;>intro bJ<;>simp only[av] at bJ;exact ba cw;refine bk λbL eT=> ?_;apply ah<;>intro c7<;>simp only[av] at c7;exact ba cw;refine bk λcM fA=> ?_;exact ba cw;exact bG ⟨dR,dR⟩;exact ba cw)
theorem aBj:∀x:U afU,(True)->aL (L9 x) (λy=>True):=by
 intro x aD;unfold L9;refine af (aBg _ dA) λbf cU=> ?_;dsimp only at cU;refine dZ cU (λbO dB=> ?_) (λbU en=> ?_);exact an aY;exact an aY
theorem aAR:∀x:U afB,(True)->aL (L3 x) (λy=>True):=by
 intro x aD;unfold L3;apply ah<;>intro aC<;>simp only[av] at aC;refine af (aBj _ aY) λaB cd=> ?_;exact an aY;apply ah<;>intro aT<;>simp only[av] at aT;exact an aY;apply ah<;>intro bJ<;>simp only[av] at bJ;exact an aY;apply ah<;>intro c7<;>simp only[av] at c7;exact an aY;apply ah<;>intro dM<;>simp only[av] at dM;exact an aY;exact an aY
theorem aAV:∀x:U Tb,(True)->aL (Ta x) (λy=>True):=by
 intro x aD;unfold Ta;apply ah<;>intro aC<;>simp only[av] at aC;apply ah<;>intro aT<;>simp only[av] at aT;exact an cw;exact an cw;exact an cw
theorem aAW:∀x:U Td,(True)->aL (Tc x) (λy=>True):=by
 intro x aD;unfold Tc;apply ah<;>intro aC<;>simp only[av] at aC;apply ah<;>intro aT<;>simp only[av] at aT;apply ah<;>intro bJ<;>simp only[av] at bJ;exact an cw;apply ah<;>intro c7<;>simp only[av] at c7;apply ah<;>intro dM<;>simp only[av] at dM;exact an cw;exact an cw;exact an cw;apply ah<;>intro fH<;>simp only[av] at fH;apply ah<;>intro gF<;>simp only[av] at gF;exact an cw;exact an cw;exact an cw;apply ah<;>intro iy<;>simp only[av] at iy;apply ah<;>intro kG<;>simp only[av] at kG;exact an cw;exact an cw;exact an cw
theorem aAY:∀x:U Th,(True)->aL (Tg x) (λy=>True):=by
 intro x aD;unfold Tg;apply ah<;>intro aC<;>simp only[av] at aC;apply ah<;>intro aT<;>simp only[av] at aT;exact an cw;exact an cw;apply ah<;>intro bJ<;>simp only[av] at bJ;apply ah<;>intro c7<;>simp only[av] at c7;exact an cw;exact an cw;exact an cw
theorem aAX:∀x:U Tf,(True)->aL (Te x) (λy=>True):=by
 intro x aD;unfold Te;refine af (aAY _ aY) λa1 cq=> ?_;apply ah<;>intro aC<;>simp only[av] at aC;exact an cw;apply ah<;>intro aT<;>simp only[av] at aT;exact an cw;exact an cw
theorem aAZ:∀x:U Tj,(True)->aL (Ti x) (λy=>True):=by
 intro x aD;unfold Ti;apply ah<;>intro aC<;>simp only[av] at aC;apply ah<;>intro aT<;>simp only[av] at aT;exact an cw;apply ah<;>intro bJ<;>simp only[av] at bJ;exact an cw;apply ah<;>intro c7<;>simp only[av] at c7;apply ah<;>intro dM<;>simp only[av] at dM;exact an cw;exact an cw;exact an cw;apply ah<;>intro fH<;>simp only[av] at fH;apply ah<;>intro gF<;>simp only[av] at gF;exact an cw;exact an cw;exact an cw
theorem aA0:∀x:U Tl,(True)->aL (Tk x) (λy=>True):=by
 intro x aD;unfold Tk;apply ah<;>intro aC<;>simp only[av] at aC;apply ah<;>intro aT<;>simp only[av] at aT;exact an cw;exact an cw;exact an cw
theorem afL:∀x:U afK,(True)->aL (E3 x) (λy=>True):=by
 intro x aD;unfold E3;refine af (aAV _ aY) λaB cd=> ?_;apply ah<;>intro aC<;>simp only[av] at aC;exact an aY;refine af (aAW _ aY) λaG cn=> ?_;apply ah<;>intro aT<;>simp only[av] at aT;exact an aY;refine af (aAX _ aY) λa2 c9=> ?_;apply ah<;>intro bJ<;>simp only[av] at bJ;exact an aY;refine af (aAZ _ aY) λbf cU=> ?_;apply ah<;>intro c7<;>simp only[av] at c7;exact an aY;refine af (aA0 _ aY) λbO dB=> ?_;apply ah<;>intro dM<;>simp only[av] at dM;exact an aY;apply ah<;>intro fH<;>simp only[av] at fH;apply ah<;>intro gF<;>simp only[av] at gF;apply ah<;>intro iy<;>simp only[av] at iy;exact an aY;exact an aY;exact an aY;exact an aY
theorem aAI (rec:U uq->Option (U Au)) (n:Int) (q5:∀x:U uq,(sy x.1.1.1 x.1.2.1.1/\x.1.2.1.1<n)->aL (rec x) (λy=>True)):∀x:U uq,(sy x.1.1.1 x.1.2.1.1/\x.1.2.1.1<=n)->aL (L2 rec x) (λy=>True):=by
 intro x aD;unfold L2;obtain⟨aD,aJc⟩:=aD;obtain⟨bl,e,aF,aQ,bn,cy,fj,fX,_⟩:=aD.node;have bK:=(ed.1 aF).1;refine bk λaE cL=> ?_;obtain rfl:=hP (aF.symm.trans cL);refine af (S_ _ aY) λaG cn=> ?_;dsimp only at cn;apply ah<;>intro aC<;>simp only[av] at aC;refine af (aAR _ aY) λa1 cq=> ?_;exact an aY;refine af (q5 _ (by(have jj:=fj ab;have c8:=bn jj;exact⟨c8.2,by dsimp only;omega⟩))) λa2 c9=> ?_;apply ah<;>intro aT<;>simp only[av] at aT;exact an aY;apply ah<;>intro bJ<;>simp only[av] at bJ;refine af (q5 _ (by(have oD:=fX ab;have ei:=cy oD;exact⟨ei.2,by dsimp only;omega⟩))) λbf cU=> ?_;apply ah<;>intro c7<;>simp only[av] at c7;exact an aY;refine af (afL _ aY) λbO dB=> ?_;exact an aY;refine af (afL _ aY) λbU en=> ?_;exact an aY
theorem aAK:∀(n:Nat) (x:U uq),sy x.1.1.1 x.1.2.1.1->x.1.2.1.1<n->aL (At n x) (λy=>True):=by
 intro n;induction n with
 |zero=>intro x h aA;have:=h.node.1;omega
 |succ n b_=>
  intro x h aA;exact aAI (At n) x.1.2.1.1 (λz ax=>b_ z ax.1 ab) x ⟨h,Int.le_refl _⟩
theorem aAN:∀x:U uq,(sy x.1.1.1 x.1.2.1.1/\x.1.1.1.length<=160)->aL (S' x) (λy=>True):=by
 intro x h;obtain⟨bl,e,aF,_⟩:=h.1.node;have bK:=(ed.1 aF).1;exact aAK oP x h.1 (by unfold oP;omega)
theorem az1:∀x:U afc,(True)->aL (LQ x) (λy=>True):=by
 intro x aD;unfold LQ;refine af (aAj _ aY) λaB cd=> ?_;dsimp only at cd;apply ah<;>intro aC<;>simp only[av] at aC;exact an aY;have t0:=cd aC;obtain⟨t1,t2,t3,t4⟩:=t0;refine af (aAN _ (by(exact⟨t4,t1⟩))) λaG cn=> ?_;exact an aY
end cB
end Go.Proofs.YtgmdfchkljaooaaGreat
