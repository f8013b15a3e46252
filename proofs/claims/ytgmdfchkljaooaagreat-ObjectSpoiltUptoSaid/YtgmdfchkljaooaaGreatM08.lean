/- Typed functions. -/
import Derived.Test.YtgmdfchkljaooaaGreatM07
noncomputable section
namespace Go.Proofs.YtgmdfchkljaooaaGreat
namespace cB
open bx (T)
set_option linter.unusedVariables false
set_option maxRecDepth 100000
def aek:aw:=aZ [(0,ag),(1,ag),(2,ag)]
def axn:aw:=aZ [(0,.agg sx)]
def mI (x:U aek):Option (U axn):=some (((x.1.1,x.1.2.1,x.1.2.2.1,()),()),())
def aeu:aw:=aZ [(0,.agg fb)]
def axE:aw:=aZ [(0,bP)]
def Ej:aw:=aZ [(1,.cW fb 0),(3,ag)]
def axB:bB:=[((.exit 0),aZ []),gA [(2,bP)]]
def K8 (x:U Ej):Option (U Ej⊕bA axB):=cond (bh x.1.2.1 (bj x.1.1.2.1)) ((a7 x.1.1.2.1 (x.1.2.1).1).bind λaX=>(kz ((aX.1,()),())).bind λa1=>cond (!a1.1.1) (some (.inr (.inr ((false,()),())))) ((a7 x.1.1.2.1 (x.1.2.1).1).bind λcM=>(FF (((cM.2.1,cM.2.2.1,()),()),())).bind λbf=>cond (!bf.1.1) (some (.inr (.inr ((false,()),())))) (some (.inl ((x.1.1,(bg x.1.2.1 (W 1)),()),()))))) (some (.inr (.inl ((),()))))
def K7 (x:U aeu):Option (U axE):=(kz ((x.1.1.1,()),())).bind λaB=>cond (!aB.1.1) (some ((false,()),())) (cond (bh (W 6) (bj x.1.1.2.1)) (some ((false,()),())) (cond (bh (bj x.1.1.2.2.2.1) (W 1)) (some ((false,()),())) (cond (bh (W 80) (bj x.1.1.2.2.2.1)) (some ((false,()),())) (cond (bh (W 160) (bj x.1.1.2.2.1)) (some ((false,()),())) ((a_ K8 ((x.1.1,(W 0),()),())).bind λbO=>Sum.elim (λbU=>some ((true,()),())) (λcD=>some ((cD.1.1,()),())) bO)))))
def adF:aw:=aZ [(0,.agg g4),(1,aN)]
def awa:aw:=aZ [(0,ag)]
def DW:aw:=aZ [(1,aN),(2,.cW g4 0),(5,ag)]
def av_:bB:=[((.exit 0),aZ []),gA [(4,ag)]]
def KM (x:U DW):Option (U DW⊕bA av_):=cond (bh x.1.2.2.1 (bj x.1.2.1.2.2.1)) ((a7 x.1.2.1.2.2.1 (x.1.2.2.1).1).bind λaE=>cond (cC aE.1 x.1.1) (some (.inr (.inr ((x.1.2.2.1,()),())))) (some (.inl ((x.1.1,x.1.2.1,(bg x.1.2.2.1 (W 1)),()),())))) (some (.inr (.inl ((),()))))
def vl (x:U adF):Option (U awa):=(a_ KM ((x.1.2.1,x.1.1,(W 0),()),())).bind λaG=>Sum.elim (λa1=>some (((W (-1)),()),())) (λa2=>some ((a2.1.1,()),())) aG
def aeX:aw:=aZ [(0,.agg fb)]
def azr:aw:=aZ [(0,bP)]
def EH:aw:=aZ [(1,.cW fb 0),(3,ag),(4,ag)]
def azo:bB:=[((.exit 2),aZ []),gA [(2,bP)]]
def LJ (x:U EH):Option (U EH⊕bA azo):=cond (bh x.1.2.2.1 x.1.2.1) ((a7 x.1.1.2.1 (x.1.2.2.1).1).bind λaE=>(a7 x.1.1.2.1 (x.1.2.1).1).bind λaX=>cond (cC aE.1 aX.1) (some (.inr (.inr ((true,()),())))) (some (.inl ((x.1.1,x.1.2.1,(bg x.1.2.2.1 (W 1)),()),())))) (some (.inr (.inl ((),()))))
def EG:aw:=aZ [(1,.cW fb 0),(3,ag)]
def azl:bB:=[((.exit 0),aZ []),gA [(2,bP)]]
def LI (x:U EG):Option (U EG⊕bA azl):=cond (bh x.1.2.1 (bj x.1.1.2.1)) ((a_ LJ ((x.1.1,x.1.2.1,(W 0),()),())).bind λa1=>Sum.elim (λa2=>some (.inl ((x.1.1,(bg x.1.2.1 (W 1)),()),()))) (λbf=>some (.inr (.inr ((bf.1.1,()),())))) a1) (some (.inr (.inl ((),()))))
def LH (x:U aeX):Option (U azr):=(a_ LI ((x.1.1,(W 0),()),())).bind λbO=>Sum.elim (λbU=>some ((false,()),())) (λcD=>some ((cD.1.1,()),())) bO
def aeh:aw:=aZ [(0,ag)]
def axl:aw:=aZ [(0,bP)]
def Ee (x:U aeh):Option (U axl):=cond (bd x.1.1 (W 0)) (cond (bd x.1.1 (W 0)) (some ((true,()),())) (some ((false,()),()))) (cond (bd x.1.1 (W 3)) (cond (bd x.1.1 (W 3)) (some ((true,()),())) (some ((false,()),()))) (cond (bd x.1.1 (W 5)) (cond (bd x.1.1 (W 5)) (some ((true,()),())) (some ((false,()),()))) (cond (bd x.1.1 (W 6)) (cond (bd x.1.1 (W 6)) (some ((true,()),())) (some ((false,()),()))) (cond (bd x.1.1 (W 10)) (some ((true,()),())) (some ((false,()),()))))))
def adH:aw:=aZ [(0,.agg bz)]
def awe:aw:=aZ [(0,ak aW)]
def DZ:aw:=⟨[(1,.cW bz 0),(3,.tok aW 0 []),(4,ag)],[.a6 aW]⟩
def awc:bB:=[((.exit 0),⟨[(3,.tok aW 1 [])],[.gone,.a6 aW]⟩)]
def KN (x:U DZ):Option (U DZ⊕bA awc):=cond (bh x.1.2.2.1 (bj x.1.1.2.2.2.2.2.2.2.2.1)) ((a7 x.1.1.2.2.2.2.2.2.2.2.1 (x.1.2.2.1).1).bind λaE=>(de 8 x.1.2.1 (cx [(aE.2.2.1,())])).bind λeo=>some (.inl ((x.1.1,eo,(bg x.1.2.2.1 (W 1)),()),((),())))) (some (.inr ((x.1.2.1,()),((),(),()))))
def vm (x:U adH):Option (U awe):=(a_ KN ((x.1.1,L.nil,(W 0),()),((),()))).bind λa1=>(Ee ((x.1.1.1,()),())).bind λa2=>cond (!a2.1.1) ((de 8 a1.1.1 (cx [(x.1.1.2.2.2.2.2.2.2.2.2.1,())])).bind λgv=>some ((gv,()),())) (some ((a1.1.1,()),()))
def aeD:aw:=aZ [(0,.agg fb)]
def ayg:aw:=aZ [(0,ak aW)]
def Es:aw:=⟨[(3,.arr 0 aW [false]),(4,ag)],[.arr aW [false]]⟩
def ax_:bB:=[((.exit 0),⟨[],[.arr aW [false]]⟩)]
def Lh (x:U Es):Option (U Es⊕bA ax_):=cond (bh x.1.2.1 (W (x.2.1.1.length:Nat))) (cond (decide (0<=(x.1.2.1).1)&&decide ((x.1.2.1).1<(x.2.1.1.length:Nat))) ((e3 x.2.1 ((x.1.2.1).1).toNat).bind λaX=>some (.inl (((),(bg x.1.2.1 (W 1)),()),((ec x.2.1 ((x.1.2.1).1).toNat ((W (-2)),())),())))) (none)) (some (.inr ((),(x.2.1,()))))
def Eu:aw:=⟨[(3,.arr 0 aW [false]),(5,.arr 1 aW [false]),(6,ag),(7,ak aW),(8,ag)],[.arr aW [false],.arr aW [false]]⟩
def aye:bB:=[((.exit 4),⟨[],[.arr aW [false],.arr aW [false]]⟩)]
def Lj (x:U Eu):Option (U Eu⊕bA aye):=cond (bh x.1.2.2.2.2.1 (bj x.1.2.2.2.1)) ((a7 x.1.2.2.2.1 (x.1.2.2.2.2.1).1).bind λdG=>cond (fM dG.1 x.1.2.2.1) (some (.inl (((),(),x.1.2.2.1,x.1.2.2.2.1,(bg x.1.2.2.2.2.1 (W 1)),()),(x.2.1,x.2.2.1,())))) ((a7 x.1.2.2.2.1 (x.1.2.2.2.2.1).1).bind λeK=>cond (fM (W (x.2.1.1.length:Nat)) eK.1) (some (.inl (((),(),x.1.2.2.1,x.1.2.2.2.1,(bg x.1.2.2.2.2.1 (W 1)),()),(x.2.1,x.2.2.1,())))) ((a7 x.1.2.2.2.1 (x.1.2.2.2.2.1).1).bind λee=>cond (decide (0<=(ee.1).1)&&decide ((ee.1).1<(x.2.2.1.1.length:Nat))) ((e3 x.2.2.1 ((ee.1).1).toNat).bind λgk=>cond (decide (0<=(ee.1).1)&&decide ((ee.1).1<(x.2.2.1.1.length:Nat))) ((e3 x.2.2.1 ((ee.1).1).toNat).bind λjw=>(a7 x.1.2.2.2.1 (x.1.2.2.2.2.1).1).bind λj9=>cond (decide (0<=(j9.1).1)&&decide ((j9.1).1<(x.2.1.1.length:Nat))) ((e3 x.2.1 ((j9.1).1).toNat).bind λiX=>(a7 x.1.2.2.2.1 (x.1.2.2.2.2.1).1).bind λjx=>cond (decide (0<=(jx.1).1)&&decide ((jx.1).1<(x.2.2.1.1.length:Nat))) ((e3 (ec x.2.2.1 ((ee.1).1).toNat ((bg gk.1 (W 1)),())) ((jx.1).1).toNat).bind λik=>cond (bh (W 1) ik.1) ((a7 x.1.2.2.2.1 (x.1.2.2.2.2.1).1).bind λkp=>cond (decide (0<=(kp.1).1)&&decide ((kp.1).1<(x.2.1.1.length:Nat))) ((e3 (ec x.2.1 ((j9.1).1).toNat (x.1.2.2.1,())) ((kp.1).1).toNat).bind λkq=>some (.inl (((),(),x.1.2.2.1,x.1.2.2.2.1,(bg x.1.2.2.2.2.1 (W 1)),()),((ec (ec x.2.1 ((j9.1).1).toNat (x.1.2.2.1,())) ((kp.1).1).toNat ((W (-2)),())),(ec x.2.2.1 ((ee.1).1).toNat ((bg gk.1 (W 1)),())),())))) (none)) (some (.inl (((),(),x.1.2.2.1,x.1.2.2.2.1,(bg x.1.2.2.2.2.1 (W 1)),()),((ec x.2.1 ((j9.1).1).toNat (x.1.2.2.1,())),(ec x.2.2.1 ((ee.1).1).toNat ((bg gk.1 (W 1)),())),()))))) (none)) (none)) (none)) (none)))) (some (.inr ((),(x.2.1,x.2.2.1,()))))
def Et:aw:=⟨[(1,.cW fb 0),(3,.arr 0 aW [false]),(5,.arr 1 aW [false]),(6,ag)],[.arr aW [false],.arr aW [false]]⟩
def ayb:bB:=[((.exit 2),⟨[],[.arr aW [false],.arr aW [false]]⟩)]
def Li (x:U Et):Option (U Et⊕bA ayb):=cond (bh x.1.2.2.2.1 (bj x.1.1.2.2.2.1)) ((a7 x.1.1.2.2.2.1 (x.1.2.2.2.1).1).bind λdh=>(vm ((dh,()),())).bind λbU=>(a_ Lj (((),(),x.1.2.2.2.1,bU.1.1,(W 0),()),(x.2.1,x.2.2.1,()))).bind λfI=>some (.inl ((x.1.1,(),(),(bg x.1.2.2.2.1 (W 1)),()),(fI.2.1,fI.2.2.1,())))) (some (.inr ((),(x.2.1,x.2.2.1,()))))
def td (x:U aeD):Option (U ayg):=(qE (α:=D [.int .i64]) 8 (bj x.1.1.2.2.2.1) ((W 0),())).bind λdC=>(a_ Lh (((),(W 0),()),(dC,()))).bind λa1=>cond (decide (0<=((W 0)).1)&&decide (((W 0)).1<(dC.1.length:Nat))) ((e3 a1.2.1 (((W 0)).1).toNat).bind λcM=>(qE (α:=D [.int .i64]) 8 (bj x.1.1.2.2.2.1) ((W 0),())).bind λgv=>(a_ Li ((x.1.1,(),(),(W 0),()),((ec a1.2.1 (((W 0)).1).toNat ((W (-1)),())),gv,()))).bind λga=>some ((ga.2.1,()),())) (none)
def aeR:aw:=aZ [(0,aN),(1,bP)]
def ay9:aw:=aZ [(0,bP)]
def yE (x:U aeR):Option (U ay9):=cond (x.1.2.1) ((kz ((x.1.1,()),())).bind λaB=>some ((aB.1.1,()),())) (some (((cC x.1.1 (S ⟨#[]⟩)),()),()))
def ae0:aw:=aZ [(0,.agg bz)]
def azC:aw:=aZ [(0,bP)]
def SO:aw:=aZ [(1,.cW bz 0)]
def aeY:bB:=[jB [],gA [(2,bP)]]
def SN (x:U SO):Option (bA aeY):=cond (!bd x.1.1.1 (W 3)) (cond (!bd x.1.1.1 (W 5)) (some (.inr (((bd (bj x.1.1.2.2.2.2.2.2.2.2.1) (W 0)),()),()))) (some (.inl ((),())))) (some (.inl ((),())))
def SQ:aw:=aZ [(4,.cW mu 0)]
def aeZ:bB:=[jB [],gA [(2,bP)]]
def SP (x:U SQ):Option (bA aeZ):=cond (cC x.1.1.1 (S ⟨#[]⟩)) (cond (!cC x.1.1.2.1 (S ⟨#[]⟩)) (some (.inr ((false,()),()))) (cond (!cC x.1.1.1 (S ⟨#[]⟩)) ((kz ((x.1.1.1,()),())).bind λbV=>cond (!bV.1.1) (some (.inr ((false,()),()))) (cond (!cC x.1.1.2.1 (S ⟨#[]⟩)) ((kz ((x.1.1.2.1,()),())).bind λcu=>cond (!cu.1.1) (some (.inr ((false,()),()))) (some (.inl ((),())))) (some (.inl ((),()))))) (cond (!cC x.1.1.2.1 (S ⟨#[]⟩)) ((kz ((x.1.1.2.1,()),())).bind λb6=>cond (!b6.1.1) (some (.inr ((false,()),()))) (some (.inl ((),())))) (some (.inl ((),())))))) (cond (!cC x.1.1.1 (S ⟨#[]⟩)) ((kz ((x.1.1.1,()),())).bind λcS=>cond (!cS.1.1) (some (.inr ((false,()),()))) (cond (!cC x.1.1.2.1 (S ⟨#[]⟩)) ((kz ((x.1.1.2.1,()),())).bind λcG=>cond (!cG.1.1) (some (.inr ((false,()),()))) (some (.inl ((),())))) (some (.inl ((),()))))) (cond (!cC x.1.1.2.1 (S ⟨#[]⟩)) ((kz ((x.1.1.2.1,()),())).bind λev=>cond (!ev.1.1) (some (.inr ((false,()),()))) (some (.inl ((),())))) (some (.inl ((),())))))
def EK:aw:=aZ [(1,.cW bz 0),(3,ag),(4,.cW mu 0),(5,ag)]
def azz:bB:=[((.exit 2),aZ []),gA [(2,bP)]]
def LL (x:U EK):Option (U EK⊕bA azz):=cond (bh x.1.2.2.2.1 x.1.2.1) ((a7 x.1.1.2.2.2.2.2.2.2.2.1 (x.1.2.2.2.1).1).bind λkq=>cond (cC kq.1 x.1.2.2.1.1) (some (.inr (.inr ((false,()),())))) (some (.inl ((x.1.1,x.1.2.1,x.1.2.2.1,(bg x.1.2.2.2.1 (W 1)),()),())))) (some (.inr (.inl ((),()))))
def EJ:aw:=aZ [(1,.cW bz 0),(3,ag)]
def azw:bB:=[((.exit 0),aZ []),gA [(2,bP)]]
def LK (x:U EJ):Option (U EJ⊕bA azw):=cond (bh x.1.2.1 (bj x.1.1.2.2.2.2.2.2.2.2.1)) ((a7 x.1.1.2.2.2.2.2.2.2.2.1 (x.1.2.1).1).bind λdG=>(SP ((dG,()),())).bind λdD=>Sum.elim (λeN=>(a_ LL ((x.1.1,x.1.2.1,dG,(W 0),()),())).bind λfI=>Sum.elim (λga=>some (.inl ((x.1.1,(bg x.1.2.1 (W 1)),()),()))) (λjc=>some (.inr (.inr ((jc.1.1,()),())))) fI) (λfo=>some (.inr (.inr ((fo.1.1,()),())))) dD) (some (.inr (.inl ((),()))))
def EI (x:U ae0):Option (U azC):=(SN ((x.1.1,()),())).bind λaB=>Sum.elim (λaG=>cond (bd x.1.1.1 (W 3)) (cond (bd (bj x.1.1.2.2.2.2.2.2.2.2.1) (W 2)) ((a7 x.1.1.2.2.2.2.2.2.2.2.1 ((W 0)).1).bind λcM=>cond (cC cM.1 (S ⟨#[]⟩)) ((a7 x.1.1.2.2.2.2.2.2.2.2.1 ((W 0)).1).bind λdX=>cond (cC dX.2.1 (S ⟨#[]⟩)) ((a7 x.1.1.2.2.2.2.2.2.2.2.1 ((W 1)).1).bind λdh=>cond (cC dh.1 (S ⟨#[]⟩)) ((a7 x.1.1.2.2.2.2.2.2.2.2.1 ((W 1)).1).bind λfD=>some (((cC fD.2.1 (S ⟨#[]⟩)),()),())) (some ((false,()),()))) (some ((false,()),()))) (some ((false,()),()))) (some ((false,()),()))) ((a_ LK ((x.1.1,(W 0),()),())).bind λe9=>Sum.elim (λmn=>cond (fM (W 1) (bj x.1.1.2.2.2.2.2.2.2.2.1)) (some (((fM (bj x.1.1.2.2.2.2.2.2.2.2.1) (W 7)),()),())) (some ((false,()),()))) (λmL=>some ((mL.1.1,()),())) e9)) (λa1=>some ((a1.1.1,()),())) aB
def ad9:aw:=aZ [(0,.agg bz)]
def aw3:aw:=aZ [(0,bP)]
def D_:aw:=aZ [(1,.cW bz 0),(3,ag)]
def aw0:bB:=[((.exit 0),aZ []),gA [(2,bP)]]
def KY (x:U D_):Option (U D_⊕bA aw0):=cond (bh x.1.2.1 (bj x.1.1.2.2.2.2.2.2.2.1)) ((a7 x.1.1.2.2.2.2.2.2.2.1 (x.1.2.1).1).bind λaE=>(kz ((aE.1,()),())).bind λaG=>cond (!aG.1.1) (some (.inr (.inr ((false,()),())))) ((kz ((aE.2.1,()),())).bind λa1=>cond (!a1.1.1) (some (.inr (.inr ((false,()),())))) (cond (bh (W 6) (bj aE.2.2.1)) (some (.inr (.inr ((false,()),())))) (some (.inl ((x.1.1,(bg x.1.2.1 (W 1)),()),())))))) (some (.inr (.inl ((),()))))
def D9 (x:U ad9):Option (U aw3):=cond (!bd x.1.1.1 (W 8)) (some (((bd (bj x.1.1.2.2.2.2.2.2.2.1) (W 0)),()),())) ((a_ KY ((x.1.1,(W 0),()),())).bind λa2=>Sum.elim (λbf=>cond (fM (W 1) (bj x.1.1.2.2.2.2.2.2.2.1)) (some (((fM (bj x.1.1.2.2.2.2.2.2.2.1) (W 4)),()),())) (some ((false,()),()))) (λbO=>some ((bO.1.1,()),())) a2)
def adV:aw:=aZ [(0,.agg bz)]
def awx:aw:=aZ [(0,bP)]
def Sg:aw:=aZ [(1,.cW bz 0)]
def adQ:bB:=[jB [(3,bP)]]
def Sf (x:U Sg):Option (bA adQ):=cond (bd x.1.1.1 (W 1)) (some ((true,()),())) (cond (bd x.1.1.1 (W 4)) (some ((true,()),())) (cond (bd x.1.1.1 (W 5)) (some ((true,()),())) (cond (bd x.1.1.1 (W 8)) (some ((true,()),())) (some (((bd x.1.1.1 (W 9)),()),())))))
def Si:aw:=aZ [(1,.cW bz 0)]
def adR:bB:=[jB [(4,bP)]]
def Sh (x:U Si):Option (bA adR):=cond (bd x.1.1.1 (W 4)) (some ((true,()),())) (cond (bd x.1.1.1 (W 5)) (some ((true,()),())) (some (((bd x.1.1.1 (W 8)),()),())))
def Sk:aw:=aZ [(1,.cW bz 0)]
def adS:bB:=[jB [(5,bP)]]
def Sj (x:U Sk):Option (bA adS):=cond (bd x.1.1.1 (W 4)) (some ((true,()),())) (some (((bd x.1.1.1 (W 8)),()),()))
def Sm:aw:=aZ [(1,.cW bz 0)]
def adT:bB:=[jB [(6,bP)]]
def Sl (x:U Sm):Option (bA adT):=cond (bd x.1.1.1 (W 6)) (some ((true,()),())) (some (((bd x.1.1.1 (W 7)),()),()))
def So:aw:=aZ [(1,.cW bz 0),(6,bP)]
def adU:bB:=[jB [],gA [(2,bP)]]
def Sn (x:U So):Option (bA adU):=cond (bh (W 6) (bj x.1.1.2.2.2.2.2.2.1)) (some (.inr ((false,()),()))) (cond (!x.1.2.1) (cond (bh (W 0) (bj x.1.1.2.2.2.2.2.2.1)) (some (.inr ((false,()),()))) ((EI ((x.1.1,()),())).bind λbV=>cond (!bV.1.1) (some (.inr ((false,()),()))) ((D9 ((x.1.1,()),())).bind λcu=>cond (!cu.1.1) (some (.inr ((false,()),()))) (some (.inl ((),())))))) ((EI ((x.1.1,()),())).bind λb6=>cond (!b6.1.1) (some (.inr ((false,()),()))) ((D9 ((x.1.1,()),())).bind λcS=>cond (!cS.1.1) (some (.inr ((false,()),()))) (some (.inl ((),()))))))
def KR (x:U adV):Option (U awx):=cond (bh x.1.1.1 (W 0)) (some ((false,()),())) (cond (bh (W 10) x.1.1.1) (some ((false,()),())) ((Sf ((x.1.1,()),())).bind λaB=>(Sh ((x.1.1,()),())).bind λaG=>(Sj ((x.1.1,()),())).bind λa1=>(Sl ((x.1.1,()),())).bind λa2=>(yE ((x.1.1.2.1,aB.1.1,()),())).bind λbf=>cond (!bf.1.1) (some ((false,()),())) ((yE ((x.1.1.2.2.1,aG.1.1,()),())).bind λbO=>cond (!bO.1.1) (some ((false,()),())) ((yE ((x.1.1.2.2.2.1,a1.1.1,()),())).bind λbU=>cond (!bU.1.1) (some ((false,()),())) ((yE ((x.1.1.2.2.2.2.1,a2.1.1,()),())).bind λcD=>cond (!cD.1.1) (some ((false,()),())) ((Sn ((x.1.1,a2.1.1,()),())).bind λcG=>Sum.elim (λev=>(Ee ((x.1.1.1,()),())).bind λeN=>cond (eN.1.1) (cond (!bd x.1.1.2.2.2.2.2.2.2.2.2.1 (W (-1))) (some ((false,()),())) (cond (bd x.1.1.1 (W 1)) (cond (bd x.1.1.1 (W 1)) (some ((true,()),())) (some (((bd x.1.1.2.2.2.2.2.1 (W (-1))),()),()))) (cond (bd x.1.1.1 (W 2)) (cond (bd x.1.1.1 (W 2)) (some ((true,()),())) (some (((bd x.1.1.2.2.2.2.2.1 (W (-1))),()),()))) (cond (bd x.1.1.1 (W 3)) (cond (bd x.1.1.1 (W 3)) (some ((true,()),())) (some (((bd x.1.1.2.2.2.2.2.1 (W (-1))),()),()))) (cond (bd x.1.1.1 (W 4)) (some ((true,()),())) (some (((bd x.1.1.2.2.2.2.2.1 (W (-1))),()),()))))))) (cond (bd x.1.1.1 (W 1)) (cond (bd x.1.1.1 (W 1)) (some ((true,()),())) (some (((bd x.1.1.2.2.2.2.2.1 (W (-1))),()),()))) (cond (bd x.1.1.1 (W 2)) (cond (bd x.1.1.1 (W 2)) (some ((true,()),())) (some (((bd x.1.1.2.2.2.2.2.1 (W (-1))),()),()))) (cond (bd x.1.1.1 (W 3)) (cond (bd x.1.1.1 (W 3)) (some ((true,()),())) (some (((bd x.1.1.2.2.2.2.2.1 (W (-1))),()),()))) (cond (bd x.1.1.1 (W 4)) (some ((true,()),())) (some (((bd x.1.1.2.2.2.2.2.1 (W (-1))),()),()))))))) (λdD=>some ((dD.1.1,()),())) cG))))))
def aeT:aw:=aZ [(0,.agg fb),(1,ak aW),(2,ag)]
def azg:aw:=aZ [(0,bP)]
def ED:aw:=aZ [(2,ag),(3,.cW fb 0),(7,ak aW),(8,ag)]
def aza:bB:=[((.exit 0),aZ []),gA [(6,bP)]]
def LF (x:U ED):Option (U ED⊕bA aza):=cond (bh x.1.2.2.2.1 (bj x.1.2.2.1)) ((a7 x.1.2.2.1 (x.1.2.2.2.1).1).bind λbL=>cond (fM bL.1 x.1.1) (some (.inr (.inr ((false,()),())))) ((a7 x.1.2.2.1 (x.1.2.2.2.1).1).bind λcM=>cond (fM (bj x.1.2.1.2.2.2.1) cM.1) (some (.inr (.inr ((false,()),())))) (some (.inl ((x.1.1,x.1.2.1,x.1.2.2.1,(bg x.1.2.2.2.1 (W 1)),()),()))))) (some (.inr (.inl ((),()))))
def SK:aw:=aZ [(1,ak aW),(2,ag)]
def aeS:bB:=[jB [],gA [(6,bP)]]
def SJ (x:U SK):Option (bA aeS):=cond (bh (W 0) x.1.2.1) ((a7 x.1.1 (x.1.2.1).1).bind λdG=>cond (bh dG.1 (W 0)) (some (.inr ((false,()),()))) (some (.inl ((),())))) (some (.inl ((),())))
def EE:aw:=aZ [(1,ak aW),(3,.cW fb 0),(9,ag),(10,ag)]
def azd:bB:=[((.exit 2),aZ [(9,ag)])]
def LG (x:U EE):Option (U EE⊕bA azd):=cond (fM (W 0) x.1.2.2.2.1) ((a7 x.1.2.1.2.2.2.1 (x.1.2.2.2.1).1).bind λjw=>cond (bd jw.1 (W 3)) ((a7 x.1.1 (x.1.2.2.2.1).1).bind λiX=>some (.inl ((x.1.1,x.1.2.1,(bg x.1.2.2.1 (W 1)),iX.1,()),()))) ((a7 x.1.2.1.2.2.2.1 (x.1.2.2.2.1).1).bind λj9=>cond (bd j9.1 (W 5)) ((a7 x.1.1 (x.1.2.2.2.1).1).bind λjx=>some (.inl ((x.1.1,x.1.2.1,(bg x.1.2.2.1 (W 1)),jx.1,()),()))) ((a7 x.1.1 (x.1.2.2.2.1).1).bind λik=>some (.inl ((x.1.1,x.1.2.1,x.1.2.2.1,ik.1,()),()))))) (some (.inr ((x.1.2.2.1,()),())))
def LD (x:U aeT):Option (U azg):=(a7 x.1.1.2.2.2.1 (x.1.2.2.1).1).bind λaE=>(vm ((aE,()),())).bind λaG=>(a_ LF ((x.1.2.2.1,x.1.1,aG.1.1,(W 0),()),())).bind λbf=>Sum.elim (λbO=>(SJ ((x.1.2.1,x.1.2.2.1,()),())).bind λbV=>Sum.elim (λcu=>(a_ LG ((x.1.2.1,x.1.1,(W 0),x.1.2.2.1,()),())).bind λfo=>some (((fM fo.1.1 (W 24)),()),())) (λb6=>some ((b6.1.1,()),())) bV) (λbU=>some ((bU.1.1,()),())) bf
def aeJ:aw:=aZ [(0,.agg bz)]
def ayx:aw:=aZ [(0,bP)]
def Lp (x:U aeJ):Option (U ayx):=cond (bd x.1.1.1 (W 1)) (cond (bd x.1.1.1 (W 1)) (some (((!bd x.1.1.2.2.2.2.2.1 (W (-1))),()),())) (some ((true,()),()))) (cond (bd x.1.1.1 (W 2)) (cond (bd x.1.1.1 (W 2)) (some (((!bd x.1.1.2.2.2.2.2.1 (W (-1))),()),())) (some ((true,()),()))) (cond (bd x.1.1.1 (W 3)) (some (((!bd x.1.1.2.2.2.2.2.1 (W (-1))),()),())) (some ((true,()),()))))
def adM:aw:=aZ [(0,.agg bz)]
def awp:aw:=aZ [(0,ak aW)]
def Se:aw:=⟨[(1,.cW bz 0),(3,.tok aW 0 [])],[.a6 aW]⟩
def adL:bB:=[(.normal,⟨[(3,.tok aW 1 [])],[.gone,.a6 aW]⟩)]
def Sd (x:U Se):Option (bA adL):=cond (!bd x.1.1.2.2.2.2.2.1 (W (-1))) ((de 8 x.1.2.1 (cx [(x.1.1.2.2.2.2.2.1,())])).bind λdC=>some ((dC,()),((),(),()))) (some ((x.1.2.1,()),((),(),())))
def D2:aw:=⟨[(1,.cW bz 0),(3,.tok aW 0 []),(4,ag)],[.a6 aW]⟩
def awn:bB:=[((.exit 0),⟨[(3,.tok aW 1 [])],[.gone,.a6 aW]⟩)]
def KQ (x:U D2):Option (U D2⊕bA awn):=cond (bh x.1.2.2.1 (bj x.1.1.2.2.2.2.2.2.2.1)) ((a7 x.1.1.2.2.2.2.2.2.2.1 (x.1.2.2.1).1).bind λcM=>(de 8 x.1.2.1 cM.2.2.1).bind λgv=>some (.inl ((x.1.1,gv,(bg x.1.2.2.1 (W 1)),()),((),())))) (some (.inr ((x.1.2.1,()),((),(),()))))
def D1 (x:U adM):Option (U awp):=(Sd ((x.1.1,L.nil,()),((),()))).bind λaG=>(de 8 aG.1.1 x.1.1.2.2.2.2.2.2.1).bind λcf=>(a_ KQ ((x.1.1,cf,(W 0),()),((),()))).bind λbO=>some ((bO.1.1,()),())
def aeQ:aw:=⟨[(0,.agg fb),(1,ag),(2,.arr 0 [.bool] [false])],[.arr [.bool] [false]]⟩
def ay5:aw:=⟨[(0,bP)],[.arr [.bool] [false]]⟩
def EC:aw:=⟨[(2,.arr 0 [.bool] [false]),(9,ak [.bool]),(11,ag)],[.arr [.bool] [false]]⟩
def ay2:bB:=[((.exit 2),⟨[],[.arr [.bool] [false]]⟩),(.ret,⟨[(6,bP)],[.arr [.bool] [false]]⟩)]
def LB (x:U EC):Option (U EC⊕bA ay2):=cond (bh x.1.2.2.1 (bj x.1.2.1)) ((a7 x.1.2.1 (x.1.2.2.1).1).bind λdX=>cond (dX.1) (cond (decide (0<=(x.1.2.2.1).1)&&decide ((x.1.2.2.1).1<(x.2.1.1.length:Nat))) ((e3 x.2.1 ((x.1.2.2.1).1).toNat).bind λdh=>cond (dh.1) (some (.inr (.inr ((false,()),(x.2.1,()))))) (cond (decide (0<=(x.1.2.2.1).1)&&decide ((x.1.2.2.1).1<(x.2.1.1.length:Nat))) ((e3 x.2.1 ((x.1.2.2.1).1).toNat).bind λfD=>cond (fD.1) (cond (decide (0<=(x.1.2.2.1).1)&&decide ((x.1.2.2.1).1<(x.2.1.1.length:Nat))) ((e3 x.2.1 ((x.1.2.2.1).1).toNat).bind λdG=>some (.inl (((),x.1.2.1,(bg x.1.2.2.1 (W 1)),()),((ec x.2.1 ((x.1.2.2.1).1).toNat (true,())),())))) (none)) ((a7 x.1.2.1 (x.1.2.2.1).1).bind λeK=>cond (decide (0<=(x.1.2.2.1).1)&&decide ((x.1.2.2.1).1<(x.2.1.1.length:Nat))) ((e3 x.2.1 ((x.1.2.2.1).1).toNat).bind λee=>some (.inl (((),x.1.2.1,(bg x.1.2.2.1 (W 1)),()),((ec x.2.1 ((x.1.2.2.1).1).toNat eK),())))) (none))) (none))) (none)) (cond (decide (0<=(x.1.2.2.1).1)&&decide ((x.1.2.2.1).1<(x.2.1.1.length:Nat))) ((e3 x.2.1 ((x.1.2.2.1).1).toNat).bind λgk=>cond (gk.1) (cond (decide (0<=(x.1.2.2.1).1)&&decide ((x.1.2.2.1).1<(x.2.1.1.length:Nat))) ((e3 x.2.1 ((x.1.2.2.1).1).toNat).bind λjw=>some (.inl (((),x.1.2.1,(bg x.1.2.2.1 (W 1)),()),((ec x.2.1 ((x.1.2.2.1).1).toNat (true,())),())))) (none)) ((a7 x.1.2.1 (x.1.2.2.1).1).bind λj9=>cond (decide (0<=(x.1.2.2.1).1)&&decide ((x.1.2.2.1).1<(x.2.1.1.length:Nat))) ((e3 x.2.1 ((x.1.2.2.1).1).toNat).bind λiX=>some (.inl (((),x.1.2.1,(bg x.1.2.2.1 (W 1)),()),((ec x.2.1 ((x.1.2.2.1).1).toNat j9),())))) (none))) (none))) (some (.inr (.inl ((),(x.2.1,())))))
def EB:aw:=⟨[(2,.arr 0 [.bool] [false]),(3,.cW fb 0),(7,ak aW),(8,ag)],[.arr [.bool] [false]]⟩
def ayZ:bB:=[((.exit 0),⟨[],[.arr [.bool] [false]]⟩),(.ret,⟨[(6,bP)],[.arr [.bool] [false]]⟩)]
def LA (x:U EB):Option (U EB⊕bA ayZ):=cond (bh x.1.2.2.2.1 (bj x.1.2.2.1)) ((a7 x.1.2.2.1 (x.1.2.2.2.1).1).bind λbL=>(EZ ((x.1.2.1.2.2.1,bL.1,()),())).bind λa2=>cond (!a2.1.2.1) (some (.inr (.inr ((false,()),(x.2.1,()))))) ((a_ LB (((),a2.1.1,(W 0),()),(x.2.1,()))).bind λdD=>Sum.elim (λeN=>some (.inl (((),x.1.2.1,x.1.2.2.1,(bg x.1.2.2.2.1 (W 1)),()),(eN.2.1,())))) (λfo=>some (.inr (.inr ((fo.1.1,()),(fo.2.1,()))))) dD)) (some (.inr (.inl ((),(x.2.1,())))))
def Lz (x:U aeQ):Option (U ay5):=(a7 x.1.1.2.2.2.1 (x.1.2.1).1).bind λaE=>(D1 ((aE,()),())).bind λaG=>(a_ LA (((),x.1.1,aG.1.1,(W 0),()),(x.2.1,()))).bind λe4=>Sum.elim (λfI=>some ((true,()),(fI.2.1,()))) (λga=>some ((ga.1.1,()),(ga.2.1,()))) e4
def aeN:aw:=aZ [(0,.agg g4),(1,ag)]
def ayU:aw:=aZ [(0,.agg sx)]
def EA:aw:=⟨[(1,ag),(4,b9),(5,.cW fb 0),(6,ak aW),(7,.arr 1 [.bool] [false]),(8,ag)],[.box [ag,ag,ag],.arr [.bool] [false]]⟩
def ayR:bB:=[((.exit 0),⟨[],[.box [ag,ag,ag],.arr [.bool] [false]]⟩),(.ret,⟨[],[.box [ag,ag,ag],.arr [.bool] [false]]⟩)]
def Ly (x:U EA):Option (U EA⊕bA ayR):=cond (bh x.1.2.2.2.2.2.1 (bj x.1.2.2.1.2.2.2.1)) ((a7 x.1.2.2.1.2.2.2.1 (x.1.2.2.2.2.2.1).1).bind λee=>(KR ((ee,()),())).bind λb6=>cond (!b6.1.1) ((mI (((W 1500),x.1.1,x.1.2.2.2.2.2.1,()),())).bind λcS=>some (.inr (.inr ((),((cS.1.1.1,cS.1.1.2.1,cS.1.1.2.2.1,()),x.2.2.1,()))))) ((LD ((x.1.2.2.1,x.1.2.2.2.1,x.1.2.2.2.2.2.1,()),())).bind λcG=>cond (!cG.1.1) ((mI (((W 1502),x.1.1,x.1.2.2.2.2.2.1,()),())).bind λev=>some (.inr (.inr ((),((ev.1.1.1,ev.1.1.2.1,ev.1.1.2.2.1,()),x.2.2.1,()))))) ((a7 x.1.2.2.1.2.2.2.1 (x.1.2.2.2.2.2.1).1).bind λjx=>(Lp ((jx,()),())).bind λeN=>cond (!eN.1.1) ((mI (((W 1503),x.1.1,x.1.2.2.2.2.2.1,()),())).bind λe4=>some (.inr (.inr ((),((e4.1.1.1,e4.1.1.2.1,e4.1.1.2.2.1,()),x.2.2.1,()))))) ((Lz ((x.1.2.2.1,x.1.2.2.2.2.2.1,(),()),(x.2.2.1,()))).bind λfo=>cond (!fo.1.1) ((mI (((W 1503),x.1.1,x.1.2.2.2.2.2.1,()),())).bind λfI=>some (.inr (.inr ((),((fI.1.1.1,fI.1.1.2.1,fI.1.1.2.2.1,()),fo.2.1,()))))) (some (.inl ((x.1.1,(),x.1.2.2.1,x.1.2.2.2.1,(),(bg x.1.2.2.2.2.2.1 (W 1)),()),(x.2.1,fo.2.1,())))))))) (some (.inr (.inl ((),(x.2.1,x.2.2.1,())))))
def Lx (x:U aeN):Option (U ayU):=(a7 x.1.1.2.2.1 (x.1.2.1).1).bind λaE=>(K7 ((aE,()),())).bind λaG=>cond (!aG.1.1) ((mI (((W 1500),x.1.2.1,(W (-1)),()),())).bind λa1=>some ((a1.1.1,()),())) ((vl ((x.1.1,aE.1,()),())).bind λa2=>cond (bh a2.1.1 x.1.2.1) ((mI (((W 1501),x.1.2.1,(W (-1)),()),())).bind λbO=>some ((bO.1.1,()),())) ((LH ((aE,()),())).bind λbf=>cond (bf.1.1) ((mI (((W 1501),x.1.2.1,(W (-1)),()),())).bind λbU=>some ((bU.1.1,()),())) ((td ((aE,()),())).bind λcD=>(qE (α:=D [.bool]) 1 (bj aE.2.2.1) (false,())).bind λnU=>(a_ Ly ((x.1.2.1,(),aE,cD.1.1,(),(W 0),()),(((W 0),(W 0),(W 0),()),nU,()))).bind λga=>Sum.elim (λjc=>some ((((W 0),(W 0),(W 0),()),()),())) (λe9=>some (((e9.2.1.1,e9.2.1.2.1,e9.2.1.2.2.1,()),()),())) ga)))
def adz:aw:=aZ [(0,.agg fb),(1,ak aW),(2,ag)]
def avD:aw:=aZ [(0,ak bM)]
def DM:aw:=aZ [(3,.cW fb 0),(7,ak bM),(8,ag)]
def avu:bB:=[((.exit 0),aZ [(7,ak bM)])]
def Ky (x:U DM):Option (U DM⊕bA avu):=cond (bh x.1.2.2.1 (bj x.1.1.2.1)) ((a7 x.1.1.2.1 (x.1.2.2.1).1).bind λaE=>(vq ((x.1.2.1,aE.1,()),())).bind λaG=>some (.inl ((x.1.1,aG.1.1,(bg x.1.2.2.1 (W 1)),()),()))) (some (.inr ((x.1.2.1,()),())))
def Sc:aw:=aZ [(7,ak bM),(10,.cW bz 0)]
def ady:bB:=[jB [(7,ak bM)]]
def Sb (x:U Sc):Option (bA ady):=cond (bd x.1.2.1.1 (W 1)) ((vq ((x.1.1,x.1.2.1.2.1,()),())).bind λbO=>some ((bO.1.1,()),())) (cond (bd x.1.2.1.1 (W 8)) ((vq ((x.1.1,x.1.2.1.2.1,()),())).bind λbU=>some ((bU.1.1,()),())) (some ((x.1.1,()),())))
def DO:aw:=aZ [(7,ak bM),(9,ag),(10,.cW bz 0),(11,ag)]
def avA:bB:=[((.exit 4),aZ [(7,ak bM)])]
def KA (x:U DO):Option (U DO⊕bA avA):=cond (bd x.1.2.2.1.1 (W 5)) (cond (bh x.1.2.2.2.1 (bj x.1.2.2.1.2.2.2.2.2.2.2.2.1)) ((a7 x.1.2.2.1.2.2.2.2.2.2.2.2.1 (x.1.2.2.2.1).1).bind λeK=>cond (bd eK.2.2.1 x.1.2.1) ((a7 x.1.2.2.1.2.2.2.2.2.2.2.2.1 (x.1.2.2.2.1).1).bind λee=>cond (!cC ee.2.1 (S ⟨#[]⟩)) ((a7 x.1.2.2.1.2.2.2.2.2.2.2.2.1 (x.1.2.2.2.1).1).bind λgk=>(vq ((x.1.1,gk.2.1,()),())).bind λcS=>some (.inl ((cS.1.1,x.1.2.1,x.1.2.2.1,(bg x.1.2.2.2.1 (W 1)),()),()))) (some (.inl ((x.1.1,x.1.2.1,x.1.2.2.1,(bg x.1.2.2.2.1 (W 1)),()),())))) (some (.inl ((x.1.1,x.1.2.1,x.1.2.2.1,(bg x.1.2.2.2.1 (W 1)),()),())))) (some (.inr ((x.1.1,()),())))) (some (.inr ((x.1.1,()),())))
def DN:aw:=aZ [(1,ak aW),(3,.cW fb 0),(7,ak bM),(9,ag)]
def avx:bB:=[((.exit 2),aZ [(7,ak bM)])]
def Kz (x:U DN):Option (U DN⊕bA avx):=cond (bh (W 0) x.1.2.2.2.1) ((a7 x.1.1 (x.1.2.2.2.1).1).bind λcM=>(a7 x.1.2.1.2.2.2.1 (cM.1).1).bind λdX=>(Sb ((x.1.2.2.1,dX,()),())).bind λcD=>(a_ KA ((cD.1.1,x.1.2.2.2.1,dX,(W 0),()),())).bind λcG=>(a7 x.1.1 (x.1.2.2.2.1).1).bind λiX=>some (.inl ((x.1.1,(x.1.2.1.1,x.1.2.1.2.1,x.1.2.1.2.2.1,x.1.2.1.2.2.2.1,()),cG.1.1,iX.1,()),()))) (some (.inr ((x.1.2.2.1,()),())))
def Kx (x:U adz):Option (U avD):=(a_ Ky ((x.1.1,L.nil,(W 0),()),())).bind λa1=>(a_ Kz ((x.1.2.1,x.1.1,a1.1.1,x.1.2.2.1,()),())).bind λdD=>some ((dD.1.1,()),())
def adX:aw:=aZ [(0,.agg fb),(1,ag)]
def awG:aw:=aZ [(0,ak bM)]
def Sq:aw:=aZ [(5,.cW bz 0),(6,.cP)]
def adW:bB:=[jB [(6,ak bM)]]
def Sp (x:U Sq):Option (bA adW):=cond (bd x.1.1.1 (W 4)) (some (((cx [(x.1.1.2.1,())]),()),())) (cond (bd x.1.1.1 (W 5)) (some (((cx [(x.1.1.2.1,())]),()),())) (cond (bd x.1.1.1 (W 9)) (some (((cx [(x.1.1.2.1,())]),()),())) (some ((L.nil,()),()))))
def D5:aw:=aZ [(6,ak bM),(9,ak bM),(10,ag)]
def awE:bB:=[((.exit 2),aZ [(6,ak bM)])]
def KT (x:U D5):Option (U D5⊕bA awE):=cond (bh x.1.2.2.1 (bj x.1.2.1)) ((a7 x.1.2.1 (x.1.2.2.1).1).bind λdh=>(vq ((x.1.1,dh.1,()),())).bind λbU=>some (.inl ((bU.1.1,x.1.2.1,(bg x.1.2.2.1 (W 1)),()),()))) (some (.inr ((x.1.1,()),())))
def D4:aw:=aZ [(2,.cW fb 0),(6,ak bM),(7,ak aW),(8,ag)]
def awB:bB:=[((.exit 0),aZ [(6,ak bM)])]
def KS (x:U D4):Option (U D4⊕bA awB):=cond (bh x.1.2.2.2.1 (bj x.1.2.2.1)) ((a7 x.1.2.2.1 (x.1.2.2.2.1).1).bind λcM=>(LY ((x.1.1.2.2.1,cM.1,()),())).bind λbf=>(a_ KT ((x.1.2.1,bf.1.1,(W 0),()),())).bind λcD=>some (.inl ((x.1.1,cD.1.1,x.1.2.2.1,(bg x.1.2.2.2.1 (W 1)),()),()))) (some (.inr ((x.1.2.1,()),())))
def D3 (x:U adX):Option (U awG):=(a7 x.1.1.2.2.2.1 (x.1.2.1).1).bind λaE=>(Sp ((aE,(),()),())).bind λaG=>(D1 ((aE,()),())).bind λa1=>(a_ KS ((x.1.1,aG.1.1,a1.1.1,(W 0),()),())).bind λbV=>some ((bV.1.1,()),())
def ad6:aw:=aZ [(0,.agg bz)]
def awU:aw:=aZ [(0,ak bM)]
def St:aw:=⟨[(1,.cW bz 0),(3,.tok bM 0 [])],[.a6 bM]⟩
def ad5:bB:=[(.normal,⟨[(3,.tok bM 1 [])],[.gone,.a6 bM]⟩)]
def Ss (x:U St):Option (bA ad5):=cond (bd x.1.1.1 (W 1)) ((de 16 x.1.2.1 (cx [(x.1.1.2.1,())])).bind λdC=>some ((dC,()),((),(),()))) (cond (bd x.1.1.1 (W 8)) ((de 16 x.1.2.1 (cx [(x.1.1.2.1,())])).bind λeo=>some ((eo,()),((),(),()))) (some ((x.1.2.1,()),((),(),()))))
def D8:aw:=⟨[(1,.cW bz 0),(3,.tok bM 0 []),(4,ag)],[.a6 bM]⟩
def awR:bB:=[((.exit 0),⟨[(3,.tok bM 1 [])],[.gone,.a6 bM]⟩)]
def KX (x:U D8):Option (U D8⊕bA awR):=cond (bh x.1.2.2.1 (bj x.1.1.2.2.2.2.2.2.2.2.1)) ((a7 x.1.1.2.2.2.2.2.2.2.2.1 (x.1.2.2.1).1).bind λcM=>cond (!cC cM.2.1 (S ⟨#[]⟩)) ((a7 x.1.1.2.2.2.2.2.2.2.2.1 (x.1.2.2.1).1).bind λdX=>(de 16 x.1.2.1 (cx [(dX.2.1,())])).bind λmE=>some (.inl ((x.1.1,mE,(bg x.1.2.2.1 (W 1)),()),((),())))) (some (.inl ((x.1.1,x.1.2.1,(bg x.1.2.2.1 (W 1)),()),((),()))))) (some (.inr ((x.1.2.1,()),((),(),()))))
def KW (x:U ad6):Option (U awU):=(Ss ((x.1.1,L.nil,()),((),()))).bind λa1=>(a_ KX ((x.1.1,a1.1.1,(W 0),()),((),()))).bind λbU=>some ((bU.1.1,()),())
def ad8:aw:=aZ [(0,.agg g4),(1,aN),(2,ag),(3,ag)]
def awY:aw:=aZ [(0,bP)]
def Al (x:U ad8):Option (U awY):=(vl ((x.1.1,x.1.2.1,()),())).bind λaB=>cond (fM (W 0) aB.1.1) ((a7 x.1.1.2.2.1 (aB.1.1).1).bind λaX=>some (((bd (bj aX.2.1) (bg x.1.2.2.1 x.1.2.2.2.1)),()),())) (some ((false,()),()))
def adJ:aw:=aZ [(0,.agg g4),(1,aN)]
def awj:aw:=aZ [(0,ag)]
def D0:aw:=aZ [(1,aN),(2,.cW g4 0),(5,ag)]
def awg:bB:=[((.exit 0),aZ []),gA [(4,ag)]]
def KP (x:U D0):Option (U D0⊕bA awg):=cond (bh x.1.2.2.1 (bj x.1.2.1.1)) ((a7 x.1.2.1.1 (x.1.2.2.1).1).bind λaE=>cond (cC aE.1 x.1.1) (some (.inr (.inr ((x.1.2.2.1,()),())))) (some (.inl ((x.1.1,x.1.2.1,(bg x.1.2.2.1 (W 1)),()),())))) (some (.inr (.inl ((),()))))
def KO (x:U adJ):Option (U awj):=(a_ KP ((x.1.2.1,x.1.1,(W 0),()),())).bind λaG=>Sum.elim (λa1=>some (((W (-1)),()),())) (λa2=>some ((a2.1.1,()),())) aG
def aeC:aw:=aZ [(0,.agg g4),(1,.agg bz)]
def ax7:aw:=aZ [(0,bP)]
def Ep:aw:=⟨[(3,.cW bz 0),(7,.tok bM 0 []),(8,ag)],[.a6 bM]⟩
def ax1:bB:=[((.exit 0),⟨[(7,.tok bM 1 [])],[.gone,.a6 bM]⟩)]
def Lf (x:U Ep):Option (U Ep⊕bA ax1):=cond (bh x.1.2.2.1 (bj x.1.1.2.2.2.2.2.2.2.1)) ((a7 x.1.1.2.2.2.2.2.2.2.1 (x.1.2.2.1).1).bind λbL=>(de 16 x.1.2.1 (cx [(bL.1,())])).bind λkx=>some (.inl ((x.1.1,kx,(bg x.1.2.2.1 (W 1)),()),((),())))) (some (.inr ((x.1.2.1,()),((),(),()))))
def Er:aw:=aZ [(6,ak bM),(7,ak bM),(9,ag)]
def ax4:bB:=[((.exit 2),aZ []),gA [(4,bP)]]
def Lg (x:U Er):Option (U Er⊕bA ax4):=cond (bh x.1.2.2.1 (bj x.1.2.1)) ((a7 x.1.2.1 (x.1.2.2.1).1).bind λfD=>(oK ((x.1.1,fD.1,()),())).bind λcD=>cond (!cD.1.1) (some (.inr (.inr ((false,()),())))) (some (.inl ((x.1.1,x.1.2.1,(bg x.1.2.2.1 (W 1)),()),())))) (some (.inr (.inl ((),()))))
def Le (x:U aeC):Option (U ax7):=(KO ((x.1.1,x.1.2.1.2.2.2.1,()),())).bind λaB=>cond (bh aB.1.1 (W 0)) (some ((false,()),())) ((a7 x.1.1.1 (aB.1.1).1).bind λaX=>(a_ Lf ((x.1.2.1,(cx [(x.1.2.1.2.2.1,())]),(W 0),()),((),()))).bind λbf=>cond (!bd (bj bf.1.1) (bj aX.2.1)) (some ((false,()),())) ((EU ((bf.1.1,()),())).bind λbO=>cond (!bO.1.1) (some ((false,()),())) ((a_ Lg ((aX.2.1,bf.1.1,(W 0),()),())).bind λbV=>Sum.elim (λcu=>some ((true,()),())) (λb6=>some ((b6.1.1,()),())) bV)))
def aeM:aw:=aZ [(0,.agg g4),(1,.agg fb),(2,ak aW),(3,ag)]
def ayO:aw:=aZ [(0,ag)]
def Ex:aw:=aZ [(10,ak bM),(11,ak bM),(12,ag)]
def ayF:bB:=[((.exit 0),aZ []),gA [(8,ag)]]
def Lt (x:U Ex):Option (U Ex⊕bA ayF):=cond (bh x.1.2.2.1 (bj x.1.2.1)) ((a7 x.1.2.1 (x.1.2.2.1).1).bind λcM=>(oK ((x.1.1,cM.1,()),())).bind λbf=>cond (!bf.1.1) (some (.inr (.inr (((W 1505),()),())))) (some (.inl ((x.1.1,x.1.2.1,(bg x.1.2.2.1 (W 1)),()),())))) (some (.inr (.inl ((),()))))
def Ey:aw:=aZ [(10,ak bM),(11,ak bM),(13,ag)]
def ayI:bB:=[((.exit 2),aZ []),gA [(8,ag)]]
def Lu (x:U Ey):Option (U Ey⊕bA ayI):=cond (bh x.1.2.2.1 (bj x.1.2.1)) ((a7 x.1.2.1 (x.1.2.2.1).1).bind λee=>(oK ((x.1.1,ee.1,()),())).bind λb6=>cond (b6.1.1) (some (.inr (.inr (((W 1506),()),())))) (some (.inl ((x.1.1,x.1.2.1,(bg x.1.2.2.1 (W 1)),()),())))) (some (.inr (.inl ((),()))))
def SF:aw:=aZ [(4,.cW g4 0),(9,.cW bz 0)]
def aeL:bB:=[jB [],gA [(8,ag)]]
def SE (x:U SF):Option (bA aeL):=cond (bd x.1.2.1.1 (W 6)) ((Al ((x.1.1,x.1.2.1.2.2.2.2.1,(bj x.1.2.1.2.2.2.2.2.2.1),(W 0),()),())).bind λdD=>cond (!dD.1.1) (some (.inr (((W 1507),()),()))) (some (.inl ((),())))) (cond (bd x.1.2.1.1 (W 7)) ((Al ((x.1.1,x.1.2.1.2.2.2.2.1,(bj x.1.2.1.2.2.2.2.2.2.1),(W 0),()),())).bind λeN=>cond (!eN.1.1) (some (.inr (((W 1507),()),()))) (some (.inl ((),())))) (some (.inl ((),()))))
def Ez:aw:=aZ [(4,.cW g4 0),(9,.cW bz 0),(14,ag)]
def ayL:bB:=[((.exit 4),aZ []),gA [(8,ag)]]
def Lv (x:U Ez):Option (U Ez⊕bA ayL):=cond (bh x.1.2.2.1 (bj x.1.2.1.2.2.2.2.2.2.2.1)) ((a7 x.1.2.1.2.2.2.2.2.2.2.1 (x.1.2.2.1).1).bind λpV=>(a7 x.1.2.1.2.2.2.2.2.2.2.1 (x.1.2.2.1).1).bind λmW=>(Al ((x.1.1,pV.2.1,(bj mW.2.2.1),(W 1),()),())).bind λe9=>cond (!e9.1.1) (some (.inr (.inr (((W 1507),()),())))) (some (.inl ((x.1.1,x.1.2.1,(bg x.1.2.2.1 (W 1)),()),())))) (some (.inr (.inl ((),()))))
def Ls (x:U aeM):Option (U ayO):=(a7 x.1.2.1.2.2.2.1 (x.1.2.2.2.1).1).bind λaE=>(Kx ((x.1.2.1,x.1.2.2.1,x.1.2.2.2.1,()),())).bind λaG=>(D3 ((x.1.2.1,x.1.2.2.2.1,()),())).bind λa1=>(a_ Lt ((aG.1.1,a1.1.1,(W 0),()),())).bind λbO=>Sum.elim (λbU=>(KW ((aE,()),())).bind λbV=>(a_ Lu ((aG.1.1,bV.1.1,(W 0),()),())).bind λcS=>Sum.elim (λcG=>(SE ((x.1.1,aE,()),())).bind λfo=>Sum.elim (λe4=>(a_ Lv ((x.1.1,aE,(W 0),()),())).bind λmn=>Sum.elim (λmL=>cond (bd aE.1 (W 8)) ((Le ((x.1.1,aE,()),())).bind λnZ=>cond (!nZ.1.1) (some (((W 1508),()),())) (some (((W 0),()),()))) (some (((W 0),()),()))) (λkA=>some ((kA.1.1,()),())) mn) (λfI=>some ((fI.1.1,()),())) fo) (λev=>some ((ev.1.1,()),())) cS) (λcD=>some ((cD.1.1,()),())) bO
def adA:aw:=aZ [(0,.agg g4)]
def avV:aw:=aZ [(0,.agg sx)]
def DP:aw:=⟨[(1,.cW g4 0),(2,b9),(3,ag)],[.box [ag,ag,ag]]⟩
def avG:bB:=[((.exit 0),⟨[],[.box [ag,ag,ag]]⟩),(.ret,⟨[],[.box [ag,ag,ag]]⟩)]
def KD (x:U DP):Option (U DP⊕bA avG):=cond (bh x.1.2.2.1 (bj x.1.1.1)) ((a7 x.1.1.1 (x.1.2.2.1).1).bind λcM=>(yG ((cM,()),())).bind λbf=>cond (!bf.1.1) ((mI (((W 1500),(W (-1)),(W (-1)),()),())).bind λbO=>some (.inr (.inr ((),((bO.1.1.1,bO.1.1.2.1,bO.1.1.2.2.1,()),()))))) (some (.inl ((x.1.1,(),(bg x.1.2.2.1 (W 1)),()),(x.2.1,()))))) (some (.inr (.inl ((),(x.2.1,())))))
def DQ:aw:=⟨[(1,.cW g4 0),(2,b9),(4,ag)],[.box [ag,ag,ag]]⟩
def avJ:bB:=[((.exit 2),⟨[],[.box [ag,ag,ag]]⟩),(.ret,⟨[],[.box [ag,ag,ag]]⟩)]
def KE (x:U DQ):Option (U DQ⊕bA avJ):=cond (bh x.1.2.2.1 (bj x.1.1.2.1)) ((a7 x.1.1.2.1 (x.1.2.2.1).1).bind λee=>(AD ((ee,()),())).bind λb6=>cond (!b6.1.1) ((mI (((W 1500),(W (-1)),(W (-1)),()),())).bind λev=>some (.inr (.inr ((),((ev.1.1.1,ev.1.1.2.1,ev.1.1.2.2.1,()),()))))) ((a7 x.1.1.2.1 (x.1.2.2.1).1).bind λjw=>(kz ((jw.1,()),())).bind λcG=>cond (!cG.1.1) ((mI (((W 1500),(W (-1)),(W (-1)),()),())).bind λdD=>some (.inr (.inr ((),((dD.1.1.1,dD.1.1.2.1,dD.1.1.2.2.1,()),()))))) (some (.inl ((x.1.1,(),(bg x.1.2.2.1 (W 1)),()),(x.2.1,())))))) (some (.inr (.inl ((),(x.2.1,())))))
def DR:aw:=⟨[(1,.cW g4 0),(2,b9),(5,ag)],[.box [ag,ag,ag]]⟩
def avM:bB:=[((.exit 4),⟨[],[.box [ag,ag,ag]]⟩),(.ret,⟨[],[.box [ag,ag,ag]]⟩)]
def KF (x:U DR):Option (U DR⊕bA avM):=cond (bh x.1.2.2.1 (bj x.1.1.2.2.1)) ((Lx ((x.1.1,x.1.2.2.1,()),())).bind λfI=>cond (!bd fI.1.1.1 (W 0)) (some (.inr (.inr ((),((fI.1.1.1,fI.1.1.2.1,fI.1.1.2.2.1,()),()))))) (some (.inl ((x.1.1,(),(bg x.1.2.2.1 (W 1)),()),(x.2.1,()))))) (some (.inr (.inl ((),(x.2.1,())))))
def DT:aw:=⟨[(1,.cW g4 0),(2,b9),(8,ag),(9,ak aW),(10,ag)],[.box [ag,ag,ag]]⟩
def avS:bB:=[((.exit 8),⟨[],[.box [ag,ag,ag]]⟩),(.ret,⟨[],[.box [ag,ag,ag]]⟩)]
def KH (x:U DT):Option (U DT⊕bA avS):=(a7 x.1.1.2.2.1 (x.1.2.2.1).1).bind λHA=>cond (bh x.1.2.2.2.2.1 (bj HA.2.2.2.1)) ((a7 x.1.1.2.2.1 (x.1.2.2.1).1).bind λBw=>(Ls ((x.1.1,Bw,x.1.2.2.2.1,x.1.2.2.2.2.1,()),())).bind λUR=>cond (!bd UR.1.1 (W 0)) ((mI ((UR.1.1,x.1.2.2.1,x.1.2.2.2.2.1,()),())).bind λyO=>some (.inr (.inr ((),((yO.1.1.1,yO.1.1.2.1,yO.1.1.2.2.1,()),()))))) (some (.inl ((x.1.1,(),x.1.2.2.1,x.1.2.2.2.1,(bg x.1.2.2.2.2.1 (W 1)),()),(x.2.1,()))))) (some (.inr (.inl ((),(x.2.1,())))))
def DS:aw:=⟨[(1,.cW g4 0),(2,b9),(8,ag)],[.box [ag,ag,ag]]⟩
def avP:bB:=[((.exit 6),⟨[],[.box [ag,ag,ag]]⟩),(.ret,⟨[],[.box [ag,ag,ag]]⟩)]
def KG (x:U DS):Option (U DS⊕bA avP):=cond (bh x.1.2.2.1 (bj x.1.1.2.2.1)) ((a7 x.1.1.2.2.1 (x.1.2.2.1).1).bind λzm=>(td ((zm,()),())).bind λyN=>(a_ KH ((x.1.1,(),x.1.2.2.1,yN.1.1,(W 0),()),(x.2.1,()))).bind λAV=>Sum.elim (λyP=>some (.inl ((x.1.1,(),(bg x.1.2.2.1 (W 1)),()),(yP.2.1,())))) (λaiZ=>some (.inr (.inr ((),(aiZ.2.1,()))))) AV) (some (.inr (.inl ((),(x.2.1,())))))
def KC (x:U adA):Option (U avV):=cond (bh (W 6) (bj x.1.1.1)) ((mI (((W 1500),(W (-1)),(W (-1)),()),())).bind λaB=>some ((aB.1.1,()),())) (cond (bh (W 12) (bj x.1.1.2.1)) ((mI (((W 1500),(W (-1)),(W (-1)),()),())).bind λaG=>some ((aG.1.1,()),())) (cond (bh (W 24) (bj x.1.1.2.2.1)) ((mI (((W 1500),(W (-1)),(W (-1)),()),())).bind λa1=>some ((a1.1.1,()),())) ((a_ KD ((x.1.1,(),(W 0),()),(((W 0),(W 0),(W 0),()),()))).bind λbU=>Sum.elim (λcD=>(a_ KE ((x.1.1,(),(W 0),()),(cD.2.1,()))).bind λeN=>Sum.elim (λfo=>(a_ KF ((x.1.1,(),(W 0),()),(fo.2.1,()))).bind λga=>Sum.elim (λjc=>(vl ((x.1.1,(S ⟨#[109,97,105,110]⟩),()),())).bind λmn=>cond (bh mn.1.1 (W 0)) ((mI (((W 1504),(W (-1)),(W (-1)),()),())).bind λkA=>some ((kA.1.1,()),())) ((a7 x.1.1.2.2.1 (mn.1.1).1).bind λzl=>cond (bh (W 0) (bj zl.2.1)) ((mI (((W 1504),(W (-1)),(W (-1)),()),())).bind λnZ=>some ((nZ.1.1,()),())) ((a_ KG ((x.1.1,(),(W 0),()),(jc.2.1,()))).bind λai0=>Sum.elim (λaIL=>some ((((W 0),(W 0),(W 0),()),()),())) (λOx=>some (((Ox.2.1.1,Ox.2.1.2.1,Ox.2.1.2.2.1,()),()),())) ai0))) (λe9=>some (((e9.2.1.1,e9.2.1.2.1,e9.2.1.2.2.1,()),()),())) ga) (λe4=>some (((e4.2.1.1,e4.2.1.2.1,e4.2.1.2.2.1,()),()),())) eN) (λbV=>some (((bV.2.1.1,bV.2.1.2.1,bV.2.1.2.2.1,()),()),())) bU)))
def ae4:aw:=aZ [(0,ak c_),(1,aN)]
def azK:aw:=aZ [(0,ak c_)]
def EN:aw:=⟨[(0,ak c_),(1,aN),(5,.tok c_ 0 []),(6,ag)],[.a6 c_]⟩
def azI:bB:=[((.exit 0),⟨[(5,.tok c_ 1 [])],[.gone,.a6 c_]⟩)]
def LN (x:U EN):Option (U EN⊕bA azI):=cond (bh x.1.2.2.2.1 (bj x.1.1)) ((a7 x.1.1 (x.1.2.2.2.1).1).bind λaE=>cond (!cC aE.1 x.1.2.1) ((a7 x.1.1 (x.1.2.2.2.1).1).bind λaX=>(de 32 x.1.2.2.1 (cx [aX])).bind λcf=>some (.inl ((x.1.1,x.1.2.1,cf,(bg x.1.2.2.2.1 (W 1)),()),((),())))) (some (.inl ((x.1.1,x.1.2.1,x.1.2.2.1,(bg x.1.2.2.2.1 (W 1)),()),((),()))))) (some (.inr ((x.1.2.2.1,()),((),(),()))))
def wB (x:U ae4):Option (U azK):=(a_ LN ((x.1.1,x.1.2.1,L.nil,(W 0),()),((),()))).bind λa2=>some ((a2.1.1,()),())
def ae2:aw:=aZ [(0,ak c_),(1,aN),(2,.agg ir)]
def azG:aw:=aZ [(0,ak c_)]
def EL:aw:=aZ [(1,aN),(7,ak c_),(8,ag)]
def azE:bB:=[((.exit 0),aZ [(8,ag)])]
def LM (x:U EL):Option (U EL⊕bA azE):=cond (bh x.1.2.2.1 (bj x.1.2.1)) ((a7 x.1.2.1 (x.1.2.2.1).1).bind λaX=>cond (nV aX.1 x.1.1) (some (.inl ((x.1.1,x.1.2.1,(bg x.1.2.2.1 (W 1)),()),()))) (some (.inr ((x.1.2.2.1,()),())))) (some (.inr ((x.1.2.2.1,()),())))
def vn (x:U ae2):Option (U azG):=(wB ((x.1.1,x.1.2.1,()),())).bind λaB=>(a_ LM ((x.1.2.1,aB.1.1,(W 0),()),())).bind λa1=>(nf aB.1.1 0 (a1.1.1).1).bind λv4=>(de 32 (L.nil:L (D [.str,.int .i64,.int .i64])) v4).bind λgv=>(de 32 gv (cx [(x.1.2.1,x.1.2.2.1.1,x.1.2.2.1.2.1,())])).bind λmE=>(nf aB.1.1 (a1.1.1).1 aB.1.1.1.length).bind λdN=>(de 32 mE dN).bind λjA=>some ((jA,()),())
def ad1:aw:=aZ [(0,.agg hG),(1,.agg fb)]
def awO:aw:=aZ [(0,ak c_),(1,bP)]
def D7:aw:=aZ [(2,.cW hG 0),(3,.cW fb 0),(6,ak c_),(7,ag)]
def awM:bB:=[((.exit 0),aZ [(6,ak c_)]),gA [(4,.cP),(5,bP)]]
def KV (x:U D7):Option (U D7⊕bA awM):=cond (bh x.1.2.2.2.1 (bj x.1.2.1.2.1)) ((a7 x.1.2.1.2.1 (x.1.2.2.2.1).1).bind λaE=>(AE ((x.1.1,(aE.2.1,aE.2.2.1,()),()),())).bind λaG=>cond (!aG.1.2.1) (some (.inr (.inr (((),false,()),())))) ((a7 x.1.2.1.2.1 (x.1.2.2.2.1).1).bind λbL=>(vn ((x.1.2.2.1,bL.1,aG.1.1,()),())).bind λa2=>some (.inl ((x.1.1,x.1.2.1,a2.1.1,(bg x.1.2.2.2.1 (W 1)),()),())))) (some (.inr (.inl ((x.1.2.2.1,()),()))))
def D6 (x:U ad1):Option (U awO):=(a_ KV ((x.1.1,x.1.2.1,L.nil,(W 0),()),())).bind λbf=>Sum.elim (λbO=>some ((bO.1.1,true,()),())) (λbU=>some ((L.nil,bU.1.2.1,()),())) bf
def aex:aw:=aZ [(0,.agg hG),(1,ak c_)]
def axT:aw:=aZ [(0,bP)]
def En:aw:=aZ [(1,ak c_),(2,.cW hG 0),(5,ag)]
def axQ:bB:=[((.exit 0),aZ []),gA [(4,bP)]]
def Lb (x:U En):Option (U En⊕bA axQ):=cond (bh x.1.2.2.1 (bj x.1.1)) ((a7 x.1.1 (x.1.2.2.1).1).bind λaE=>cond (bd aE.2.1 (W 5)) ((a7 x.1.1 (x.1.2.2.1).1).bind λaX=>(a7 x.1.2.1.1 (aX.2.2.1).1).bind λbL=>cond (!bd bL.1 (W 0)) (some (.inr (.inr ((false,()),())))) (some (.inl ((x.1.1,x.1.2.1,(bg x.1.2.2.1 (W 1)),()),())))) (some (.inl ((x.1.1,x.1.2.1,(bg x.1.2.2.1 (W 1)),()),())))) (some (.inr (.inl ((),()))))
def Em (x:U aex):Option (U axT):=(a_ Lb ((x.1.2.1,x.1.1,(W 0),()),())).bind λa2=>Sum.elim (λbf=>some ((true,()),())) (λbO=>some ((bO.1.1,()),())) a2
def aep:aw:=aZ [(0,ak c_),(1,aN)]
def axw:aw:=aZ [(0,.agg ir),(1,bP)]
def Eh:aw:=⟨[(0,ak c_),(1,aN),(4,b9),(6,ag)],[.box [ag,ag]]⟩
def axt:bB:=[((.exit 0),⟨[],[.box [ag,ag]]⟩),(.ret,⟨[(5,bP)],[.box [ag,ag]]⟩)]
def K6 (x:U Eh):Option (U Eh⊕bA axt):=cond (bh x.1.2.2.2.1 (bj x.1.1)) ((a7 x.1.1 (x.1.2.2.2.1).1).bind λaE=>cond (cC aE.1 x.1.2.1) ((a7 x.1.1 (x.1.2.2.2.1).1).bind λaX=>some (.inr (.inr ((true,()),((aX.2.1,aX.2.2.1,()),()))))) (some (.inl ((x.1.1,x.1.2.1,(),(bg x.1.2.2.2.1 (W 1)),()),(x.2.1,()))))) (some (.inr (.inl ((),(x.2.1,())))))
def K5 (x:U aep):Option (U axw):=(a_ K6 ((x.1.1,x.1.2.1,(),(W 0),()),(((W 0),(W 0),()),()))).bind λa1=>Sum.elim (λa2=>some ((((W 0),(W 0),()),false,()),())) (λbf=>some (((bf.2.1.1,bf.2.1.2.1,()),bf.1.1,()),())) a1
def aeg:aw:=aZ [(0,ak c_),(1,aN)]
def axj:aw:=aZ [(0,ag),(1,bP)]
def An (x:U aeg):Option (U axj):=(K5 ((x.1.1,x.1.2.1,()),())).bind λaB=>cond (aB.1.2.1) (some ((aB.1.1.2.1,(bd aB.1.1.1 (W 5)),()),())) (some ((aB.1.1.2.1,false,()),()))
def aeU:aw:=aZ [(0,.agg hG),(1,.agg bz),(2,ak c_),(3,ag)]
def azj:aw:=aZ [(0,.agg jt),(1,ag)]
def EF (x:U aeU):Option (U azj):=(An ((x.1.2.2.1,x.1.2.1.2.1,()),())).bind λaB=>cond (!aB.1.2.1) (some ((((W 0),(S ⟨#[]⟩),L.nil,()),(W 1800),()),())) ((a7 x.1.1.1 (aB.1.1).1).bind λaX=>cond (!bd aX.1 x.1.2.2.2.1) (some ((((W 0),(S ⟨#[]⟩),L.nil,()),(W 1801),()),())) (cond (!cC aX.2.1 x.1.2.1.2.2.1) (some ((((W 0),(S ⟨#[]⟩),L.nil,()),(W 1801),()),())) (some ((aX,(W 0),()),()))))
def aed:aw:=aZ [(0,.agg jt),(1,aN)]
def axh:aw:=aZ [(0,.agg k1),(1,bP)]
def Ed:aw:=⟨[(1,aN),(2,.cW jt 0),(4,b9),(6,ag)],[.box [aN,ag,ag,ag]]⟩
def axf:bB:=[((.exit 0),⟨[],[.box [aN,ag,ag,ag]]⟩),(.ret,⟨[(5,bP)],[.box [aN,ag,ag,ag]]⟩)]
def K2 (x:U Ed):Option (U Ed⊕bA axf):=cond (bh x.1.2.2.2.1 (bj x.1.2.1.2.2.1)) ((a7 x.1.2.1.2.2.1 (x.1.2.2.2.1).1).bind λaE=>cond (cC aE.1 x.1.1) ((a7 x.1.2.1.2.2.1 (x.1.2.2.2.1).1).bind λaX=>some (.inr (.inr ((true,()),((aX.1,aX.2.1,aX.2.2.1,aX.2.2.2.1,()),()))))) (some (.inl ((x.1.1,x.1.2.1,(),(bg x.1.2.2.2.1 (W 1)),()),(x.2.1,()))))) (some (.inr (.inl ((),(x.2.1,())))))
def Am (x:U aed):Option (U axh):=(a_ K2 ((x.1.2.1,x.1.1,(),(W 0),()),(((S ⟨#[]⟩),(W 0),(W 0),(W 0),()),()))).bind λa1=>Sum.elim (λa2=>some ((((S ⟨#[]⟩),(W 0),(W 0),(W 0),()),false,()),())) (λbf=>some (((bf.2.1.1,bf.2.1.2.1,bf.2.1.2.2.1,bf.2.1.2.2.2.1,()),bf.1.1,()),())) a1
def aew:aw:=aZ [(0,.agg hG),(1,.agg bz),(2,ak c_)]
def axN:aw:=aZ [(0,ak [.aH c_]),(1,ag)]
def Ek:aw:=aZ [(4,.cW bz 0),(8,.cW jt 0),(10,ag),(11,ag)]
def axH:bB:=[((.exit 0),aZ [(10,ag)]),gA [(6,.cP),(7,ag)]]
def K_ (x:U Ek):Option (U Ek⊕bA axH):=cond (bh x.1.2.2.2.1 (bj x.1.1.2.2.2.2.2.2.2.2.1)) ((a7 x.1.1.2.2.2.2.2.2.2.2.1 (x.1.2.2.2.1).1).bind λaX=>cond (cC aX.1 (S ⟨#[]⟩)) (some (.inl ((x.1.1,x.1.2.1,x.1.2.2.1,(bg x.1.2.2.2.1 (W 1)),()),()))) ((a7 x.1.1.2.2.2.2.2.2.2.2.1 (x.1.2.2.2.1).1).bind λbL=>(Am ((x.1.2.1,bL.1,()),())).bind λa2=>cond (!a2.1.2.1) (some (.inr (.inr (((),(W 1802),()),())))) (some (.inl ((x.1.1,x.1.2.1,(bg x.1.2.2.1 (W 1)),(bg x.1.2.2.2.1 (W 1)),()),()))))) (some (.inr (.inl ((x.1.2.2.1,()),()))))
def El:aw:=⟨[(2,ak c_),(4,.cW bz 0),(8,.cW jt 0),(14,.tok [.aH c_] 0 []),(15,ag)],[.a6 [.aH c_]]⟩
def axK:bB:=[((.exit 2),⟨[(14,.tok [.aH c_] 1 [])],[.gone,.a6 [.aH c_]]⟩),(.ret,⟨[(6,.cP),(7,ag)],[.gone]⟩)]
def La (x:U El):Option (U El⊕bA axK):=cond (bh x.1.2.2.2.2.1 (bj x.1.2.1.2.2.2.2.2.2.2.2.1)) ((a7 x.1.2.1.2.2.2.2.2.2.2.2.1 (x.1.2.2.2.2.1).1).bind λdG=>cond (cC dG.1 (S ⟨#[]⟩)) ((wB ((x.1.1,x.1.2.1.2.1,()),())).bind λbV=>(de 24 x.1.2.2.2.1 (cx [(bV.1.1,())])).bind λoE=>some (.inl ((x.1.1,x.1.2.1,x.1.2.2.1,oE,(bg x.1.2.2.2.2.1 (W 1)),()),((),())))) ((Am ((x.1.2.2.1,dG.1,()),())).bind λb6=>cond (!((cC dG.2.1 (S ⟨#[]⟩))==(bd b6.1.1.2.1 (W 0)))) (some (.inr (.inr (((),(W 1803),()),((),()))))) ((vn ((x.1.1,x.1.2.1.2.1,((W 5),b6.1.1.2.2.2.1,()),()),())).bind λcS=>cond (!cC dG.2.1 (S ⟨#[]⟩)) ((vn ((cS.1.1,dG.2.1,(b6.1.1.2.1,b6.1.1.2.2.1,()),()),())).bind λcG=>(de 24 x.1.2.2.2.1 (cx [(cG.1.1,())])).bind λsZ=>some (.inl ((x.1.1,x.1.2.1,x.1.2.2.1,sZ,(bg x.1.2.2.2.2.1 (W 1)),()),((),())))) ((de 24 x.1.2.2.2.1 (cx [(cS.1.1,())])).bind λpn=>some (.inl ((x.1.1,x.1.2.1,x.1.2.2.1,pn,(bg x.1.2.2.2.2.1 (W 1)),()),((),()))))))) (some (.inr (.inl ((x.1.2.2.2.1,()),((),(),())))))
def K9 (x:U aew):Option (U axN):=(EF ((x.1.1,x.1.2.1,x.1.2.2.1,(W 2),()),())).bind λaB=>cond (!bd aB.1.2.1 (W 0)) (some ((L.nil,aB.1.2.1,()),())) ((a_ K_ (((x.1.2.1.1,x.1.2.1.2.1,x.1.2.1.2.2.1,x.1.2.1.2.2.2.1,x.1.2.1.2.2.2.2.1,x.1.2.1.2.2.2.2.2.1,x.1.2.1.2.2.2.2.2.2.1,x.1.2.1.2.2.2.2.2.2.2.1,x.1.2.1.2.2.2.2.2.2.2.2.1,x.1.2.1.2.2.2.2.2.2.2.2.2.1,()),aB.1.1,(W 0),(W 0),()),())).bind λbf=>Sum.elim (λbO=>cond (!bd bO.1.1 (bj aB.1.1.2.2.1)) (some ((L.nil,(W 1802),()),())) ((a_ La ((x.1.2.2.1,x.1.2.1,aB.1.1,L.nil,(W 0),()),((),()))).bind λeN=>Sum.elim (λfo=>some ((fo.1.1,(W 0),()),())) (λe4=>some ((L.nil,e4.1.2.1,()),())) eN)) (λbU=>some ((L.nil,bU.1.2.1,()),())) bf)
def aeP:aw:=aZ [(0,.agg fb),(1,ag),(2,ak c_)]
def ayX:aw:=aZ [(0,ag)]
def Ao (x:U aeP):Option (U ayX):=(LQ ((x.1.1.2.2.1,x.1.2.1,x.1.2.2.1,()),())).bind λaB=>cond (!bd aB.1.2.1 (W 0)) (some (((W (-1)),()),())) (some ((aB.1.1,()),()))
def aeb:aw:=aZ [(0,ag)]
def axd:aw:=aZ [(0,bP)]
def Ec (x:U aeb):Option (U axd):=cond (fM (W 0) x.1.1) (some (((bh x.1.1 (W 5)),()),())) (some ((false,()),()))
def aeH:aw:=aZ [(0,.agg fb),(1,.agg bz),(2,ak c_)]
def ayk:aw:=aZ [(0,ak c_),(1,ag)]
def SC:aw:=aZ [(4,.cW bz 0),(8,ag)]
def aeG:bB:=[jB [(14,bP)]]
def SB (x:U SC):Option (bA aeG):=cond (bd x.1.1.1 (W 1)) ((Ec ((x.1.2.1,()),())).bind λaG=>some ((aG.1.1,()),())) (some ((false,()),()))
def Ll (x:U aeH):Option (U ayk):=(Ao ((x.1.1,x.1.2.1.2.2.2.2.2.1,x.1.2.2.1,()),())).bind λaB=>(SB ((x.1.2.1,aB.1.1,()),())).bind λa1=>cond (a1.1.1) ((vn ((x.1.2.2.1,x.1.2.1.2.1,(aB.1.1,(W 0),()),()),())).bind λa2=>some ((a2.1.1,(W 0),()),())) (cond (bd x.1.2.1.1 (W 2)) ((Ec ((aB.1.1,()),())).bind λbf=>cond (bf.1.1) (cond (!bd aB.1.1 (W 0)) (cond (!bd aB.1.1 (W 0)) (some ((x.1.2.2.1,(W 0),()),())) (some ((L.nil,(W 1804),()),()))) (cond (bd x.1.2.1.1 (W 3)) (cond (bd aB.1.1 (W 2)) (some ((x.1.2.2.1,(W 0),()),())) (some ((L.nil,(W 1804),()),()))) (some ((L.nil,(W 1804),()),())))) (cond (bd x.1.2.1.1 (W 3)) (cond (bd aB.1.1 (W 2)) (some ((x.1.2.2.1,(W 0),()),())) (some ((L.nil,(W 1804),()),()))) (some ((L.nil,(W 1804),()),())))) (cond (bd x.1.2.1.1 (W 3)) (cond (bd aB.1.1 (W 2)) (some ((x.1.2.2.1,(W 0),()),())) (some ((L.nil,(W 1804),()),()))) (some ((L.nil,(W 1804),()),()))))
def aer:aw:=aZ [(0,.agg fb),(1,ag),(2,ak c_)]
def axz:aw:=aZ [(0,aN),(1,ag),(2,bP)]
def Ei (x:U aer):Option (U axz):=(a7 x.1.1.2.2.1 (x.1.2.1).1).bind λaE=>cond (!bd aE.1 (W 0)) (some (((S ⟨#[]⟩),(W 0),false,()),())) ((An ((x.1.2.2.1,aE.2.1,()),())).bind λaG=>some ((aE.2.1,aG.1.1,aG.1.2.1,()),()))
def aeK:aw:=aZ [(0,.agg hG),(1,.agg fb),(2,.agg bz),(3,ak c_)]
def ayB:aw:=aZ [(0,ak c_),(1,ag)]
def Lr (x:U aeK):Option (U ayB):=(EF ((x.1.1,x.1.2.2.1,x.1.2.2.2.1,(W 1),()),())).bind λaB=>cond (!bd aB.1.2.1 (W 0)) (some ((L.nil,aB.1.2.1,()),())) ((Am ((aB.1.1,x.1.2.2.1.2.2.2.1,()),())).bind λaG=>cond (!aG.1.2.1) (some ((L.nil,(W 1802),()),())) ((vn ((x.1.2.2.2.1,x.1.2.2.1.2.1,((W 5),aG.1.1.2.2.2.1,()),()),())).bind λa1=>cond (bd aG.1.1.2.1 (W 0)) (cond (!bd x.1.2.2.1.2.2.2.2.2.1 (W (-1))) (some ((L.nil,(W 1803),()),())) (some ((a1.1.1,(W 0),()),()))) (cond (bd x.1.2.2.1.2.2.2.2.2.1 (W (-1))) (some ((L.nil,(W 1803),()),())) (cond (bd aG.1.1.2.1 (W 5)) ((Ei ((x.1.2.1,x.1.2.2.1.2.2.2.2.2.1,x.1.2.2.2.1,()),())).bind λa2=>cond (!a2.1.2.2.1) (some ((L.nil,(W 1803),()),())) (cond (cC a2.1.1 x.1.2.2.1.2.1) (some ((L.nil,(W 1803),()),())) ((AF ((x.1.1,a2.1.2.1,aG.1.1.2.2.1,()),())).bind λbf=>cond (!bf.1.1) (some ((L.nil,(W 1803),()),())) ((wB ((a1.1.1,a2.1.1,()),())).bind λbO=>some ((bO.1.1,(W 0),()),()))))) ((Ao ((x.1.2.1,x.1.2.2.1.2.2.2.2.2.1,x.1.2.2.2.1,()),())).bind λbU=>cond (!bd bU.1.1 aG.1.1.2.1) (some ((L.nil,(W 1803),()),())) (some ((a1.1.1,(W 0),()),())))))))
def ael:aw:=aZ [(0,.agg hG),(1,.agg fb),(2,ak dJ),(3,ak aW),(4,ak c_)]
def axr:aw:=aZ [(0,ak c_),(1,ag)]
def Eg:aw:=aZ [(2,ak dJ),(3,ak aW),(5,.cW hG 0),(6,.cW fb 0),(12,ak c_),(13,ag)]
def axp:bB:=[((.exit 0),aZ [(12,ak c_)]),gA [(10,.cP),(11,ag)]]
def K4 (x:U Eg):Option (U Eg⊕bA axp):=cond (bh x.1.2.2.2.2.2.1 (bj x.1.2.1)) ((a7 x.1.1 (x.1.2.2.2.2.2.1).1).bind λaE=>(AE ((x.1.2.2.1,(aE.2.1,aE.2.2.1,()),()),())).bind λaG=>cond (!bd aG.1.1.1 (W 5)) ((a7 x.1.2.1 (x.1.2.2.2.2.2.1).1).bind λbL=>(Ao ((x.1.2.2.2.1,bL.1,x.1.2.2.2.2.1,()),())).bind λa2=>cond (!bd a2.1.1 aG.1.1.1) (some (.inr (.inr (((),(W 1805),()),())))) (some (.inl ((x.1.1,x.1.2.1,x.1.2.2.1,x.1.2.2.2.1,x.1.2.2.2.2.1,(bg x.1.2.2.2.2.2.1 (W 1)),()),())))) ((a7 x.1.2.1 (x.1.2.2.2.2.2.1).1).bind λdX=>(Ei ((x.1.2.2.2.1,dX.1,x.1.2.2.2.2.1,()),())).bind λbO=>cond (!bO.1.2.2.1) (some (.inr (.inr (((),(W 1800),()),())))) ((AF ((x.1.2.2.1,bO.1.2.1,aG.1.1.2.1,()),())).bind λbU=>cond (!bU.1.1) (some (.inr (.inr (((),(W 1805),()),())))) ((wB ((x.1.2.2.2.2.1,bO.1.1,()),())).bind λcD=>some (.inl ((x.1.1,x.1.2.1,x.1.2.2.1,x.1.2.2.2.1,cD.1.1,(bg x.1.2.2.2.2.2.1 (W 1)),()),())))))) (some (.inr (.inl ((x.1.2.2.2.2.1,()),()))))
def Ef (x:U ael):Option (U axr):=(a_ K4 ((x.1.2.2.1,x.1.2.2.2.1,x.1.1,x.1.2.1,x.1.2.2.2.2.1,(W 0),()),())).bind λbV=>Sum.elim (λcu=>some ((cu.1.1,(W 0),()),())) (λb6=>some ((L.nil,b6.1.2.1,()),())) bV
def aeA:aw:=aZ [(0,.agg g4),(1,.agg hG),(2,.agg fb),(3,.agg bz),(4,ak c_)]
def axY:aw:=aZ [(0,ak c_),(1,ag)]
def Eo:aw:=aZ [(5,.cW g4 0),(6,.cW hG 0),(7,.cW fb 0),(8,.cW bz 0),(12,ak c_),(13,ag)]
def axV:bB:=[((.exit 0),aZ [(12,ak c_)]),gA [(10,.cP),(11,ag)]]
def Ld (x:U Eo):Option (U Eo⊕bA axV):=cond (bh x.1.2.2.2.2.2.1 (bj x.1.2.2.2.1.2.2.2.2.2.2.2.1)) ((a7 x.1.2.2.2.1.2.2.2.2.2.2.2.1 (x.1.2.2.2.2.2.1).1).bind λaE=>(vl ((x.1.1,aE.2.1,()),())).bind λaG=>(a7 x.1.1.2.2.1 (aG.1.1).1).bind λbL=>(a7 bL.2.1 ((W 0)).1).bind λcM=>(AE ((x.1.2.1,(cM.2.1,cM.2.2.1,()),()),())).bind λbf=>(mg x.1.2.2.2.1.2.2.2.1 (S ⟨#[46]⟩)).bind λv6=>(a7 x.1.2.2.2.1.2.2.2.2.2.2.2.1 (x.1.2.2.2.2.2.1).1).bind λfD=>(mg v6 fD.1).bind λdj=>(FN ((x.1.2.1,dj,()),())).bind λbV=>cond (!bd bf.1.1.1 (W 5)) (some (.inr (.inr (((),(W 1806),()),())))) ((AF ((x.1.2.1,bV.1.1,bf.1.1.2.1,()),())).bind λcu=>cond (!cu.1.1) (some (.inr (.inr (((),(W 1806),()),())))) ((nf bL.2.1 ((W 1)).1 bL.2.1.1.length).bind λv11=>(a7 x.1.2.2.2.1.2.2.2.2.2.2.2.1 (x.1.2.2.2.2.2.1).1).bind λjw=>(Ef ((x.1.2.1,x.1.2.2.1,v11,jw.2.2.1,x.1.2.2.2.2.1,()),())).bind λcG=>cond (!bd cG.1.2.1 (W 0)) (some (.inr (.inr (((),cG.1.2.1,()),())))) (some (.inl ((x.1.1,x.1.2.1,x.1.2.2.1,x.1.2.2.2.1,cG.1.1,(bg x.1.2.2.2.2.2.1 (W 1)),()),())))))) (some (.inr (.inl ((x.1.2.2.2.2.1,()),()))))
def Lc (x:U aeA):Option (U axY):=(a_ Ld ((x.1.1,x.1.2.1,x.1.2.2.1,x.1.2.2.2.1,x.1.2.2.2.2.1,(W 0),()),())).bind λev=>Sum.elim (λdD=>(mg x.1.2.2.2.1.2.2.2.1 (S ⟨#[46]⟩)).bind λkL=>(mg kL x.1.2.2.2.1.2.2.1).bind λaiN=>(FN ((x.1.2.1,aiN,()),())).bind λfI=>(vn ((dD.1.1,x.1.2.2.2.1.2.1,((W 5),fI.1.1,()),()),())).bind λga=>some ((ga.1.1,(W 0),()),())) (λeN=>some ((L.nil,eN.1.2.1,()),())) ev
def adx:aw:=aZ [(0,.agg g4),(1,.agg hG),(2,.agg fb),(3,.agg bz),(4,ak c_)]
def avq:aw:=aZ [(0,ak [.aH c_]),(1,ag)]
def R9:aw:=aZ [(17,ag)]
def adv:bB:=[jB [(34,bP)]]
def R8 (x:U R9):Option (bA adv):=cond (bd x.1.1 (W 1)) (some (((bd x.1.1 (W 1)),()),())) (cond (bd x.1.1 (W 2)) (some (((bd x.1.1 (W 2)),()),())) (some (((bd x.1.1 (W 3)),()),())))
def Sa:aw:=aZ [(17,ag)]
def adw:bB:=[jB [(55,bP)]]
def R_ (x:U Sa):Option (bA adw):=cond (bd x.1.1 (W 6)) (some (((bd x.1.1 (W 6)),()),())) (some (((bd x.1.1 (W 7)),()),()))
def R7:aw:=aZ [(4,ak c_),(5,.cW g4 0),(6,.cW hG 0),(7,.cW fb 0),(8,.cW bz 0),(12,.cP),(13,ag)]
def adu:bB:=[jB [(12,ak c_),(13,ag)],gA [(10,ak [.aH c_]),(11,ag)]]
def R6 (x:U R7):Option (bA adu):=cond (bd x.1.2.2.2.2.1.1 (W 0)) ((Em ((x.1.2.2.1,x.1.1,()),())).bind λaB=>cond (!aB.1.1) (some (.inr ((L.nil,(W 1807),()),()))) (some (.inr ((L.nil,(W 0),()),())))) (cond (bd x.1.2.2.2.2.1.1 (W 10)) (some (.inr ((L.nil,(W 0),()),()))) (cond (bd x.1.2.2.2.2.1.1 (W 5)) ((K9 ((x.1.2.2.1,x.1.2.2.2.2.1,x.1.1,()),())).bind λaG=>some (.inr ((aG.1.1,aG.1.2.1,()),()))) ((R8 ((x.1.2.2.2.2.1.1,()),())).bind λa1=>cond (a1.1.1) ((Ll ((x.1.2.2.2.1,x.1.2.2.2.2.1,x.1.1,()),())).bind λa2=>some (.inl ((a2.1.1,a2.1.2.1,()),()))) (cond (bd x.1.2.2.2.2.1.1 (W 4)) ((Lr ((x.1.2.2.1,x.1.2.2.2.1,x.1.2.2.2.2.1,x.1.1,()),())).bind λbf=>some (.inl ((bf.1.1,bf.1.2.1,()),()))) ((R_ ((x.1.2.2.2.2.1.1,()),())).bind λbO=>cond (bO.1.1) ((vl ((x.1.2.1,x.1.2.2.2.2.1.2.2.2.2.1,()),())).bind λbU=>(a7 x.1.2.1.2.2.1 (bU.1.1).1).bind λdG=>(Ef ((x.1.2.2.1,x.1.2.2.2.1,dG.2.1,x.1.2.2.2.2.1.2.2.2.2.2.2.1,x.1.1,()),())).bind λbV=>cond (bd bV.1.2.1 (W 0)) (cond (bd x.1.2.2.2.2.1.1 (W 6)) ((Em ((x.1.2.2.1,bV.1.1,()),())).bind λcu=>cond (!cu.1.1) (some (.inr ((L.nil,(W 1807),()),()))) (some (.inr ((L.nil,(W 0),()),())))) (some (.inl ((bV.1.1,bV.1.2.1,()),())))) (some (.inl ((bV.1.1,bV.1.2.1,()),())))) (cond (bd x.1.2.2.2.2.1.1 (W 8)) ((Lc ((x.1.2.1,x.1.2.2.1,x.1.2.2.2.1,x.1.2.2.2.2.1,x.1.1,()),())).bind λb6=>some (.inl ((b6.1.1,b6.1.2.1,()),()))) (cond (bd x.1.2.2.2.2.1.1 (W 9)) ((An ((x.1.1,x.1.2.2.2.2.1.2.1,()),())).bind λcS=>cond (!cS.1.2.1) (some (.inr ((L.nil,(W 1800),()),()))) ((wB ((x.1.1,x.1.2.2.2.2.1.2.1,()),())).bind λcG=>some (.inl ((cG.1.1,x.1.2.2.2.2.2.2.1,()),())))) (some (.inl ((L.nil,x.1.2.2.2.2.2.2.1,()),()))))))))))
def Kw (x:U adx):Option (U avq):=(R6 ((x.1.2.2.2.2.1,x.1.1,(x.1.2.1.1,x.1.2.1.2.1,x.1.2.1.2.2.1,()),(x.1.2.2.1.1,x.1.2.2.1.2.1,x.1.2.2.1.2.2.1,x.1.2.2.1.2.2.2.1,()),(x.1.2.2.2.1.1,x.1.2.2.2.1.2.1,x.1.2.2.2.1.2.2.1,x.1.2.2.2.1.2.2.2.1,x.1.2.2.2.1.2.2.2.2.1,x.1.2.2.2.1.2.2.2.2.2.1,x.1.2.2.2.1.2.2.2.2.2.2.1,x.1.2.2.2.1.2.2.2.2.2.2.2.1,x.1.2.2.2.1.2.2.2.2.2.2.2.2.1,x.1.2.2.2.1.2.2.2.2.2.2.2.2.2.1,()),(),(W 0),()),())).bind λev=>Sum.elim (λdD=>cond (!bd dD.1.2.1 (W 0)) (some ((L.nil,dD.1.2.1,()),())) (cond (bd x.1.2.2.2.1.1 (W 3)) (some (((cx [(dD.1.1,()),(dD.1.1,())]),(W 0),()),())) (some (((cx [(dD.1.1,())]),(W 0),()),())))) (λeN=>some ((eN.1.1,eN.1.2.1,()),())) ev
def aeI:aw:=aZ [(0,.agg g4),(1,.agg hG),(2,ag)]
def ayt:aw:=aZ [(0,ak eP),(1,.agg sx)]
def Ew:aw:=⟨[(9,.arr 0 eP [false,false]),(13,ak [.aH c_]),(15,ak aW),(16,ag)],[.arr eP [false,false]]⟩
def ayq:bB:=[((.exit 2),⟨[],[.arr eP [false,false]]⟩)]
def Lo (x:U Ew):Option (U Ew⊕bA ayq):=cond (bh x.1.2.2.2.1 (bj x.1.2.2.1)) ((a7 x.1.2.2.1 (x.1.2.2.2.1).1).bind λgk=>(a7 x.1.2.1 (x.1.2.2.2.1).1).bind λjw=>(de 32 (L.nil:L (D [.str,.int .i64,.int .i64])) jw.1).bind λm3=>cond (decide (0<=(gk.1).1)&&decide ((gk.1).1<(x.2.1.1.length:Nat))) ((e3 x.2.1 ((gk.1).1).toNat).bind λiX=>some (.inl (((),x.1.2.1,x.1.2.2.1,(bg x.1.2.2.2.1 (W 1)),()),((ec x.2.1 ((gk.1).1).toNat (true,m3,())),())))) (none)) (some (.inr ((),(x.2.1,()))))
def Ev:aw:=⟨[(2,ag),(3,.cW g4 0),(4,.cW hG 0),(7,b9),(8,.cW fb 0),(9,.arr 1 eP [false,false]),(12,ag)],[.box [ag,ag,ag],.arr eP [false,false]]⟩
def ayn:bB:=[((.exit 0),⟨[],[.box [ag,ag,ag],.arr eP [false,false]]⟩),(.ret,⟨[(6,.cP)],[.box [ag,ag,ag],.arr eP [false,false]]⟩)]
def Ln (x:U Ev):Option (U Ev⊕bA ayn):=cond (bh x.1.2.2.2.2.2.2.1 (bj x.1.2.2.2.2.1.2.2.2.1)) ((a7 x.1.2.2.2.2.1.2.2.2.1 (x.1.2.2.2.2.2.2.1).1).bind λdX=>cond (decide (0<=(x.1.2.2.2.2.2.2.1).1)&&decide ((x.1.2.2.2.2.2.2.1).1<(x.2.2.1.1.length:Nat))) ((e3 x.2.2.1 ((x.1.2.2.2.2.2.2.1).1).toNat).bind λdh=>(Kw ((x.1.2.1,x.1.2.2.1,x.1.2.2.2.2.1,dX,dh.2.1,()),())).bind λbU=>cond (!bd bU.1.2.1 (W 0)) ((mI ((bU.1.2.1,x.1.1,x.1.2.2.2.2.2.2.1,()),())).bind λcD=>some (.inr (.inr (((),()),((cD.1.1.1,cD.1.1.2.1,cD.1.1.2.2.1,()),x.2.2.1,()))))) ((a7 x.1.2.2.2.2.1.2.2.2.1 (x.1.2.2.2.2.2.2.1).1).bind λeK=>(vm ((eK,()),())).bind λcu=>(a_ Lo (((),bU.1.1,cu.1.1,(W 0),()),(x.2.2.1,()))).bind λdD=>some (.inl ((x.1.1,x.1.2.1,x.1.2.2.1,(),x.1.2.2.2.2.1,(),(bg x.1.2.2.2.2.2.2.1 (W 1)),()),((x.2.1.1,x.2.1.2.1,x.2.1.2.2.1,()),dD.2.1,()))))) (none)) (some (.inr (.inl ((),((x.2.1.1,x.2.1.2.1,x.2.1.2.2.1,()),x.2.2.1,())))))
def Lm (x:U aeI):Option (U ayt):=(a7 x.1.1.2.2.1 (x.1.2.2.1).1).bind λaE=>(qE (α:=D [.bool,.aH [.str,.int .i64,.int .i64]]) 32 (bj aE.2.2.2.1) (false,L.nil,())).bind λeo=>(D6 ((x.1.2.1,aE,()),())).bind λa1=>cond (decide (0<=((W 0)).1)&&decide (((W 0)).1<(eo.1.length:Nat))) ((e3 eo (((W 0)).1).toNat).bind λcM=>(a_ Ln ((x.1.2.2.1,x.1.1,(x.1.2.1.1,x.1.2.1.2.1,x.1.2.1.2.2.1,()),(),aE,(),(W 0),()),(((W 0),(W 0),(W 0),()),(ec eo (((W 0)).1).toNat (true,a1.1.1,())),()))).bind λeN=>Sum.elim (λfo=>some ((fo.2.2.1,((W 0),(W 0),(W 0),()),()),())) (λe4=>some ((L.nil,(e4.2.1.1,e4.2.1.2.1,e4.2.1.2.2.1,()),()),())) eN) (none)
def aea:aw:=aZ [(0,.agg g4)]
def aw':aw:=aZ [(0,.agg hG),(1,ak [.aH eP]),(2,.agg sx)]
def Ea:aw:=⟨[(1,.cW g4 0),(2,b9),(4,.ptr 1 0),(6,.cW hG 0),(8,ag)],[.box [.cP,.cP,.cP],.box [ag,ag,ag]]⟩
def aw5:bB:=[((.exit 0),⟨[],[.box [.cP,.cP,.cP],.box [ag,ag,ag]]⟩),(.ret,⟨[(3,.cP)],[.box [.cP,.cP,.cP],.box [ag,ag,ag]]⟩)]
def K0 (x:U Ea):Option (U Ea⊕bA aw5):=cond (bh x.1.2.2.2.2.1 (bj x.1.1.2.2.1)) ((a7 x.1.1.2.2.1 (x.1.2.2.2.2.1).1).bind λbL=>(D6 ((x.1.2.2.2.1,bL,()),())).bind λa2=>cond (!a2.1.2.1) ((mI (((W 1805),x.1.2.2.2.2.1,(W (-1)),()),())).bind λbf=>some (.inr (.inr (((),()),(((),(),(),()),(bf.1.1.1,bf.1.1.2.1,bf.1.1.2.2.1,()),()))))) (some (.inl ((x.1.1,(),(),x.1.2.2.2.1,(bg x.1.2.2.2.2.1 (W 1)),()),(((),(),(),()),x.2.2.1,()))))) (some (.inr (.inl ((),(((),(),(),()),x.2.2.1,())))))
def Eb:aw:=⟨[(1,.cW g4 0),(2,b9),(4,.ptr 1 0),(6,.cW hG 0),(11,.tok [.aH eP] 2 []),(12,ag)],[.box [.cP,.cP,.cP],.box [ag,ag,ag],.a6 [.aH eP]]⟩
def aw8:bB:=[((.exit 2),⟨[(11,.tok [.aH eP] 3 [])],[.box [.cP,.cP,.cP],.box [ag,ag,ag],.gone,.a6 [.aH eP]]⟩),(.ret,⟨[(3,.cP)],[.box [.cP,.cP,.cP],.box [ag,ag,ag],.gone]⟩)]
def K1 (x:U Eb):Option (U Eb⊕bA aw8):=cond (bh x.1.2.2.2.2.2.1 (bj x.1.1.2.2.1)) ((Lm ((x.1.1,x.1.2.2.2.1,x.1.2.2.2.2.2.1,()),())).bind λbV=>cond (!bd bV.1.2.1.1 (W 0)) (some (.inr (.inr (((),()),(((),(),(),()),(bV.1.2.1.1,bV.1.2.1.2.1,bV.1.2.1.2.2.1,()),(),()))))) ((de 24 x.1.2.2.2.2.1 (cx [(bV.1.1,())])).bind λoE=>some (.inl ((x.1.1,(),(),x.1.2.2.2.1,oE,(bg x.1.2.2.2.2.2.1 (W 1)),()),(((),(),(),()),x.2.2.1,(),()))))) (some (.inr (.inl ((x.1.2.2.2.2.1,()),(((),(),(),()),x.2.2.1,(),(),())))))
def KZ (x:U aea):Option (U aw'):=(KC ((x.1.1,()),())).bind λaB=>cond (!bd aB.1.1.1 (W 0)) (some (((L.nil,L.nil,L.nil,()),L.nil,aB.1.1,()),())) ((MH ((x.1.1.1,x.1.1.2.1,()),())).bind λaG=>cond (!bd aG.1.2.1.1 (W 0)) (some (((L.nil,L.nil,L.nil,()),L.nil,aG.1.2.1,()),())) ((a_ K0 ((x.1.1,(),(),aG.1.1,(W 0),()),(((),(),(),()),((W 0),(W 0),(W 0),()),()))).bind λbO=>Sum.elim (λbU=>(a_ K1 ((x.1.1,(),(),aG.1.1,L.nil,(W 0),()),(((),(),(),()),bU.2.2.1,(),()))).bind λb6=>Sum.elim (λcS=>some ((aG.1.1,cS.1.1,((W 0),(W 0),(W 0),()),()),())) (λcG=>some (((L.nil,L.nil,L.nil,()),L.nil,(cG.2.2.1.1,cG.2.2.1.2.1,cG.2.2.1.2.2.1,()),()),())) b6) (λcD=>some (((L.nil,L.nil,L.nil,()),L.nil,(cD.2.2.1.1,cD.2.2.1.2.1,cD.2.2.1.2.2.1,()),()),())) bO))
def ad0:aw:=aZ [(0,.agg g4)]
def awJ:aw:=aZ [(0,ak [.aH eP]),(1,.agg sx)]
def KU (x:U ad0):Option (U awJ):=(KZ ((x.1.1,()),())).bind λaB=>some ((aB.1.2.1,aB.1.2.2.1,()),())
def adD:aw:=aZ [(0,.agg cV)]
def av7:aw:=aZ [(0,.agg cV)]
def DV:aw:=⟨[(1,b9),(3,.tok eg 2 []),(4,ag)],[.box [aN,.tok bM 1 [],ak eg],.a6 bM,.a6 eg]⟩
def av4:bB:=[((.exit 0),⟨[(3,.tok eg 3 [])],[.box [aN,.tok bM 4 [],ak eg],.gone,.gone,.a6 eg,.a6 bM]⟩)]
def KL (x:U DV):Option (U DV⊕bA av4):=cond (bh x.1.2.2.1 (bj x.2.1.2.2.1)) ((a7 x.2.1.2.2.1 (x.1.2.2.1).1).bind λaX=>(de 48 (L.nil:L (D [.str,.int .i64,.str,.int .i64])) aX.2.2.1).bind λcf=>(de 56 x.1.2.1 (cx [(aX.1,aX.2.1,cf,())])).bind λkx=>some (.inl (((),kx,(bg x.1.2.2.1 (W 1)),()),(x.2.1,(),(),())))) (some (.inr ((x.1.2.1,()),(x.2.1,(),(),(),(),()))))
def KK (x:U adD):Option (U av7):=(de 16 (L.nil:L (D [.str])) x.1.1.2.1).bind λdC=>(a_ KL (((),L.nil,(W 0),()),((x.1.1.1,dC,x.1.1.2.2.1,()),(),(),()))).bind λbf=>some (((bf.2.1.1,bf.2.1.2.1,bf.1.1,()),()),())
def adB:aw:=aZ [(0,.agg dt)]
def av1:aw:=aZ [(0,.agg dt)]
def DU:aw:=⟨[(1,b9),(3,.tok gz 1 []),(4,ag)],[.box [aN,ak gz],.a6 gz]⟩
def avY:bB:=[((.exit 0),⟨[(3,.tok gz 2 [])],[.box [aN,ak gz],.gone,.a6 gz]⟩)]
def KJ (x:U DU):Option (U DU⊕bA avY):=cond (bh x.1.2.2.1 (bj x.2.1.2.1)) ((a7 x.2.1.2.1 (x.1.2.2.1).1).bind λaE=>(de 48 (L.nil:L (D [.str,.int .i64,.str,.int .i64])) aE.2.2.1).bind λeo=>(de 48 x.1.2.1 (cx [(aE.1,aE.2.1,eo,())])).bind λcf=>some (.inl (((),cf,(bg x.1.2.2.1 (W 1)),()),(x.2.1,(),())))) (some (.inr ((x.1.2.1,()),(x.2.1,(),(),()))))
def KI (x:U adB):Option (U av1):=(a_ KJ (((),L.nil,(W 0),()),((x.1.1.1,x.1.1.2.1,()),(),()))).bind λa2=>some (((a2.2.1.1,a2.1.1,()),()),())
def axm:bI:=⟨.nil,[]⟩
theorem K3:bC 147 mI:=bN axm [] []
def aev:bI:=⟨(put .nil 1 .bX),[aR sc,aR agy]⟩
theorem axA:cl 211 0 K8:=ct aev [] []
theorem axD:bC 211 K7:=bN aev [cr axA] []
def adG:bI:=⟨(put .nil 2 .bX),[]⟩
theorem av9:cl 177 0 KM:=ct adG [] []
theorem DX:bC 177 vl:=bN adG [cr av9] []
def SM:bI:=⟨(put .nil 1 .bX),[]⟩
theorem azn:cl 212 1 LJ:=ct SM [] []
theorem azk:cl 212 0 LI:=ct SM [cr azn] []
theorem azq:bC 212 LH:=bN SM [cr azk] []
def axk:bI:=⟨.nil,[]⟩
theorem aei:bC 152 Ee:=bN axk [] []
def adI:bI:=⟨(put .nil 1 .bX),[aR aei]⟩
theorem awb:cl 101 0 KN:=ct adI [] []
theorem Aj:bC 101 vm:=bN adI [cr awb] []
def Lk:bI:=⟨(put (put (put .nil 1 .bX) 12 (.arr [false])) 27 (.arr [false])),[aR Aj]⟩
theorem ax9:cl 178 0 Lh:=ct Lk [] []
theorem ayd:cl 178 2 Lj:=ct Lk [] []
theorem aya:cl 178 1 Li:=ct Lk [cr ayd] []
theorem aeE:bC 178 td:=bN Lk [cr ax9,cr aya] []
def ay8:bI:=⟨.nil,[aR sc]⟩
theorem ay7:bC 242 yE:=bN ay8 [] []
def SR:bI:=⟨(put (put .nil 1 .bX) 4 .bX),[aR sc]⟩
theorem azy:cl 243 1 LL:=ct SR [] []
theorem azv:cl 243 0 LK:=ct SR [cr azy] [.c 11 SQ aeZ]
theorem azB:bC 243 EI:=bN SR [cr azv] [.c 3 SO aeY]
def ad_:bI:=⟨(put (put .nil 1 .bX) 4 .bX),[aR sc]⟩
theorem awZ:cl 244 0 KY:=ct ad_ [] []
theorem aw2:bC 244 D9:=bN ad_ [cr awZ] []
def aww:bI:=⟨(put .nil 1 .bX),[aR aei,aR ay7,aR azB,aR aw2]⟩
theorem awv:bC 213 KR:=bN aww [] [.c 11 Sg adQ,.c 13 Si adR,.c 15 Sk adS,.c 17 Sm adT,.c 27 So adU]
def SL:bI:=⟨(put .nil 3 .bX),[aR Aj]⟩
theorem ay':cl 214 0 LF:=ct SL [] []
theorem azc:cl 214 1 LG:=ct SL [] []
theorem azf:bC 214 LD:=bN SL [cr ay',cr azc] [.c 10 SK aeS]
def ayw:bI:=⟨(put .nil 1 .bX),[]⟩
theorem ayv:bC 215 Lp:=bN ayw [] []
def adO:bI:=⟨(put .nil 1 .bX),[]⟩
theorem awm:cl 149 0 KQ:=ct adO [] []
theorem adN:bC 149 D1:=bN adO [cr awm] [.c 5 Se adL]
def SI:bI:=⟨(put .nil 3 .bX),[aR adN,aR afp]⟩
theorem ay1:cl 216 1 LB:=ct SI [] []
theorem ayY:cl 216 0 LA:=ct SI [cr ay1] []
theorem ay4:bC 216 Lz:=bN SI [cr ayY] []
def aeO:bI:=⟨(put (put (put .nil 2 .bX) 5 .bX) 36 (.arr [false])),[aR K3,aR DX,aR aeE,aR axD,aR azq,aR awv,aR azf,aR ayv,aR ay4]⟩
theorem ayQ:cl 176 0 Ly:=ct aeO [] []
theorem ayT:bC 176 Lx:=bN aeO [cr ayQ] []
def KB:bI:=⟨(put (put .nil 3 .bX) 10 .bX),[aR S2]⟩
theorem avt:cl 217 0 Ky:=ct KB [] []
theorem avz:cl 217 2 KA:=ct KB [] []
theorem avw:cl 217 1 Kz:=ct KB [cr avz] [.c 11 Sc ady]
theorem avC:bC 217 Kx:=bN KB [cr avt,cr avw] []
def Sr:bI:=⟨(put (put .nil 2 .bX) 5 .bX),[aR adN,aR aAr,aR S2]⟩
theorem awD:cl 100 1 KT:=ct Sr [] []
theorem awA:cl 100 0 KS:=ct Sr [cr awD] []
theorem adY:bC 100 D3:=bN Sr [cr awA] [.c 7 Sq adW]
def ad7:bI:=⟨(put .nil 1 .bX),[]⟩
theorem awQ:cl 218 0 KX:=ct ad7 [] []
theorem awT:bC 218 KW:=bN ad7 [cr awQ] [.c 5 St ad5]
def awX:bI:=⟨(put .nil 4 .bX),[aR DX]⟩
theorem awW:bC 219 Al:=bN awX [] []
def adK:bI:=⟨(put .nil 2 .bX),[]⟩
theorem awf:cl 245 0 KP:=ct adK [] []
theorem awi:bC 245 KO:=bN adK [cr awf] []
def SA:bI:=⟨(put (put (put .nil 2 .bX) 3 .bX) 24 .tok),[aR vo,aR afg,aR awi]⟩
theorem ax0:cl 220 0 Lf:=ct SA [] []
theorem ax3:cl 220 1 Lg:=ct SA [] []
theorem ax6:bC 220 Le:=bN SA [cr ax0,cr ax3] []
def Lw:bI:=⟨(put (put (put .nil 4 .bX) 5 .bX) 9 .bX),[aR adY,aR vo,aR avC,aR awT,aR awW,aR ax6]⟩
theorem ayE:cl 179 0 Lt:=ct Lw [] []
theorem ayH:cl 179 1 Lu:=ct Lw [] []
theorem ayK:cl 179 2 Lv:=ct Lw [] []
theorem ayN:bC 179 Ls:=bN Lw [cr ayE,cr ayH,cr ayK] [.c 21 SF aeL]
def Ai:bI:=⟨(put (put .nil 1 .bX) 6 .bX),[aR MV,aR K3,aR sc,aR TM,aR ayT,aR DX,aR aeE,aR ayN]⟩
theorem avF:cl 144 0 KD:=ct Ai [] []
theorem avI:cl 144 1 KE:=ct Ai [] []
theorem avL:cl 144 2 KF:=ct Ai [] []
theorem avR:cl 144 4 KH:=ct Ai [] []
theorem avO:cl 144 3 KG:=ct Ai [cr avR] []
theorem avU:bC 144 KC:=bN Ai [cr avF,cr avI,cr avL,cr avO] []
def ae5:bI:=⟨.nil,[]⟩
theorem azH:cl 228 0 LN:=ct ae5 [] []
theorem EO:bC 228 wB:=bN ae5 [cr azH] []
def ae3:bI:=⟨(put .nil 5 .bX),[aR EO]⟩
theorem azD:cl 187 0 LM:=ct ae3 [] []
theorem EM:bC 187 vn:=bN ae3 [cr azD] []
def ad3:bI:=⟨(put (put (put .nil 2 .bX) 3 .bX) 8 .bX),[aR TS,aR EM]⟩
theorem awL:cl 146 0 KV:=ct ad3 [] []
theorem ad2:bC 146 D6:=bN ad3 [cr awL] []
def aey:bI:=⟨(put .nil 2 .bX),[]⟩
theorem axP:cl 229 0 Lb:=ct aey [] []
theorem axS:bC 229 Em:=bN aey [cr axP] []
def aeq:bI:=⟨.nil,[]⟩
theorem axs:cl 256 0 K6:=ct aeq [] []
theorem axv:bC 256 K5:=bN aeq [cr axs] []
def axi:bI:=⟨(put .nil 6 .bX),[aR axv]⟩
theorem Sx:bC 235 An:=bN axi [] []
def azi:bI:=⟨(put (put (put .nil 4 .bX) 5 .bX) 12 .bX),[aR Sx]⟩
theorem aeV:bC 249 EF:=bN azi [] []
def aef:bI:=⟨(put .nil 2 .bX),[]⟩
theorem axe:cl 250 0 K2:=ct aef [] []
theorem aee:bC 250 Am:=bN aef [cr axe] []
def Sz:bI:=⟨(put (put (put (put (put (put .nil 3 .bX) 4 .bX) 8 .bX) 12 .bX) 16 .bX) 17 .bX),[aR EM,aR EO,aR aeV,aR aee]⟩
theorem axG:cl 230 0 K_:=ct Sz [] []
theorem axJ:cl 230 1 La:=ct Sz [] []
theorem axM:bC 230 K9:=bN Sz [cr axG,cr axJ] []
def ayW:bI:=⟨(put .nil 3 .bX),[aR azY]⟩
theorem SG:bC 251 Ao:=bN ayW [] []
def axc:bI:=⟨.nil,[]⟩
theorem axb:bC 252 Ec:=bN axc [] []
def ayj:bI:=⟨(put (put .nil 3 .bX) 4 .bX),[aR EM,aR SG,aR axb]⟩
theorem ayi:bC 231 Ll:=bN ayj [] [.c 7 SC aeG]
def axy:bI:=⟨(put (put .nil 3 .bX) 9 .bX),[aR Sx]⟩
theorem aes:bC 253 Ei:=bN axy [] []
def ayA:bI:=⟨(put (put (put (put (put .nil 4 .bX) 5 .bX) 6 .bX) 10 .bX) 12 .bX),[aR EM,aR EO,aR aeV,aR aee,aR SG,aR aes,aR TV]⟩
theorem ayz:bC 232 Lr:=bN ayA [] []
def aen:bI:=⟨(put (put (put .nil 5 .bX) 6 .bX) 14 .bX),[aR TS,aR EO,aR SG,aR aes,aR TV]⟩
theorem axo:cl 233 0 K4:=ct aen [] []
theorem aem:bC 233 Ef:=bN aen [cr axo] []
def aeB:bI:=⟨(put (put (put (put (put .nil 5 .bX) 6 .bX) 7 .bX) 8 .bX) 15 .bX),[aR DX,aR TS,aR EM,aR aem,aR TV,aR aD3]⟩
theorem axU:cl 234 0 Ld:=ct aeB [] []
theorem axX:bC 234 Lc:=bN aeB [cr axU] []
def avp:bI:=⟨(put (put (put (put .nil 5 .bX) 6 .bX) 7 .bX) 8 .bX),[aR DX,aR EO,aR axS,aR axM,aR ayi,aR ayz,aR aem,aR axX,aR Sx]⟩
theorem avo:bC 188 Kw:=bN avp [] [.c 7 R7 adu,.c 37 R9 adv,.c 53 Sa adw]
def SD:bI:=⟨(put (put (put (put .nil 3 .bX) 4 .bX) 8 .bX) 25 (.arr [false,false])),[aR Aj,aR ad2,aR K3,aR avo]⟩
theorem ayp:cl 148 1 Lo:=ct SD [] []
theorem aym:cl 148 0 Ln:=ct SD [cr ayp] []
theorem ays:bC 148 Lm:=bN SD [cr aym] []
def Sv:bI:=⟨(put (put (put (put (put .nil 1 .bX) 5 .bX) 6 .bX) 7 .bX) 14 .bX),[aR avU,aR aDn,aR ad2,aR K3,aR ays]⟩
theorem aw4:cl 99 0 K0:=ct Sv [] []
theorem aw7:cl 99 1 K1:=ct Sv [] []
theorem aw_:bC 99 KZ:=bN Sv [cr aw4,cr aw7] []
def awI:bI:=⟨(put (put (put .nil 1 .bX) 4 .bX) 6 .bX),[aR aw_]⟩
theorem awH:bC 46 KU:=bN awI [] []
def adE:bI:=⟨.nil,[]⟩
theorem av3:cl 47 0 KL:=ct adE [] []
theorem av6:bC 47 KK:=bN adE [cr av3] []
def adC:bI:=⟨.nil,[]⟩
theorem avX:cl 48 0 KJ:=ct adC [] []
theorem av0:bC 48 KI:=bN adC [cr avX] []
end cB
end Go.Proofs.YtgmdfchkljaooaaGreat
