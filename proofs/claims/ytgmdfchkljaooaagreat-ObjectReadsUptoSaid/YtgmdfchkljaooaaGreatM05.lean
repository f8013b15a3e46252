/- Typed functions. -/
import Derived.Test.YtgmdfchkljaooaaGreatM04
noncomputable section
namespace Go.Proofs.YtgmdfchkljaooaaGreat
namespace cF
open bI (T)
set_option linter.unusedVariables false
set_option maxRecDepth 100000
def amh:=aJ [(0,aZ)]
def aMA:=aJ [(0,bA)]
def Ii:=aJ [(0,aZ),(3,au)]
def aMx:bG:=[((.exit 0),aJ []),fK [(2,bA)]]
def Qf (x:U Ii):Option (U Ii⊕bo aMx):=cond (bg x.1.2.1 (kf x.1.1)) ((sF x.1.1 (x.1.2.1).1).bind λv1=>cond (bb v1 (a_.w .u8 46)) ((lM x.1.1 0 (x.1.2.1).1).bind λv2=>(k6 ((v2,()),())).bind λaK=>cond (aK.1.1) ((lM x.1.1 ((bc x.1.2.1 (W 1))).1 x.1.1.1.size).bind λv4=>(k6 ((v4,()),())).bind λa9=>some (.inr (.inr ((a9.1.1,()),())))) (some (.inr (.inr ((false,()),()))))) (some (.inl ((x.1.1,(bc x.1.2.1 (W 1)),()),())))) (some (.inr (.inl ((),()))))
def Qe (x:U amh):Option (U aMA):=(a2 Qf ((x.1.1,(W 0),()),())).bind λbJ=>Sum.elim (λbK=>(k6 ((x.1.1,()),())).bind λbO=>some ((bO.1.1,()),())) (λcl=>some ((cl.1.1,()),())) bJ
def ala:=aJ [(0,.agg g4)]
def aJB:=aJ [(0,bA)]
def HA (x:U ala):Option (U aJB):=cond (bb x.1.1.1 (W 5)) ((Qe ((x.1.1.2.1,()),())).bind λaq=>some ((aq.1.1,()),())) (cond (f_ (W 0) x.1.1.1) (cond (bg x.1.1.1 (W 5)) (some (((cz x.1.1.2.1 (S ⟨#[]⟩)),()),())) (some ((false,()),()))) (some ((false,()),())))
def ak8:=aJ [(0,aC dN),(1,au)]
def aJe:=aJ [(0,bA)]
def Hs:=aJ [(0,aC dN),(5,au),(6,au)]
def aJc:bG:=[((.exit 2),aJ []),fK [(4,bA)]]
def Pe (x:U Hs):Option (U Hs⊕bo aJc):=cond (bg x.1.2.2.1 x.1.2.1) ((a1 x.1.1 (x.1.2.2.1).1).bind λfm=>(a1 x.1.1 (x.1.2.1).1).bind λdD=>cond (cz fm.1 dD.1) (some (.inr (.inr ((false,()),())))) (some (.inl ((x.1.1,x.1.2.1,(bc x.1.2.2.1 (W 1)),()),())))) (some (.inr (.inl ((),()))))
def Hr:=aJ [(0,aC dN),(1,au),(5,au)]
def aI':bG:=[((.exit 0),aJ []),fK [(4,bA)]]
def Pd (x:U Hr):Option (U Hr⊕bo aI'):=cond (bg x.1.2.2.1 (bf x.1.1)) ((a1 x.1.1 (x.1.2.2.1).1).bind λaE=>(k6 ((aE.1,()),())).bind λaB=>cond (!aB.1.1) (some (.inr (.inr ((false,()),())))) ((a1 x.1.1 (x.1.2.2.1).1).bind λbS=>(HA (((bS.2.1,bS.2.2.1,()),()),())).bind λaS=>cond (!aS.1.1) (some (.inr (.inr ((false,()),())))) ((a1 x.1.1 (x.1.2.2.1).1).bind λdO=>cond (bg dO.2.2.2.1 (W 0)) (some (.inr (.inr ((false,()),())))) ((a1 x.1.1 (x.1.2.2.1).1).bind λdb=>cond (f_ x.1.2.1 db.2.2.2.1) (some (.inr (.inr ((false,()),())))) ((a2 Pe ((x.1.1,x.1.2.2.1,(W 0),()),())).bind λbO=>Sum.elim (λcc=>some (.inl ((x.1.1,x.1.2.1,(bc x.1.2.2.1 (W 1)),()),()))) (λbT=>some (.inr (.inr ((bT.1.1,()),())))) bO))))) (some (.inr (.inl ((),()))))
def B3 (x:U ak8):Option (U aJe):=(a2 Pd ((x.1.1,x.1.2.1,(W 0),()),())).bind λcL=>Sum.elim (λcy=>cond (f_ (W 1) (bf x.1.1)) (some (((f_ (bf x.1.1) (W 6)),()),())) (some ((false,()),()))) (λdX=>some ((dX.1.1,()),())) cL
def alk:=aJ [(0,.agg du)]
def aJ5:=aJ [(0,bA)]
def HF:=aJ [(1,.cJ du 0),(3,au)]
def aJ0:bG:=[((.exit 0),aJ []),fK [(2,bA)]]
def Pu (x:U HF):Option (U HF⊕bo aJ0):=cond (bg x.1.2.1 (bf x.1.1.2.1)) ((a1 x.1.1.2.1 (x.1.2.1).1).bind λbS=>(k6 ((bS.1,()),())).bind λaS=>cond (!aS.1.1) (some (.inr (.inr ((false,()),())))) (some (.inl ((x.1.1,(bc x.1.2.1 (W 1)),()),())))) (some (.inr (.inl ((),()))))
def Xb:=aJ [(5,.cJ ff 0)]
def alj:bG:=[ju [],((.exit 3),aJ [])]
def Xa (x:U Xb):Option (bo alj):=cond (cz x.1.1.1 (S ⟨#[]⟩)) (cond (cz x.1.1.2.1 (S ⟨#[]⟩)) (cond (bb (bf x.1.1.2.2.1) (W 0)) (some (.inr ((),()))) (some (.inl ((),())))) (some (.inl ((),())))) (some (.inl ((),())))
def HG:=aJ [(1,.cJ du 0),(4,au)]
def aJ3:bG:=[((.exit 2),aJ []),fK [(2,bA)]]
def Pv (x:U HG):Option (U HG⊕bo aJ3):=cond (bg x.1.2.1 (bf x.1.1.2.2.1)) ((a1 x.1.1.2.2.1 (x.1.2.1).1).bind λdD=>(Xa ((dD,()),())).bind λbO=>Sum.elim (λcc=>cond (cz dD.1 dD.2.1) (some (.inr (.inr ((false,()),())))) ((pg ((x.1.1.2.1,dD.1,()),())).bind λcL=>cond (!cL.1.1) (some (.inr (.inr ((false,()),())))) ((pg ((x.1.1.2.1,dD.2.1,()),())).bind λcy=>cond (!cy.1.1) (some (.inr (.inr ((false,()),())))) ((B3 ((dD.2.2.1,(bf x.1.1.2.2.1),()),())).bind λdX=>cond (!dX.1.1) (some (.inr (.inr ((false,()),())))) (some (.inl (((x.1.1.1,x.1.1.2.1,x.1.1.2.2.1,()),(bc x.1.2.1 (W 1)),()),()))))))) (λbT=>some (.inl (((x.1.1.1,x.1.1.2.1,x.1.1.2.2.1,()),(bc x.1.2.1 (W 1)),()),()))) bO) (some (.inr (.inl ((),()))))
def zE (x:U alk):Option (U aJ5):=(k6 ((x.1.1.1,()),())).bind λaq=>cond (!aq.1.1) (some ((false,()),())) (cond (bg (bf x.1.1.2.1) (W 2)) (some ((false,()),())) (cond (bg (W 5) (bf x.1.1.2.1)) (some ((false,()),())) ((GD ((x.1.1.2.1,()),())).bind λaB=>cond (!aB.1.1) (some ((false,()),())) (cond (bg (bf x.1.1.2.2.1) (W 1)) (some ((false,()),())) (cond (bg (W 24) (bf x.1.1.2.2.1)) (some ((false,()),())) ((a2 Pu ((x.1.1,(W 0),()),())).bind λa9=>Sum.elim (λbJ=>(a2 Pv (((x.1.1.1,x.1.1.2.1,x.1.1.2.2.1,()),(W 0),()),())).bind λdy=>Sum.elim (λeD=>some ((true,()),())) (λeO=>some ((eO.1.1,()),())) dy) (λbK=>some ((bK.1.1,()),())) a9))))))
def amn:=aJ [(0,.agg ff),(1,aZ)]
def aM8:=aJ [(0,bA)]
def It (x:U amn):Option (U aM8):=cond (cz x.1.1.1 x.1.2.1) (some ((true,()),())) (some (((cz x.1.1.2.1 x.1.2.1),()),()))
def ama:=aJ [(0,.agg du),(1,aZ),(2,aC bp)]
def aMr:=aJ [(0,aC bp)]
def Xw:aY:=⟨[(2,aC bp),(7,.arr 0 [.bool] [false]),(9,au)],sa⟩
def al':bG:=[(.normal,⟨[(48,bA)],sa⟩)]
def Xv (x:U Xw):Option (bo al'):=(a1 x.1.1 (x.1.2.2.1).1).bind λaP=>cond (f_ (W 0) aP.1) ((a1 x.1.1 (x.1.2.2.1).1).bind λbS=>cond (bg bS.1 (W (x.2.1.1.length:Nat))) ((a1 x.1.1 (x.1.2.2.1).1).bind λcR=>cond (decide (0<=(cR.1).1)&&decide ((cR.1).1<(x.2.1.1.length:Nat))) ((fq x.2.1 ((cR.1).1).toNat).bind λdO=>some (((!dO.1),()),(x.2.1,()))) (none)) (some ((false,()),(x.2.1,())))) (some ((false,()),(x.2.1,())))
def H_:aY:=⟨[(2,aC bp),(7,.arr 0 [.bool] [false]),(8,.tok bp 1 []),(9,au)],Jv⟩
def aMg:bG:=[((.exit 0),⟨[(8,.tok bp 2 [])],RO⟩)]
def P_ (x:U H_):Option (U H_⊕bo aMg):=cond (bg x.1.2.2.2.1 (bf x.1.1)) ((Xv ((x.1.1,(),x.1.2.2.2.1,()),(x.2.1,()))).bind λbJ=>cond (bJ.1.1) ((a1 x.1.1 (x.1.2.2.2.1).1).bind λfm=>cond (decide (0<=(fm.1).1)&&decide ((fm.1).1<(x.2.1.1.length:Nat))) ((fq bJ.2.1 ((fm.1).1).toNat).bind λdD=>(a1 x.1.1 (x.1.2.2.2.1).1).bind λeV=>(c6 8 x.1.2.2.1 (cD [eV])).bind λoz=>some (.inl ((x.1.1,(),oz,(bc x.1.2.2.2.1 (W 1)),()),((ej bJ.2.1 ((fm.1).1).toNat (true,())),(),())))) (none)) (some (.inl ((x.1.1,(),x.1.2.2.1,(bc x.1.2.2.2.1 (W 1)),()),(bJ.2.1,(),()))))) (some (.inr ((x.1.2.2.1,()),(x.2.1,(),(),()))))
def Ib:aY:=⟨[(1,aZ),(7,.arr 0 [.bool] [false]),(8,.tok bp 1 []),(11,.cJ ff 0),(12,au)],Jv⟩
def aMm:bG:=[((.exit 4),⟨[(8,.tok bp 2 [])],RO⟩)]
def Qb (x:U Ib):Option (U Ib⊕bo aMm):=cond (bg x.1.2.2.2.2.1 (bf x.1.2.2.2.1.2.2.1)) ((It ((x.1.2.2.2.1,x.1.1,()),())).bind λdX=>cond (!dX.1.1) ((a1 x.1.2.2.2.1.2.2.1 (x.1.2.2.2.2.1).1).bind λjY=>cond (decide (0<=(jY.2.2.2.1).1)&&decide ((jY.2.2.2.1).1<(x.2.1.1.length:Nat))) ((fq x.2.1 ((jY.2.2.2.1).1).toNat).bind λhY=>cond (!hY.1) ((a1 x.1.2.2.2.1.2.2.1 (x.1.2.2.2.2.1).1).bind λk1=>cond (decide (0<=(k1.2.2.2.1).1)&&decide ((k1.2.2.2.1).1<(x.2.1.1.length:Nat))) ((fq x.2.1 ((k1.2.2.2.1).1).toNat).bind λk2=>(a1 x.1.2.2.2.1.2.2.1 (x.1.2.2.2.2.1).1).bind λoh=>(c6 8 x.1.2.2.1 (cD [(oh.2.2.2.1,())])).bind λy6=>some (.inl ((x.1.1,(),y6,x.1.2.2.2.1,(bc x.1.2.2.2.2.1 (W 1)),()),((ej x.2.1 ((k1.2.2.2.1).1).toNat (true,())),(),())))) (none)) (some (.inl ((x.1.1,(),x.1.2.2.1,x.1.2.2.2.1,(bc x.1.2.2.2.2.1 (W 1)),()),(x.2.1,(),()))))) (none)) (some (.inr ((x.1.2.2.1,()),(x.2.1,(),(),()))))) (some (.inr ((x.1.2.2.1,()),(x.2.1,(),(),()))))
def Ia:aY:=⟨[(1,aZ),(3,.cJ du 0),(7,.arr 0 [.bool] [false]),(8,.tok bp 1 []),(10,au)],Jv⟩
def aMj:bG:=[((.exit 2),⟨[],[.arr [.bool] [false],.gone]⟩)]
def Qa (x:U Ia):Option (U Ia⊕bo aMj):=cond (bg x.1.2.2.2.2.1 (bf x.1.2.2.2.1)) ((a1 x.1.2.2.2.1 (x.1.2.2.2.2.1).1).bind λiA=>(a1 x.1.2.1.2.2.1 (iA.1).1).bind λkk=>(a2 Qb ((x.1.1,(),x.1.2.2.2.1,kk,(W 0),()),(x.2.1,(),()))).bind λiD=>some (.inl ((x.1.1,x.1.2.1,(),iD.1.1,(bc x.1.2.2.2.2.1 (W 1)),()),(iD.2.1,(),())))) (some (.inr ((),(x.2.1,(),()))))
def Ic:aY:=⟨[(7,.arr 0 [.bool] [false]),(13,.tok bp 1 []),(14,au)],Jv⟩
def aMp:bG:=[((.exit 6),⟨[(13,.tok bp 2 [])],RO⟩)]
def Qc (x:U Ic):Option (U Ic⊕bo aMp):=cond (bg x.1.2.2.1 (W (x.2.1.1.length:Nat))) (cond (decide (0<=(x.1.2.2.1).1)&&decide ((x.1.2.2.1).1<(x.2.1.1.length:Nat))) ((fq x.2.1 ((x.1.2.2.1).1).toNat).bind λm7=>cond (m7.1) ((c6 8 x.1.2.1 (cD [(x.1.2.2.1,())])).bind λuK=>some (.inl (((),uK,(bc x.1.2.2.1 (W 1)),()),(x.2.1,(),())))) (some (.inl (((),x.1.2.1,(bc x.1.2.2.1 (W 1)),()),(x.2.1,(),()))))) (none)) (some (.inr ((x.1.2.1,()),(x.2.1,(),(),()))))
def H9 (x:U ama):Option (U aMr):=(rh (α:=D [.bool]) 1 (bf x.1.1.2.2.1) (false,())).bind λdF=>(a2 P_ ((x.1.2.2.1,(),L.nil,(W 0),()),(dF,(),()))).bind λbT=>(a2 Qa ((x.1.2.1,x.1.1,(),bT.1.1,(W 0),()),(bT.2.1,(),()))).bind λfa=>(a2 Qc (((),L.nil,(W 0),()),(fa.2.1,(),()))).bind λki=>some ((ki.1.1,()),())
def alP:=aJ [(0,.agg du),(1,aZ),(2,aC bp)]
def aLz:=aJ [(0,aC bp)]
def HX:aY:=⟨[(1,aZ),(2,aC bp),(3,.cJ du 0),(7,.tok bp 0 []),(8,au)],[.bC bp]⟩
def aLx:bG:=[((.exit 0),⟨[(7,.tok bp 1 [])],[.gone,.bC bp]⟩)]
def PX (x:U HX):Option (U HX⊕bo aLx):=cond (bg x.1.2.2.2.2.1 (bf x.1.2.1)) ((a1 x.1.2.1 (x.1.2.2.2.2.1).1).bind λaE=>(a1 x.1.2.2.1.2.2.1 (aE.1).1).bind λaP=>(It ((aP,x.1.1,()),())).bind λaK=>cond (aK.1.1) ((a1 x.1.2.1 (x.1.2.2.2.2.1).1).bind λcR=>(c6 8 x.1.2.2.2.1 (cD [cR])).bind λgV=>some (.inl ((x.1.1,x.1.2.1,x.1.2.2.1,gV,(bc x.1.2.2.2.2.1 (W 1)),()),((),())))) (some (.inl ((x.1.1,x.1.2.1,x.1.2.2.1,x.1.2.2.2.1,(bc x.1.2.2.2.2.1 (W 1)),()),((),()))))) (some (.inr ((x.1.2.2.2.1,()),((),(),()))))
def HW (x:U alP):Option (U aLz):=(a2 PX ((x.1.2.1,x.1.2.2.1,x.1.1,L.nil,(W 0),()),((),()))).bind λbJ=>some ((bJ.1.1,()),())
def alL:=aJ [(0,.agg du),(1,aZ),(2,au)]
def aLi:=aJ [(0,bA)]
def PS (x:U alL):Option (U aLi):=(H9 ((x.1.1,x.1.2.1,(cD [(x.1.2.2.1,())]),()),())).bind λaq=>(HW ((x.1.1,x.1.2.1,aq.1.1,()),())).bind λaB=>some (((bb (bf aB.1.1) (W 0)),()),())
def al6:=aJ [(0,aC bp),(1,aC bp)]
def aL':=aJ [(0,bA)]
def H7:=aJ [(0,aC bp),(1,aC bp),(5,au)]
def aL8:bG:=[((.exit 0),aJ []),fK [(4,bA)]]
def P9 (x:U H7):Option (U H7⊕bo aL8):=cond (bg x.1.2.2.1 (bf x.1.1)) ((a1 x.1.1 (x.1.2.2.1).1).bind λaE=>(a1 x.1.2.1 (x.1.2.2.1).1).bind λaP=>cond (!bb aE.1 aP.1) (some (.inr (.inr ((false,()),())))) (some (.inl ((x.1.1,x.1.2.1,(bc x.1.2.2.1 (W 1)),()),())))) (some (.inr (.inl ((),()))))
def P8 (x:U al6):Option (U aL'):=cond (!bb (bf x.1.1) (bf x.1.2.1)) (some ((false,()),())) ((a2 P9 ((x.1.1,x.1.2.1,(W 0),()),())).bind λaK=>Sum.elim (λaS=>some ((true,()),())) (λa9=>some ((a9.1.1,()),())) aK)
def amw:aY:=⟨[(0,b_),(1,aC bp)],uq⟩
def aNA:aY:=⟨[(0,au),(1,au)],qW⟩
def IB:aY:=⟨[(0,b_),(6,aC bp),(7,aC bp),(8,au)],uq⟩
def aNv:bG:=[((.exit 0),⟨[],qW⟩),(.ret,⟨[(4,au),(5,au)],qW⟩)]
def Qz (x:U IB):Option (U IB⊕bo aNv):=cond (bg x.1.2.2.2.1 (bf x.1.2.1)) (cond (bg (W 0) (bf x.1.2.2.1)) ((a1 x.1.2.1 (x.1.2.2.2.1).1).bind λbS=>(PS (((x.2.1.1,x.2.1.2.1,x.2.1.2.2.1,()),x.2.1.2.2.2.1,bS.1,()),())).bind λaS=>cond (aS.1.1) (some (.inr (.inr (((W 0),(W 801),()),(x.2.1,(),(),()))))) (some (.inl (((),x.1.2.1,x.1.2.2.1,(bc x.1.2.2.2.1 (W 1)),()),(x.2.1,(),()))))) (some (.inr (.inl ((),(x.2.1,(),(),())))))) (some (.inr (.inl ((),(x.2.1,(),(),())))))
def IC:aY:=⟨[(0,b_),(7,aC bp),(9,au)],uq⟩
def aNy:bG:=[((.exit 2),⟨[],qW⟩),(.ret,⟨[(4,au),(5,au)],qW⟩)]
def QA (x:U IC):Option (U IC⊕bo aNy):=cond (bg x.1.2.2.1 (bf x.2.1.2.2.2.2.1)) ((a1 x.2.1.2.2.2.2.1 (x.1.2.2.1).1).bind λdD=>(P8 ((dD.1,x.1.2.1,()),())).bind λbO=>cond (bO.1.1) (some (.inr (.inr ((x.1.2.2.1,(W 0),()),(x.2.1,(),(),()))))) (some (.inl (((),x.1.2.1,(bc x.1.2.2.1 (W 1)),()),(x.2.1,(),()))))) (some (.inr (.inl ((),(x.2.1,(),(),())))))
def IA (x:U amw):Option (U aNA):=(H9 (((x.2.1.1,x.2.1.2.1,x.2.1.2.2.1,()),x.2.1.2.2.2.1,x.1.2.1,()),())).bind λaq=>(HW (((x.2.1.1,x.2.1.2.1,x.2.1.2.2.1,()),x.2.1.2.2.2.1,aq.1.1,()),())).bind λaB=>(a2 Qz (((),aq.1.1,aB.1.1,(W 0),()),(x.2.1,(),()))).bind λa9=>Sum.elim (λbJ=>(a2 QA (((),aB.1.1,(W 0),()),(bJ.2.1,(),()))).bind λcc=>Sum.elim (λbT=>cond (bb (bf bT.2.1.2.2.2.2.1) (W 40)) (some (((W 0),(W 805),()),(bT.2.1,(),(),()))) ((c6 24 bT.2.1.2.2.2.2.1 (cD [(aB.1.1,())])).bind λnB=>some (((gf (bf nB) (W 1)),(W 0),()),((bT.2.1.1,bT.2.1.2.1,bT.2.1.2.2.1,bT.2.1.2.2.2.1,nB,()),(),(),())))) (λcL=>some ((cL.1.1,cL.1.2.1,()),(cL.2.1,(),(),()))) cc) (λbK=>some ((bK.1.1,bK.1.2.1,()),(bK.2.1,(),(),()))) a9
def amt:aY:=⟨[(0,b_),(1,aC bp)],uq⟩
def aNg:aY:=⟨[(0,au),(1,aZ),(2,au)],qW⟩
def Iw:aY:=⟨[(0,b_),(1,aC bp),(7,au),(8,aZ),(9,au)],uq⟩
def aNd:bG:=[((.exit 0),⟨[(7,au),(8,aZ)],qW⟩),(.ret,⟨[(4,au),(5,aZ),(6,au)],qW⟩)]
def Qt (x:U Iw):Option (U Iw⊕bo aNd):=cond (bg x.1.2.2.2.2.1 (bf x.1.2.1)) ((a1 x.1.2.1 (x.1.2.2.2.2.1).1).bind λaE=>(a1 x.2.1.2.2.1 (aE.1).1).bind λaP=>cond (cz aP.2.1 x.2.1.2.2.2.1) (cond (bg (W 0) x.1.2.2.2.2.1) (cond (!bb (W 2) x.1.2.2.1) (some (.inr (.inr (((W 0),(S ⟨#[]⟩),(W 802),()),(x.2.1,(),(),()))))) (cond (!cz aP.1 x.1.2.2.2.1) (some (.inr (.inr (((W 0),(S ⟨#[]⟩),(W 802),()),(x.2.1,(),(),()))))) (some (.inl (((),x.1.2.1,(W 2),aP.1,(bc x.1.2.2.2.2.1 (W 1)),()),(x.2.1,(),())))))) (some (.inl (((),x.1.2.1,(W 2),aP.1,(bc x.1.2.2.2.2.1 (W 1)),()),(x.2.1,(),()))))) (cond (bg (W 0) x.1.2.2.2.2.1) (cond (!bb (W 1) x.1.2.2.1) (some (.inr (.inr (((W 0),(S ⟨#[]⟩),(W 802),()),(x.2.1,(),(),()))))) (cond (!cz aP.2.1 x.1.2.2.2.1) (some (.inr (.inr (((W 0),(S ⟨#[]⟩),(W 802),()),(x.2.1,(),(),()))))) (some (.inl (((),x.1.2.1,(W 1),aP.2.1,(bc x.1.2.2.2.2.1 (W 1)),()),(x.2.1,(),())))))) (some (.inl (((),x.1.2.1,(W 1),aP.2.1,(bc x.1.2.2.2.2.1 (W 1)),()),(x.2.1,(),())))))) (some (.inr (.inl ((x.1.2.2.1,x.1.2.2.2.1,()),(x.2.1,(),(),())))))
def Qs (x:U amt):Option (U aNg):=(a2 Qt (((),x.1.2.1,(W 0),(S ⟨#[]⟩),(W 0),()),(x.2.1,(),()))).bind λaK=>Sum.elim (λaS=>some ((aS.1.1,aS.1.2.1,(W 0),()),(aS.2.1,(),(),()))) (λa9=>some ((a9.1.1,a9.1.2.1,a9.1.2.2.1,()),(a9.2.1,(),(),()))) aK
def amv:aY:=⟨[(0,b_),(1,aC bp)],uq⟩
def aNs:aY:=⟨[(0,aC ck),(1,bA)],qW⟩
def Iy:=aJ [(6,aC ck),(8,aC dN),(9,au)]
def aNm:bG:=[((.exit 2),aJ [(6,aC ck)])]
def Qw (x:U Iy):Option (U Iy⊕bo aNm):=cond (bg x.1.2.2.1 (bf x.1.2.1)) ((a1 x.1.2.1 (x.1.2.2.1).1).bind λbS=>(wg ((x.1.1,bS.1,()),())).bind λaS=>some (.inl ((aS.1.1,x.1.2.1,(bc x.1.2.2.1 (W 1)),()),()))) (some (.inr ((x.1.1,()),())))
def Ix:aY:=⟨[(0,b_),(1,aC bp),(6,aC ck),(7,au)],uq⟩
def aNj:bG:=[((.exit 0),⟨[(6,aC ck)],qW⟩)]
def Qv (x:U Ix):Option (U Ix⊕bo aNj):=cond (bg x.1.2.2.2.1 (bf x.1.2.1)) ((a1 x.1.2.1 (x.1.2.2.2.1).1).bind λaE=>(a1 x.2.1.2.2.1 (aE.1).1).bind λaP=>(a2 Qw ((x.1.2.2.1,aP.2.2.1,(W 0),()),())).bind λa9=>some (.inl (((),x.1.2.1,a9.1.1,(bc x.1.2.2.2.1 (W 1)),()),(x.2.1,(),())))) (some (.inr ((x.1.2.2.1,()),(x.2.1,(),(),()))))
def Iz:aY:=⟨[(0,b_),(1,aC bp),(6,aC ck),(10,au)],uq⟩
def aNp:bG:=[((.exit 4),⟨[],qW⟩),(.ret,⟨[(4,aC ck),(5,bA)],qW⟩)]
def Qx (x:U Iz):Option (U Iz⊕bo aNp):=cond (bg x.1.2.2.2.1 (bf x.1.2.1)) ((a1 x.1.2.1 (x.1.2.2.2.1).1).bind λfm=>(a1 x.2.1.2.2.1 (fm.1).1).bind λdD=>cond (!bb (bf dD.2.2.1) (bf x.1.2.2.1)) (some (.inr (.inr ((x.1.2.2.1,false,()),(x.2.1,(),(),()))))) (some (.inl (((),x.1.2.1,x.1.2.2.1,(bc x.1.2.2.2.1 (W 1)),()),(x.2.1,(),()))))) (some (.inr (.inl ((),(x.2.1,(),(),())))))
def Qu (x:U amv):Option (U aNs):=(a2 Qv (((),x.1.2.1,L.nil,(W 0),()),(x.2.1,(),()))).bind λbJ=>(a2 Qx (((),x.1.2.1,bJ.1.1,(W 0),()),(bJ.2.1,(),()))).bind λbO=>Sum.elim (λcc=>some ((bJ.1.1,true,()),(cc.2.1,(),(),()))) (λbT=>some ((bT.1.1,bT.1.2.1,()),(bT.2.1,(),(),()))) bO
def alG:=aJ [(0,aC dN),(1,aZ)]
def aKW:=aJ [(0,au)]
def HP:=aJ [(0,aC dN),(1,aZ),(5,au)]
def aKT:bG:=[((.exit 0),aJ []),fK [(4,au)]]
def PI (x:U HP):Option (U HP⊕bo aKT):=cond (bg x.1.2.2.1 (bf x.1.1)) ((a1 x.1.1 (x.1.2.2.1).1).bind λaE=>cond (cz aE.1 x.1.2.1) (some (.inr (.inr ((x.1.2.2.1,()),())))) (some (.inl ((x.1.1,x.1.2.1,(bc x.1.2.2.1 (W 1)),()),())))) (some (.inr (.inl ((),()))))
def PH (x:U alG):Option (U aKW):=(a2 PI ((x.1.1,x.1.2.1,(W 0),()),())).bind λaB=>Sum.elim (λaK=>some (((W (-1)),()),())) (λaS=>some ((aS.1.1,()),())) aB
def amq:aY:=⟨[(0,b_),(1,aC bp),(2,aZ)],uq⟩
def aNb:aY:=⟨[(0,.agg g4),(1,aC bp),(2,bA)],qW⟩
def Iv:aY:=⟨[(0,b_),(1,aC bp),(2,aZ),(6,.ptr 2 0),(9,.ptr 3 0),(10,.tok bp 4 []),(11,au)],[.box [aZ,aC ck,aC ff,aZ,.tok [.a4 bp] 1 []],.bC [.a4 bp],.box [au,aZ],.box [au,aZ],.bC bp]⟩
def aM_:bG:=[((.exit 0),⟨[(10,.tok bp 5 [])],[.box [aZ,aC ck,aC ff,aZ,.tok [.a4 bp] 6 []],.gone,.box [au,aZ],.box [au,aZ],.gone,.bC bp,.bC [.a4 bp]]⟩),(.ret,⟨[(7,.dm),(8,bA)],[.box [aZ,aC ck,aC ff,aZ,.tok [.a4 bp] 5 []],.gone,.box [au,aZ],.box [au,aZ],.gone,.bC [.a4 bp]]⟩)]
def Qr (x:U Iv):Option (U Iv⊕bo aM_):=cond (bg x.1.2.2.2.2.2.2.1 (bf x.1.2.1)) ((a1 x.1.2.1 (x.1.2.2.2.2.2.2.1).1).bind λaE=>(a1 x.2.1.2.2.1 (aE.1).1).bind λaP=>(PH ((aP.2.2.1,x.1.2.2.1,()),())).bind λaK=>cond (bg aK.1.1 (W 0)) (some (.inl (((),x.1.2.1,x.1.2.2.1,(),(),x.1.2.2.2.2.2.1,(bc x.1.2.2.2.2.2.2.1 (W 1)),()),(x.2.1,(),x.2.2.2.1,x.2.2.2.2.1,(),())))) (cond (bg (W 0) (bf x.1.2.2.2.2.2.1)) ((a1 aP.2.2.1 (aK.1.1).1).bind λcR=>cond (!((bb cR.2.1 x.2.2.2.2.1.1)&&((cz cR.2.2.1 x.2.2.2.2.1.2.1)&&true))) (some (.inr (.inr (((),false,()),(x.2.1,(),x.2.2.2.2.1,x.2.2.2.2.1,(),(),()))))) ((a1 aP.2.2.1 (aK.1.1).1).bind λdO=>(a1 aP.2.2.1 (aK.1.1).1).bind λdb=>(c6 8 x.1.2.2.2.2.2.1 (cD [(db.2.2.2.1,())])).bind λiV=>some (.inl (((),x.1.2.1,x.1.2.2.1,(),(),iV,(bc x.1.2.2.2.2.2.2.1 (W 1)),()),(x.2.1,(),x.2.2.2.1,(dO.2.1,dO.2.2.1,()),(),()))))) ((a1 aP.2.2.1 (aK.1.1).1).bind λdD=>(a1 aP.2.2.1 (aK.1.1).1).bind λeV=>(c6 8 x.1.2.2.2.2.2.1 (cD [(eV.2.2.2.1,())])).bind λoz=>some (.inl (((),x.1.2.1,x.1.2.2.1,(),(),oz,(bc x.1.2.2.2.2.2.2.1 (W 1)),()),(x.2.1,(),x.2.2.2.1,(dD.2.1,dD.2.2.1,()),(),())))))) (some (.inr (.inl ((x.1.2.2.2.2.2.1,()),(x.2.1,(),x.2.2.2.1,x.2.2.2.2.1,(),(),(),())))))
def Iu (x:U amq):Option (U aNb):=(a2 Qr (((),x.1.2.1,x.1.2.2.1,(),(),L.nil,(W 0),()),(x.2.1,(),((W 0),(S ⟨#[]⟩),()),((W 0),(S ⟨#[]⟩),()),(),()))).bind λbT=>Sum.elim (λcL=>some (((cL.2.2.2.2.1.1,cL.2.2.2.2.1.2.1,()),cL.1.1,true,()),(cL.2.1,(),(),()))) (λcy=>some (((cy.2.2.2.1.1,cy.2.2.2.1.2.1,()),L.nil,cy.1.2.1,()),(cy.2.1,(),(),()))) bT
def amA:aY:=⟨[(0,b_),(1,aC bp)],uq⟩
def aNJ:aY:=⟨[(0,.agg fS),(1,au)],qW⟩
def XA:aY:=⟨[(4,b_),(6,au),(10,bA)],RQ⟩
def amz:bG:=[(.normal,⟨[],RQ⟩),(.ret,⟨[(5,au)],RQ⟩)]
def Xz (x:U XA):Option (bo amz):=cond (bb x.1.2.1 (W 1)) (cond (!x.1.2.2.1) (some (.inr (((W 803),()),(((W 0),(S ⟨#[]⟩),(),()),())))) (some (.inl ((),(x.2.1,()))))) (some (.inl ((),(x.2.1,()))))
def ID:aY:=⟨[(0,b_),(1,aC bp),(4,.ptr 2 0),(9,aC ck),(11,au)],[.box [aZ,aC ck,aC ff,aZ,.tok [.a4 bp] 1 []],.bC [.a4 bp],.box [au,aZ,.dm]]⟩
def aND:bG:=[((.exit 0),⟨[],[.box [aZ,aC ck,aC ff,aZ,.tok [.a4 bp] 3 []],.gone,.box [au,aZ,.dm],.bC [.a4 bp]]⟩),(.ret,⟨[(5,au)],[.box [aZ,aC ck,aC ff,aZ,.tok [.a4 bp] 3 []],.gone,.box [au,aZ,.dm],.bC [.a4 bp]]⟩)]
def QC (x:U ID):Option (U ID⊕bo aND):=cond (bg x.1.2.2.2.2.1 (bf x.1.2.2.2.1)) ((a1 x.1.2.2.2.1 (x.1.2.2.2.2.1).1).bind λdb=>(Iu (((),x.1.2.1,db.1,()),(x.2.1,(),()))).bind λbK=>cond (!bK.1.2.2.1) (some (.inr (.inr (((W 804),()),(bK.2.1,(),((W 0),(S ⟨#[]⟩),(),()),(),()))))) (some (.inl (((),x.1.2.1,(),x.1.2.2.2.1,(bc x.1.2.2.2.2.1 (W 1)),()),(bK.2.1,(),x.2.2.2.1,()))))) (some (.inr (.inl ((),(x.2.1,(),x.2.2.2.1,(),())))))
def IE:aY:=⟨[(0,b_),(1,aC bp),(4,.ptr 2 0),(9,aC ck),(15,.ptr 3 0),(16,au)],[.box [aZ,aC ck,aC ff,aZ,.tok [.a4 bp] 1 []],.bC [.a4 bp],.box [au,aZ,.dm],.box [au,aZ,.tok dN 4 []],.bC dN]⟩
def aNG:bG:=[((.exit 2),⟨[],[.box [aZ,aC ck,aC ff,aZ,.tok [.a4 bp] 5 []],.gone,.box [au,aZ,.dm],.box [au,aZ,.tok dN 6 []],.gone,.bC [.a4 bp],.bC dN]⟩),(.ret,⟨[(5,au)],[.box [aZ,aC ck,aC ff,aZ,.tok [.a4 bp] 5 []],.gone,.box [au,aZ,.dm],.box [au,aZ,.tok dN 6 []],.gone,.bC [.a4 bp],.bC dN]⟩)]
def QD (x:U IE):Option (U IE⊕bo aNG):=cond (bg x.1.2.2.2.2.2.1 (bf x.1.2.2.2.1)) ((a1 x.1.2.2.2.1 (x.1.2.2.2.2.2.1).1).bind λgw=>(Iu (((),x.1.2.1,gw.1,()),(x.2.1,(),()))).bind λcL=>(IA (((),cL.1.2.1,()),(cL.2.1,(),()))).bind λcy=>cond (!bb cy.1.2.1 (W 0)) (some (.inr (.inr ((cy.1.2.1,()),(cy.2.1,(),((W 0),(S ⟨#[]⟩),(),()),x.2.2.2.2.1,(),(),(),()))))) ((a1 x.1.2.2.2.1 (x.1.2.2.2.2.2.1).1).bind λiu=>(c6 48 x.2.2.2.2.1.2.2.1 (cD [(iu.1,cL.1.1.1,cL.1.1.2.1,cy.1.1,())])).bind λp4=>some (.inl (((),x.1.2.1,(),x.1.2.2.2.1,(),(bc x.1.2.2.2.2.2.1 (W 1)),()),(cy.2.1,(),x.2.2.2.1,(x.2.2.2.2.1.1,x.2.2.2.2.1.2.1,p4,()),(),()))))) (some (.inr (.inl ((),(x.2.1,(),x.2.2.2.1,x.2.2.2.2.1,(),(),(),())))))
def QB (x:U amA):Option (U aNJ):=cond (bb (bf x.1.2.1) (W 0)) (some ((((W 0),(S ⟨#[]⟩),L.nil,()),(W 0),()),(x.2.1,(),(),()))) ((Qs (((),x.1.2.1,()),(x.2.1,(),()))).bind λaq=>cond (!bb aq.1.2.2.1 (W 0)) (some ((((W 0),(S ⟨#[]⟩),L.nil,()),aq.1.2.2.1,()),(aq.2.1,(),(),()))) ((Qu (((),x.1.2.1,()),(aq.2.1,(),()))).bind λaB=>(Xz (((),aq.1.1,aB.1.2.1,()),(((W 0),(S ⟨#[]⟩),(),()),()))).bind λaK=>Sum.elim (λaS=>cond (bg (W 6) (bf aB.1.1)) (some ((((W 0),(S ⟨#[]⟩),L.nil,()),(W 805),()),(aB.2.1,(),(),()))) ((a2 QC (((),x.1.2.1,(),aB.1.1,(W 0),()),(aB.2.1,(),aS.2.1,()))).bind λcl=>Sum.elim (λbO=>(a2 QD (((),x.1.2.1,(),aB.1.1,(),(W 0),()),(bO.2.1,(),bO.2.2.2.1,(aq.1.1,aq.1.2.1,L.nil,()),(),()))).bind λeD=>Sum.elim (λeO=>some (((eO.2.2.2.2.1.1,eO.2.2.2.2.1.2.1,eO.2.2.2.2.1.2.2.1,()),(W 0),()),(eO.2.1,(),(),()))) (λeY=>some (((eY.2.2.2.1.1,eY.2.2.2.1.2.1,L.nil,()),eY.1.1,()),(eY.2.1,(),(),()))) eD) (λcc=>some (((cc.2.2.2.1.1,cc.2.2.2.1.2.1,L.nil,()),cc.1.1,()),(cc.2.1,(),(),()))) cl)) (λa9=>some (((a9.2.1.1,a9.2.1.2.1,L.nil,()),a9.1.1,()),(aB.2.1,(),(),()))) aK))
def alm:=aJ [(0,.agg du),(1,aZ)]
def aJ_:=aJ [(0,.agg dZ),(1,au)]
def HH:aY:=⟨[(4,b_),(6,.ptr 1 0),(9,.ptr 3 0),(10,au)],[.box [aZ,.dm],.box [aZ,aC ck,aC ff,aZ,.tok [.a4 bp] 2 []],.bC [.a4 bp],.box [aZ,.tok fS 4 []],.bC fS]⟩
def aJ7:bG:=[((.exit 0),⟨[],[.box [aZ,.dm],.box [aZ,aC ck,aC ff,aZ,.tok [.a4 bp] 5 []],.gone,.box [aZ,.tok fS 6 []],.gone,.bC [.a4 bp],.bC fS]⟩),(.ret,⟨[(5,au)],[.box [aZ,.dm],.box [aZ,aC ck,aC ff,aZ,.tok [.a4 bp] 5 []],.gone,.box [aZ,.tok fS 6 []],.gone,.bC [.a4 bp],.bC fS]⟩)]
def Pz (x:U HH):Option (U HH⊕bo aJ7):=cond (bg x.1.2.2.2.1 (bf x.2.2.1.2.2.2.2.1)) ((a1 x.2.2.1.2.2.2.2.1 (x.1.2.2.2.1).1).bind λdb=>(QB (((),db.1,()),(x.2.2.1,(),()))).bind λbK=>cond (!bb bK.1.2.1 (W 0)) (some (.inr (.inr ((bK.1.2.1,()),(((S ⟨#[]⟩),(),()),bK.2.1,(),x.2.2.2.2.1,(),(),(),()))))) ((c6 48 x.2.2.2.2.1.2.1 (cD [bK.1.1])).bind λjK=>some (.inl (((),(),(),(bc x.1.2.2.2.1 (W 1)),()),(x.2.1,bK.2.1,(),(x.2.2.2.2.1.1,jK,()),(),()))))) (some (.inr (.inl ((),(x.2.1,x.2.2.1,(),x.2.2.2.2.1,(),(),(),())))))
def Py (x:U alm):Option (U aJ_):=(zE ((x.1.1,()),())).bind λaq=>cond (!aq.1.1) (some ((((S ⟨#[]⟩),L.nil,()),(W 800),()),())) ((pg ((x.1.1.2.1,x.1.2.1,()),())).bind λaB=>cond (!aB.1.1) (some ((((S ⟨#[]⟩),L.nil,()),(W 800),()),())) ((IA (((),(cD [((W 0),())]),()),((x.1.1.1,x.1.1.2.1,x.1.1.2.2.1,x.1.2.1,L.nil,()),(),()))).bind λaK=>cond (!bb aK.1.2.1 (W 0)) (some ((((S ⟨#[]⟩),L.nil,()),aK.1.2.1,()),())) ((fE x.1.1.1 (S ⟨#[46]⟩)).bind λv4=>(fE v4 x.1.2.1).bind λcQ=>(a2 Pz (((),(),(),(W 0),()),(((S ⟨#[]⟩),(),()),aK.2.1,(),(cQ,L.nil,()),(),()))).bind λbO=>Sum.elim (λcc=>some (((cc.2.2.2.2.1.1,cc.2.2.2.2.1.2.1,()),(W 0),()),())) (λbT=>some (((bT.2.1.1,L.nil,()),bT.1.1,()),())) bO)))
def ak6:=aJ [(0,.agg du)]
def aI9:=aJ [(0,aC dZ),(1,au),(2,au)]
def Hq:aY:=⟨[(1,.cJ du 0),(5,.tok dZ 0 []),(6,au)],[.bC dZ]⟩
def aI7:bG:=[((.exit 0),⟨[(5,.tok dZ 1 [])],[.gone,.bC dZ]⟩),(.ret,⟨[(2,.dm),(3,au),(4,au)],[.gone]⟩)]
def Pc (x:U Hq):Option (U Hq⊕bo aI7):=cond (bg x.1.2.2.1 (bf x.1.1.2.1)) ((a1 x.1.1.2.1 (x.1.2.2.1).1).bind λaP=>(Py ((x.1.1,aP.1,()),())).bind λaK=>cond (!bb aK.1.2.1 (W 0)) (some (.inr (.inr (((),x.1.2.2.1,aK.1.2.1,()),((),()))))) ((c6 40 x.1.2.1 (cD [aK.1.1])).bind λjj=>some (.inl ((x.1.1,jj,(bc x.1.2.2.1 (W 1)),()),((),()))))) (some (.inr (.inl ((x.1.2.1,()),((),(),())))))
def B2 (x:U ak6):Option (U aI9):=(zE ((x.1.1,()),())).bind λaq=>cond (!aq.1.1) (some ((L.nil,(W 0),(W 800),()),())) ((a2 Pc ((x.1.1,L.nil,(W 0),()),((),()))).bind λa9=>Sum.elim (λbJ=>some ((bJ.1.1,(W 0),(W 0),()),())) (λbK=>some ((L.nil,bK.1.2.1,bK.1.2.2.1,()),())) a9)
def ald:=aJ [(0,.agg dZ)]
def aJF:=aJ [(0,bA)]
def HB:=aJ [(1,.cJ dZ 0),(3,au)]
def aJD:bG:=[((.exit 0),aJ []),fK [(2,bA)]]
def Pn (x:U HB):Option (U HB⊕bo aJD):=cond (bg x.1.2.1 (bf x.1.1.2.1)) ((a1 x.1.1.2.1 (x.1.2.1).1).bind λaE=>cond (bb aE.1 (W 0)) (cond (!cz aE.2.1 (S ⟨#[]⟩)) (some (.inr (.inr ((false,()),())))) (cond (bg (W 0) (bf aE.2.2.1)) (some (.inr (.inr ((false,()),())))) (some (.inl ((x.1.1,(bc x.1.2.1 (W 1)),()),()))))) (cond (bb aE.1 (W 1)) (cond (bb aE.1 (W 1)) ((k6 ((aE.2.1,()),())).bind λaB=>cond (!aB.1.1) (some (.inr (.inr ((false,()),())))) ((B3 ((aE.2.2.1,(bf x.1.1.2.1),()),())).bind λaK=>cond (!aK.1.1) (some (.inr (.inr ((false,()),())))) (some (.inl ((x.1.1,(bc x.1.2.1 (W 1)),()),()))))) (some (.inr (.inr ((false,()),()))))) (cond (bb aE.1 (W 2)) ((k6 ((aE.2.1,()),())).bind λaS=>cond (!aS.1.1) (some (.inr (.inr ((false,()),())))) ((B3 ((aE.2.2.1,(bf x.1.1.2.1),()),())).bind λa9=>cond (!a9.1.1) (some (.inr (.inr ((false,()),())))) (some (.inl ((x.1.1,(bc x.1.2.1 (W 1)),()),()))))) (some (.inr (.inr ((false,()),()))))))) (some (.inr (.inl ((),()))))
def B5 (x:U ald):Option (U aJF):=cond (bg (bf x.1.1.2.1) (W 1)) (some ((false,()),())) (cond (bg (W 40) (bf x.1.1.2.1)) (some ((false,()),())) ((a2 Pn ((x.1.1,(W 0),()),())).bind λbJ=>Sum.elim (λbK=>some ((true,()),())) (λcl=>some ((cl.1.1,()),())) bJ))
def alF:=aJ [(0,au),(1,au),(2,au)]
def aKR:=aJ [(0,.agg s5)]
def rW (x:U alF):Option (U aKR):=some (((x.1.1,x.1.2.1,x.1.2.2.1,()),()),())
def alH:=aJ [(0,aC du),(1,aC dZ)]
def aK8:=aJ [(0,.agg s5)]
def HQ:aY:=⟨[(0,aC du),(4,b_),(5,.tok ck 1 []),(6,au)],[.box [au,au,au],.bC ck]⟩
def aKZ:bG:=[((.exit 0),⟨[(5,.tok ck 2 [])],[.box [au,au,au],.gone,.bC ck]⟩),(.ret,⟨[],Jw⟩)]
def PK (x:U HQ):Option (U HQ⊕bo aKZ):=cond (bg x.1.2.2.2.1 (bf x.1.1)) ((a1 x.1.1 (x.1.2.2.2.1).1).bind λbS=>(zE ((bS,()),())).bind λaS=>cond (!aS.1.1) ((rW (((W 900),x.1.2.2.2.1,(W (-1)),()),())).bind λa9=>some (.inr (.inr ((),((a9.1.1.1,a9.1.1.2.1,a9.1.1.2.2.1,()),(),()))))) ((a1 x.1.1 (x.1.2.2.2.1).1).bind λdb=>(c6 16 x.1.2.2.1 (cD [(db.1,())])).bind λiV=>some (.inl ((x.1.1,(),iV,(bc x.1.2.2.2.1 (W 1)),()),(x.2.1,(),()))))) (some (.inr (.inl ((x.1.2.2.1,()),(x.2.1,(),(),())))))
def HR:aY:=⟨[(0,aC du),(1,aC dZ),(4,b_),(5,.tok ck 1 []),(7,au)],[.box [au,au,au],.bC ck]⟩
def aK2:bG:=[((.exit 2),⟨[(5,.tok ck 2 [])],[.box [au,au,au],.gone,.bC ck]⟩),(.ret,⟨[],Jw⟩)]
def PL (x:U HR):Option (U HR⊕bo aK2):=cond (bg x.1.2.2.2.2.1 (bf x.1.2.1)) ((a1 x.1.2.1 (x.1.2.2.2.2.1).1).bind λgw=>(B5 ((gw,()),())).bind λcL=>cond (!cL.1.1) ((rW (((W 900),(bc (bf x.1.1) x.1.2.2.2.2.1),(W (-1)),()),())).bind λdy=>some (.inr (.inr ((),((dy.1.1.1,dy.1.1.2.1,dy.1.1.2.2.1,()),(),()))))) ((a1 x.1.2.1 (x.1.2.2.2.2.1).1).bind λkk=>(k6 ((kk.1,()),())).bind λdX=>cond (!dX.1.1) ((rW (((W 900),(bc (bf x.1.1) x.1.2.2.2.2.1),(W (-1)),()),())).bind λeD=>some (.inr (.inr ((),((eD.1.1.1,eD.1.1.2.1,eD.1.1.2.2.1,()),(),()))))) ((a1 x.1.2.1 (x.1.2.2.2.2.1).1).bind λk1=>(c6 16 x.1.2.2.2.1 (cD [(k1.1,())])).bind λKN=>some (.inl ((x.1.1,x.1.2.1,(),KN,(bc x.1.2.2.2.2.1 (W 1)),()),(x.2.1,(),())))))) (some (.inr (.inl ((x.1.2.2.2.1,()),(x.2.1,(),(),())))))
def HS:aY:=⟨[(4,b_),(5,aC ck),(8,au)],m5⟩
def aK5:bG:=[((.exit 4),⟨[],m5⟩),(.ret,⟨[],m5⟩)]
def PM (x:U HS):Option (U HS⊕bo aK5):=cond (bg x.1.2.2.1 (bf x.1.2.1)) ((nM x.1.2.1 0 (x.1.2.2.1).1).bind λanw=>(a1 x.1.2.1 (x.1.2.2.1).1).bind λm7=>(pg ((anw,m7.1,()),())).bind λnn=>cond (nn.1.1) ((rW (((W 901),x.1.2.2.1,(W (-1)),()),())).bind λki=>some (.inr (.inr ((),((ki.1.1.1,ki.1.1.2.1,ki.1.1.2.2.1,()),()))))) (some (.inl (((),x.1.2.1,(bc x.1.2.2.1 (W 1)),()),(x.2.1,()))))) (some (.inr (.inl ((),(x.2.1,())))))
def PJ (x:U alH):Option (U aK8):=cond (bg (W 6) (bf x.1.1)) ((rW (((W 900),(W (-1)),(W (-1)),()),())).bind λaq=>some ((aq.1.1,()),())) (cond (bg (W 12) (bf x.1.2.1)) ((rW (((W 900),(W (-1)),(W (-1)),()),())).bind λaB=>some ((aB.1.1,()),())) ((a2 PK ((x.1.1,(),L.nil,(W 0),()),(((W 0),(W 0),(W 0),()),(),()))).bind λcl=>Sum.elim (λbO=>(a2 PL ((x.1.1,x.1.2.1,(),bO.1.1,(W 0),()),(bO.2.1,(),()))).bind λfe=>Sum.elim (λfM=>(a2 PM (((),fM.1.1,(W 0),()),(fM.2.1,()))).bind λmW=>Sum.elim (λCr=>some ((((W 0),(W 0),(W 0),()),()),())) (λzK=>some (((zK.2.1.1,zK.2.1.2.1,zK.2.1.2.2.1,()),()),())) mW) (λiD=>some (((iD.2.1.1,iD.2.1.2.1,iD.2.1.2.2.1,()),()),())) fe) (λcc=>some (((cc.2.1.1,cc.2.1.2.1,cc.2.1.2.2.1,()),()),())) cl))
def amj:=aJ [(0,aC du),(1,aC dZ)]
def aMM:=aJ [(0,aC ck)]
def Ik:aY:=⟨[(0,aC du),(5,.tok ck 0 []),(6,au),(7,au)],[.bC ck]⟩
def aMG:bG:=[((.exit 2),⟨[(5,.tok ck 1 [])],[.gone,.bC ck]⟩)]
def Qi (x:U Ik):Option (U Ik⊕bo aMG):=(a1 x.1.1 (x.1.2.2.1).1).bind λaE=>cond (bg x.1.2.2.2.1 (bf aE.2.1)) ((a1 x.1.1 (x.1.2.2.1).1).bind λaP=>(fE aP.1 (S ⟨#[46]⟩)).bind λcH=>(a1 x.1.1 (x.1.2.2.1).1).bind λcR=>(a1 cR.2.1 (x.1.2.2.2.1).1).bind λdO=>(fE cH dO.1).bind λv6=>(c6 16 x.1.2.1 (cD [(v6,())])).bind λiV=>some (.inl ((x.1.1,iV,x.1.2.2.1,(bc x.1.2.2.2.1 (W 1)),()),((),())))) (some (.inr ((x.1.2.1,()),((),(),()))))
def Ij:aY:=⟨[(0,aC du),(5,.tok ck 0 []),(6,au)],[.bC ck]⟩
def aMD:bG:=[((.exit 0),⟨[(5,.tok ck 1 [])],[.gone,.bC ck]⟩)]
def Qh (x:U Ij):Option (U Ij⊕bo aMD):=cond (bg x.1.2.2.1 (bf x.1.1)) ((a2 Qi ((x.1.1,x.1.2.1,x.1.2.2.1,(W 0),()),((),()))).bind λcl=>some (.inl ((x.1.1,cl.1.1,(bc x.1.2.2.1 (W 1)),()),((),())))) (some (.inr ((x.1.2.1,()),((),(),()))))
def Il:aY:=⟨[(1,aC dZ),(5,.tok ck 0 []),(8,au)],[.bC ck]⟩
def aMJ:bG:=[((.exit 4),⟨[(5,.tok ck 1 [])],[.gone,.bC ck]⟩)]
def Qj (x:U Il):Option (U Il⊕bo aMJ):=cond (bg x.1.2.2.1 (bf x.1.1)) ((a1 x.1.1 (x.1.2.2.1).1).bind λd_=>(c6 16 x.1.2.1 (cD [(d_.1,())])).bind λp2=>some (.inl ((x.1.1,p2,(bc x.1.2.2.1 (W 1)),()),((),())))) (some (.inr ((x.1.2.1,()),((),(),()))))
def Qg (x:U amj):Option (U aMM):=(a2 Qh ((x.1.1,L.nil,(W 0),()),((),()))).bind λbO=>(a2 Qj ((x.1.2.1,bO.1.1,(W 0),()),((),()))).bind λcL=>some ((cL.1.1,()),())
def al0:=aJ [(0,.agg du)]
def aLV:=aJ [(0,aC [.a4 dN])]
def H3:aY:=⟨[(1,.cJ du 0),(3,.tok [.a4 dN] 0 []),(4,au)],[.bC [.a4 dN]]⟩
def aLS:bG:=[((.exit 0),⟨[(3,.tok [.a4 dN] 1 [])],[.gone,.bC [.a4 dN]]⟩)]
def P4 (x:U H3):Option (U H3⊕bo aLS):=cond (bg x.1.2.2.1 (bf x.1.1.2.2.1)) ((a1 x.1.1.2.2.1 (x.1.2.2.1).1).bind λaE=>(c6 24 x.1.2.1 (cD [(aE.2.2.1,())])).bind λea=>some (.inl ((x.1.1,ea,(bc x.1.2.2.1 (W 1)),()),((),())))) (some (.inr ((x.1.2.1,()),((),(),()))))
def P3 (x:U al0):Option (U aLV):=(a2 P4 ((x.1.1,L.nil,(W 0),()),((),()))).bind λaK=>some ((aK.1.1,()),())
def aml:=aJ [(0,aC [.a4 dN]),(1,aC ck)]
def aM7:=aJ [(0,au)]
def Is:=aJ [(0,aC [.a4 dN]),(1,aC ck),(5,au),(6,au)]
def aM4:bG:=[((.exit 2),aJ []),fK [(4,au)]]
def Qq (x:U Is):Option (U Is⊕bo aM4):=(a1 x.1.1 (x.1.2.2.1).1).bind λaE=>cond (bg x.1.2.2.2.1 (bf aE.1)) ((a1 x.1.1 (x.1.2.2.1).1).bind λaP=>(a1 aP.1 (x.1.2.2.2.1).1).bind λbS=>cond (bb bS.2.1 (W 5)) ((pg ((x.1.2.1,bS.2.2.1,()),())).bind λaS=>cond (!aS.1.1) (some (.inr (.inr ((x.1.2.2.1,()),())))) (some (.inl ((x.1.1,x.1.2.1,x.1.2.2.1,(bc x.1.2.2.2.1 (W 1)),()),())))) (some (.inl ((x.1.1,x.1.2.1,x.1.2.2.1,(bc x.1.2.2.2.1 (W 1)),()),())))) (some (.inr (.inl ((),()))))
def Ir:=aJ [(0,aC [.a4 dN]),(1,aC ck),(5,au)]
def aM1:bG:=[((.exit 0),aJ []),fK [(4,au)]]
def Qp (x:U Ir):Option (U Ir⊕bo aM1):=cond (bg x.1.2.2.1 (bf x.1.1)) ((a2 Qq ((x.1.1,x.1.2.1,x.1.2.2.1,(W 0),()),())).bind λa9=>Sum.elim (λbJ=>some (.inl ((x.1.1,x.1.2.1,(bc x.1.2.2.1 (W 1)),()),()))) (λbK=>some (.inr (.inr ((bK.1.1,()),())))) a9) (some (.inr (.inl ((),()))))
def Iq (x:U aml):Option (U aM7):=(a2 Qp ((x.1.1,x.1.2.1,(W 0),()),())).bind λcl=>Sum.elim (λbO=>some (((W (-1)),()),())) (λcc=>some ((cc.1.1,()),())) cl
def amd:=aJ [(0,.agg dZ)]
def aMv:=aJ [(0,aC [.a4 dN])]
def Ih:aY:=⟨[(1,.cJ dZ 0),(3,.tok [.a4 dN] 0 []),(4,au)],[.bC [.a4 dN]]⟩
def aMt:bG:=[((.exit 0),⟨[(3,.tok [.a4 dN] 1 [])],[.gone,.bC [.a4 dN]]⟩)]
def Qd (x:U Ih):Option (U Ih⊕bo aMt):=cond (bg x.1.2.2.1 (bf x.1.1.2.1)) ((a1 x.1.1.2.1 (x.1.2.2.1).1).bind λaE=>(c6 24 x.1.2.1 (cD [(aE.2.2.1,())])).bind λea=>some (.inl ((x.1.1,ea,(bc x.1.2.2.1 (W 1)),()),((),())))) (some (.inr ((x.1.2.1,()),((),(),()))))
def Ig (x:U amd):Option (U aMv):=(a2 Qd ((x.1.1,L.nil,(W 0),()),((),()))).bind λaK=>some ((aK.1.1,()),())
def alv:=aJ [(0,aC dN)]
def aKC:aY:=⟨[(0,.arr 0 dN oo)],[.arr dN oo]⟩
def HM:aY:=⟨[(0,aC dN),(3,.arr 0 dN oo),(4,au),(5,au)],[.arr dN oo]⟩
def aKA:bG:=[((.exit 2),⟨[(5,au)],[.arr dN oo]⟩)]
def PD (x:U HM):Option (U HM⊕bo aKA):=
 cond (bg (W 0) x.1.2.2.2.1)
  (cond (decide (0<=((gf x.1.2.2.2.1 (W 1))).1)&&decide (((gf x.1.2.2.2.1 (W 1))).1<(x.2.1.1.length:Nat)))
   ((fq x.2.1 (((gf x.1.2.2.2.1 (W 1))).1).toNat).bind λaE=>
    (a1 x.1.1 (x.1.2.2.1).1).bind λaP=>
    cond (!(oA aE.1 aP.1||cz aE.1 aP.1))
     (some (.inl ((x.1.1,(),x.1.2.2.1,(gf x.1.2.2.2.1 (W 1)),()),(x.2.1,()))))
     (some (.inr ((x.1.2.2.2.1,()),(x.2.1,())))))
   (none))
  (some (.inr ((x.1.2.2.2.1,()),(x.2.1,()))))
def HL:aY:=⟨[(0,aC dN),(3,.arr 0 dN oo),(4,au)],[.arr dN oo]⟩
def aKx:bG:=[((.exit 0),⟨[(3,.arr 1 dN oo)],[.gone,.arr dN oo]⟩)]
def PC (x:U HL):Option (U HL⊕bo aKx):=cond (bg x.1.2.2.1 (bf x.1.1)) ((a2 PD ((x.1.1,(),x.1.2.2.1,(W (x.2.1.1.length:Nat)),()),(x.2.1,()))).bind λaK=>cond (decide (0<=(0:Int))&&decide ((0:Int)<=(aK.1.1).1)&&decide ((aK.1.1).1<=(x.2.1.1.length:Nat))) ((c6 48 (L.nil:L (D [.str,.int .i64,.str,.int .i64])) (oG aK.2.1 ((0:Int)).toNat ((aK.1.1).1-(0:Int)).toNat)).bind λgV=>(a1 x.1.1 (x.1.2.2.1).1).bind λdb=>(c6 48 gV (cD [db])).bind λiV=>cond (decide (0<=(aK.1.1).1)&&decide ((aK.1.1).1<=(x.2.1.1.length:Int))&&decide ((x.2.1.1.length:Int)<=(x.2.1.1.length:Nat))) ((c6 48 iV (oG aK.2.1 ((aK.1.1).1).toNat ((x.2.1.1.length:Int)-(aK.1.1).1).toNat)).bind λj2=>some (.inl ((x.1.1,(),(bc x.1.2.2.1 (W 1)),()),(j2,())))) (none)) (none)) (some (.inr (((),()),((),x.2.1,()))))
def HK (x:U alv):Option (U aKC):=(a2 PC ((x.1.1,(),(W 0),()),(L.nil,()))).bind λcc=>some (((),()),(cc.2.2.1,()))
def alX:=aJ [(0,aC bp),(1,au)]
def aLQ:=aJ [(0,au)]
def H2:=aJ [(0,aC bp),(1,au),(5,au)]
def aLO:bG:=[((.exit 0),aJ []),fK [(4,au)]]
def P2 (x:U H2):Option (U H2⊕bo aLO):=cond (bg x.1.2.2.1 (bf x.1.1)) ((a1 x.1.1 (x.1.2.2.1).1).bind λaE=>cond (bb aE.1 x.1.2.1) (some (.inr (.inr ((x.1.2.2.1,()),())))) (some (.inl ((x.1.1,x.1.2.1,(bc x.1.2.2.1 (W 1)),()),())))) (some (.inr (.inl ((),()))))
def H0 (x:U alX):Option (U aLQ):=(a2 P2 ((x.1.1,x.1.2.1,(W 0),()),())).bind λaB=>Sum.elim (λaK=>some (((W (-1)),()),())) (λaS=>some ((aS.1.1,()),())) aB
def alI:=aJ [(0,aC bp),(1,au)]
def aK':=aJ [(0,bA)]
def PO (x:U alI):Option (U aK'):=(H0 ((x.1.1,x.1.2.1,()),())).bind λaq=>some (((f_ (W 0) aq.1.1),()),())
def al2:=aJ [(0,aC [.a4 dN])]
def aL4:=aJ [(0,aC bp)]
def H5:aY:=⟨[(3,.tok bp 0 []),(5,.arr 1 dN oo),(6,au)],[.bC bp,.arr dN oo]⟩
def aL1:bG:=[((.exit 2),⟨[(3,.tok bp 2 [])],[.gone,.arr dN oo,.bC bp]⟩)]
def P7 (x:U H5):Option (U H5⊕bo aL1):=cond (bg x.1.2.2.1 (W (x.2.2.1.1.length:Nat))) (cond (decide (0<=(x.1.2.2.1).1)&&decide ((x.1.2.2.1).1<(x.2.2.1.1.length:Nat))) ((fq x.2.2.1 ((x.1.2.2.1).1).toNat).bind λcR=>(PO ((x.1.1,cR.2.2.2.1,()),())).bind λa9=>cond (!a9.1.1) (cond (decide (0<=(x.1.2.2.1).1)&&decide ((x.1.2.2.1).1<(x.2.2.1.1.length:Nat))) ((fq x.2.2.1 ((x.1.2.2.1).1).toNat).bind λdb=>(c6 8 x.1.1 (cD [(db.2.2.2.1,())])).bind λiV=>some (.inl ((iV,(),(bc x.1.2.2.1 (W 1)),()),((),x.2.2.1,())))) (none)) (some (.inl ((x.1.1,(),(bc x.1.2.2.1 (W 1)),()),((),x.2.2.1,()))))) (none)) (some (.inr ((x.1.1,()),((),x.2.2.1,(),()))))
def H4:aY:=⟨[(0,aC [.a4 dN]),(3,.tok bp 0 []),(4,au)],[.bC bp]⟩
def aLY:bG:=[((.exit 0),⟨[(3,.tok bp 1 [])],[.gone,.bC bp]⟩)]
def P6 (x:U H4):Option (U H4⊕bo aLY):=cond (bg x.1.2.2.1 (bf x.1.2.1)) ((a1 x.1.2.1 (x.1.2.2.1).1).bind λaE=>(a1 x.1.1 (aE.1).1).bind λaP=>(HK ((aP.1,()),())).bind λaK=>(a2 P7 ((x.1.2.1,(),(W 0),()),((),aK.2.1,()))).bind λcl=>some (.inl ((x.1.1,cl.1.1,(bc x.1.2.2.1 (W 1)),()),((),())))) (some (.inr ((x.1.2.1,()),((),(),()))))
def P5 (x:U al2):Option (U aL4):=(a2 P6 ((x.1.1,(cD [((W 0),())]),(W 0),()),((),()))).bind λbO=>some ((bO.1.1,()),())
def alf:=aJ [(0,.agg dZ)]
def aJH:=aJ [(0,aC bp)]
def Po (x:U alf):Option (U aJH):=(B5 ((x.1.1,()),())).bind λaq=>cond (!aq.1.1) (some ((L.nil,()),())) ((Ig ((x.1.1,()),())).bind λaB=>(P5 ((aB.1.1,()),())).bind λaK=>some ((aK.1.1,()),()))
def alM:=aJ [(0,aC dN),(1,aC bp)]
def aLo:=aJ [(0,aC dN)]
def HU:aY:=⟨[(1,aC bp),(5,.arr 0 dN oo),(6,au)],[.arr dN oo]⟩
def aLl:bG:=[((.exit 0),⟨[],[.arr dN oo]⟩)]
def PU (x:U HU):Option (U HU⊕bo aLl):=cond (bg x.1.2.2.1 (W (x.2.1.1.length:Nat))) (cond (decide (0<=(x.1.2.2.1).1)&&decide ((x.1.2.2.1).1<(x.2.1.1.length:Nat))) ((fq x.2.1 ((x.1.2.2.1).1).toNat).bind λaP=>(H0 ((x.1.1,aP.2.2.2.1,()),())).bind λaK=>cond (decide (0<=(x.1.2.2.1).1)&&decide ((x.1.2.2.1).1<(x.2.1.1.length:Nat))) ((fq x.2.1 ((x.1.2.2.1).1).toNat).bind λcR=>some (.inl ((x.1.1,(),(bc x.1.2.2.1 (W 1)),()),((ej x.2.1 ((x.1.2.2.1).1).toNat (cR.1,cR.2.1,cR.2.2.1,aK.1.1,())),())))) (none)) (none)) (some (.inr ((),(x.2.1,()))))
def PT (x:U alM):Option (U aLo):=(HK ((x.1.1,()),())).bind λaq=>(a2 PU ((x.1.2.1,(),(W 0),()),(aq.2.1,()))).bind λa9=>some ((a9.2.1,()),())
def alg:=aJ [(0,.agg dZ)]
def aJN:=aJ [(0,.agg dZ)]
def HC:aY:=⟨[(1,.cJ dZ 0),(3,aC bp),(4,b_),(5,au)],[.box [aZ,.tok fS 1 []],.bC fS]⟩
def aJK:bG:=[((.exit 0),⟨[],[.box [aZ,.tok fS 2 []],.gone,.bC fS]⟩)]
def Pq (x:U HC):Option (U HC⊕bo aJK):=cond (bg x.1.2.2.2.1 (bf x.1.2.1)) ((a1 x.1.2.1 (x.1.2.2.2.1).1).bind λaP=>(a1 x.1.1.2.1 (aP.1).1).bind λbS=>(PT ((bS.2.2.1,x.1.2.1,()),())).bind λaS=>(c6 48 x.2.1.2.1 (cD [(bS.1,bS.2.1,aS.1.1,())])).bind λgV=>some (.inl ((x.1.1,x.1.2.1,(),(bc x.1.2.2.2.1 (W 1)),()),((x.2.1.1,gV,()),(),())))) (some (.inr ((),(x.2.1,(),(),()))))
def Pp (x:U alg):Option (U aJN):=(Po ((x.1.1,()),())).bind λaq=>cond (bb (bf aq.1.1) (W 0)) (some ((((S ⟨#[]⟩),L.nil,()),()),())) ((a2 Pq ((x.1.1,aq.1.1,(),(W 0),()),((x.1.1.1,L.nil,()),(),()))).bind λbJ=>some (((bJ.2.1.1,bJ.2.1.2.1,()),()),()))
def amk:=aJ [(0,aC du),(1,aC dZ)]
def aMY:=aJ [(0,aC dZ),(1,.agg s5)]
def Im:aY:=⟨[(0,aC du),(5,b_),(6,.tok dZ 1 []),(7,au)],[.box [au,au,au],.bC dZ]⟩
def aMP:bG:=[((.exit 0),⟨[(6,.tok dZ 2 [])],[.box [au,au,au],.gone,.bC dZ]⟩),(.ret,⟨[(4,.dm)],Jw⟩)]
def Ql (x:U Im):Option (U Im⊕bo aMP):=cond (bg x.1.2.2.2.1 (bf x.1.1)) ((a1 x.1.1 (x.1.2.2.2.1).1).bind λaE=>(B2 ((aE,()),())).bind λaB=>cond (!bb aB.1.2.2.1 (W 0)) ((rW (((W 902),x.1.2.2.2.1,aB.1.2.1,()),())).bind λaK=>some (.inr (.inr (((),()),((aK.1.1.1,aK.1.1.2.1,aK.1.1.2.2.1,()),(),()))))) ((c6 40 x.1.2.2.1 aB.1.1).bind λjj=>some (.inl ((x.1.1,(),jj,(bc x.1.2.2.2.1 (W 1)),()),(x.2.1,(),()))))) (some (.inr (.inl ((x.1.2.2.1,()),(x.2.1,(),(),())))))
def Io:aY:=⟨[(0,aC du),(5,b_),(11,aC ck),(12,au)],m5⟩
def aMS:bG:=[((.exit 2),⟨[],m5⟩),(.ret,⟨[(4,.dm)],m5⟩)]
def Qm (x:U Io):Option (U Io⊕bo aMS):=cond (bg x.1.2.2.2.1 (bf x.1.1)) ((a1 x.1.1 (x.1.2.2.2.1).1).bind λeV=>(P3 ((eV,()),())).bind λcc=>(Iq ((cc.1.1,x.1.2.2.1,()),())).bind λbT=>cond (f_ (W 0) bT.1.1) ((rW (((W 903),x.1.2.2.2.1,bT.1.1,()),())).bind λcL=>some (.inr (.inr (((),()),((cL.1.1.1,cL.1.1.2.1,cL.1.1.2.2.1,()),()))))) (some (.inl ((x.1.1,(),x.1.2.2.1,(bc x.1.2.2.2.1 (W 1)),()),(x.2.1,()))))) (some (.inr (.inl ((),(x.2.1,())))))
def Ip:aY:=⟨[(0,aC du),(1,aC dZ),(5,b_),(6,.tok dZ 1 []),(11,aC ck),(14,au)],[.box [au,au,au],.bC dZ]⟩
def aMV:bG:=[((.exit 4),⟨[(6,.tok dZ 2 [])],[.box [au,au,au],.gone,.bC dZ]⟩),(.ret,⟨[(4,.dm)],Jw⟩)]
def Qn (x:U Ip):Option (U Ip⊕bo aMV):=cond (bg x.1.2.2.2.2.2.1 (bf x.1.2.1)) ((a1 x.1.2.1 (x.1.2.2.2.2.2.1).1).bind λhY=>(Ig ((hY,()),())).bind λeO=>(Iq ((eO.1.1,x.1.2.2.2.2.1,()),())).bind λeY=>cond (f_ (W 0) eY.1.1) ((rW (((W 903),(bc (bf x.1.1) x.1.2.2.2.2.2.1),eY.1.1,()),())).bind λfe=>some (.inr (.inr (((),()),((fe.1.1.1,fe.1.1.2.1,fe.1.1.2.2.1,()),(),()))))) ((a1 x.1.2.1 (x.1.2.2.2.2.2.1).1).bind λqq=>(Pp ((qq,()),())).bind λiD=>(c6 40 x.1.2.2.2.1 (cD [iD.1.1])).bind λacK=>some (.inl ((x.1.1,x.1.2.1,(),acK,x.1.2.2.2.2.1,(bc x.1.2.2.2.2.2.1 (W 1)),()),(x.2.1,(),()))))) (some (.inr (.inl ((x.1.2.2.2.1,()),(x.2.1,(),(),())))))
def Qk (x:U amk):Option (U aMY):=(a2 Ql ((x.1.1,(),L.nil,(W 0),()),(((W 0),(W 0),(W 0),()),(),()))).bind λa9=>Sum.elim (λbJ=>(Qg ((x.1.1,x.1.2.1,()),())).bind λcl=>(a2 Qm ((x.1.1,(),cl.1.1,(W 0),()),(bJ.2.1,()))).bind λcy=>Sum.elim (λdX=>(a2 Qn ((x.1.1,x.1.2.1,(),bJ.1.1,cl.1.1,(W 0),()),(dX.2.1,(),()))).bind λlD=>Sum.elim (λnn=>some ((nn.1.1,((W 0),(W 0),(W 0),()),()),())) (λki=>some ((L.nil,(ki.2.1.1,ki.2.1.2.1,ki.2.1.2.2.1,()),()),())) lD) (λdy=>some ((L.nil,(dy.2.1.1,dy.2.1.2.1,dy.2.1.2.2.1,()),()),())) cy) (λbK=>some ((L.nil,(bK.2.1.1,bK.2.1.2.1,bK.2.1.2.2.1,()),()),())) a9
def alW:=aJ [(0,aC du),(1,au)]
def aLL:=aJ [(0,au)]
def HZ:=aJ [(0,aC du),(1,au),(5,au)]
def aLI:bG:=[((.exit 0),aJ [(1,au)]),fK [(4,au)]]
def P1 (x:U HZ):Option (U HZ⊕bo aLI):=cond (bg x.1.2.2.1 (bf x.1.1)) ((a1 x.1.1 (x.1.2.2.1).1).bind λaE=>cond (bg x.1.2.1 (bf aE.2.1)) (some (.inr (.inr ((x.1.2.2.1,()),())))) ((a1 x.1.1 (x.1.2.2.1).1).bind λaP=>some (.inl ((x.1.1,(gf x.1.2.1 (bf aP.2.1)),(bc x.1.2.2.1 (W 1)),()),())))) (some (.inr (.inl ((x.1.2.1,()),()))))
def P0 (x:U alW):Option (U aLL):=(a2 P1 ((x.1.1,x.1.2.1,(W 0),()),())).bind λaK=>Sum.elim (λaS=>some (((bc (bf x.1.1) aS.1.1),()),())) (λa9=>some ((a9.1.1,()),())) aK
def alO:=aJ [(0,.sJ ib [true,false,false]),(1,aZ),(2,au)]
def aLu:=aJ [(0,.sJ ib [true,false,false])]
def HV:aY:=⟨[(1,aZ),(3,b_),(7,au)],[.box [.dm,aC ck,aC bp]]⟩
def aLr:bG:=[((.exit 0),⟨[(7,au)],[.box [.dm,aC ck,aC bp]]⟩)]
def PW (x:U HV):Option (U HV⊕bo aLr):=
 cond (bg (W 0) x.1.2.2.1)
  ((a1 x.2.1.2.1 ((gf x.1.2.2.1 (W 1))).1).bind λaE=>
   cond (!(oA aE.1 x.1.1||cz aE.1 x.1.1))
    (some (.inl ((x.1.1,(),(gf x.1.2.2.1 (W 1)),()),(x.2.1,()))))
    (some (.inr ((x.1.2.2.1,()),(x.2.1,())))))
  (some (.inr ((x.1.2.2.1,()),(x.2.1,()))))
def PV (x:U alO):Option (U aLu):=(a2 PW ((x.1.2.1,(),(bf x.1.1.2.1),()),(((),x.1.1.2.1,x.1.1.2.2.1,()),()))).bind λaB=>(nM aB.2.1.2.1 0 (aB.1.1).1).bind λcH=>(c6 16 (L.nil:L (D [.str])) cH).bind λjj=>(c6 16 jj (cD [(x.1.2.1,())])).bind λgV=>(nM aB.2.1.2.2.1 0 (aB.1.1).1).bind λv6=>(c6 8 (L.nil:L (D [.int .i64])) v6).bind λiV=>(c6 8 iV (cD [(x.1.2.2.1,())])).bind λjK=>(nM aB.2.1.2.1 (aB.1.1).1 aB.2.1.2.1.1.length).bind λfi=>(c6 16 gV fi).bind λoz=>(nM aB.2.1.2.2.1 (aB.1.1).1 aB.2.1.2.2.1.1.length).bind λv11=>(c6 8 jK v11).bind λtH=>some (((L.nil,oz,tH,()),()),())
def al3:=aJ [(0,.agg ib),(1,aZ)]
def aL6:=aJ [(0,au),(1,bA)]
def H6 (x:U al3):Option (U aL6):=(uZ ((x.1.1.2.1,x.1.2.1,()),())).bind λaq=>cond (bg aq.1.1 (W 0)) (some (((W 0),false,()),())) (cond (f_ (bf x.1.1.2.2.1) aq.1.1) (some (((W 0),false,()),())) ((a1 x.1.1.2.2.1 (aq.1.1).1).bind λaP=>some ((aP.1,true,()),())))
def al9:=aJ [(0,.agg ib),(1,.agg g4)]
def aMd:=aJ [(0,.agg jb),(1,bA)]
def Cb (x:U al9):Option (U aMd):=cond (bb x.1.2.1.1 (W 5)) ((H6 ((x.1.1,x.1.2.1.2.1,()),())).bind λaq=>cond (!aq.1.2.1) (some ((((W 0),(W 0),()),false,()),())) (some ((((W 5),aq.1.1,()),true,()),()))) (cond (bg x.1.2.1.1 (W 0)) (some ((((W 0),(W 0),()),false,()),())) (cond (bg (W 5) x.1.2.1.1) (some ((((W 0),(W 0),()),false,()),())) (cond (!cz x.1.2.1.2.1 (S ⟨#[]⟩)) (some ((((W 0),(W 0),()),false,()),())) (some (((x.1.2.1.1,(W 0),()),true,()),())))))
def ak':=aJ [(0,aC du),(1,aC dZ)]
def aJz:=aJ [(0,.agg ib),(1,.agg s5)]
def Hv:aY:=⟨[(0,aC du),(4,b_),(5,.ptr 1 0),(7,aC dZ),(9,.ptr 2 0),(10,au),(11,au)],RJ⟩
def aJn:bG:=[((.exit 0),⟨[],RJ⟩),(.ret,⟨[],RJ⟩)]
def Pj (x:U Hv):Option (U Hv⊕bo aJn):=cond (bg x.1.2.2.2.2.2.2.1 (bf x.1.2.2.2.1)) ((a1 x.1.2.2.2.1 (x.1.2.2.2.2.2.2.1).1).bind λbS=>cond (bg (W 400) (bc x.1.2.2.2.2.2.1 (bf bS.2.1))) ((P0 ((x.1.1,x.1.2.2.2.2.2.2.1,()),())).bind λaS=>(rW (((W 904),aS.1.1,(W (-1)),()),())).bind λa9=>some (.inr (.inr ((),(((),(),(),()),(a9.1.1.1,a9.1.1.2.1,a9.1.1.2.2.1,()),x.2.2.2.1,()))))) ((a1 x.1.2.2.2.1 (x.1.2.2.2.2.2.2.1).1).bind λdb=>(PV (((L.nil,x.2.2.2.1.2.1,x.2.2.2.1.2.2.1,()),db.1,x.1.2.2.2.2.2.1,()),())).bind λbK=>(a1 x.1.2.2.2.1 (x.1.2.2.2.2.2.2.1).1).bind λdD=>some (.inl ((x.1.1,(),(),x.1.2.2.2.1,(),(bc x.1.2.2.2.2.2.1 (bf dD.2.1)),(bc x.1.2.2.2.2.2.2.1 (W 1)),()),(((),(),(),()),x.2.2.1,((),bK.1.1.2.1,bK.1.1.2.2.1,()),()))))) (some (.inr (.inl ((),(((),(),(),()),x.2.2.1,x.2.2.2.1,())))))
def Hy:aY:=⟨[(9,b_),(10,au),(14,.cJ fS 0),(15,.ptr 2 0),(16,au)],[.box [.tok jS 1 [],aC ck,aC bp],.bC jS,.box [au,aZ,.tok lF 3 []],.bC lF]⟩
def aJw:bG:=[((.exit 6),⟨[],[.box [.tok jS 4 [],aC ck,aC bp],.gone,.box [au,aZ,.tok lF 5 []],.gone,.bC jS,.bC lF]⟩)]
def Pm (x:U Hy):Option (U Hy⊕bo aJw):=cond (bg x.1.2.2.2.2.1 (bf x.1.2.2.1.2.2.1)) ((a1 x.1.2.2.1.2.2.1 (x.1.2.2.2.2.1).1).bind λjY=>(Cb (((x.2.1.1,x.2.1.2.1,x.2.1.2.2.1,()),(jY.2.1,jY.2.2.1,()),()),())).bind λeD=>(a1 x.1.2.2.1.2.2.1 (x.1.2.2.2.2.1).1).bind λk1=>(a1 x.1.2.2.1.2.2.1 (x.1.2.2.2.2.1).1).bind λk2=>(c6 40 x.2.2.2.1.2.2.1 (cD [(k1.1,eD.1.1.1,eD.1.1.2.1,(bc x.1.2.1 k2.2.2.2.1),())])).bind λacJ=>some (.inl (((),x.1.2.1,x.1.2.2.1,(),(bc x.1.2.2.2.2.1 (W 1)),()),(x.2.1,(),(x.2.2.2.1.1,x.2.2.2.1.2.1,acJ,()),(),())))) (some (.inr ((),(x.2.1,(),x.2.2.2.1,(),(),(),()))))
def Hx:aY:=⟨[(7,aC dZ),(9,b_),(10,au),(12,au),(13,au)],[.box [.tok jS 1 [],aC ck,aC bp],.bC jS]⟩
def aJt:bG:=[((.exit 4),⟨[],[.box [.tok jS 2 [],aC ck,aC bp],.gone,.bC jS]⟩)]
def Pl (x:U Hx):Option (U Hx⊕bo aJt):=(a1 x.1.1 (x.1.2.2.2.1).1).bind λiA=>cond (bg x.1.2.2.2.2.1 (bf iA.2.1)) ((a1 x.1.1 (x.1.2.2.2.1).1).bind λkk=>(a1 kk.2.1 (x.1.2.2.2.2.1).1).bind λiu=>(a2 Pm (((),x.1.2.2.1,iu,(),(W 0),()),(x.2.1,(),(iu.1,iu.2.1,L.nil,()),(),()))).bind λfM=>(c6 48 fM.2.1.1 (cD [(fM.2.2.2.1.1,fM.2.2.2.1.2.1,fM.2.2.2.1.2.2.1,())])).bind λxf=>some (.inl ((x.1.1,(),x.1.2.2.1,x.1.2.2.2.1,(bc x.1.2.2.2.2.1 (W 1)),()),((xf,fM.2.1.2.1,fM.2.1.2.2.1,()),(),())))) (some (.inr ((),(x.2.1,(),(),()))))
def Hw:aY:=⟨[(7,aC dZ),(9,b_),(10,au),(12,au)],[.box [.tok jS 1 [],aC ck,aC bp],.bC jS]⟩
def aJq:bG:=[((.exit 2),⟨[],[.box [.tok jS 2 [],aC ck,aC bp],.gone,.bC jS]⟩)]
def Pk (x:U Hw):Option (U Hw⊕bo aJq):=cond (bg x.1.2.2.2.1 (bf x.1.1)) ((a2 Pl ((x.1.1,(),x.1.2.2.1,x.1.2.2.2.1,(W 0),()),(x.2.1,(),()))).bind λfa=>(a1 x.1.1 (x.1.2.2.2.1).1).bind λm7=>some (.inl ((x.1.1,(),(bc x.1.2.2.1 (bf m7.2.1)),(bc x.1.2.2.2.1 (W 1)),()),(fa.2.1,(),())))) (some (.inr ((),(x.2.1,(),(),()))))
def Ph (x:U ak'):Option (U aJz):=(PJ ((x.1.1,x.1.2.1,()),())).bind λaq=>cond (!bb aq.1.1.1 (W 0)) (some (((L.nil,L.nil,L.nil,()),aq.1.1,()),())) ((Qk ((x.1.1,x.1.2.1,()),())).bind λaB=>cond (!bb aB.1.2.1.1 (W 0)) (some (((L.nil,L.nil,L.nil,()),aB.1.2.1,()),())) ((a2 Pj ((x.1.1,(),(),aB.1.1,(),(W 0),(W 0),()),(((),(),(),()),((W 0),(W 0),(W 0),()),((),L.nil,L.nil,()),()))).bind λbO=>Sum.elim (λcc=>(a2 Pk ((aB.1.1,(),(W 0),(W 0),()),((L.nil,cc.2.2.2.1.2.1,cc.2.2.2.1.2.2.1,()),(),()))).bind λnn=>some (((nn.2.1.1,nn.2.1.2.1,nn.2.1.2.2.1,()),((W 0),(W 0),(W 0),()),()),())) (λbT=>some (((L.nil,L.nil,L.nil,()),(bT.2.2.1.1,bT.2.2.1.2.1,bT.2.2.1.2.2.1,()),()),())) bO))
def al7:=aJ [(0,.agg jb),(1,au)]
def aMc:=aJ [(0,bA)]
def H8 (x:U al7):Option (U aMc):=cond (bb x.1.1.1 (W 5)) (cond (f_ (W 0) x.1.1.2.1) (some (((bg x.1.1.2.1 x.1.2.1),()),())) (some ((false,()),()))) (cond (f_ (W 0) x.1.1.1) (cond (bg x.1.1.1 (W 5)) (some (((bb x.1.1.2.1 (W 0)),()),())) (some ((false,()),()))) (some ((false,()),())))
def alU:=aJ [(0,.agg jS),(1,au)]
def aLF:=aJ [(0,bA)]
def Xs:=aJ [(2,.cJ jS 0)]
def alT:=[ju [],fK [(4,bA)]]
def Xr (x:U Xs):Option (bo alT):=cond (!bb x.1.1.1 (W 1)) (cond (!bb x.1.1.1 (W 2)) (some (.inr ((false,()),()))) ((k6 ((x.1.1.2.1,()),())).bind λaq=>cond (!aq.1.1) (some (.inr ((false,()),()))) (cond (bg (bf x.1.1.2.2.1) (W 1)) (some (.inr ((false,()),()))) (cond (bg (W 6) (bf x.1.1.2.2.1)) (some (.inr ((false,()),()))) (some (.inl ((),()))))))) ((k6 ((x.1.1.2.1,()),())).bind λaB=>cond (!aB.1.1) (some (.inr ((false,()),()))) (cond (bg (bf x.1.1.2.2.1) (W 1)) (some (.inr ((false,()),()))) (cond (bg (W 6) (bf x.1.1.2.2.1)) (some (.inr ((false,()),()))) (some (.inl ((),()))))))
def HY:=aJ [(1,au),(2,.cJ jS 0),(5,au)]
def aLC:bG:=[((.exit 0),aJ []),fK [(4,bA)]]
def PZ (x:U HY):Option (U HY⊕bo aLC):=cond (bg x.1.2.2.1 (bf x.1.2.1.2.2.1)) ((a1 x.1.2.1.2.2.1 (x.1.2.2.1).1).bind λdb=>(k6 ((db.1,()),())).bind λbK=>cond (!bK.1.1) (some (.inr (.inr ((false,()),())))) (cond (bg (W 0) x.1.2.2.1) ((a1 x.1.2.1.2.2.1 ((gf x.1.2.2.1 (W 1))).1).bind λdD=>cond (!oA dD.1 db.1) (some (.inr (.inr ((false,()),())))) (cond (bg db.2.2.2.1 (W 0)) (some (.inr (.inr ((false,()),())))) (cond (f_ x.1.1 db.2.2.2.1) (some (.inr (.inr ((false,()),())))) ((H8 (((db.2.1,db.2.2.1,()),x.1.1,()),())).bind λbO=>cond (!bO.1.1) (some (.inr (.inr ((false,()),())))) (some (.inl ((x.1.1,x.1.2.1,(bc x.1.2.2.1 (W 1)),()),()))))))) (cond (bg db.2.2.2.1 (W 0)) (some (.inr (.inr ((false,()),())))) (cond (f_ x.1.1 db.2.2.2.1) (some (.inr (.inr ((false,()),())))) ((H8 (((db.2.1,db.2.2.1,()),x.1.1,()),())).bind λcc=>cond (!cc.1.1) (some (.inr (.inr ((false,()),())))) (some (.inl ((x.1.1,x.1.2.1,(bc x.1.2.2.1 (W 1)),()),())))))))) (some (.inr (.inl ((),()))))
def PY (x:U alU):Option (U aLF):=cond (bb x.1.1.1 (W 0)) (cond (cz x.1.1.2.1 (S ⟨#[]⟩)) (some (((bb (bf x.1.1.2.2.1) (W 0)),()),())) (some ((false,()),()))) ((Xr ((x.1.1,()),())).bind λaK=>Sum.elim (λaS=>(a2 PZ ((x.1.2.1,x.1.1,(W 0),()),())).bind λbT=>Sum.elim (λcL=>some ((true,()),())) (λcy=>some ((cy.1.1,()),())) bT) (λa9=>some ((a9.1.1,()),())) aK)
def ak_:=aJ [(0,.agg ib)]
def aJl:=aJ [(0,bA)]
def Ht:=aJ [(1,.cJ ib 0),(3,au)]
def aJg:bG:=[((.exit 0),aJ []),fK [(2,bA)]]
def Pf (x:U Ht):Option (U Ht⊕bo aJg):=cond (bg x.1.2.1 (bf x.1.1.2.1)) (cond (bg (W 0) x.1.2.1) ((a1 x.1.1.2.1 ((gf x.1.2.1 (W 1))).1).bind λaE=>(a1 x.1.1.2.1 (x.1.2.1).1).bind λaP=>cond (!oA aE.1 aP.1) (some (.inr (.inr ((false,()),())))) ((a1 x.1.1.2.2.1 (x.1.2.1).1).bind λbS=>cond (bg bS.1 (W 0)) (some (.inr (.inr ((false,()),())))) ((a1 x.1.1.2.2.1 (x.1.2.1).1).bind λcR=>cond (f_ (bf x.1.1.1) cR.1) (some (.inr (.inr ((false,()),())))) (some (.inl ((x.1.1,(bc x.1.2.1 (W 1)),()),())))))) ((a1 x.1.1.2.2.1 (x.1.2.1).1).bind λdO=>cond (bg dO.1 (W 0)) (some (.inr (.inr ((false,()),())))) ((a1 x.1.1.2.2.1 (x.1.2.1).1).bind λdb=>cond (f_ (bf x.1.1.1) db.1) (some (.inr (.inr ((false,()),())))) (some (.inl ((x.1.1,(bc x.1.2.1 (W 1)),()),())))))) (some (.inr (.inl ((),()))))
def Hu:=aJ [(1,.cJ ib 0),(4,au)]
def aJj:bG:=[((.exit 2),aJ []),fK [(2,bA)]]
def Pg (x:U Hu):Option (U Hu⊕bo aJj):=cond (bg x.1.2.1 (bf x.1.1.1)) ((a1 x.1.1.1 (x.1.2.1).1).bind λd_=>(PY ((d_,(bf x.1.1.1),()),())).bind λbT=>cond (!bT.1.1) (some (.inr (.inr ((false,()),())))) (some (.inl ((x.1.1,(bc x.1.2.1 (W 1)),()),())))) (some (.inr (.inl ((),()))))
def B4 (x:U ak_):Option (U aJl):=cond (bg (W 400) (bf x.1.1.1)) (some ((false,()),())) (cond (!bb (bf x.1.1.2.1) (bf x.1.1.2.2.1)) (some ((false,()),())) ((a2 Pf ((x.1.1,(W 0),()),())).bind λbK=>Sum.elim (λcl=>(a2 Pg ((x.1.1,(W 0),()),())).bind λcL=>Sum.elim (λcy=>some ((true,()),())) (λdX=>some ((dX.1.1,()),())) cL) (λbO=>some ((bO.1.1,()),())) bK))
def alu:=aJ [(0,.agg ib),(1,.agg g4)]
def aKv:=aJ [(0,.agg jb),(1,bA)]
def B9 (x:U alu):Option (U aKv):=cond (bb x.1.2.1.1 (W 5)) ((B4 ((x.1.1,()),())).bind λaq=>cond (!aq.1.1) (some ((((W 0),(W 0),()),false,()),())) ((Cb ((x.1.1,x.1.2.1,()),())).bind λaB=>some ((aB.1.1,aB.1.2.1,()),()))) ((Cb ((x.1.1,x.1.2.1,()),())).bind λaK=>some ((aK.1.1,aK.1.2.1,()),()))
def alD:=aJ [(0,.agg jS),(1,aZ)]
def aKQ:=aJ [(0,au)]
def HO:=aJ [(1,aZ),(2,.cJ jS 0),(5,au)]
def aKN:bG:=[((.exit 0),aJ []),fK [(4,au)]]
def PG (x:U HO):Option (U HO⊕bo aKN):=cond (bg x.1.2.2.1 (bf x.1.2.1.2.2.1)) ((a1 x.1.2.1.2.2.1 (x.1.2.2.1).1).bind λaE=>cond (cz aE.1 x.1.1) (some (.inr (.inr ((x.1.2.2.1,()),())))) (some (.inl ((x.1.1,x.1.2.1,(bc x.1.2.2.1 (W 1)),()),())))) (some (.inr (.inl ((),()))))
def Ca (x:U alD):Option (U aKQ):=(a2 PG ((x.1.2.1,x.1.1,(W 0),()),())).bind λaB=>Sum.elim (λaK=>some (((W (-1)),()),())) (λaS=>some ((aS.1.1,()),())) aB
def alB:=aJ [(0,.agg ib),(1,au),(2,au)]
def aKK:=aJ [(0,aC jb),(1,bA)]
def Xm:aY:=⟨[(8,.cJ jS 0),(9,.cJ jS 0),(10,b_),(11,.ptr 1 0)],[.box [au,aZ,aC lF],.box [au,aZ,aC lF]]⟩
def alz:bG:=[(.normal,⟨[],[.box [au,aZ,aC lF],.box [au,aZ,aC lF]]⟩)]
def Xl (x:U Xm):Option (bo alz):=cond (bb x.1.1.1 (W 2)) (some ((),((x.1.1.1,x.1.1.2.1,x.1.1.2.2.1,()),(x.1.2.1.1,x.1.2.1.2.1,x.1.2.1.2.2.1,()),()))) (some ((),(x.2.1,x.2.2.1,())))
def Xo:aY:=⟨[(8,.cJ jS 0),(12,.tok jb 0 []),(14,.cJ lF 0),(15,.cJ lF 0)],[.bC jb]⟩
def alA:bG:=[(.normal,⟨[(12,.tok jb 1 [])],RR⟩)]
def Xn (x:U Xo):Option (bo alA):=cond (bb x.1.2.2.1.2.1 (W 5)) (cond (bb x.1.1.1 (W 1)) ((c6 16 x.1.2.1 (cD [(x.1.2.2.2.1.2.2.1,x.1.2.2.1.2.2.1,())])).bind λtH=>some ((tH,()),((),(),()))) (some ((x.1.2.1,()),((),(),())))) (some ((x.1.2.1,()),((),(),())))
def HN:aY:=⟨[(8,.cJ jS 0),(9,.cJ jS 0),(10,b_),(11,.ptr 1 0),(12,.tok jb 2 []),(13,au)],[.box [au,aZ,aC lF],.box [au,aZ,aC lF],.bC jb]⟩
def aKH:bG:=[((.exit 0),⟨[(12,.tok jb 3 [])],[.box [au,aZ,aC lF],.box [au,aZ,aC lF],.gone,.bC jb]⟩),(.ret,⟨[(6,.dm),(7,bA)],[.box [au,aZ,aC lF],.box [au,aZ,aC lF],.gone]⟩)]
def PF (x:U HN):Option (U HN⊕bo aKH):=cond (bg x.1.2.2.2.2.2.1 (bf x.2.1.2.2.1)) ((a1 x.2.1.2.2.1 (x.1.2.2.2.2.2.1).1).bind λcR=>(Ca (((x.2.2.1.1,x.2.2.1.2.1,x.2.2.1.2.2.1,()),cR.1,()),())).bind λa9=>cond (bg a9.1.1 (W 0)) (some (.inr (.inr (((),false,()),((x.2.1.1,x.2.1.2.1,x.2.1.2.2.1,()),x.2.2.1,(),()))))) ((a1 x.2.1.2.2.1 (x.1.2.2.2.2.2.1).1).bind λdb=>(Ca ((x.1.1,db.1,()),())).bind λbK=>(a1 x.1.1.2.2.1 (bK.1.1).1).bind λdD=>(a1 x.2.1.2.2.1 (x.1.2.2.2.2.2.1).1).bind λeV=>(Ca ((x.1.2.1,eV.1,()),())).bind λcc=>(a1 x.1.2.1.2.2.1 (cc.1.1).1).bind λgw=>cond (!bb dD.2.1 gw.2.1) (some (.inr (.inr (((),false,()),((x.2.1.1,x.2.1.2.1,x.2.1.2.2.1,()),x.2.2.1,(),()))))) ((Xn ((x.1.1,x.1.2.2.2.2.1,dD,gw,()),((),()))).bind λcy=>cond (bb dD.2.1 (W 5)) (cond (bb x.1.1.1 (W 2)) ((c6 16 cy.1.1 (cD [(dD.2.2.1,gw.2.2.1,())])).bind λtI=>(c6 16 tI (cD [(dD.2.2.2.1,gw.2.2.2.1,())])).bind λp4=>some (.inl ((x.1.1,x.1.2.1,(),(),p4,(bc x.1.2.2.2.2.2.1 (W 1)),()),((x.2.1.1,x.2.1.2.1,x.2.1.2.2.1,()),x.2.2.1,(),())))) ((c6 16 cy.1.1 (cD [(dD.2.2.2.1,gw.2.2.2.1,())])).bind λTC=>some (.inl ((x.1.1,x.1.2.1,(),(),TC,(bc x.1.2.2.2.2.2.1 (W 1)),()),((x.2.1.1,x.2.1.2.1,x.2.1.2.2.1,()),x.2.2.1,(),()))))) ((c6 16 cy.1.1 (cD [(dD.2.2.2.1,gw.2.2.2.1,())])).bind λTD=>some (.inl ((x.1.1,x.1.2.1,(),(),TD,(bc x.1.2.2.2.2.2.1 (W 1)),()),((x.2.1.1,x.2.1.2.1,x.2.1.2.2.1,()),x.2.2.1,(),()))))))) (some (.inr (.inl ((x.1.2.2.2.2.1,()),((x.2.1.1,x.2.1.2.1,x.2.1.2.2.1,()),x.2.2.1,(),(),())))))
def PE (x:U alB):Option (U aKK):=(a1 x.1.1.1 (x.1.2.1).1).bind λaE=>(a1 x.1.1.1 (x.1.2.2.1).1).bind λaP=>cond (!bb aE.1 aP.1) (some ((L.nil,false,()),())) (cond (!cz aE.2.1 aP.2.1) (some ((L.nil,false,()),())) ((Xl ((aE,aP,(),(),()),((aP.1,aP.2.1,aP.2.2.1,()),(aE.1,aE.2.1,aE.2.2.1,()),()))).bind λaK=>(a2 PF ((aE,aP,(),(),L.nil,(W 0),()),(aK.2.1,aK.2.2.1,(),()))).bind λeY=>Sum.elim (λfe=>some ((fe.1.1,true,()),())) (λfM=>some ((L.nil,fM.1.2.1,()),())) eY))
def alJ:=aJ [(0,aC jb),(1,.agg jb)]
def aLf:=aJ [(0,bA)]
def HT:=aJ [(0,aC jb),(3,.cJ jb 0),(5,au)]
def aLc:bG:=[((.exit 0),aJ []),fK [(4,bA)]]
def PR (x:U HT):Option (U HT⊕bo aLc):=cond (bg x.1.2.2.1 (bf x.1.1)) ((a1 x.1.1 (x.1.2.2.1).1).bind λaE=>cond ((bb aE.1 x.1.2.1.1)&&((bb aE.2.1 x.1.2.1.2.1)&&true)) (some (.inr (.inr ((true,()),())))) (some (.inl ((x.1.1,x.1.2.1,(bc x.1.2.2.1 (W 1)),()),())))) (some (.inr (.inl ((),()))))
def PQ (x:U alJ):Option (U aLf):=(a2 PR ((x.1.1,x.1.2.1,(W 0),()),())).bind λaB=>Sum.elim (λaK=>some ((false,()),())) (λaS=>some ((aS.1.1,()),())) aB
def ali:=aJ [(0,.agg ib),(1,au),(2,au)]
def aJW:=aJ [(0,aC jb),(1,bA)]
def HE:aY:=⟨[(8,.tok jb 0 []),(10,aC jb),(12,au)],[.bC jb]⟩
def aJT:bG:=[((.exit 2),⟨[(8,.tok jb 1 [])],RR⟩)]
def Pt (x:U HE):Option (U HE⊕bo aJT):=cond (bg x.1.2.2.1 (bf x.1.2.1)) ((a1 x.1.2.1 (x.1.2.2.1).1).bind λdO=>(PQ ((x.1.1,dO,()),())).bind λbJ=>cond (!bJ.1.1) ((a1 x.1.2.1 (x.1.2.2.1).1).bind λfm=>(c6 16 x.1.1 (cD [fm])).bind λjK=>some (.inl ((jK,x.1.2.1,(bc x.1.2.2.1 (W 1)),()),((),())))) (some (.inl ((x.1.1,x.1.2.1,(bc x.1.2.2.1 (W 1)),()),((),()))))) (some (.inr ((x.1.1,()),((),(),()))))
def HD:aY:=⟨[(3,.cJ ib 0),(8,.tok jb 0 []),(9,au)],[.bC jb]⟩
def aJQ:bG:=[((.exit 0),⟨[(8,.tok jb 1 [])],RR⟩),(.ret,⟨[(6,.dm),(7,bA)],[.gone]⟩)]
def Ps (x:U HD):Option (U HD⊕bo aJQ):=cond (bg x.1.2.2.1 (bf x.1.2.1)) ((a1 x.1.2.1 (x.1.2.2.1).1).bind λaP=>(a1 x.1.2.1 (x.1.2.2.1).1).bind λbS=>(PE ((x.1.1,aP.1,bS.2.1,()),())).bind λaS=>cond (!aS.1.2.1) (some (.inr (.inr (((),false,()),((),()))))) ((a2 Pt ((x.1.2.1,aS.1.1,(W 0),()),((),()))).bind λbO=>some (.inl ((x.1.1,bO.1.1,(bc x.1.2.2.1 (W 1)),()),((),()))))) (some (.inr (.inl ((x.1.2.1,()),((),(),())))))
def Pr (x:U ali):Option (U aJW):=(B4 ((x.1.1,()),())).bind λaq=>cond (!aq.1.1) (some ((L.nil,false,()),())) (cond (bg x.1.2.1 (W 0)) (some ((L.nil,false,()),())) (cond (f_ (bf x.1.1.1) x.1.2.1) (some ((L.nil,false,()),())) (cond (bg x.1.2.2.1 (W 0)) (some ((L.nil,false,()),())) (cond (f_ (bf x.1.1.1) x.1.2.2.1) (some ((L.nil,false,()),())) ((a2 Ps ((x.1.1,(cD [(x.1.2.1,x.1.2.2.1,())]),(W 0),()),((),()))).bind λcc=>Sum.elim (λbT=>some ((bT.1.1,true,()),())) (λcL=>some ((L.nil,cL.1.2.1,()),())) cc)))))
def aly:=aJ [(0,.agg ib),(1,au),(2,au)]
def aKD:=aJ [(0,bA)]
def B_ (x:U aly):Option (U aKD):=(Pr ((x.1.1,x.1.2.1,x.1.2.2.1,()),())).bind λaq=>some ((aq.1.2.1,()),())
def alo:=aJ [(0,.agg ib),(1,aZ)]
def aKb:=aJ [(0,au),(1,bA)]
def HI (x:U alo):Option (U aKb):=(B4 ((x.1.1,()),())).bind λaq=>cond (!aq.1.1) (some (((W 0),false,()),())) ((H6 ((x.1.1,x.1.2.1,()),())).bind λaB=>some ((aB.1.1,aB.1.2.1,()),()))
def aKl:=aJ [(0,aC ck),(1,aC ck)]
def aKn:=aJ [(0,bA)]
def Xe:=aJ [(0,aC ck),(1,aC ck),(5,au)]
def aKk:bG:=[((.exit 0),aJ []),fK [(4,bA)]]
def B7 (x:U Xe):Option (U Xe⊕bo aKk):=cond (bg x.1.2.2.1 (bf x.1.1)) ((a1 x.1.1 (x.1.2.2.1).1).bind λaE=>(a1 x.1.2.1 (x.1.2.2.1).1).bind λaP=>cond (!cz aE.1 aP.1) (some (.inr (.inr ((false,()),())))) (some (.inl ((x.1.1,x.1.2.1,(bc x.1.2.2.1 (W 1)),()),())))) (some (.inr (.inl ((),()))))
def PA (x:U aKl):Option (U aKn):=cond (!bb (bf x.1.1) (bf x.1.2.1)) (some ((false,()),())) ((a2 B7 ((x.1.1,x.1.2.1,(W 0),()),())).bind λaK=>Sum.elim (λaS=>some ((true,()),())) (λa9=>some ((a9.1.1,()),())) aK)
def aKf:=aJ [(0,aC dN),(1,aC dN)]
def aKg:=aJ [(0,bA)]
def Xd:=aJ [(0,aC dN),(1,aC dN),(5,au)]
def aKe:bG:=[((.exit 0),aJ []),fK [(4,bA)]]
def B6 (x:U Xd):Option (U Xd⊕bo aKe):=cond (bg x.1.2.2.1 (bf x.1.1)) ((a1 x.1.1 (x.1.2.2.1).1).bind λaE=>(a1 x.1.2.1 (x.1.2.2.1).1).bind λaP=>cond (!((cz aE.1 aP.1)&&((bb aE.2.1 aP.2.1)&&((cz aE.2.2.1 aP.2.2.1)&&((bb aE.2.2.2.1 aP.2.2.2.1)&&true))))) (some (.inr (.inr ((false,()),())))) (some (.inl ((x.1.1,x.1.2.1,(bc x.1.2.2.1 (W 1)),()),())))) (some (.inr (.inl ((),()))))
def HJ (x:U aKf):Option (U aKg):=cond (!bb (bf x.1.1) (bf x.1.2.1)) (some ((false,()),())) ((a2 B6 ((x.1.1,x.1.2.1,(W 0),()),())).bind λaK=>Sum.elim (λaS=>some ((true,()),())) (λa9=>some ((a9.1.1,()),())) aK)
def aKs:=aJ [(0,aC fS),(1,aC fS)]
def aKu:=aJ [(0,bA)]
def Xf:=aJ [(0,aC fS),(1,aC fS),(5,au)]
def aKr:bG:=[((.exit 0),aJ []),fK [(4,bA)]]
def B8 (x:U Xf):Option (U Xf⊕bo aKr):=cond (bg x.1.2.2.1 (bf x.1.1)) ((a1 x.1.1 (x.1.2.2.1).1).bind λaE=>(a1 x.1.2.1 (x.1.2.2.1).1).bind λaP=>cond (!bb aE.1 aP.1) (some (.inr (.inr ((false,()),())))) ((a1 x.1.1 (x.1.2.2.1).1).bind λbS=>(a1 x.1.2.1 (x.1.2.2.1).1).bind λcR=>cond (!cz bS.2.1 cR.2.1) (some (.inr (.inr ((false,()),())))) ((a1 x.1.1 (x.1.2.2.1).1).bind λdO=>(a1 x.1.2.1 (x.1.2.2.1).1).bind λdb=>(HJ ((dO.2.2.1,db.2.2.1,()),())).bind λbK=>cond (!bK.1.1) (some (.inr (.inr ((false,()),())))) (some (.inl ((x.1.1,x.1.2.1,(bc x.1.2.2.1 (W 1)),()),())))))) (some (.inr (.inl ((),()))))
def PB (x:U aKs):Option (U aKu):=cond (!bb (bf x.1.1) (bf x.1.2.1)) (some ((false,()),())) ((a2 B8 ((x.1.1,x.1.2.1,(W 0),()),())).bind λcl=>Sum.elim (λbO=>some ((true,()),())) (λcc=>some ((cc.1.1,()),())) cl)
noncomputable def ami:de:=⟨.nil,[aH sM]⟩
theorem aMw:bV 239 0 Qf:=b5 ami [] []
theorem aMz:bt 239 Qe:=bF ami [bW aMw] []
theorem alb:bt 198 HA:=bF ⟨(put .nil 1 .bY),[aH aMz]⟩ [] []
noncomputable def W3:de:=⟨.nil,[aH sM,aH alb]⟩
theorem aJb:bV 161 1 Pe:=b5 W3 [] []
theorem aI_:bV 161 0 Pd:=b5 W3 [bW aJb] []
theorem ak9:bt 161 B3:=bF W3 [bW aI_] []
noncomputable def Xc:de:=⟨(put (put .nil 1 .bY) 5 .bY),[aH v_,aH sM,aH aiV,aH ak9]⟩
theorem aJZ:bV 110 0 Pu:=b5 Xc [] []
theorem aJ2:bV 110 1 Pv:=b5 Xc [] [.c 11 Xb alj]
theorem Pw:bt 110 zE:=bF Xc [bW aJZ,bW aJ2] []
theorem amo:bt 240 It:=bF ⟨(put .nil 2 .bY),[]⟩ [] []
noncomputable def Ie:de:=⟨(put (put (put .nil 3 .bY) 11 .bY) 18 (.arr [false])),[aH amo]⟩
theorem aMf:bV 199 0 P_:=b5 Ie [] [.c 9 Xw al']
theorem aMl:bV 199 2 Qb:=b5 Ie [] []
theorem aMi:bV 199 1 Qa:=b5 Ie [bW aMl] []
theorem aMo:bV 199 3 Qc:=b5 Ie [] []
theorem amb:bt 199 H9:=bF Ie [bW aMf,bW aMi,bW aMo] []
noncomputable def alR:de:=⟨(put .nil 3 .bY),[aH amo]⟩
theorem aLw:bV 200 0 PX:=b5 alR [] []
theorem alQ:bt 200 HW:=bF alR [bW aLw] []
theorem aLh:bt 201 PS:=bF ⟨(put .nil 3 .bY),[aH amb,aH alQ]⟩ [] []
theorem aL7:bV 202 0 P9:=b5 fl [] []
theorem aL_:bt 202 P8:=bF fl [bW aL7] []
noncomputable def Xy:de:=⟨.nil,[aH amb,aH alQ,aH aLh,aH aL_]⟩
theorem aNu:bV 162 0 Qz:=b5 Xy [] []
theorem aNx:bV 162 1 QA:=b5 Xy [] []
theorem amx:bt 162 IA:=bF Xy [bW aNu,bW aNx] []
noncomputable def amu:de:=⟨(put .nil 10 .bY),[]⟩
theorem aNc:bV 203 0 Qt:=b5 amu [] []
theorem aNf:bt 203 Qs:=bF amu [bW aNc] []
noncomputable def Qy:de:=⟨.nil,[aH VL]⟩
theorem aNl:bV 204 1 Qw:=b5 Qy [] []
theorem aNi:bV 204 0 Qv:=b5 Qy [bW aNl] []
theorem aNo:bV 204 2 Qx:=b5 Qy [] []
theorem aNr:bt 204 Qu:=bF Qy [bW aNi,bW aNo] []
theorem aKS:bV 241 0 PI:=b5 fl [] []
theorem aKV:bt 241 PH:=bF fl [bW aKS] []
noncomputable def amr:de:=⟨.nil,[aH aKV]⟩
theorem aM9:bV 205 0 Qr:=b5 amr [] []
theorem aNa:bt 205 Iu:=bF amr [bW aM9] []
noncomputable def XB:de:=⟨(put (put .nil 12 .bY) 17 .bY),[aH amx,aH aNf,aH aNr,aH aNa]⟩
theorem aNC:bV 163 0 QC:=b5 XB [] []
theorem aNF:bV 163 1 QD:=b5 XB [] []
theorem aNI:bt 163 QB:=bF XB [bW aNC,bW aNF] [.c 23 XA amz]
noncomputable def aln:de:=⟨(put (put .nil 2 .bY) 11 .bY),[aH v_,aH Pw,aH amx,aH aNI]⟩
theorem aJ6:bV 111 0 Pz:=b5 aln [] []
theorem aJ9:bt 111 Py:=bF aln [bW aJ6] []
noncomputable def ak7:de:=⟨(put (put .nil 1 .bY) 7 .bY),[aH Pw,aH aJ9]⟩
theorem aI6:bV 54 0 Pc:=b5 ak7 [] []
theorem W1:bt 54 B2:=bF ak7 [bW aI6] []
noncomputable def ale:de:=⟨(put (put .nil 1 .bY) 4 .bY),[aH sM,aH ak9]⟩
theorem aJC:bV 175 0 Pn:=b5 ale [] []
theorem W8:bt 175 B5:=bF ale [bW aJC] []
theorem Xq:bt 182 rW:=bF fl [] []
noncomputable def PN:de:=⟨.nil,[aH v_,aH Pw,aH sM,aH W8,aH Xq]⟩
theorem aKY:bV 180 0 PK:=b5 PN [] []
theorem aK1:bV 180 1 PL:=b5 PN [] []
theorem aK4:bV 180 2 PM:=b5 PN [] []
theorem aK7:bt 180 PJ:=bF PN [bW aKY,bW aK1,bW aK4] []
theorem aMF:bV 221 1 Qi:=b5 fl [] []
theorem aMC:bV 221 0 Qh:=b5 fl [bW aMF] []
theorem aMI:bV 221 2 Qj:=b5 fl [] []
theorem aML:bt 221 Qg:=bF fl [bW aMC,bW aMI] []
noncomputable def al1:de:=⟨(put .nil 1 .bY),[]⟩
theorem aLR:bV 223 0 P4:=b5 al1 [] []
theorem aLU:bt 223 P3:=bF al1 [bW aLR] []
noncomputable def Xx:de:=⟨(put .nil 7 .bY),[aH v_]⟩
theorem aM3:bV 222 1 Qq:=b5 Xx [] []
theorem aM0:bV 222 0 Qp:=b5 Xx [bW aM3] []
theorem aM6:bt 222 Iq:=bF Xx [bW aM0] []
noncomputable def amf:de:=⟨(put .nil 1 .bY),[]⟩
theorem aMs:bV 224 0 Qd:=b5 amf [] []
theorem ame:bt 224 Ig:=bF amf [bW aMs] []
noncomputable def Xi:de:=⟨(put (put (put .nil 36 (.arr oo)) 43 (.arr oo)) 48 (.arr oo)),[]⟩
theorem aKz:bV 260 1 PD:=b5 Xi [] []
theorem aKw:bV 260 0 PC:=b5 Xi [bW aKz] []
theorem alw:bt 260 HK:=bF Xi [bW aKw] []
theorem aLN:bV 261 0 P2:=b5 fl [] []
theorem alY:bt 261 H0:=bF fl [bW aLN] []
theorem aK_:bt 265 PO:=bF ⟨.nil,[aH alY]⟩ [] []
noncomputable def Xt:de:=⟨(put .nil 7 .tok),[aH alw,aH aK_]⟩
theorem aL0:bV 259 1 P7:=b5 Xt [] []
theorem aLX:bV 259 0 P6:=b5 Xt [bW aL0] []
theorem aL3:bt 259 P5:=bF Xt [bW aLX] []
theorem aJG:bt 246 Po:=bF ⟨(put .nil 1 .bY),[aH W8,aH ame,aH aL3]⟩ [] []
noncomputable def alN:de:=⟨.nil,[aH alw,aH alY]⟩
theorem aLk:bV 247 0 PU:=b5 alN [] []
theorem aLn:bt 247 PT:=bF alN [bW aLk] []
noncomputable def alh:de:=⟨(put (put .nil 1 .bY) 6 .bY),[aH aJG,aH aLn]⟩
theorem aJJ:bV 225 0 Pq:=b5 alh [] []
theorem aJM:bt 225 Pp:=bF alh [bW aJJ] []
noncomputable def Qo:de:=⟨.nil,[aH W1,aH Xq,aH aML,aH aM6,aH aLU,aH ame,aH aJM]⟩
theorem aMO:bV 181 0 Ql:=b5 Qo [] []
theorem aMR:bV 181 1 Qm:=b5 Qo [] []
theorem aMU:bV 181 2 Qn:=b5 Qo [] []
theorem aMX:bt 181 Qk:=bF Qo [bW aMO,bW aMR,bW aMU] []
theorem aLH:bV 183 0 P1:=b5 fl [] []
theorem aLK:bt 183 P0:=bF fl [bW aLH] []
theorem aLq:bV 184 0 PW:=b5 fl [] []
theorem aLt:bt 184 PV:=bF fl [bW aLq] []
theorem al4:bt 226 H6:=bF ⟨(put .nil 2 .bY),[aH GH]⟩ [] []
theorem al_:bt 185 Cb:=bF ⟨(put (put .nil 2 .bY) 3 .bY),[aH al4]⟩ [] []
noncomputable def Hz:de:=⟨(put (put (put (put .nil 6 .bY) 8 .bY) 14 .bY) 17 .bY),[aH aK7,aH aMX,aH Xq,aH aLK,aH aLt,aH al_]⟩
theorem aJm:bV 145 0 Pj:=b5 Hz [] []
theorem aJv:bV 145 3 Pm:=b5 Hz [] []
theorem aJs:bV 145 2 Pl:=b5 Hz [bW aJv] []
theorem aJp:bV 145 1 Pk:=b5 Hz [bW aJs] []
theorem aJy:bt 145 Ph:=bF Hz [bW aJm,bW aJp] []
theorem aMb:bt 262 H8:=bF ⟨(put .nil 2 .bY),[]⟩ [] []
noncomputable def alV:de:=⟨(put (put .nil 2 .bY) 6 .bY),[aH sM,aH aMb]⟩
theorem aLB:bV 248 0 PZ:=b5 alV [] []
theorem aLE:bt 248 PY:=bF alV [bW aLB] [.c 11 Xs alT]
noncomputable def W6:de:=⟨(put .nil 1 .bY),[aH aLE]⟩
theorem aJf:bV 227 0 Pf:=b5 W6 [] []
theorem aJi:bV 227 1 Pg:=b5 W6 [] []
theorem W5:bt 227 B4:=bF W6 [bW aJf,bW aJi] []
theorem Xg:bt 186 B9:=bF ⟨(put (put .nil 2 .bY) 3 .bY),[aH al_,aH W5]⟩ [] []
noncomputable def alE:de:=⟨(put .nil 2 .bY),[]⟩
theorem aKM:bV 272 0 PG:=b5 alE [] []
theorem aKP:bt 272 Ca:=bF alE [bW aKM] []
noncomputable def alC:de:=⟨(put (put (put (put (put .nil 3 .bY) 8 .bY) 9 .bY) 14 .bY) 15 .bY),[aH aKP]⟩
theorem aKG:bV 268 0 PF:=b5 alC [] [.c 27 Xo alA]
theorem aKJ:bt 268 PE:=bF alC [bW aKG] [.c 15 Xm alz]
noncomputable def alK:de:=⟨(put .nil 3 .bY),[]⟩
theorem aLb:bV 269 0 PR:=b5 alK [] []
theorem aLe:bt 269 PQ:=bF alK [bW aLb] []
noncomputable def W_:de:=⟨(put (put .nil 3 .bY) 41 .tok),[aH W5,aH aKJ,aH aLe]⟩
theorem aJS:bV 264 1 Pt:=b5 W_ [] []
theorem aJP:bV 264 0 Ps:=b5 W_ [bW aJS] []
theorem aJV:bt 264 Pr:=bF W_ [bW aJP] []
theorem Xj:bt 254 B_:=bF ⟨(put .nil 3 .bY),[aH aJV]⟩ [] []
theorem aKa:bt 255 HI:=bF ⟨(put .nil 2 .bY),[aH al4,aH W5]⟩ [] []
theorem aKj:bV 91 0 B7:=b5 fl [] []
theorem aKm:bt 91 PA:=bF fl [bW aKj] []
theorem aKd:bV 92 0 B6:=b5 fl [] []
theorem alr:bt 92 HJ:=bF fl [bW aKd] []
noncomputable def als:de:=⟨.nil,[aH alr]⟩
theorem aKq:bV 93 0 B8:=b5 als [] []
theorem aKt:bt 93 PB:=bF als [bW aKq] []
def ah0:=aJ [(0,au),(1,au),(2,au)]
def aA_:=aJ [(0,.agg s5)]
def nj (x:U ah0):Option (U aA_):=some (((x.1.1,x.1.2.1,x.1.2.2.1,()),()),())
def ah9:=aJ [(0,.agg fx)]
def aBo:=aJ [(0,bA)]
def F5:=aJ [(1,.cJ fx 0),(3,au)]
def aBl:bG:=[((.exit 0),aJ []),fK [(2,bA)]]
def Nk (x:U F5):Option (U F5⊕bo aBl):=cond (bg x.1.2.1 (bf x.1.1.2.1)) ((a1 x.1.1.2.1 (x.1.2.1).1).bind λaP=>(k6 ((aP.1,()),())).bind λaK=>cond (!aK.1.1) (some (.inr (.inr ((false,()),())))) ((a1 x.1.1.2.1 (x.1.2.1).1).bind λcR=>(HA (((cR.2.1,cR.2.2.1,()),()),())).bind λa9=>cond (!a9.1.1) (some (.inr (.inr ((false,()),())))) (some (.inl ((x.1.1,(bc x.1.2.1 (W 1)),()),()))))) (some (.inr (.inl ((),()))))
def Nj (x:U ah9):Option (U aBo):=(k6 ((x.1.1.1,()),())).bind λaq=>cond (!aq.1.1) (some ((false,()),())) (cond (bg (W 6) (bf x.1.1.2.1)) (some ((false,()),())) (cond (bg (bf x.1.1.2.2.2.1) (W 1)) (some ((false,()),())) (cond (bg (W 80) (bf x.1.1.2.2.2.1)) (some ((false,()),())) (cond (bg (W 160) (bf x.1.1.2.2.1)) (some ((false,()),())) ((a2 Nk ((x.1.1,(W 0),()),())).bind λbJ=>Sum.elim (λbK=>some ((true,()),())) (λcl=>some ((cl.1.1,()),())) bJ)))))
def ahh:=aJ [(0,.agg hP),(1,aZ)]
def azR:=aJ [(0,au)]
def FF:=aJ [(1,aZ),(2,.cJ hP 0),(5,au)]
def azP:bG:=[((.exit 0),aJ []),fK [(4,au)]]
def MX (x:U FF):Option (U FF⊕bo azP):=cond (bg x.1.2.2.1 (bf x.1.2.1.2.2.1)) ((a1 x.1.2.1.2.2.1 (x.1.2.2.1).1).bind λaE=>cond (cz aE.1 x.1.1) (some (.inr (.inr ((x.1.2.2.1,()),())))) (some (.inl ((x.1.1,x.1.2.1,(bc x.1.2.2.1 (W 1)),()),())))) (some (.inr (.inl ((),()))))
def v7 (x:U ahh):Option (U azR):=(a2 MX ((x.1.2.1,x.1.1,(W 0),()),())).bind λaB=>Sum.elim (λaK=>some (((W (-1)),()),())) (λaS=>some ((aS.1.1,()),())) aB
def aiB:=aJ [(0,.agg fx)]
def aC7:=aJ [(0,bA)]
def Gr:=aJ [(1,.cJ fx 0),(3,au),(4,au)]
def aC4:bG:=[((.exit 2),aJ []),fK [(2,bA)]]
def NV (x:U Gr):Option (U Gr⊕bo aC4):=cond (bg x.1.2.2.1 x.1.2.1) ((a1 x.1.1.2.1 (x.1.2.2.1).1).bind λaE=>(a1 x.1.1.2.1 (x.1.2.1).1).bind λaP=>cond (cz aE.1 aP.1) (some (.inr (.inr ((true,()),())))) (some (.inl ((x.1.1,x.1.2.1,(bc x.1.2.2.1 (W 1)),()),())))) (some (.inr (.inl ((),()))))
def Gq:=aJ [(1,.cJ fx 0),(3,au)]
def aC1:bG:=[((.exit 0),aJ []),fK [(2,bA)]]
def NU (x:U Gq):Option (U Gq⊕bo aC1):=cond (bg x.1.2.1 (bf x.1.1.2.1)) ((a2 NV ((x.1.1,x.1.2.1,(W 0),()),())).bind λaK=>Sum.elim (λaS=>some (.inl ((x.1.1,(bc x.1.2.1 (W 1)),()),()))) (λa9=>some (.inr (.inr ((a9.1.1,()),())))) aK) (some (.inr (.inl ((),()))))
def NT (x:U aiB):Option (U aC7):=(a2 NU ((x.1.1,(W 0),()),())).bind λbJ=>Sum.elim (λbK=>some ((false,()),())) (λcl=>some ((cl.1.1,()),())) bJ
def ahX:=aJ [(0,au)]
def aA9:=aJ [(0,bA)]
def F0 (x:U ahX):Option (U aA9):=cond (bb x.1.1 (W 0)) (cond (bb x.1.1 (W 0)) (some ((true,()),())) (some ((false,()),()))) (cond (bb x.1.1 (W 3)) (cond (bb x.1.1 (W 3)) (some ((true,()),())) (some ((false,()),()))) (cond (bb x.1.1 (W 5)) (cond (bb x.1.1 (W 5)) (some ((true,()),())) (some ((false,()),()))) (cond (bb x.1.1 (W 6)) (cond (bb x.1.1 (W 6)) (some ((true,()),())) (some ((false,()),()))) (cond (bb x.1.1 (W 10)) (some ((true,()),())) (some ((false,()),()))))))
def ahj:=aJ [(0,.agg cU)]
def azV:=aJ [(0,aC bp)]
def FI:aY:=⟨[(1,.cJ cU 0),(3,.tok bp 0 []),(4,au)],[.bC bp]⟩
def azT:bG:=[((.exit 0),⟨[(3,.tok bp 1 [])],[.gone,.bC bp]⟩)]
def MY (x:U FI):Option (U FI⊕bo azT):=cond (bg x.1.2.2.1 (bf x.1.1.2.2.2.2.2.2.2.2.1)) ((a1 x.1.1.2.2.2.2.2.2.2.2.1 (x.1.2.2.1).1).bind λaE=>(c6 8 x.1.2.1 (cD [(aE.2.2.1,())])).bind λea=>some (.inl ((x.1.1,ea,(bc x.1.2.2.1 (W 1)),()),((),())))) (some (.inr ((x.1.2.1,()),((),(),()))))
def v8 (x:U ahj):Option (U azV):=(a2 MY ((x.1.1,L.nil,(W 0),()),((),()))).bind λaK=>(F0 ((x.1.1.1,()),())).bind λaS=>cond (!aS.1.1) ((c6 8 aK.1.1 (cD [(x.1.1.2.2.2.2.2.2.2.2.2.1,())])).bind λgV=>some ((gV,()),())) (some ((aK.1.1,()),()))
def aih:=aJ [(0,.agg fx)]
def aB2:=aJ [(0,aC bp)]
def Gb:aY:=⟨[(3,.arr 0 bp [false]),(4,au)],[.arr bp [false]]⟩
def aBU:bG:=[((.exit 0),⟨[],[.arr bp [false]]⟩)]
def Nu (x:U Gb):Option (U Gb⊕bo aBU):=cond (bg x.1.2.1 (W (x.2.1.1.length:Nat))) (cond (decide (0<=(x.1.2.1).1)&&decide ((x.1.2.1).1<(x.2.1.1.length:Nat))) ((fq x.2.1 ((x.1.2.1).1).toNat).bind λaP=>some (.inl (((),(bc x.1.2.1 (W 1)),()),((ej x.2.1 ((x.1.2.1).1).toNat ((W (-2)),())),())))) (none)) (some (.inr ((),(x.2.1,()))))
def Gd:aY:=⟨[(3,.arr 0 bp [false]),(5,.arr 1 bp [false]),(6,au),(7,aC bp),(8,au)],Ju⟩
def aB0:bG:=[((.exit 4),⟨[],Ju⟩)]
def Nw (x:U Gd):Option (U Gd⊕bo aB0):=cond (bg x.1.2.2.2.2.1 (bf x.1.2.2.2.1)) ((a1 x.1.2.2.2.1 (x.1.2.2.2.2.1).1).bind λdD=>cond (f_ dD.1 x.1.2.2.1) (some (.inl (((),(),x.1.2.2.1,x.1.2.2.2.1,(bc x.1.2.2.2.2.1 (W 1)),()),(x.2.1,x.2.2.1,())))) ((a1 x.1.2.2.2.1 (x.1.2.2.2.2.1).1).bind λeV=>cond (f_ (W (x.2.1.1.length:Nat)) eV.1) (some (.inl (((),(),x.1.2.2.1,x.1.2.2.2.1,(bc x.1.2.2.2.2.1 (W 1)),()),(x.2.1,x.2.2.1,())))) ((a1 x.1.2.2.2.1 (x.1.2.2.2.2.1).1).bind λd_=>cond (decide (0<=(d_.1).1)&&decide ((d_.1).1<(x.2.2.1.1.length:Nat))) ((fq x.2.2.1 ((d_.1).1).toNat).bind λgw=>cond (decide (0<=(d_.1).1)&&decide ((d_.1).1<(x.2.2.1.1.length:Nat))) ((fq x.2.2.1 ((d_.1).1).toNat).bind λiA=>(a1 x.1.2.2.2.1 (x.1.2.2.2.2.1).1).bind λkk=>cond (decide (0<=(kk.1).1)&&decide ((kk.1).1<(x.2.1.1.length:Nat))) ((fq x.2.1 ((kk.1).1).toNat).bind λiu=>(a1 x.1.2.2.2.1 (x.1.2.2.2.2.1).1).bind λjY=>cond (decide (0<=(jY.1).1)&&decide ((jY.1).1<(x.2.2.1.1.length:Nat))) ((fq (ej x.2.2.1 ((d_.1).1).toNat ((bc gw.1 (W 1)),())) ((jY.1).1).toNat).bind λhY=>cond (bg (W 1) hY.1) ((a1 x.1.2.2.2.1 (x.1.2.2.2.2.1).1).bind λk1=>cond (decide (0<=(k1.1).1)&&decide ((k1.1).1<(x.2.1.1.length:Nat))) ((fq (ej x.2.1 ((kk.1).1).toNat (x.1.2.2.1,())) ((k1.1).1).toNat).bind λk2=>some (.inl (((),(),x.1.2.2.1,x.1.2.2.2.1,(bc x.1.2.2.2.2.1 (W 1)),()),((ej (ej x.2.1 ((kk.1).1).toNat (x.1.2.2.1,())) ((k1.1).1).toNat ((W (-2)),())),(ej x.2.2.1 ((d_.1).1).toNat ((bc gw.1 (W 1)),())),())))) (none)) (some (.inl (((),(),x.1.2.2.1,x.1.2.2.2.1,(bc x.1.2.2.2.2.1 (W 1)),()),((ej x.2.1 ((kk.1).1).toNat (x.1.2.2.1,())),(ej x.2.2.1 ((d_.1).1).toNat ((bc gw.1 (W 1)),())),()))))) (none)) (none)) (none)) (none)))) (some (.inr ((),(x.2.1,x.2.2.1,()))))
def Gc:aY:=⟨[(1,.cJ fx 0),(3,.arr 0 bp [false]),(5,.arr 1 bp [false]),(6,au)],Ju⟩
def aBX:bG:=[((.exit 2),⟨[],Ju⟩)]
def Nv (x:U Gc):Option (U Gc⊕bo aBX):=cond (bg x.1.2.2.2.1 (bf x.1.1.2.2.2.1)) ((a1 x.1.1.2.2.2.1 (x.1.2.2.2.1).1).bind λdb=>(v8 ((db,()),())).bind λbK=>(a2 Nw (((),(),x.1.2.2.2.1,bK.1.1,(W 0),()),(x.2.1,x.2.2.1,()))).bind λfe=>some (.inl ((x.1.1,(),(),(bc x.1.2.2.2.1 (W 1)),()),(fe.2.1,fe.2.2.1,())))) (some (.inr ((),(x.2.1,x.2.2.1,()))))
def tR (x:U aih):Option (U aB2):=(rh (α:=D [.int .i64]) 8 (bf x.1.1.2.2.2.1) ((W 0),())).bind λdF=>(a2 Nu (((),(W 0),()),(dF,()))).bind λaK=>cond (decide (0<=((W 0)).1)&&decide (((W 0)).1<(dF.1.length:Nat))) ((fq aK.2.1 (((W 0)).1).toNat).bind λcR=>(rh (α:=D [.int .i64]) 8 (bf x.1.1.2.2.2.1) ((W 0),())).bind λgV=>(a2 Nv ((x.1.1,(),(),(W 0),()),((ej aK.2.1 (((W 0)).1).toNat ((W (-1)),())),gV,()))).bind λfM=>some ((fM.2.1,()),())) (none)
def aiv:=aJ [(0,aZ),(1,bA)]
def aCO:=aJ [(0,bA)]
def zA (x:U aiv):Option (U aCO):=cond (x.1.2.1) ((k6 ((x.1.1,()),())).bind λaq=>some ((aq.1.1,()),())) (some (((cz x.1.1 (S ⟨#[]⟩)),()),()))
def aiE:=aJ [(0,.agg cU)]
def aDg:=aJ [(0,bA)]
def Vy:=aJ [(1,.cJ cU 0)]
def aiC:=[ju [],fK [(2,bA)]]
def Vx (x:U Vy):Option (bo aiC):=cond (!bb x.1.1.1 (W 3)) (cond (!bb x.1.1.1 (W 5)) (some (.inr (((bb (bf x.1.1.2.2.2.2.2.2.2.2.1) (W 0)),()),()))) (some (.inl ((),())))) (some (.inl ((),())))
def VA:=aJ [(4,.cJ m0 0)]
def aiD:=[ju [],fK [(2,bA)]]
def Vz (x:U VA):Option (bo aiD):=cond (cz x.1.1.1 (S ⟨#[]⟩)) (cond (!cz x.1.1.2.1 (S ⟨#[]⟩)) (some (.inr ((false,()),()))) (cond (!cz x.1.1.1 (S ⟨#[]⟩)) ((k6 ((x.1.1.1,()),())).bind λbO=>cond (!bO.1.1) (some (.inr ((false,()),()))) (cond (!cz x.1.1.2.1 (S ⟨#[]⟩)) ((k6 ((x.1.1.2.1,()),())).bind λcc=>cond (!cc.1.1) (some (.inr ((false,()),()))) (some (.inl ((),())))) (some (.inl ((),()))))) (cond (!cz x.1.1.2.1 (S ⟨#[]⟩)) ((k6 ((x.1.1.2.1,()),())).bind λbT=>cond (!bT.1.1) (some (.inr ((false,()),()))) (some (.inl ((),())))) (some (.inl ((),())))))) (cond (!cz x.1.1.1 (S ⟨#[]⟩)) ((k6 ((x.1.1.1,()),())).bind λcL=>cond (!cL.1.1) (some (.inr ((false,()),()))) (cond (!cz x.1.1.2.1 (S ⟨#[]⟩)) ((k6 ((x.1.1.2.1,()),())).bind λcy=>cond (!cy.1.1) (some (.inr ((false,()),()))) (some (.inl ((),())))) (some (.inl ((),()))))) (cond (!cz x.1.1.2.1 (S ⟨#[]⟩)) ((k6 ((x.1.1.2.1,()),())).bind λdX=>cond (!dX.1.1) (some (.inr ((false,()),()))) (some (.inl ((),())))) (some (.inl ((),())))))
def Gu:=aJ [(1,.cJ cU 0),(3,au),(4,.cJ m0 0),(5,au)]
def aDd:bG:=[((.exit 2),aJ []),fK [(2,bA)]]
def NX (x:U Gu):Option (U Gu⊕bo aDd):=cond (bg x.1.2.2.2.1 x.1.2.1) ((a1 x.1.1.2.2.2.2.2.2.2.2.1 (x.1.2.2.2.1).1).bind λk2=>cond (cz k2.1 x.1.2.2.1.1) (some (.inr (.inr ((false,()),())))) (some (.inl ((x.1.1,x.1.2.1,x.1.2.2.1,(bc x.1.2.2.2.1 (W 1)),()),())))) (some (.inr (.inl ((),()))))
def Gt:=aJ [(1,.cJ cU 0),(3,au)]
def aDa:bG:=[((.exit 0),aJ []),fK [(2,bA)]]
def NW (x:U Gt):Option (U Gt⊕bo aDa):=cond (bg x.1.2.1 (bf x.1.1.2.2.2.2.2.2.2.2.1)) ((a1 x.1.1.2.2.2.2.2.2.2.2.1 (x.1.2.1).1).bind λdD=>(Vz ((dD,()),())).bind λdy=>Sum.elim (λeD=>(a2 NX ((x.1.1,x.1.2.1,dD,(W 0),()),())).bind λfe=>Sum.elim (λfM=>some (.inl ((x.1.1,(bc x.1.2.1 (W 1)),()),()))) (λiD=>some (.inr (.inr ((iD.1.1,()),())))) fe) (λeO=>some (.inr (.inr ((eO.1.1,()),())))) dy) (some (.inr (.inl ((),()))))
def Gs (x:U aiE):Option (U aDg):=(Vx ((x.1.1,()),())).bind λaq=>Sum.elim (λaB=>cond (bb x.1.1.1 (W 3)) (cond (bb (bf x.1.1.2.2.2.2.2.2.2.2.1) (W 2)) ((a1 x.1.1.2.2.2.2.2.2.2.2.1 ((W 0)).1).bind λcR=>cond (cz cR.1 (S ⟨#[]⟩)) ((a1 x.1.1.2.2.2.2.2.2.2.2.1 ((W 0)).1).bind λdO=>cond (cz dO.2.1 (S ⟨#[]⟩)) ((a1 x.1.1.2.2.2.2.2.2.2.2.1 ((W 1)).1).bind λdb=>cond (cz db.1 (S ⟨#[]⟩)) ((a1 x.1.1.2.2.2.2.2.2.2.2.1 ((W 1)).1).bind λfm=>some (((cz fm.2.1 (S ⟨#[]⟩)),()),())) (some ((false,()),()))) (some ((false,()),()))) (some ((false,()),()))) (some ((false,()),()))) ((a2 NW ((x.1.1,(W 0),()),())).bind λfa=>Sum.elim (λlD=>cond (f_ (W 1) (bf x.1.1.2.2.2.2.2.2.2.2.1)) (some (((f_ (bf x.1.1.2.2.2.2.2.2.2.2.1) (W 7)),()),())) (some ((false,()),()))) (λnn=>some ((nn.1.1,()),())) fa)) (λaK=>some ((aK.1.1,()),())) aq
def ahN:=aJ [(0,.agg cU)]
def aAS:=aJ [(0,bA)]
def FV:=aJ [(1,.cJ cU 0),(3,au)]
def aAP:bG:=[((.exit 0),aJ []),fK [(2,bA)]]
def M' (x:U FV):Option (U FV⊕bo aAP):=cond (bg x.1.2.1 (bf x.1.1.2.2.2.2.2.2.2.1)) ((a1 x.1.1.2.2.2.2.2.2.2.1 (x.1.2.1).1).bind λaE=>(k6 ((aE.1,()),())).bind λaB=>cond (!aB.1.1) (some (.inr (.inr ((false,()),())))) ((k6 ((aE.2.1,()),())).bind λaK=>cond (!aK.1.1) (some (.inr (.inr ((false,()),())))) (cond (bg (W 6) (bf aE.2.2.1)) (some (.inr (.inr ((false,()),())))) (some (.inl ((x.1.1,(bc x.1.2.1 (W 1)),()),())))))) (some (.inr (.inl ((),()))))
def FU (x:U ahN):Option (U aAS):=cond (!bb x.1.1.1 (W 8)) (some (((bb (bf x.1.1.2.2.2.2.2.2.2.1) (W 0)),()),())) ((a2 M' ((x.1.1,(W 0),()),())).bind λaS=>Sum.elim (λa9=>cond (f_ (W 1) (bf x.1.1.2.2.2.2.2.2.2.1)) (some (((f_ (bf x.1.1.2.2.2.2.2.2.2.1) (W 4)),()),())) (some ((false,()),()))) (λbJ=>some ((bJ.1.1,()),())) aS)
def ahz:=aJ [(0,.agg cU)]
def aAo:=aJ [(0,bA)]
def U2:=aJ [(1,.cJ cU 0)]
def ahu:=[ju [(3,bA)]]
def U1 (x:U U2):Option (bo ahu):=cond (bb x.1.1.1 (W 1)) (some ((true,()),())) (cond (bb x.1.1.1 (W 4)) (some ((true,()),())) (cond (bb x.1.1.1 (W 5)) (some ((true,()),())) (cond (bb x.1.1.1 (W 8)) (some ((true,()),())) (some (((bb x.1.1.1 (W 9)),()),())))))
def U4:=aJ [(1,.cJ cU 0)]
def ahv:=[ju [(4,bA)]]
def U3 (x:U U4):Option (bo ahv):=cond (bb x.1.1.1 (W 4)) (some ((true,()),())) (cond (bb x.1.1.1 (W 5)) (some ((true,()),())) (some (((bb x.1.1.1 (W 8)),()),())))
def U6:=aJ [(1,.cJ cU 0)]
def ahw:=[ju [(5,bA)]]
def U5 (x:U U6):Option (bo ahw):=cond (bb x.1.1.1 (W 4)) (some ((true,()),())) (some (((bb x.1.1.1 (W 8)),()),()))
def U8:=aJ [(1,.cJ cU 0)]
def ahx:=[ju [(6,bA)]]
def U7 (x:U U8):Option (bo ahx):=cond (bb x.1.1.1 (W 6)) (some ((true,()),())) (some (((bb x.1.1.1 (W 7)),()),()))
def U_:=aJ [(1,.cJ cU 0),(6,bA)]
def ahy:=[ju [],fK [(2,bA)]]
def U9 (x:U U_):Option (bo ahy):=cond (bg (W 6) (bf x.1.1.2.2.2.2.2.2.1)) (some (.inr ((false,()),()))) (cond (!x.1.2.1) (cond (bg (W 0) (bf x.1.1.2.2.2.2.2.2.1)) (some (.inr ((false,()),()))) ((Gs ((x.1.1,()),())).bind λbO=>cond (!bO.1.1) (some (.inr ((false,()),()))) ((FU ((x.1.1,()),())).bind λcc=>cond (!cc.1.1) (some (.inr ((false,()),()))) (some (.inl ((),())))))) ((Gs ((x.1.1,()),())).bind λbT=>cond (!bT.1.1) (some (.inr ((false,()),()))) ((FU ((x.1.1,()),())).bind λcL=>cond (!cL.1.1) (some (.inr ((false,()),()))) (some (.inl ((),()))))))
def M4 (x:U ahz):Option (U aAo):=cond (bg x.1.1.1 (W 0)) (some ((false,()),())) (cond (bg (W 10) x.1.1.1) (some ((false,()),())) ((U1 ((x.1.1,()),())).bind λaq=>(U3 ((x.1.1,()),())).bind λaB=>(U5 ((x.1.1,()),())).bind λaK=>(U7 ((x.1.1,()),())).bind λaS=>(zA ((x.1.1.2.1,aq.1.1,()),())).bind λa9=>cond (!a9.1.1) (some ((false,()),())) ((zA ((x.1.1.2.2.1,aB.1.1,()),())).bind λbJ=>cond (!bJ.1.1) (some ((false,()),())) ((zA ((x.1.1.2.2.2.1,aK.1.1,()),())).bind λbK=>cond (!bK.1.1) (some ((false,()),())) ((zA ((x.1.1.2.2.2.2.1,aS.1.1,()),())).bind λcl=>cond (!cl.1.1) (some ((false,()),())) ((U9 ((x.1.1,aS.1.1,()),())).bind λcy=>Sum.elim (λdX=>(F0 ((x.1.1.1,()),())).bind λeD=>cond (eD.1.1) (cond (!bb x.1.1.2.2.2.2.2.2.2.2.2.1 (W (-1))) (some ((false,()),())) (cond (bb x.1.1.1 (W 1)) (cond (bb x.1.1.1 (W 1)) (some ((true,()),())) (some (((bb x.1.1.2.2.2.2.2.1 (W (-1))),()),()))) (cond (bb x.1.1.1 (W 2)) (cond (bb x.1.1.1 (W 2)) (some ((true,()),())) (some (((bb x.1.1.2.2.2.2.2.1 (W (-1))),()),()))) (cond (bb x.1.1.1 (W 3)) (cond (bb x.1.1.1 (W 3)) (some ((true,()),())) (some (((bb x.1.1.2.2.2.2.2.1 (W (-1))),()),()))) (cond (bb x.1.1.1 (W 4)) (some ((true,()),())) (some (((bb x.1.1.2.2.2.2.2.1 (W (-1))),()),()))))))) (cond (bb x.1.1.1 (W 1)) (cond (bb x.1.1.1 (W 1)) (some ((true,()),())) (some (((bb x.1.1.2.2.2.2.2.1 (W (-1))),()),()))) (cond (bb x.1.1.1 (W 2)) (cond (bb x.1.1.1 (W 2)) (some ((true,()),())) (some (((bb x.1.1.2.2.2.2.2.1 (W (-1))),()),()))) (cond (bb x.1.1.1 (W 3)) (cond (bb x.1.1.1 (W 3)) (some ((true,()),())) (some (((bb x.1.1.2.2.2.2.2.1 (W (-1))),()),()))) (cond (bb x.1.1.1 (W 4)) (some ((true,()),())) (some (((bb x.1.1.2.2.2.2.2.1 (W (-1))),()),()))))))) (λdy=>some ((dy.1.1,()),())) cy))))))
def aix:=aJ [(0,.agg fx),(1,aC bp),(2,au)]
def aCX:=aJ [(0,bA)]
def Gm:=aJ [(2,au),(3,.cJ fx 0),(7,aC bp),(8,au)]
def aCR:bG:=[((.exit 0),aJ []),fK [(6,bA)]]
def NR (x:U Gm):Option (U Gm⊕bo aCR):=cond (bg x.1.2.2.2.1 (bf x.1.2.2.1)) ((a1 x.1.2.2.1 (x.1.2.2.2.1).1).bind λbS=>cond (f_ bS.1 x.1.1) (some (.inr (.inr ((false,()),())))) ((a1 x.1.2.2.1 (x.1.2.2.2.1).1).bind λcR=>cond (f_ (bf x.1.2.1.2.2.2.1) cR.1) (some (.inr (.inr ((false,()),())))) (some (.inl ((x.1.1,x.1.2.1,x.1.2.2.1,(bc x.1.2.2.2.1 (W 1)),()),()))))) (some (.inr (.inl ((),()))))
def Vu:=aJ [(1,aC bp),(2,au)]
def aiw:=[ju [],fK [(6,bA)]]
def Vt (x:U Vu):Option (bo aiw):=cond (bg (W 0) x.1.2.1) ((a1 x.1.1 (x.1.2.1).1).bind λdD=>cond (bg dD.1 (W 0)) (some (.inr ((false,()),()))) (some (.inl ((),())))) (some (.inl ((),())))
def Gn:=aJ [(1,aC bp),(3,.cJ fx 0),(9,au),(10,au)]
def aCU:bG:=[((.exit 2),aJ [(9,au)])]
def NS (x:U Gn):Option (U Gn⊕bo aCU):=cond (f_ (W 0) x.1.2.2.2.1) ((a1 x.1.2.1.2.2.2.1 (x.1.2.2.2.1).1).bind λiA=>cond (bb iA.1 (W 3)) ((a1 x.1.1 (x.1.2.2.2.1).1).bind λiu=>some (.inl ((x.1.1,x.1.2.1,(bc x.1.2.2.1 (W 1)),iu.1,()),()))) ((a1 x.1.2.1.2.2.2.1 (x.1.2.2.2.1).1).bind λkk=>cond (bb kk.1 (W 5)) ((a1 x.1.1 (x.1.2.2.2.1).1).bind λjY=>some (.inl ((x.1.1,x.1.2.1,(bc x.1.2.2.1 (W 1)),jY.1,()),()))) ((a1 x.1.1 (x.1.2.2.2.1).1).bind λhY=>some (.inl ((x.1.1,x.1.2.1,x.1.2.2.1,hY.1,()),()))))) (some (.inr ((x.1.2.2.1,()),())))
def NQ (x:U aix):Option (U aCX):=(a1 x.1.1.2.2.2.1 (x.1.2.2.1).1).bind λaE=>(v8 ((aE,()),())).bind λaB=>(a2 NR ((x.1.2.2.1,x.1.1,aB.1.1,(W 0),()),())).bind λa9=>Sum.elim (λbJ=>(Vt ((x.1.2.1,x.1.2.2.1,()),())).bind λbO=>Sum.elim (λcc=>(a2 NS ((x.1.2.1,x.1.1,(W 0),x.1.2.2.1,()),())).bind λeO=>some (((f_ eO.1.1 (W 24)),()),())) (λbT=>some ((bT.1.1,()),())) bO) (λbK=>some ((bK.1.1,()),())) a9
def ain:=aJ [(0,.agg cU)]
def aCf:=aJ [(0,bA)]
def NC (x:U ain):Option (U aCf):=cond (bb x.1.1.1 (W 1)) (cond (bb x.1.1.1 (W 1)) (some (((!bb x.1.1.2.2.2.2.2.1 (W (-1))),()),())) (some ((true,()),()))) (cond (bb x.1.1.1 (W 2)) (cond (bb x.1.1.1 (W 2)) (some (((!bb x.1.1.2.2.2.2.2.1 (W (-1))),()),())) (some ((true,()),()))) (cond (bb x.1.1.1 (W 3)) (some (((!bb x.1.1.2.2.2.2.2.1 (W (-1))),()),())) (some ((true,()),()))))
def aho:=aJ [(0,.agg cU)]
def az6:=aJ [(0,aC bp)]
def UY:aY:=⟨[(1,.cJ cU 0),(3,.tok bp 0 [])],[.bC bp]⟩
def ahn:bG:=[(.normal,⟨[(3,.tok bp 1 [])],[.gone,.bC bp]⟩)]
def UX (x:U UY):Option (bo ahn):=cond (!bb x.1.1.2.2.2.2.2.1 (W (-1))) ((c6 8 x.1.2.1 (cD [(x.1.1.2.2.2.2.2.1,())])).bind λdF=>some ((dF,()),((),(),()))) (some ((x.1.2.1,()),((),(),())))
def FL:aY:=⟨[(1,.cJ cU 0),(3,.tok bp 0 []),(4,au)],[.bC bp]⟩
def az4:bG:=[((.exit 0),⟨[(3,.tok bp 1 [])],[.gone,.bC bp]⟩)]
def M1 (x:U FL):Option (U FL⊕bo az4):=cond (bg x.1.2.2.1 (bf x.1.1.2.2.2.2.2.2.2.1)) ((a1 x.1.1.2.2.2.2.2.2.2.1 (x.1.2.2.1).1).bind λcR=>(c6 8 x.1.2.1 cR.2.2.1).bind λgV=>some (.inl ((x.1.1,gV,(bc x.1.2.2.1 (W 1)),()),((),())))) (some (.inr ((x.1.2.1,()),((),(),()))))
def FK (x:U aho):Option (U az6):=(UX ((x.1.1,L.nil,()),((),()))).bind λaB=>(c6 8 aB.1.1 x.1.1.2.2.2.2.2.2.1).bind λcg=>(a2 M1 ((x.1.1,cg,(W 0),()),((),()))).bind λbJ=>some ((bJ.1.1,()),())
def aiu:aY:=⟨[(0,.agg fx),(1,au),(2,.arr 0 [.bool] [false])],sa⟩
def aCL:aY:=⟨[(0,bA)],sa⟩
def Gl:aY:=⟨[(2,.arr 0 [.bool] [false]),(9,aC [.bool]),(11,au)],sa⟩
def aCI:bG:=[((.exit 2),⟨[],sa⟩),(.ret,⟨[(6,bA)],sa⟩)]
def NO (x:U Gl):Option (U Gl⊕bo aCI):=cond (bg x.1.2.2.1 (bf x.1.2.1)) ((a1 x.1.2.1 (x.1.2.2.1).1).bind λdO=>cond (dO.1) (cond (decide (0<=(x.1.2.2.1).1)&&decide ((x.1.2.2.1).1<(x.2.1.1.length:Nat))) ((fq x.2.1 ((x.1.2.2.1).1).toNat).bind λdb=>cond (db.1) (some (.inr (.inr ((false,()),(x.2.1,()))))) (cond (decide (0<=(x.1.2.2.1).1)&&decide ((x.1.2.2.1).1<(x.2.1.1.length:Nat))) ((fq x.2.1 ((x.1.2.2.1).1).toNat).bind λfm=>cond (fm.1) (cond (decide (0<=(x.1.2.2.1).1)&&decide ((x.1.2.2.1).1<(x.2.1.1.length:Nat))) ((fq x.2.1 ((x.1.2.2.1).1).toNat).bind λdD=>some (.inl (((),x.1.2.1,(bc x.1.2.2.1 (W 1)),()),((ej x.2.1 ((x.1.2.2.1).1).toNat (true,())),())))) (none)) ((a1 x.1.2.1 (x.1.2.2.1).1).bind λeV=>cond (decide (0<=(x.1.2.2.1).1)&&decide ((x.1.2.2.1).1<(x.2.1.1.length:Nat))) ((fq x.2.1 ((x.1.2.2.1).1).toNat).bind λd_=>some (.inl (((),x.1.2.1,(bc x.1.2.2.1 (W 1)),()),((ej x.2.1 ((x.1.2.2.1).1).toNat eV),())))) (none))) (none))) (none)) (cond (decide (0<=(x.1.2.2.1).1)&&decide ((x.1.2.2.1).1<(x.2.1.1.length:Nat))) ((fq x.2.1 ((x.1.2.2.1).1).toNat).bind λgw=>cond (gw.1) (cond (decide (0<=(x.1.2.2.1).1)&&decide ((x.1.2.2.1).1<(x.2.1.1.length:Nat))) ((fq x.2.1 ((x.1.2.2.1).1).toNat).bind λiA=>some (.inl (((),x.1.2.1,(bc x.1.2.2.1 (W 1)),()),((ej x.2.1 ((x.1.2.2.1).1).toNat (true,())),())))) (none)) ((a1 x.1.2.1 (x.1.2.2.1).1).bind λkk=>cond (decide (0<=(x.1.2.2.1).1)&&decide ((x.1.2.2.1).1<(x.2.1.1.length:Nat))) ((fq x.2.1 ((x.1.2.2.1).1).toNat).bind λiu=>some (.inl (((),x.1.2.1,(bc x.1.2.2.1 (W 1)),()),((ej x.2.1 ((x.1.2.2.1).1).toNat kk),())))) (none))) (none))) (some (.inr (.inl ((),(x.2.1,())))))
def Gk:aY:=⟨[(2,.arr 0 [.bool] [false]),(3,.cJ fx 0),(7,aC bp),(8,au)],sa⟩
def aCF:bG:=[((.exit 0),⟨[],sa⟩),(.ret,⟨[(6,bA)],sa⟩)]
def NN (x:U Gk):Option (U Gk⊕bo aCF):=cond (bg x.1.2.2.2.1 (bf x.1.2.2.1)) ((a1 x.1.2.2.1 (x.1.2.2.2.1).1).bind λbS=>(GJ ((x.1.2.1.2.2.1,bS.1,()),())).bind λaS=>cond (!aS.1.2.1) (some (.inr (.inr ((false,()),(x.2.1,()))))) ((a2 NO (((),aS.1.1,(W 0),()),(x.2.1,()))).bind λdy=>Sum.elim (λeD=>some (.inl (((),x.1.2.1,x.1.2.2.1,(bc x.1.2.2.2.1 (W 1)),()),(eD.2.1,())))) (λeO=>some (.inr (.inr ((eO.1.1,()),(eO.2.1,()))))) dy)) (some (.inr (.inl ((),(x.2.1,())))))
def NM (x:U aiu):Option (U aCL):=(a1 x.1.1.2.2.2.1 (x.1.2.1).1).bind λaE=>(FK ((aE,()),())).bind λaB=>(a2 NN (((),x.1.1,aB.1.1,(W 0),()),(x.2.1,()))).bind λeY=>Sum.elim (λfe=>some ((true,()),(fe.2.1,()))) (λfM=>some ((fM.1.1,()),(fM.2.1,()))) eY
def air:=aJ [(0,.agg hP),(1,au)]
def aCB:=aJ [(0,.agg s5)]
def Gj:aY:=⟨[(1,au),(4,b_),(5,.cJ fx 0),(6,aC bp),(7,.arr 1 [.bool] [false]),(8,au)],RN⟩
def aCy:bG:=[((.exit 0),⟨[],RN⟩),(.ret,⟨[],RN⟩)]
def NL (x:U Gj):Option (U Gj⊕bo aCy):=cond (bg x.1.2.2.2.2.2.1 (bf x.1.2.2.1.2.2.2.1)) ((a1 x.1.2.2.1.2.2.2.1 (x.1.2.2.2.2.2.1).1).bind λd_=>(M4 ((d_,()),())).bind λbT=>cond (!bT.1.1) ((nj (((W 1500),x.1.1,x.1.2.2.2.2.2.1,()),())).bind λcL=>some (.inr (.inr ((),((cL.1.1.1,cL.1.1.2.1,cL.1.1.2.2.1,()),x.2.2.1,()))))) ((NQ ((x.1.2.2.1,x.1.2.2.2.1,x.1.2.2.2.2.2.1,()),())).bind λcy=>cond (!cy.1.1) ((nj (((W 1502),x.1.1,x.1.2.2.2.2.2.1,()),())).bind λdX=>some (.inr (.inr ((),((dX.1.1.1,dX.1.1.2.1,dX.1.1.2.2.1,()),x.2.2.1,()))))) ((a1 x.1.2.2.1.2.2.2.1 (x.1.2.2.2.2.2.1).1).bind λjY=>(NC ((jY,()),())).bind λeD=>cond (!eD.1.1) ((nj (((W 1503),x.1.1,x.1.2.2.2.2.2.1,()),())).bind λeY=>some (.inr (.inr ((),((eY.1.1.1,eY.1.1.2.1,eY.1.1.2.2.1,()),x.2.2.1,()))))) ((NM ((x.1.2.2.1,x.1.2.2.2.2.2.1,(),()),(x.2.2.1,()))).bind λeO=>cond (!eO.1.1) ((nj (((W 1503),x.1.1,x.1.2.2.2.2.2.1,()),())).bind λfe=>some (.inr (.inr ((),((fe.1.1.1,fe.1.1.2.1,fe.1.1.2.2.1,()),eO.2.1,()))))) (some (.inl ((x.1.1,(),x.1.2.2.1,x.1.2.2.2.1,(),(bc x.1.2.2.2.2.2.1 (W 1)),()),(x.2.1,eO.2.1,())))))))) (some (.inr (.inl ((),(x.2.1,x.2.2.1,())))))
def NK (x:U air):Option (U aCB):=(a1 x.1.1.2.2.1 (x.1.2.1).1).bind λaE=>(Nj ((aE,()),())).bind λaB=>cond (!aB.1.1) ((nj (((W 1500),x.1.2.1,(W (-1)),()),())).bind λaK=>some ((aK.1.1,()),())) ((v7 ((x.1.1,aE.1,()),())).bind λaS=>cond (bg aS.1.1 x.1.2.1) ((nj (((W 1501),x.1.2.1,(W (-1)),()),())).bind λbJ=>some ((bJ.1.1,()),())) ((NT ((aE,()),())).bind λa9=>cond (a9.1.1) ((nj (((W 1501),x.1.2.1,(W (-1)),()),())).bind λbK=>some ((bK.1.1,()),())) ((tR ((aE,()),())).bind λcl=>(rh (α:=D [.bool]) 1 (bf aE.2.2.1) (false,())).bind λj2=>(a2 NL ((x.1.2.1,(),aE,cl.1.1,(),(W 0),()),(((W 0),(W 0),(W 0),()),j2,()))).bind λfM=>Sum.elim (λiD=>some ((((W 0),(W 0),(W 0),()),()),())) (λfa=>some (((fa.2.1.1,fa.2.1.2.1,fa.2.1.2.2.1,()),()),())) fM)))
def ahd:=aJ [(0,.agg fx),(1,aC bp),(2,au)]
def azi:=aJ [(0,aC ck)]
def Fv:=aJ [(3,.cJ fx 0),(7,aC ck),(8,au)]
def ay':bG:=[((.exit 0),aJ [(7,aC ck)])]
def MJ (x:U Fv):Option (U Fv⊕bo ay'):=cond (bg x.1.2.2.1 (bf x.1.1.2.1)) ((a1 x.1.1.2.1 (x.1.2.2.1).1).bind λaE=>(wg ((x.1.2.1,aE.1,()),())).bind λaB=>some (.inl ((x.1.1,aB.1.1,(bc x.1.2.2.1 (W 1)),()),()))) (some (.inr ((x.1.2.1,()),())))
def UW:=aJ [(7,aC ck),(10,.cJ cU 0)]
def ahc:=[ju [(7,aC ck)]]
def UU (x:U UW):Option (bo ahc):=cond (bb x.1.2.1.1 (W 1)) ((wg ((x.1.1,x.1.2.1.2.1,()),())).bind λbJ=>some ((bJ.1.1,()),())) (cond (bb x.1.2.1.1 (W 8)) ((wg ((x.1.1,x.1.2.1.2.1,()),())).bind λbK=>some ((bK.1.1,()),())) (some ((x.1.1,()),())))
def Fx:=aJ [(7,aC ck),(9,au),(10,.cJ cU 0),(11,au)]
def azf:bG:=[((.exit 4),aJ [(7,aC ck)])]
def ML (x:U Fx):Option (U Fx⊕bo azf):=cond (bb x.1.2.2.1.1 (W 5)) (cond (bg x.1.2.2.2.1 (bf x.1.2.2.1.2.2.2.2.2.2.2.2.1)) ((a1 x.1.2.2.1.2.2.2.2.2.2.2.2.1 (x.1.2.2.2.1).1).bind λeV=>cond (bb eV.2.2.1 x.1.2.1) ((a1 x.1.2.2.1.2.2.2.2.2.2.2.2.1 (x.1.2.2.2.1).1).bind λd_=>cond (!cz d_.2.1 (S ⟨#[]⟩)) ((a1 x.1.2.2.1.2.2.2.2.2.2.2.2.1 (x.1.2.2.2.1).1).bind λgw=>(wg ((x.1.1,gw.2.1,()),())).bind λcL=>some (.inl ((cL.1.1,x.1.2.1,x.1.2.2.1,(bc x.1.2.2.2.1 (W 1)),()),()))) (some (.inl ((x.1.1,x.1.2.1,x.1.2.2.1,(bc x.1.2.2.2.1 (W 1)),()),())))) (some (.inl ((x.1.1,x.1.2.1,x.1.2.2.1,(bc x.1.2.2.2.1 (W 1)),()),())))) (some (.inr ((x.1.1,()),())))) (some (.inr ((x.1.1,()),())))
def Fw:=aJ [(1,aC bp),(3,.cJ fx 0),(7,aC ck),(9,au)]
def azc:bG:=[((.exit 2),aJ [(7,aC ck)])]
def MK (x:U Fw):Option (U Fw⊕bo azc):=cond (bg (W 0) x.1.2.2.2.1) ((a1 x.1.1 (x.1.2.2.2.1).1).bind λcR=>(a1 x.1.2.1.2.2.2.1 (cR.1).1).bind λdO=>(UU ((x.1.2.2.1,dO,()),())).bind λcl=>(a2 ML ((cl.1.1,x.1.2.2.2.1,dO,(W 0),()),())).bind λcy=>(a1 x.1.1 (x.1.2.2.2.1).1).bind λiu=>some (.inl ((x.1.1,(x.1.2.1.1,x.1.2.1.2.1,x.1.2.1.2.2.1,x.1.2.1.2.2.2.1,()),cy.1.1,iu.1,()),()))) (some (.inr ((x.1.2.2.1,()),())))
def MI (x:U ahd):Option (U azi):=(a2 MJ ((x.1.1,L.nil,(W 0),()),())).bind λaK=>(a2 MK ((x.1.2.1,x.1.1,aK.1.1,x.1.2.2.1,()),())).bind λdy=>some ((dy.1.1,()),())
def ahB:=aJ [(0,.agg fx),(1,au)]
def aAx:=aJ [(0,aC ck)]
def Va:=aJ [(5,.cJ cU 0),(6,.dm)]
def ahA:=[ju [(6,aC ck)]]
def U' (x:U Va):Option (bo ahA):=cond (bb x.1.1.1 (W 4)) (some (((cD [(x.1.1.2.1,())]),()),())) (cond (bb x.1.1.1 (W 5)) (some (((cD [(x.1.1.2.1,())]),()),())) (cond (bb x.1.1.1 (W 9)) (some (((cD [(x.1.1.2.1,())]),()),())) (some ((L.nil,()),()))))
def FP:=aJ [(6,aC ck),(9,aC ck),(10,au)]
def aAv:bG:=[((.exit 2),aJ [(6,aC ck)])]
def M6 (x:U FP):Option (U FP⊕bo aAv):=cond (bg x.1.2.2.1 (bf x.1.2.1)) ((a1 x.1.2.1 (x.1.2.2.1).1).bind λdb=>(wg ((x.1.1,db.1,()),())).bind λbK=>some (.inl ((bK.1.1,x.1.2.1,(bc x.1.2.2.1 (W 1)),()),()))) (some (.inr ((x.1.1,()),())))
def FO:=aJ [(2,.cJ fx 0),(6,aC ck),(7,aC bp),(8,au)]
def aAs:bG:=[((.exit 0),aJ [(6,aC ck)])]
def M5 (x:U FO):Option (U FO⊕bo aAs):=cond (bg x.1.2.2.2.1 (bf x.1.2.2.1)) ((a1 x.1.2.2.1 (x.1.2.2.2.1).1).bind λcR=>(N9 ((x.1.1.2.2.1,cR.1,()),())).bind λa9=>(a2 M6 ((x.1.2.1,a9.1.1,(W 0),()),())).bind λcl=>some (.inl ((x.1.1,cl.1.1,x.1.2.2.1,(bc x.1.2.2.2.1 (W 1)),()),()))) (some (.inr ((x.1.2.1,()),())))
def FN (x:U ahB):Option (U aAx):=(a1 x.1.1.2.2.2.1 (x.1.2.1).1).bind λaE=>(U' ((aE,(),()),())).bind λaB=>(FK ((aE,()),())).bind λaK=>(a2 M5 ((x.1.1,aB.1.1,aK.1.1,(W 0),()),())).bind λbO=>some ((bO.1.1,()),())
def ahK:=aJ [(0,.agg cU)]
def aAK:=aJ [(0,aC ck)]
def Vd:aY:=⟨[(1,.cJ cU 0),(3,.tok ck 0 [])],[.bC ck]⟩
def ahJ:bG:=[(.normal,⟨[(3,.tok ck 1 [])],[.gone,.bC ck]⟩)]
def Vc (x:U Vd):Option (bo ahJ):=cond (bb x.1.1.1 (W 1)) ((c6 16 x.1.2.1 (cD [(x.1.1.2.1,())])).bind λdF=>some ((dF,()),((),(),()))) (cond (bb x.1.1.1 (W 8)) ((c6 16 x.1.2.1 (cD [(x.1.1.2.1,())])).bind λea=>some ((ea,()),((),(),()))) (some ((x.1.2.1,()),((),(),()))))
def FT:aY:=⟨[(1,.cJ cU 0),(3,.tok ck 0 []),(4,au)],[.bC ck]⟩
def aAH:bG:=[((.exit 0),⟨[(3,.tok ck 1 [])],[.gone,.bC ck]⟩)]
def M_ (x:U FT):Option (U FT⊕bo aAH):=cond (bg x.1.2.2.1 (bf x.1.1.2.2.2.2.2.2.2.2.1)) ((a1 x.1.1.2.2.2.2.2.2.2.2.1 (x.1.2.2.1).1).bind λcR=>cond (!cz cR.2.1 (S ⟨#[]⟩)) ((a1 x.1.1.2.2.2.2.2.2.2.2.1 (x.1.2.2.1).1).bind λdO=>(c6 16 x.1.2.1 (cD [(dO.2.1,())])).bind λiB=>some (.inl ((x.1.1,iB,(bc x.1.2.2.1 (W 1)),()),((),())))) (some (.inl ((x.1.1,x.1.2.1,(bc x.1.2.2.1 (W 1)),()),((),()))))) (some (.inr ((x.1.2.1,()),((),(),()))))
def M9 (x:U ahK):Option (U aAK):=(Vc ((x.1.1,L.nil,()),((),()))).bind λaK=>(a2 M_ ((x.1.1,aK.1.1,(W 0),()),((),()))).bind λbK=>some ((bK.1.1,()),())
def ahM:=aJ [(0,.agg hP),(1,aZ),(2,au),(3,au)]
def aAN:=aJ [(0,bA)]
def Bj (x:U ahM):Option (U aAN):=(v7 ((x.1.1,x.1.2.1,()),())).bind λaq=>cond (f_ (W 0) aq.1.1) ((a1 x.1.1.2.2.1 (aq.1.1).1).bind λaP=>some (((bb (bf aP.2.1) (bc x.1.2.2.1 x.1.2.2.2.1)),()),())) (some ((false,()),()))
def ahl:=aJ [(0,.agg hP),(1,aZ)]
def az0:=aJ [(0,au)]
def FJ:=aJ [(1,aZ),(2,.cJ hP 0),(5,au)]
def azX:bG:=[((.exit 0),aJ []),fK [(4,au)]]
def M0 (x:U FJ):Option (U FJ⊕bo azX):=cond (bg x.1.2.2.1 (bf x.1.2.1.1)) ((a1 x.1.2.1.1 (x.1.2.2.1).1).bind λaE=>cond (cz aE.1 x.1.1) (some (.inr (.inr ((x.1.2.2.1,()),())))) (some (.inl ((x.1.1,x.1.2.1,(bc x.1.2.2.1 (W 1)),()),())))) (some (.inr (.inl ((),()))))
def MZ (x:U ahl):Option (U az0):=(a2 M0 ((x.1.2.1,x.1.1,(W 0),()),())).bind λaB=>Sum.elim (λaK=>some (((W (-1)),()),())) (λaS=>some ((aS.1.1,()),())) aB
def aif:=aJ [(0,.agg hP),(1,.agg cU)]
def aBR:=aJ [(0,bA)]
def F':aY:=⟨[(3,.cJ cU 0),(7,.tok ck 0 []),(8,au)],[.bC ck]⟩
def aBL:bG:=[((.exit 0),⟨[(7,.tok ck 1 [])],[.gone,.bC ck]⟩)]
def Ns (x:U F'):Option (U F'⊕bo aBL):=cond (bg x.1.2.2.1 (bf x.1.1.2.2.2.2.2.2.2.1)) ((a1 x.1.1.2.2.2.2.2.2.2.1 (x.1.2.2.1).1).bind λbS=>(c6 16 x.1.2.1 (cD [(bS.1,())])).bind λjj=>some (.inl ((x.1.1,jj,(bc x.1.2.2.1 (W 1)),()),((),())))) (some (.inr ((x.1.2.1,()),((),(),()))))
def Ga:=aJ [(6,aC ck),(7,aC ck),(9,au)]
def aBO:bG:=[((.exit 2),aJ []),fK [(4,bA)]]
def Nt (x:U Ga):Option (U Ga⊕bo aBO):=cond (bg x.1.2.2.1 (bf x.1.2.1)) ((a1 x.1.2.1 (x.1.2.2.1).1).bind λfm=>(pg ((x.1.1,fm.1,()),())).bind λcl=>cond (!cl.1.1) (some (.inr (.inr ((false,()),())))) (some (.inl ((x.1.1,x.1.2.1,(bc x.1.2.2.1 (W 1)),()),())))) (some (.inr (.inl ((),()))))
def Nr (x:U aif):Option (U aBR):=(MZ ((x.1.1,x.1.2.1.2.2.2.1,()),())).bind λaq=>cond (bg aq.1.1 (W 0)) (some ((false,()),())) ((a1 x.1.1.1 (aq.1.1).1).bind λaP=>(a2 Ns ((x.1.2.1,(cD [(x.1.2.1.2.2.1,())]),(W 0),()),((),()))).bind λa9=>cond (!bb (bf a9.1.1) (bf aP.2.1)) (some ((false,()),())) ((GD ((a9.1.1,()),())).bind λbJ=>cond (!bJ.1.1) (some ((false,()),())) ((a2 Nt ((aP.2.1,a9.1.1,(W 0),()),())).bind λbO=>Sum.elim (λcc=>some ((true,()),())) (λbT=>some ((bT.1.1,()),())) bO)))
def aiq:=aJ [(0,.agg hP),(1,.agg fx),(2,aC bp),(3,au)]
def aCv:=aJ [(0,au)]
def Gg:=aJ [(10,aC ck),(11,aC ck),(12,au)]
def aCm:bG:=[((.exit 0),aJ []),fK [(8,au)]]
def NG (x:U Gg):Option (U Gg⊕bo aCm):=cond (bg x.1.2.2.1 (bf x.1.2.1)) ((a1 x.1.2.1 (x.1.2.2.1).1).bind λcR=>(pg ((x.1.1,cR.1,()),())).bind λa9=>cond (!a9.1.1) (some (.inr (.inr (((W 1505),()),())))) (some (.inl ((x.1.1,x.1.2.1,(bc x.1.2.2.1 (W 1)),()),())))) (some (.inr (.inl ((),()))))
def Gh:=aJ [(10,aC ck),(11,aC ck),(13,au)]
def aCp:bG:=[((.exit 2),aJ []),fK [(8,au)]]
def NH (x:U Gh):Option (U Gh⊕bo aCp):=cond (bg x.1.2.2.1 (bf x.1.2.1)) ((a1 x.1.2.1 (x.1.2.2.1).1).bind λd_=>(pg ((x.1.1,d_.1,()),())).bind λbT=>cond (bT.1.1) (some (.inr (.inr (((W 1506),()),())))) (some (.inl ((x.1.1,x.1.2.1,(bc x.1.2.2.1 (W 1)),()),())))) (some (.inr (.inl ((),()))))
def Vp:=aJ [(4,.cJ hP 0),(9,.cJ cU 0)]
def aip:=[ju [],fK [(8,au)]]
def Vo (x:U Vp):Option (bo aip):=cond (bb x.1.2.1.1 (W 6)) ((Bj ((x.1.1,x.1.2.1.2.2.2.2.1,(bf x.1.2.1.2.2.2.2.2.2.1),(W 0),()),())).bind λdy=>cond (!dy.1.1) (some (.inr (((W 1507),()),()))) (some (.inl ((),())))) (cond (bb x.1.2.1.1 (W 7)) ((Bj ((x.1.1,x.1.2.1.2.2.2.2.1,(bf x.1.2.1.2.2.2.2.2.2.1),(W 0),()),())).bind λeD=>cond (!eD.1.1) (some (.inr (((W 1507),()),()))) (some (.inl ((),())))) (some (.inl ((),()))))
def Gi:=aJ [(4,.cJ hP 0),(9,.cJ cU 0),(14,au)]
def aCs:bG:=[((.exit 4),aJ []),fK [(8,au)]]
def NI (x:U Gi):Option (U Gi⊕bo aCs):=cond (bg x.1.2.2.1 (bf x.1.2.1.2.2.2.2.2.2.2.1)) ((a1 x.1.2.1.2.2.2.2.2.2.2.1 (x.1.2.2.1).1).bind λqq=>(a1 x.1.2.1.2.2.2.2.2.2.2.1 (x.1.2.2.1).1).bind λnv=>(Bj ((x.1.1,qq.2.1,(bf nv.2.2.1),(W 1),()),())).bind λfa=>cond (!fa.1.1) (some (.inr (.inr (((W 1507),()),())))) (some (.inl ((x.1.1,x.1.2.1,(bc x.1.2.2.1 (W 1)),()),())))) (some (.inr (.inl ((),()))))
def NF (x:U aiq):Option (U aCv):=(a1 x.1.2.1.2.2.2.1 (x.1.2.2.2.1).1).bind λaE=>(MI ((x.1.2.1,x.1.2.2.1,x.1.2.2.2.1,()),())).bind λaB=>(FN ((x.1.2.1,x.1.2.2.2.1,()),())).bind λaK=>(a2 NG ((aB.1.1,aK.1.1,(W 0),()),())).bind λbJ=>Sum.elim (λbK=>(M9 ((aE,()),())).bind λbO=>(a2 NH ((aB.1.1,bO.1.1,(W 0),()),())).bind λcL=>Sum.elim (λcy=>(Vo ((x.1.1,aE,()),())).bind λeO=>Sum.elim (λeY=>(a2 NI ((x.1.1,aE,(W 0),()),())).bind λlD=>Sum.elim (λnn=>cond (bb aE.1 (W 8)) ((Nr ((x.1.1,aE,()),())).bind λmW=>cond (!mW.1.1) (some (((W 1508),()),())) (some (((W 0),()),()))) (some (((W 0),()),()))) (λki=>some ((ki.1.1,()),())) lD) (λfe=>some ((fe.1.1,()),())) eO) (λdX=>some ((dX.1.1,()),())) cL) (λcl=>some ((cl.1.1,()),())) bJ
def ahe:=aJ [(0,.agg hP)]
def azA:=aJ [(0,.agg s5)]
def Fy:aY:=⟨[(1,.cJ hP 0),(2,b_),(3,au)],m5⟩
def azl:bG:=[((.exit 0),⟨[],m5⟩),(.ret,⟨[],m5⟩)]
def MO (x:U Fy):Option (U Fy⊕bo azl):=cond (bg x.1.2.2.1 (bf x.1.1.1)) ((a1 x.1.1.1 (x.1.2.2.1).1).bind λcR=>(zE ((cR,()),())).bind λa9=>cond (!a9.1.1) ((nj (((W 1500),(W (-1)),(W (-1)),()),())).bind λbJ=>some (.inr (.inr ((),((bJ.1.1.1,bJ.1.1.2.1,bJ.1.1.2.2.1,()),()))))) (some (.inl ((x.1.1,(),(bc x.1.2.2.1 (W 1)),()),(x.2.1,()))))) (some (.inr (.inl ((),(x.2.1,())))))
def Fz:aY:=⟨[(1,.cJ hP 0),(2,b_),(4,au)],m5⟩
def azo:bG:=[((.exit 2),⟨[],m5⟩),(.ret,⟨[],m5⟩)]
def MP (x:U Fz):Option (U Fz⊕bo azo):=cond (bg x.1.2.2.1 (bf x.1.1.2.1)) ((a1 x.1.1.2.1 (x.1.2.2.1).1).bind λd_=>(B5 ((d_,()),())).bind λbT=>cond (!bT.1.1) ((nj (((W 1500),(W (-1)),(W (-1)),()),())).bind λdX=>some (.inr (.inr ((),((dX.1.1.1,dX.1.1.2.1,dX.1.1.2.2.1,()),()))))) ((a1 x.1.1.2.1 (x.1.2.2.1).1).bind λiA=>(k6 ((iA.1,()),())).bind λcy=>cond (!cy.1.1) ((nj (((W 1500),(W (-1)),(W (-1)),()),())).bind λdy=>some (.inr (.inr ((),((dy.1.1.1,dy.1.1.2.1,dy.1.1.2.2.1,()),()))))) (some (.inl ((x.1.1,(),(bc x.1.2.2.1 (W 1)),()),(x.2.1,())))))) (some (.inr (.inl ((),(x.2.1,())))))
def FA:aY:=⟨[(1,.cJ hP 0),(2,b_),(5,au)],m5⟩
def azr:bG:=[((.exit 4),⟨[],m5⟩),(.ret,⟨[],m5⟩)]
def MQ (x:U FA):Option (U FA⊕bo azr):=cond (bg x.1.2.2.1 (bf x.1.1.2.2.1)) ((NK ((x.1.1,x.1.2.2.1,()),())).bind λfe=>cond (!bb fe.1.1.1 (W 0)) (some (.inr (.inr ((),((fe.1.1.1,fe.1.1.2.1,fe.1.1.2.2.1,()),()))))) (some (.inl ((x.1.1,(),(bc x.1.2.2.1 (W 1)),()),(x.2.1,()))))) (some (.inr (.inl ((),(x.2.1,())))))
def FC:aY:=⟨[(1,.cJ hP 0),(2,b_),(8,au),(9,aC bp),(10,au)],m5⟩
def azx:bG:=[((.exit 8),⟨[],m5⟩),(.ret,⟨[],m5⟩)]
def MS (x:U FC):Option (U FC⊕bo azx):=(a1 x.1.1.2.2.1 (x.1.2.2.1).1).bind λJI=>cond (bg x.1.2.2.2.2.1 (bf JI.2.2.2.1)) ((a1 x.1.1.2.2.1 (x.1.2.2.1).1).bind λC8=>(NF ((x.1.1,C8,x.1.2.2.2.1,x.1.2.2.2.2.1,()),())).bind λYc=>cond (!bb Yc.1.1 (W 0)) ((nj ((Yc.1.1,x.1.2.2.1,x.1.2.2.2.2.1,()),())).bind λtU=>some (.inr (.inr ((),((tU.1.1.1,tU.1.1.2.1,tU.1.1.2.2.1,()),()))))) (some (.inl ((x.1.1,(),x.1.2.2.1,x.1.2.2.2.1,(bc x.1.2.2.2.2.1 (W 1)),()),(x.2.1,()))))) (some (.inr (.inl ((),(x.2.1,())))))
def FB:aY:=⟨[(1,.cJ hP 0),(2,b_),(8,au)],m5⟩
def azu:bG:=[((.exit 6),⟨[],m5⟩),(.ret,⟨[],m5⟩)]
def MR (x:U FB):Option (U FB⊕bo azu):=cond (bg x.1.2.2.1 (bf x.1.1.2.2.1)) ((a1 x.1.1.2.2.1 (x.1.2.2.1).1).bind λAh=>(tR ((Ah,()),())).bind λzK=>(a2 MS ((x.1.1,(),x.1.2.2.1,zK.1.1,(W 0),()),(x.2.1,()))).bind λCs=>Sum.elim (λzL=>some (.inl ((x.1.1,(),(bc x.1.2.2.1 (W 1)),()),(zL.2.1,())))) (λCt=>some (.inr (.inr ((),(Ct.2.1,()))))) Cs) (some (.inr (.inl ((),(x.2.1,())))))
def MN (x:U ahe):Option (U azA):=cond (bg (W 6) (bf x.1.1.1)) ((nj (((W 1500),(W (-1)),(W (-1)),()),())).bind λaq=>some ((aq.1.1,()),())) (cond (bg (W 12) (bf x.1.1.2.1)) ((nj (((W 1500),(W (-1)),(W (-1)),()),())).bind λaB=>some ((aB.1.1,()),())) (cond (bg (W 24) (bf x.1.1.2.2.1)) ((nj (((W 1500),(W (-1)),(W (-1)),()),())).bind λaK=>some ((aK.1.1,()),())) ((a2 MO ((x.1.1,(),(W 0),()),(((W 0),(W 0),(W 0),()),()))).bind λbK=>Sum.elim (λcl=>(a2 MP ((x.1.1,(),(W 0),()),(cl.2.1,()))).bind λeD=>Sum.elim (λeO=>(a2 MQ ((x.1.1,(),(W 0),()),(eO.2.1,()))).bind λfM=>Sum.elim (λiD=>(v7 ((x.1.1,(S ⟨#[109,97,105,110]⟩),()),())).bind λlD=>cond (bg lD.1.1 (W 0)) ((nj (((W 1504),(W (-1)),(W (-1)),()),())).bind λki=>some ((ki.1.1,()),())) ((a1 x.1.1.2.2.1 (lD.1.1).1).bind λAg=>cond (bg (W 0) (bf Ag.2.1)) ((nj (((W 1504),(W (-1)),(W (-1)),()),())).bind λmW=>some ((mW.1.1,()),())) ((a2 MR ((x.1.1,(),(W 0),()),(iD.2.1,()))).bind λanK=>Sum.elim (λI1=>some ((((W 0),(W 0),(W 0),()),()),())) (λRb=>some (((Rb.2.1.1,Rb.2.1.2.1,Rb.2.1.2.2.1,()),()),())) anK))) (λfa=>some (((fa.2.1.1,fa.2.1.2.1,fa.2.1.2.2.1,()),()),())) fM) (λeY=>some (((eY.2.1.1,eY.2.1.2.1,eY.2.1.2.2.1,()),()),())) eD) (λbO=>some (((bO.2.1.1,bO.2.1.2.1,bO.2.1.2.2.1,()),()),())) bK)))
def aiI:=aJ [(0,aC c7),(1,aZ)]
def aDo:=aJ [(0,aC c7)]
def Gx:aY:=⟨[(0,aC c7),(1,aZ),(5,.tok c7 0 []),(6,au)],[.bC c7]⟩
def aDm:bG:=[((.exit 0),⟨[(5,.tok c7 1 [])],[.gone,.bC c7]⟩)]
def NZ (x:U Gx):Option (U Gx⊕bo aDm):=cond (bg x.1.2.2.2.1 (bf x.1.1)) ((a1 x.1.1 (x.1.2.2.2.1).1).bind λaE=>cond (!cz aE.1 x.1.2.1) ((a1 x.1.1 (x.1.2.2.2.1).1).bind λaP=>(c6 32 x.1.2.2.1 (cD [aP])).bind λcg=>some (.inl ((x.1.1,x.1.2.1,cg,(bc x.1.2.2.2.1 (W 1)),()),((),())))) (some (.inl ((x.1.1,x.1.2.1,x.1.2.2.1,(bc x.1.2.2.2.1 (W 1)),()),((),()))))) (some (.inr ((x.1.2.2.1,()),((),(),()))))
def xu (x:U aiI):Option (U aDo):=(a2 NZ ((x.1.1,x.1.2.1,L.nil,(W 0),()),((),()))).bind λaS=>some ((aS.1.1,()),())
def aiG:=aJ [(0,aC c7),(1,aZ),(2,.agg jb)]
def aDk:=aJ [(0,aC c7)]
def Gv:=aJ [(1,aZ),(7,aC c7),(8,au)]
def aDi:bG:=[((.exit 0),aJ [(8,au)])]
def NY (x:U Gv):Option (U Gv⊕bo aDi):=cond (bg x.1.2.2.1 (bf x.1.2.1)) ((a1 x.1.2.1 (x.1.2.2.1).1).bind λaP=>cond (oA aP.1 x.1.1) (some (.inl ((x.1.1,x.1.2.1,(bc x.1.2.2.1 (W 1)),()),()))) (some (.inr ((x.1.2.2.1,()),())))) (some (.inr ((x.1.2.2.1,()),())))
def v9 (x:U aiG):Option (U aDk):=(xu ((x.1.1,x.1.2.1,()),())).bind λaq=>(a2 NY ((x.1.2.1,aq.1.1,(W 0),()),())).bind λaK=>(nM aq.1.1 0 (aK.1.1).1).bind λv4=>(c6 32 (L.nil:L (D [.str,.int .i64,.int .i64])) v4).bind λgV=>(c6 32 gV (cD [(x.1.2.1,x.1.2.2.1.1,x.1.2.2.1.2.1,())])).bind λiB=>(nM aq.1.1 (aK.1.1).1 aq.1.1.1.length).bind λdW=>(c6 32 iB dW).bind λjK=>some ((jK,()),())
def ahF:=aJ [(0,.agg ib),(1,.agg fx)]
def aAE:=aJ [(0,aC c7),(1,bA)]
def FR:=aJ [(2,.cJ ib 0),(3,.cJ fx 0),(6,aC c7),(7,au)]
def aAC:bG:=[((.exit 0),aJ [(6,aC c7)]),fK [(4,.dm),(5,bA)]]
def M8 (x:U FR):Option (U FR⊕bo aAC):=cond (bg x.1.2.2.2.1 (bf x.1.2.1.2.1)) ((a1 x.1.2.1.2.1 (x.1.2.2.2.1).1).bind λaE=>(B9 ((x.1.1,(aE.2.1,aE.2.2.1,()),()),())).bind λaB=>cond (!aB.1.2.1) (some (.inr (.inr (((),false,()),())))) ((a1 x.1.2.1.2.1 (x.1.2.2.2.1).1).bind λbS=>(v9 ((x.1.2.2.1,bS.1,aB.1.1,()),())).bind λaS=>some (.inl ((x.1.1,x.1.2.1,aS.1.1,(bc x.1.2.2.2.1 (W 1)),()),())))) (some (.inr (.inl ((x.1.2.2.1,()),()))))
def FQ (x:U ahF):Option (U aAE):=(a2 M8 ((x.1.1,x.1.2.1,L.nil,(W 0),()),())).bind λa9=>Sum.elim (λbJ=>some ((bJ.1.1,true,()),())) (λbK=>some ((L.nil,bK.1.2.1,()),())) a9
def aia:=aJ [(0,.agg ib),(1,aC c7)]
def aBD:=aJ [(0,bA)]
def F9:=aJ [(1,aC c7),(2,.cJ ib 0),(5,au)]
def aBA:bG:=[((.exit 0),aJ []),fK [(4,bA)]]
def No (x:U F9):Option (U F9⊕bo aBA):=cond (bg x.1.2.2.1 (bf x.1.1)) ((a1 x.1.1 (x.1.2.2.1).1).bind λaE=>cond (bb aE.2.1 (W 5)) ((a1 x.1.1 (x.1.2.2.1).1).bind λaP=>(a1 x.1.2.1.1 (aP.2.2.1).1).bind λbS=>cond (!bb bS.1 (W 0)) (some (.inr (.inr ((false,()),())))) (some (.inl ((x.1.1,x.1.2.1,(bc x.1.2.2.1 (W 1)),()),())))) (some (.inl ((x.1.1,x.1.2.1,(bc x.1.2.2.1 (W 1)),()),())))) (some (.inr (.inl ((),()))))
def F8 (x:U aia):Option (U aBD):=(a2 No ((x.1.2.1,x.1.1,(W 0),()),())).bind λaS=>Sum.elim (λa9=>some ((true,()),())) (λbJ=>some ((bJ.1.1,()),())) aS
def ah5:=aJ [(0,aC c7),(1,aZ)]
def aBh:=aJ [(0,.agg jb),(1,bA)]
def F3:aY:=⟨[(0,aC c7),(1,aZ),(4,b_),(6,au)],[.box [au,au]]⟩
def aBe:bG:=[((.exit 0),⟨[],[.box [au,au]]⟩),(.ret,⟨[(5,bA)],[.box [au,au]]⟩)]
def Ni (x:U F3):Option (U F3⊕bo aBe):=cond (bg x.1.2.2.2.1 (bf x.1.1)) ((a1 x.1.1 (x.1.2.2.2.1).1).bind λaE=>cond (cz aE.1 x.1.2.1) ((a1 x.1.1 (x.1.2.2.2.1).1).bind λaP=>some (.inr (.inr ((true,()),((aP.2.1,aP.2.2.1,()),()))))) (some (.inl ((x.1.1,x.1.2.1,(),(bc x.1.2.2.2.1 (W 1)),()),(x.2.1,()))))) (some (.inr (.inl ((),(x.2.1,())))))
def Nh (x:U ah5):Option (U aBh):=(a2 Ni ((x.1.1,x.1.2.1,(),(W 0),()),(((W 0),(W 0),()),()))).bind λaK=>Sum.elim (λaS=>some ((((W 0),(W 0),()),false,()),())) (λa9=>some (((a9.2.1.1,a9.2.1.2.1,()),a9.1.1,()),())) aK
def ahW:=aJ [(0,aC c7),(1,aZ)]
def aA8:=aJ [(0,au),(1,bA)]
def Bl (x:U ahW):Option (U aA8):=(Nh ((x.1.1,x.1.2.1,()),())).bind λaq=>cond (aq.1.2.1) (some ((aq.1.1.2.1,(bb aq.1.1.1 (W 5)),()),())) (some ((aq.1.1.2.1,false,()),()))
def aiy:=aJ [(0,.agg ib),(1,.agg cU),(2,aC c7),(3,au)]
def aCZ:=aJ [(0,.agg jS),(1,au)]
def Gp (x:U aiy):Option (U aCZ):=(Bl ((x.1.2.2.1,x.1.2.1.2.1,()),())).bind λaq=>cond (!aq.1.2.1) (some ((((W 0),(S ⟨#[]⟩),L.nil,()),(W 1800),()),())) ((a1 x.1.1.1 (aq.1.1).1).bind λaP=>cond (!bb aP.1 x.1.2.2.2.1) (some ((((W 0),(S ⟨#[]⟩),L.nil,()),(W 1801),()),())) (cond (!cz aP.2.1 x.1.2.1.2.2.1) (some ((((W 0),(S ⟨#[]⟩),L.nil,()),(W 1801),()),())) (some ((aP,(W 0),()),()))))
def ahT:=aJ [(0,.agg jS),(1,aZ)]
def aA7:=aJ [(0,.agg lF),(1,bA)]
def FZ:aY:=⟨[(1,aZ),(2,.cJ jS 0),(4,b_),(6,au)],RP⟩
def aA5:bG:=[((.exit 0),⟨[],RP⟩),(.ret,⟨[(5,bA)],RP⟩)]
def Nd (x:U FZ):Option (U FZ⊕bo aA5):=cond (bg x.1.2.2.2.1 (bf x.1.2.1.2.2.1)) ((a1 x.1.2.1.2.2.1 (x.1.2.2.2.1).1).bind λaE=>cond (cz aE.1 x.1.1) ((a1 x.1.2.1.2.2.1 (x.1.2.2.2.1).1).bind λaP=>some (.inr (.inr ((true,()),((aP.1,aP.2.1,aP.2.2.1,aP.2.2.2.1,()),()))))) (some (.inl ((x.1.1,x.1.2.1,(),(bc x.1.2.2.2.1 (W 1)),()),(x.2.1,()))))) (some (.inr (.inl ((),(x.2.1,())))))
def Bk (x:U ahT):Option (U aA7):=(a2 Nd ((x.1.2.1,x.1.1,(),(W 0),()),(((S ⟨#[]⟩),(W 0),(W 0),(W 0),()),()))).bind λaK=>Sum.elim (λaS=>some ((((S ⟨#[]⟩),(W 0),(W 0),(W 0),()),false,()),())) (λa9=>some (((a9.2.1.1,a9.2.1.2.1,a9.2.1.2.2.1,a9.2.1.2.2.2.1,()),a9.1.1,()),())) aK
def ah':=aJ [(0,.agg ib),(1,.agg cU),(2,aC c7)]
def aBx:=aJ [(0,aC [.a4 c7]),(1,au)]
def F6:=aJ [(4,.cJ cU 0),(8,.cJ jS 0),(10,au),(11,au)]
def aBr:bG:=[((.exit 0),aJ [(10,au)]),fK [(6,.dm),(7,au)]]
def Nm (x:U F6):Option (U F6⊕bo aBr):=cond (bg x.1.2.2.2.1 (bf x.1.1.2.2.2.2.2.2.2.2.1)) ((a1 x.1.1.2.2.2.2.2.2.2.2.1 (x.1.2.2.2.1).1).bind λaP=>cond (cz aP.1 (S ⟨#[]⟩)) (some (.inl ((x.1.1,x.1.2.1,x.1.2.2.1,(bc x.1.2.2.2.1 (W 1)),()),()))) ((a1 x.1.1.2.2.2.2.2.2.2.2.1 (x.1.2.2.2.1).1).bind λbS=>(Bk ((x.1.2.1,bS.1,()),())).bind λaS=>cond (!aS.1.2.1) (some (.inr (.inr (((),(W 1802),()),())))) (some (.inl ((x.1.1,x.1.2.1,(bc x.1.2.2.1 (W 1)),(bc x.1.2.2.2.1 (W 1)),()),()))))) (some (.inr (.inl ((x.1.2.2.1,()),()))))
def F7:aY:=⟨[(2,aC c7),(4,.cJ cU 0),(8,.cJ jS 0),(14,.tok [.a4 c7] 0 []),(15,au)],[.bC [.a4 c7]]⟩
def aBu:bG:=[((.exit 2),⟨[(14,.tok [.a4 c7] 1 [])],[.gone,.bC [.a4 c7]]⟩),(.ret,⟨[(6,.dm),(7,au)],[.gone]⟩)]
def Nn (x:U F7):Option (U F7⊕bo aBu):=cond (bg x.1.2.2.2.2.1 (bf x.1.2.1.2.2.2.2.2.2.2.2.1)) ((a1 x.1.2.1.2.2.2.2.2.2.2.2.1 (x.1.2.2.2.2.1).1).bind λdD=>cond (cz dD.1 (S ⟨#[]⟩)) ((xu ((x.1.1,x.1.2.1.2.1,()),())).bind λbO=>(c6 24 x.1.2.2.2.1 (cD [(bO.1.1,())])).bind λoz=>some (.inl ((x.1.1,x.1.2.1,x.1.2.2.1,oz,(bc x.1.2.2.2.2.1 (W 1)),()),((),())))) ((Bk ((x.1.2.2.1,dD.1,()),())).bind λbT=>cond (!((cz dD.2.1 (S ⟨#[]⟩))==(bb bT.1.1.2.1 (W 0)))) (some (.inr (.inr (((),(W 1803),()),((),()))))) ((v9 ((x.1.1,x.1.2.1.2.1,((W 5),bT.1.1.2.2.2.1,()),()),())).bind λcL=>cond (!cz dD.2.1 (S ⟨#[]⟩)) ((v9 ((cL.1.1,dD.2.1,(bT.1.1.2.1,bT.1.1.2.2.1,()),()),())).bind λcy=>(c6 24 x.1.2.2.2.1 (cD [(cy.1.1,())])).bind λtI=>some (.inl ((x.1.1,x.1.2.1,x.1.2.2.1,tI,(bc x.1.2.2.2.2.1 (W 1)),()),((),())))) ((c6 24 x.1.2.2.2.1 (cD [(cL.1.1,())])).bind λp4=>some (.inl ((x.1.1,x.1.2.1,x.1.2.2.1,p4,(bc x.1.2.2.2.2.1 (W 1)),()),((),()))))))) (some (.inr (.inl ((x.1.2.2.2.1,()),((),(),())))))
def Nl (x:U ah'):Option (U aBx):=(Gp ((x.1.1,x.1.2.1,x.1.2.2.1,(W 2),()),())).bind λaq=>cond (!bb aq.1.2.1 (W 0)) (some ((L.nil,aq.1.2.1,()),())) ((a2 Nm (((x.1.2.1.1,x.1.2.1.2.1,x.1.2.1.2.2.1,x.1.2.1.2.2.2.1,x.1.2.1.2.2.2.2.1,x.1.2.1.2.2.2.2.2.1,x.1.2.1.2.2.2.2.2.2.1,x.1.2.1.2.2.2.2.2.2.2.1,x.1.2.1.2.2.2.2.2.2.2.2.1,x.1.2.1.2.2.2.2.2.2.2.2.2.1,()),aq.1.1,(W 0),(W 0),()),())).bind λa9=>Sum.elim (λbJ=>cond (!bb bJ.1.1 (bf aq.1.1.2.2.1)) (some ((L.nil,(W 1802),()),())) ((a2 Nn ((x.1.2.2.1,x.1.2.1,aq.1.1,L.nil,(W 0),()),((),()))).bind λeD=>Sum.elim (λeO=>some ((eO.1.1,(W 0),()),())) (λeY=>some ((L.nil,eY.1.2.1,()),())) eD)) (λbK=>some ((L.nil,bK.1.2.1,()),())) a9)
def ait:=aJ [(0,.agg fx),(1,au),(2,aC c7)]
def aCD:=aJ [(0,au)]
def Bm (x:U ait):Option (U aCD):=(N2 ((x.1.1.2.2.1,x.1.2.1,x.1.2.2.1,()),())).bind λaq=>cond (!bb aq.1.2.1 (W 0)) (some (((W (-1)),()),())) (some ((aq.1.1,()),()))
def ahR:=aJ [(0,au)]
def aA3:=aJ [(0,bA)]
def FY (x:U ahR):Option (U aA3):=cond (f_ (W 0) x.1.1) (some (((bg x.1.1 (W 5)),()),())) (some ((false,()),()))
def ail:=aJ [(0,.agg fx),(1,.agg cU),(2,aC c7)]
def aB5:=aJ [(0,aC c7),(1,au)]
def Vm:=aJ [(4,.cJ cU 0),(8,au)]
def aik:=[ju [(14,bA)]]
def Vl (x:U Vm):Option (bo aik):=cond (bb x.1.1.1 (W 1)) ((FY ((x.1.2.1,()),())).bind λaB=>some ((aB.1.1,()),())) (some ((false,()),()))
def Ny (x:U ail):Option (U aB5):=(Bm ((x.1.1,x.1.2.1.2.2.2.2.2.1,x.1.2.2.1,()),())).bind λaq=>(Vl ((x.1.2.1,aq.1.1,()),())).bind λaK=>cond (aK.1.1) ((v9 ((x.1.2.2.1,x.1.2.1.2.1,(aq.1.1,(W 0),()),()),())).bind λaS=>some ((aS.1.1,(W 0),()),())) (cond (bb x.1.2.1.1 (W 2)) ((FY ((aq.1.1,()),())).bind λa9=>cond (a9.1.1) (cond (!bb aq.1.1 (W 0)) (cond (!bb aq.1.1 (W 0)) (some ((x.1.2.2.1,(W 0),()),())) (some ((L.nil,(W 1804),()),()))) (cond (bb x.1.2.1.1 (W 3)) (cond (bb aq.1.1 (W 2)) (some ((x.1.2.2.1,(W 0),()),())) (some ((L.nil,(W 1804),()),()))) (some ((L.nil,(W 1804),()),())))) (cond (bb x.1.2.1.1 (W 3)) (cond (bb aq.1.1 (W 2)) (some ((x.1.2.2.1,(W 0),()),())) (some ((L.nil,(W 1804),()),()))) (some ((L.nil,(W 1804),()),())))) (cond (bb x.1.2.1.1 (W 3)) (cond (bb aq.1.1 (W 2)) (some ((x.1.2.2.1,(W 0),()),())) (some ((L.nil,(W 1804),()),()))) (some ((L.nil,(W 1804),()),()))))
def ah6:=aJ [(0,.agg fx),(1,au),(2,aC c7)]
def aBj:=aJ [(0,aZ),(1,au),(2,bA)]
def F4 (x:U ah6):Option (U aBj):=(a1 x.1.1.2.2.1 (x.1.2.1).1).bind λaE=>cond (!bb aE.1 (W 0)) (some (((S ⟨#[]⟩),(W 0),false,()),())) ((Bl ((x.1.2.2.1,aE.2.1,()),())).bind λaB=>some ((aE.2.1,aB.1.1,aB.1.2.1,()),()))
def aio:=aJ [(0,.agg ib),(1,.agg fx),(2,.agg cU),(3,aC c7)]
def aCi:=aJ [(0,aC c7),(1,au)]
def ND (x:U aio):Option (U aCi):=(Gp ((x.1.1,x.1.2.2.1,x.1.2.2.2.1,(W 1),()),())).bind λaq=>cond (!bb aq.1.2.1 (W 0)) (some ((L.nil,aq.1.2.1,()),())) ((Bk ((aq.1.1,x.1.2.2.1.2.2.2.1,()),())).bind λaB=>cond (!aB.1.2.1) (some ((L.nil,(W 1802),()),())) ((v9 ((x.1.2.2.2.1,x.1.2.2.1.2.1,((W 5),aB.1.1.2.2.2.1,()),()),())).bind λaK=>cond (bb aB.1.1.2.1 (W 0)) (cond (!bb x.1.2.2.1.2.2.2.2.2.1 (W (-1))) (some ((L.nil,(W 1803),()),())) (some ((aK.1.1,(W 0),()),()))) (cond (bb x.1.2.2.1.2.2.2.2.2.1 (W (-1))) (some ((L.nil,(W 1803),()),())) (cond (bb aB.1.1.2.1 (W 5)) ((F4 ((x.1.2.1,x.1.2.2.1.2.2.2.2.2.1,x.1.2.2.2.1,()),())).bind λaS=>cond (!aS.1.2.2.1) (some ((L.nil,(W 1803),()),())) (cond (cz aS.1.1 x.1.2.2.1.2.1) (some ((L.nil,(W 1803),()),())) ((B_ ((x.1.1,aS.1.2.1,aB.1.1.2.2.1,()),())).bind λa9=>cond (!a9.1.1) (some ((L.nil,(W 1803),()),())) ((xu ((aK.1.1,aS.1.1,()),())).bind λbJ=>some ((bJ.1.1,(W 0),()),()))))) ((Bm ((x.1.2.1,x.1.2.2.1.2.2.2.2.2.1,x.1.2.2.2.1,()),())).bind λbK=>cond (!bb bK.1.1 aB.1.1.2.1) (some ((L.nil,(W 1803),()),())) (some ((aK.1.1,(W 0),()),())))))))
def ah1:=aJ [(0,.agg ib),(1,.agg fx),(2,aC gI),(3,aC bp),(4,aC c7)]
def aBc:=aJ [(0,aC c7),(1,au)]
def F2:=aJ [(2,aC gI),(3,aC bp),(5,.cJ ib 0),(6,.cJ fx 0),(12,aC c7),(13,au)]
def aBa:bG:=[((.exit 0),aJ [(12,aC c7)]),fK [(10,.dm),(11,au)]]
def Ng (x:U F2):Option (U F2⊕bo aBa):=cond (bg x.1.2.2.2.2.2.1 (bf x.1.2.1)) ((a1 x.1.1 (x.1.2.2.2.2.2.1).1).bind λaE=>(B9 ((x.1.2.2.1,(aE.2.1,aE.2.2.1,()),()),())).bind λaB=>cond (!bb aB.1.1.1 (W 5)) ((a1 x.1.2.1 (x.1.2.2.2.2.2.1).1).bind λbS=>(Bm ((x.1.2.2.2.1,bS.1,x.1.2.2.2.2.1,()),())).bind λaS=>cond (!bb aS.1.1 aB.1.1.1) (some (.inr (.inr (((),(W 1805),()),())))) (some (.inl ((x.1.1,x.1.2.1,x.1.2.2.1,x.1.2.2.2.1,x.1.2.2.2.2.1,(bc x.1.2.2.2.2.2.1 (W 1)),()),())))) ((a1 x.1.2.1 (x.1.2.2.2.2.2.1).1).bind λdO=>(F4 ((x.1.2.2.2.1,dO.1,x.1.2.2.2.2.1,()),())).bind λbJ=>cond (!bJ.1.2.2.1) (some (.inr (.inr (((),(W 1800),()),())))) ((B_ ((x.1.2.2.1,bJ.1.2.1,aB.1.1.2.1,()),())).bind λbK=>cond (!bK.1.1) (some (.inr (.inr (((),(W 1805),()),())))) ((xu ((x.1.2.2.2.2.1,bJ.1.1,()),())).bind λcl=>some (.inl ((x.1.1,x.1.2.1,x.1.2.2.1,x.1.2.2.2.1,cl.1.1,(bc x.1.2.2.2.2.2.1 (W 1)),()),())))))) (some (.inr (.inl ((x.1.2.2.2.2.1,()),()))))
def F1 (x:U ah1):Option (U aBc):=(a2 Ng ((x.1.2.2.1,x.1.2.2.2.1,x.1.1,x.1.2.1,x.1.2.2.2.2.1,(W 0),()),())).bind λbO=>Sum.elim (λcc=>some ((cc.1.1,(W 0),()),())) (λbT=>some ((L.nil,bT.1.2.1,()),())) bO
def aid:=aJ [(0,.agg hP),(1,.agg ib),(2,.agg fx),(3,.agg cU),(4,aC c7)]
def aBI:=aJ [(0,aC c7),(1,au)]
def F_:=aJ [(5,.cJ hP 0),(6,.cJ ib 0),(7,.cJ fx 0),(8,.cJ cU 0),(12,aC c7),(13,au)]
def aBF:bG:=[((.exit 0),aJ [(12,aC c7)]),fK [(10,.dm),(11,au)]]
def Nq (x:U F_):Option (U F_⊕bo aBF):=cond (bg x.1.2.2.2.2.2.1 (bf x.1.2.2.2.1.2.2.2.2.2.2.2.1)) ((a1 x.1.2.2.2.1.2.2.2.2.2.2.2.1 (x.1.2.2.2.2.2.1).1).bind λaE=>(v7 ((x.1.1,aE.2.1,()),())).bind λaB=>(a1 x.1.1.2.2.1 (aB.1.1).1).bind λbS=>(a1 bS.2.1 ((W 0)).1).bind λcR=>(B9 ((x.1.2.1,(cR.2.1,cR.2.2.1,()),()),())).bind λa9=>(fE x.1.2.2.2.1.2.2.2.1 (S ⟨#[46]⟩)).bind λv6=>(a1 x.1.2.2.2.1.2.2.2.2.2.2.2.1 (x.1.2.2.2.2.2.1).1).bind λfm=>(fE v6 fm.1).bind λdx=>(HI ((x.1.2.1,dx,()),())).bind λbO=>cond (!bb a9.1.1.1 (W 5)) (some (.inr (.inr (((),(W 1806),()),())))) ((B_ ((x.1.2.1,bO.1.1,a9.1.1.2.1,()),())).bind λcc=>cond (!cc.1.1) (some (.inr (.inr (((),(W 1806),()),())))) ((nM bS.2.1 ((W 1)).1 bS.2.1.1.length).bind λv11=>(a1 x.1.2.2.2.1.2.2.2.2.2.2.2.1 (x.1.2.2.2.2.2.1).1).bind λiA=>(F1 ((x.1.2.1,x.1.2.2.1,v11,iA.2.2.1,x.1.2.2.2.2.1,()),())).bind λcy=>cond (!bb cy.1.2.1 (W 0)) (some (.inr (.inr (((),cy.1.2.1,()),())))) (some (.inl ((x.1.1,x.1.2.1,x.1.2.2.1,x.1.2.2.2.1,cy.1.1,(bc x.1.2.2.2.2.2.1 (W 1)),()),())))))) (some (.inr (.inl ((x.1.2.2.2.2.1,()),()))))
def Np (x:U aid):Option (U aBI):=(a2 Nq ((x.1.1,x.1.2.1,x.1.2.2.1,x.1.2.2.2.1,x.1.2.2.2.2.1,(W 0),()),())).bind λdX=>Sum.elim (λdy=>(fE x.1.2.2.2.1.2.2.2.1 (S ⟨#[46]⟩)).bind λlj=>(fE lj x.1.2.2.2.1.2.2.1).bind λIW=>(HI ((x.1.2.1,IW,()),())).bind λfe=>(v9 ((dy.1.1,x.1.2.2.2.1.2.1,((W 5),fe.1.1,()),()),())).bind λfM=>some ((fM.1.1,(W 0),()),())) (λeD=>some ((L.nil,eD.1.2.1,()),())) dX
def ahb:=aJ [(0,.agg hP),(1,.agg ib),(2,.agg fx),(3,.agg cU),(4,aC c7)]
def ay7:=aJ [(0,aC [.a4 c7]),(1,au)]
def UR:=aJ [(17,au)]
def ag':=[ju [(34,bA)]]
def UQ (x:U UR):Option (bo ag'):=cond (bb x.1.1 (W 1)) (some (((bb x.1.1 (W 1)),()),())) (cond (bb x.1.1 (W 2)) (some (((bb x.1.1 (W 2)),()),())) (some (((bb x.1.1 (W 3)),()),())))
def UT:=aJ [(17,au)]
def aha:=[ju [(55,bA)]]
def US (x:U UT):Option (bo aha):=cond (bb x.1.1 (W 6)) (some (((bb x.1.1 (W 6)),()),())) (some (((bb x.1.1 (W 7)),()),()))
def UP:=aJ [(4,aC c7),(5,.cJ hP 0),(6,.cJ ib 0),(7,.cJ fx 0),(8,.cJ cU 0),(12,.dm),(13,au)]
def ag_:=[ju [(12,aC c7),(13,au)],fK [(10,aC [.a4 c7]),(11,au)]]
def UO (x:U UP):Option (bo ag_):=cond (bb x.1.2.2.2.2.1.1 (W 0)) ((F8 ((x.1.2.2.1,x.1.1,()),())).bind λaq=>cond (!aq.1.1) (some (.inr ((L.nil,(W 1807),()),()))) (some (.inr ((L.nil,(W 0),()),())))) (cond (bb x.1.2.2.2.2.1.1 (W 10)) (some (.inr ((L.nil,(W 0),()),()))) (cond (bb x.1.2.2.2.2.1.1 (W 5)) ((Nl ((x.1.2.2.1,x.1.2.2.2.2.1,x.1.1,()),())).bind λaB=>some (.inr ((aB.1.1,aB.1.2.1,()),()))) ((UQ ((x.1.2.2.2.2.1.1,()),())).bind λaK=>cond (aK.1.1) ((Ny ((x.1.2.2.2.1,x.1.2.2.2.2.1,x.1.1,()),())).bind λaS=>some (.inl ((aS.1.1,aS.1.2.1,()),()))) (cond (bb x.1.2.2.2.2.1.1 (W 4)) ((ND ((x.1.2.2.1,x.1.2.2.2.1,x.1.2.2.2.2.1,x.1.1,()),())).bind λa9=>some (.inl ((a9.1.1,a9.1.2.1,()),()))) ((US ((x.1.2.2.2.2.1.1,()),())).bind λbJ=>cond (bJ.1.1) ((v7 ((x.1.2.1,x.1.2.2.2.2.1.2.2.2.2.1,()),())).bind λbK=>(a1 x.1.2.1.2.2.1 (bK.1.1).1).bind λdD=>(F1 ((x.1.2.2.1,x.1.2.2.2.1,dD.2.1,x.1.2.2.2.2.1.2.2.2.2.2.2.1,x.1.1,()),())).bind λbO=>cond (bb bO.1.2.1 (W 0)) (cond (bb x.1.2.2.2.2.1.1 (W 6)) ((F8 ((x.1.2.2.1,bO.1.1,()),())).bind λcc=>cond (!cc.1.1) (some (.inr ((L.nil,(W 1807),()),()))) (some (.inr ((L.nil,(W 0),()),())))) (some (.inl ((bO.1.1,bO.1.2.1,()),())))) (some (.inl ((bO.1.1,bO.1.2.1,()),())))) (cond (bb x.1.2.2.2.2.1.1 (W 8)) ((Np ((x.1.2.1,x.1.2.2.1,x.1.2.2.2.1,x.1.2.2.2.2.1,x.1.1,()),())).bind λbT=>some (.inl ((bT.1.1,bT.1.2.1,()),()))) (cond (bb x.1.2.2.2.2.1.1 (W 9)) ((Bl ((x.1.1,x.1.2.2.2.2.1.2.1,()),())).bind λcL=>cond (!cL.1.2.1) (some (.inr ((L.nil,(W 1800),()),()))) ((xu ((x.1.1,x.1.2.2.2.2.1.2.1,()),())).bind λcy=>some (.inl ((cy.1.1,x.1.2.2.2.2.2.2.1,()),())))) (some (.inl ((L.nil,x.1.2.2.2.2.2.2.1,()),()))))))))))
def MH (x:U ahb):Option (U ay7):=(UO ((x.1.2.2.2.2.1,x.1.1,(x.1.2.1.1,x.1.2.1.2.1,x.1.2.1.2.2.1,()),(x.1.2.2.1.1,x.1.2.2.1.2.1,x.1.2.2.1.2.2.1,x.1.2.2.1.2.2.2.1,()),(x.1.2.2.2.1.1,x.1.2.2.2.1.2.1,x.1.2.2.2.1.2.2.1,x.1.2.2.2.1.2.2.2.1,x.1.2.2.2.1.2.2.2.2.1,x.1.2.2.2.1.2.2.2.2.2.1,x.1.2.2.2.1.2.2.2.2.2.2.1,x.1.2.2.2.1.2.2.2.2.2.2.2.1,x.1.2.2.2.1.2.2.2.2.2.2.2.2.1,x.1.2.2.2.1.2.2.2.2.2.2.2.2.2.1,()),(),(W 0),()),())).bind λdX=>Sum.elim (λdy=>cond (!bb dy.1.2.1 (W 0)) (some ((L.nil,dy.1.2.1,()),())) (cond (bb x.1.2.2.2.1.1 (W 3)) (some (((cD [(dy.1.1,()),(dy.1.1,())]),(W 0),()),())) (some (((cD [(dy.1.1,())]),(W 0),()),())))) (λeD=>some ((eD.1.1,eD.1.2.1,()),())) dX
def aim:=aJ [(0,.agg hP),(1,.agg ib),(2,au)]
def aCc:=aJ [(0,aC fT),(1,.agg s5)]
def Gf:aY:=⟨[(9,.arr 0 fT [false,false]),(13,aC [.a4 c7]),(15,aC bp),(16,au)],[.arr fT [false,false]]⟩
def aB':bG:=[((.exit 2),⟨[],[.arr fT [false,false]]⟩)]
def NB (x:U Gf):Option (U Gf⊕bo aB'):=cond (bg x.1.2.2.2.1 (bf x.1.2.2.1)) ((a1 x.1.2.2.1 (x.1.2.2.2.1).1).bind λgw=>(a1 x.1.2.1 (x.1.2.2.2.1).1).bind λiA=>(c6 32 (L.nil:L (D [.str,.int .i64,.int .i64])) iA.1).bind λnB=>cond (decide (0<=(gw.1).1)&&decide ((gw.1).1<(x.2.1.1.length:Nat))) ((fq x.2.1 ((gw.1).1).toNat).bind λiu=>some (.inl (((),x.1.2.1,x.1.2.2.1,(bc x.1.2.2.2.1 (W 1)),()),((ej x.2.1 ((gw.1).1).toNat (true,nB,())),())))) (none)) (some (.inr ((),(x.2.1,()))))
def Ge:aY:=⟨[(2,au),(3,.cJ hP 0),(4,.cJ ib 0),(7,b_),(8,.cJ fx 0),(9,.arr 1 fT [false,false]),(12,au)],RL⟩
def aB8:bG:=[((.exit 0),⟨[],RL⟩),(.ret,⟨[(6,.dm)],RL⟩)]
def NA (x:U Ge):Option (U Ge⊕bo aB8):=cond (bg x.1.2.2.2.2.2.2.1 (bf x.1.2.2.2.2.1.2.2.2.1)) ((a1 x.1.2.2.2.2.1.2.2.2.1 (x.1.2.2.2.2.2.2.1).1).bind λdO=>cond (decide (0<=(x.1.2.2.2.2.2.2.1).1)&&decide ((x.1.2.2.2.2.2.2.1).1<(x.2.2.1.1.length:Nat))) ((fq x.2.2.1 ((x.1.2.2.2.2.2.2.1).1).toNat).bind λdb=>(MH ((x.1.2.1,x.1.2.2.1,x.1.2.2.2.2.1,dO,db.2.1,()),())).bind λbK=>cond (!bb bK.1.2.1 (W 0)) ((nj ((bK.1.2.1,x.1.1,x.1.2.2.2.2.2.2.1,()),())).bind λcl=>some (.inr (.inr (((),()),((cl.1.1.1,cl.1.1.2.1,cl.1.1.2.2.1,()),x.2.2.1,()))))) ((a1 x.1.2.2.2.2.1.2.2.2.1 (x.1.2.2.2.2.2.2.1).1).bind λeV=>(v8 ((eV,()),())).bind λcc=>(a2 NB (((),bK.1.1,cc.1.1,(W 0),()),(x.2.2.1,()))).bind λdy=>some (.inl ((x.1.1,x.1.2.1,x.1.2.2.1,(),x.1.2.2.2.2.1,(),(bc x.1.2.2.2.2.2.2.1 (W 1)),()),((x.2.1.1,x.2.1.2.1,x.2.1.2.2.1,()),dy.2.1,()))))) (none)) (some (.inr (.inl ((),((x.2.1.1,x.2.1.2.1,x.2.1.2.2.1,()),x.2.2.1,())))))
def Nz (x:U aim):Option (U aCc):=(a1 x.1.1.2.2.1 (x.1.2.2.1).1).bind λaE=>(rh (α:=D [.bool,.a4 [.str,.int .i64,.int .i64]]) 32 (bf aE.2.2.2.1) (false,L.nil,())).bind λea=>(FQ ((x.1.2.1,aE,()),())).bind λaK=>cond (decide (0<=((W 0)).1)&&decide (((W 0)).1<(ea.1.length:Nat))) ((fq ea (((W 0)).1).toNat).bind λcR=>(a2 NA ((x.1.2.2.1,x.1.1,(x.1.2.1.1,x.1.2.1.2.1,x.1.2.1.2.2.1,()),(),aE,(),(W 0),()),(((W 0),(W 0),(W 0),()),(ej ea (((W 0)).1).toNat (true,aK.1.1,())),()))).bind λeD=>Sum.elim (λeO=>some ((eO.2.2.1,((W 0),(W 0),(W 0),()),()),())) (λeY=>some ((L.nil,(eY.2.1.1,eY.2.1.2.1,eY.2.1.2.2.1,()),()),())) eD) (none)
def ahQ:=aJ [(0,.agg hP)]
def aA0:=aJ [(0,.agg ib),(1,aC [.a4 fT]),(2,.agg s5)]
def FW:aY:=⟨[(1,.cJ hP 0),(2,b_),(4,.ptr 1 0),(6,.cJ ib 0),(8,au)],RM⟩
def aAU:bG:=[((.exit 0),⟨[],RM⟩),(.ret,⟨[(3,.dm)],RM⟩)]
def Nb (x:U FW):Option (U FW⊕bo aAU):=cond (bg x.1.2.2.2.2.1 (bf x.1.1.2.2.1)) ((a1 x.1.1.2.2.1 (x.1.2.2.2.2.1).1).bind λbS=>(FQ ((x.1.2.2.2.1,bS,()),())).bind λaS=>cond (!aS.1.2.1) ((nj (((W 1805),x.1.2.2.2.2.1,(W (-1)),()),())).bind λa9=>some (.inr (.inr (((),()),(((),(),(),()),(a9.1.1.1,a9.1.1.2.1,a9.1.1.2.2.1,()),()))))) (some (.inl ((x.1.1,(),(),x.1.2.2.2.1,(bc x.1.2.2.2.2.1 (W 1)),()),(((),(),(),()),x.2.2.1,()))))) (some (.inr (.inl ((),(((),(),(),()),x.2.2.1,())))))
def FX:aY:=⟨[(1,.cJ hP 0),(2,b_),(4,.ptr 1 0),(6,.cJ ib 0),(11,.tok [.a4 fT] 2 []),(12,au)],[.box [.dm,.dm,.dm],.box [au,au,au],.bC [.a4 fT]]⟩
def aAX:bG:=[((.exit 2),⟨[(11,.tok [.a4 fT] 3 [])],[.box [.dm,.dm,.dm],.box [au,au,au],.gone,.bC [.a4 fT]]⟩),(.ret,⟨[(3,.dm)],[.box [.dm,.dm,.dm],.box [au,au,au],.gone]⟩)]
def Nc (x:U FX):Option (U FX⊕bo aAX):=cond (bg x.1.2.2.2.2.2.1 (bf x.1.1.2.2.1)) ((Nz ((x.1.1,x.1.2.2.2.1,x.1.2.2.2.2.2.1,()),())).bind λbO=>cond (!bb bO.1.2.1.1 (W 0)) (some (.inr (.inr (((),()),(((),(),(),()),(bO.1.2.1.1,bO.1.2.1.2.1,bO.1.2.1.2.2.1,()),(),()))))) ((c6 24 x.1.2.2.2.2.1 (cD [(bO.1.1,())])).bind λoz=>some (.inl ((x.1.1,(),(),x.1.2.2.2.1,oz,(bc x.1.2.2.2.2.2.1 (W 1)),()),(((),(),(),()),x.2.2.1,(),()))))) (some (.inr (.inl ((x.1.2.2.2.2.1,()),(((),(),(),()),x.2.2.1,(),(),())))))
def Na (x:U ahQ):Option (U aA0):=(MN ((x.1.1,()),())).bind λaq=>cond (!bb aq.1.1.1 (W 0)) (some (((L.nil,L.nil,L.nil,()),L.nil,aq.1.1,()),())) ((Ph ((x.1.1.1,x.1.1.2.1,()),())).bind λaB=>cond (!bb aB.1.2.1.1 (W 0)) (some (((L.nil,L.nil,L.nil,()),L.nil,aB.1.2.1,()),())) ((a2 Nb ((x.1.1,(),(),aB.1.1,(W 0),()),(((),(),(),()),((W 0),(W 0),(W 0),()),()))).bind λbJ=>Sum.elim (λbK=>(a2 Nc ((x.1.1,(),(),aB.1.1,L.nil,(W 0),()),(((),(),(),()),bK.2.2.1,(),()))).bind λbT=>Sum.elim (λcL=>some ((aB.1.1,cL.1.1,((W 0),(W 0),(W 0),()),()),())) (λcy=>some (((L.nil,L.nil,L.nil,()),L.nil,(cy.2.2.1.1,cy.2.2.1.2.1,cy.2.2.1.2.2.1,()),()),())) bT) (λcl=>some (((L.nil,L.nil,L.nil,()),L.nil,(cl.2.2.1.1,cl.2.2.1.2.1,cl.2.2.1.2.2.1,()),()),())) bJ))
def ahE:=aJ [(0,.agg hP)]
def aAz:=aJ [(0,aC [.a4 fT]),(1,.agg s5)]
def M7 (x:U ahE):Option (U aAz):=(Na ((x.1.1,()),())).bind λaq=>some ((aq.1.2.1,aq.1.2.2.1,()),())
def ahg:=aJ [(0,.agg du)]
def azM:=aJ [(0,.agg du)]
def FE:aY:=⟨[(1,b_),(3,.tok ff 2 []),(4,au)],[.box [aZ,.tok ck 1 [],aC ff],.bC ck,.bC ff]⟩
def azJ:bG:=[((.exit 0),⟨[(3,.tok ff 3 [])],[.box [aZ,.tok ck 4 [],aC ff],.gone,.gone,.bC ff,.bC ck]⟩)]
def MW (x:U FE):Option (U FE⊕bo azJ):=cond (bg x.1.2.2.1 (bf x.2.1.2.2.1)) ((a1 x.2.1.2.2.1 (x.1.2.2.1).1).bind λaP=>(c6 48 (L.nil:L (D [.str,.int .i64,.str,.int .i64])) aP.2.2.1).bind λcg=>(c6 56 x.1.2.1 (cD [(aP.1,aP.2.1,cg,())])).bind λjj=>some (.inl (((),jj,(bc x.1.2.2.1 (W 1)),()),(x.2.1,(),(),())))) (some (.inr ((x.1.2.1,()),(x.2.1,(),(),(),(),()))))
def MV (x:U ahg):Option (U azM):=(c6 16 (L.nil:L (D [.str])) x.1.1.2.1).bind λdF=>(a2 MW (((),L.nil,(W 0),()),((x.1.1.1,dF,x.1.1.2.2.1,()),(),(),()))).bind λa9=>some (((a9.2.1.1,a9.2.1.2.1,a9.1.1,()),()),())
def ahf:=aJ [(0,.agg dZ)]
def azG:=aJ [(0,.agg dZ)]
def FD:aY:=⟨[(1,b_),(3,.tok fS 1 []),(4,au)],[.box [aZ,aC fS],.bC fS]⟩
def azD:bG:=[((.exit 0),⟨[(3,.tok fS 2 [])],[.box [aZ,aC fS],.gone,.bC fS]⟩)]
def MU (x:U FD):Option (U FD⊕bo azD):=cond (bg x.1.2.2.1 (bf x.2.1.2.1)) ((a1 x.2.1.2.1 (x.1.2.2.1).1).bind λaE=>(c6 48 (L.nil:L (D [.str,.int .i64,.str,.int .i64])) aE.2.2.1).bind λea=>(c6 48 x.1.2.1 (cD [(aE.1,aE.2.1,ea,())])).bind λcg=>some (.inl (((),cg,(bc x.1.2.2.1 (W 1)),()),(x.2.1,(),())))) (some (.inr ((x.1.2.1,()),(x.2.1,(),(),()))))
def MT (x:U ahf):Option (U azG):=(a2 MU (((),L.nil,(W 0),()),((x.1.1.1,x.1.1.2.1,()),(),()))).bind λaS=>some (((aS.2.1.1,aS.1.1,()),()),())
def aAf:=aJ [(0,.agg du),(1,.agg du)]
def aAh:=aJ [(0,bA)]
def U0:=aJ [(2,.cJ du 0),(3,.cJ du 0),(5,au)]
def aAe:bG:=[((.exit 0),aJ []),fK [(4,bA)]]
def Bi (x:U U0):Option (U U0⊕bo aAe):=cond (bg x.1.2.2.1 (bf x.1.1.2.2.1)) ((a1 x.1.1.2.2.1 (x.1.2.2.1).1).bind λaP=>(a1 x.1.2.1.2.2.1 (x.1.2.2.1).1).bind λbS=>cond (!cz aP.1 bS.1) (some (.inr (.inr ((false,()),())))) ((a1 x.1.1.2.2.1 (x.1.2.2.1).1).bind λcR=>(a1 x.1.2.1.2.2.1 (x.1.2.2.1).1).bind λdO=>cond (!cz cR.2.1 dO.2.1) (some (.inr (.inr ((false,()),())))) ((a1 x.1.1.2.2.1 (x.1.2.2.1).1).bind λdb=>(a1 x.1.2.1.2.2.1 (x.1.2.2.1).1).bind λfm=>(HJ ((db.2.2.1,fm.2.2.1,()),())).bind λcl=>cond (!cl.1.1) (some (.inr (.inr ((false,()),())))) (some (.inl ((x.1.1,x.1.2.1,(bc x.1.2.2.1 (W 1)),()),())))))) (some (.inr (.inl ((),()))))
def M3 (x:U aAf):Option (U aAh):=cond (!cz x.1.1.1 x.1.2.1.1) (some ((false,()),())) ((PA ((x.1.1.2.1,x.1.2.1.2.1,()),())).bind λaq=>cond (!aq.1.1) (some ((false,()),())) (cond (!bb (bf x.1.1.2.2.1) (bf x.1.2.1.2.2.1)) (some ((false,()),())) ((a2 Bi ((x.1.1,x.1.2.1,(W 0),()),())).bind λbO=>Sum.elim (λcc=>some ((true,()),())) (λbT=>some ((bT.1.1,()),())) bO)))
def az_:=aJ [(0,aC bp),(1,aC bp)]
def aAa:=aJ [(0,bA)]
def UZ:=aJ [(0,aC bp),(1,aC bp),(5,au)]
def az9:bG:=[((.exit 0),aJ []),fK [(4,bA)]]
def Bh (x:U UZ):Option (U UZ⊕bo az9):=cond (bg x.1.2.2.1 (bf x.1.1)) ((a1 x.1.1 (x.1.2.2.1).1).bind λaE=>(a1 x.1.2.1 (x.1.2.2.1).1).bind λaP=>cond (!bb aE.1 aP.1) (some (.inr (.inr ((false,()),())))) (some (.inl ((x.1.1,x.1.2.1,(bc x.1.2.2.1 (W 1)),()),())))) (some (.inr (.inl ((),()))))
def FM (x:U az_):Option (U aAa):=cond (!bb (bf x.1.1) (bf x.1.2.1)) (some ((false,()),())) ((a2 Bh ((x.1.1,x.1.2.1,(W 0),()),())).bind λaK=>Sum.elim (λaS=>some ((true,()),())) (λa9=>some ((a9.1.1,()),())) aK)
theorem Nf:bt 147 nj:=bF fl [] []
noncomputable def ah_:de:=⟨(put .nil 1 .bY),[aH sM,aH alb]⟩
theorem aBk:bV 211 0 Nk:=b5 ah_ [] []
theorem aBn:bt 211 Nj:=bF ah_ [bW aBk] []
noncomputable def ahi:de:=⟨(put .nil 2 .bY),[]⟩
theorem azO:bV 177 0 MX:=b5 ahi [] []
theorem FG:bt 177 v7:=bF ahi [bW azO] []
noncomputable def Vw:de:=⟨(put .nil 1 .bY),[]⟩
theorem aC3:bV 212 1 NV:=b5 Vw [] []
theorem aC0:bV 212 0 NU:=b5 Vw [bW aC3] []
theorem aC6:bt 212 NT:=bF Vw [bW aC0] []
theorem ahY:bt 152 F0:=bF fl [] []
noncomputable def ahk:de:=⟨(put .nil 1 .bY),[aH ahY]⟩
theorem azS:bV 101 0 MY:=b5 ahk [] []
theorem Bf:bt 101 v8:=bF ahk [bW azS] []
noncomputable def Nx:de:=⟨(put (put (put .nil 1 .bY) 12 (.arr [false])) 27 (.arr [false])),[aH Bf]⟩
theorem aBT:bV 178 0 Nu:=b5 Nx [] []
theorem aBZ:bV 178 2 Nw:=b5 Nx [] []
theorem aBW:bV 178 1 Nv:=b5 Nx [bW aBZ] []
theorem aii:bt 178 tR:=bF Nx [bW aBT,bW aBW] []
theorem aCN:bt 242 zA:=bF ⟨.nil,[aH sM]⟩ [] []
noncomputable def VB:de:=⟨(put (put .nil 1 .bY) 4 .bY),[aH sM]⟩
theorem aDc:bV 243 1 NX:=b5 VB [] []
theorem aC':bV 243 0 NW:=b5 VB [bW aDc] [.c 11 VA aiD]
theorem aDf:bt 243 Gs:=bF VB [bW aC'] [.c 3 Vy aiC]
noncomputable def ahO:de:=⟨(put (put .nil 1 .bY) 4 .bY),[aH sM]⟩
theorem aAO:bV 244 0 M':=b5 ahO [] []
theorem aAR:bt 244 FU:=bF ahO [bW aAO] []
theorem aAn:bt 213 M4:=bF ⟨(put .nil 1 .bY),[aH ahY,aH aCN,aH aDf,aH aAR]⟩ [] [.c 11 U2 ahu,.c 13 U4 ahv,.c 15 U6 ahw,.c 17 U8 ahx,.c 27 U_ ahy]
noncomputable def Vv:de:=⟨(put .nil 3 .bY),[aH Bf]⟩
theorem aCQ:bV 214 0 NR:=b5 Vv [] []
theorem aCT:bV 214 1 NS:=b5 Vv [] []
theorem aCW:bt 214 NQ:=bF Vv [bW aCQ,bW aCT] [.c 10 Vu aiw]
theorem aCe:bt 215 NC:=bF ⟨(put .nil 1 .bY),[]⟩ [] []
noncomputable def ahq:de:=⟨(put .nil 1 .bY),[]⟩
theorem az3:bV 149 0 M1:=b5 ahq [] []
theorem ahp:bt 149 FK:=bF ahq [bW az3] [.c 5 UY ahn]
noncomputable def Vs:de:=⟨(put .nil 3 .bY),[aH ahp,aH ai3]⟩
theorem aCH:bV 216 1 NO:=b5 Vs [] []
theorem aCE:bV 216 0 NN:=b5 Vs [bW aCH] []
theorem aCK:bt 216 NM:=bF Vs [bW aCE] []
noncomputable def ais:de:=⟨(put (put (put .nil 2 .bY) 5 .bY) 36 (.arr [false])),[aH Nf,aH FG,aH aii,aH aBn,aH aC6,aH aAn,aH aCW,aH aCe,aH aCK]⟩
theorem aCx:bV 176 0 NL:=b5 ais [] []
theorem aCA:bt 176 NK:=bF ais [bW aCx] []
noncomputable def MM:de:=⟨(put (put .nil 3 .bY) 10 .bY),[aH VL]⟩
theorem ay_:bV 217 0 MJ:=b5 MM [] []
theorem aze:bV 217 2 ML:=b5 MM [] []
theorem azb:bV 217 1 MK:=b5 MM [bW aze] [.c 11 UW ahc]
theorem azh:bt 217 MI:=bF MM [bW ay_,bW azb] []
noncomputable def Vb:de:=⟨(put (put .nil 2 .bY) 5 .bY),[aH ahp,aH aD3,aH VL]⟩
theorem aAu:bV 100 1 M6:=b5 Vb [] []
theorem aAr:bV 100 0 M5:=b5 Vb [bW aAu] []
theorem ahC:bt 100 FN:=bF Vb [bW aAr] [.c 7 Va ahA]
noncomputable def ahL:de:=⟨(put .nil 1 .bY),[]⟩
theorem aAG:bV 218 0 M_:=b5 ahL [] []
theorem aAJ:bt 218 M9:=bF ahL [bW aAG] [.c 5 Vd ahJ]
theorem aAM:bt 219 Bj:=bF ⟨(put .nil 4 .bY),[aH FG]⟩ [] []
noncomputable def ahm:de:=⟨(put .nil 2 .bY),[]⟩
theorem azW:bV 245 0 M0:=b5 ahm [] []
theorem azZ:bt 245 MZ:=bF ahm [bW azW] []
noncomputable def Vk:de:=⟨(put (put (put .nil 2 .bY) 3 .bY) 24 .tok),[aH v_,aH aiV,aH azZ]⟩
theorem aBK:bV 220 0 Ns:=b5 Vk [] []
theorem aBN:bV 220 1 Nt:=b5 Vk [] []
theorem aBQ:bt 220 Nr:=bF Vk [bW aBK,bW aBN] []
noncomputable def NJ:de:=⟨(put (put (put .nil 4 .bY) 5 .bY) 9 .bY),[aH ahC,aH v_,aH azh,aH aAJ,aH aAM,aH aBQ]⟩
theorem aCl:bV 179 0 NG:=b5 NJ [] []
theorem aCo:bV 179 1 NH:=b5 NJ [] []
theorem aCr:bV 179 2 NI:=b5 NJ [] []
theorem aCu:bt 179 NF:=bF NJ [bW aCl,bW aCo,bW aCr] [.c 21 Vp aip]
noncomputable def Be:de:=⟨(put (put .nil 1 .bY) 6 .bY),[aH Pw,aH Nf,aH sM,aH W8,aH aCA,aH FG,aH aii,aH aCu]⟩
theorem azk:bV 144 0 MO:=b5 Be [] []
theorem azn:bV 144 1 MP:=b5 Be [] []
theorem azq:bV 144 2 MQ:=b5 Be [] []
theorem azw:bV 144 4 MS:=b5 Be [] []
theorem azt:bV 144 3 MR:=b5 Be [bW azw] []
theorem azz:bt 144 MN:=bF Be [bW azk,bW azn,bW azq,bW azt] []
theorem aDl:bV 228 0 NZ:=b5 fl [] []
theorem Gy:bt 228 xu:=bF fl [bW aDl] []
noncomputable def aiH:de:=⟨(put .nil 5 .bY),[aH Gy]⟩
theorem aDh:bV 187 0 NY:=b5 aiH [] []
theorem Gw:bt 187 v9:=bF aiH [bW aDh] []
noncomputable def ahH:de:=⟨(put (put (put .nil 2 .bY) 3 .bY) 8 .bY),[aH Xg,aH Gw]⟩
theorem aAB:bV 146 0 M8:=b5 ahH [] []
theorem ahG:bt 146 FQ:=bF ahH [bW aAB] []
noncomputable def aib:de:=⟨(put .nil 2 .bY),[]⟩
theorem aBz:bV 229 0 No:=b5 aib [] []
theorem aBC:bt 229 F8:=bF aib [bW aBz] []
theorem aBd:bV 256 0 Ni:=b5 fl [] []
theorem aBg:bt 256 Nh:=bF fl [bW aBd] []
theorem Vh:bt 235 Bl:=bF ⟨(put .nil 6 .bY),[aH aBg]⟩ [] []
theorem aiz:bt 249 Gp:=bF ⟨(put (put (put .nil 4 .bY) 5 .bY) 12 .bY),[aH Vh]⟩ [] []
noncomputable def ahV:de:=⟨(put .nil 2 .bY),[]⟩
theorem aA4:bV 250 0 Nd:=b5 ahV [] []
theorem ahU:bt 250 Bk:=bF ahV [bW aA4] []
noncomputable def Vj:de:=⟨(put (put (put (put (put (put .nil 3 .bY) 4 .bY) 8 .bY) 12 .bY) 16 .bY) 17 .bY),[aH Gw,aH Gy,aH aiz,aH ahU]⟩
theorem aBq:bV 230 0 Nm:=b5 Vj [] []
theorem aBt:bV 230 1 Nn:=b5 Vj [] []
theorem aBw:bt 230 Nl:=bF Vj [bW aBq,bW aBt] []
theorem Vq:bt 251 Bm:=bF ⟨(put .nil 3 .bY),[aH aDA]⟩ [] []
theorem aA2:bt 252 FY:=bF fl [] []
theorem aB4:bt 231 Ny:=bF ⟨(put (put .nil 3 .bY) 4 .bY),[aH Gw,aH Vq,aH aA2]⟩ [] [.c 7 Vm aik]
theorem ah7:bt 253 F4:=bF ⟨(put (put .nil 3 .bY) 9 .bY),[aH Vh]⟩ [] []
theorem aCh:bt 232 ND:=bF ⟨(put (put (put (put (put .nil 4 .bY) 5 .bY) 6 .bY) 10 .bY) 12 .bY),[aH Gw,aH Gy,aH aiz,aH ahU,aH Vq,aH ah7,aH Xj]⟩ [] []
noncomputable def ah3:de:=⟨(put (put (put .nil 5 .bY) 6 .bY) 14 .bY),[aH Xg,aH Gy,aH Vq,aH ah7,aH Xj]⟩
theorem aA':bV 233 0 Ng:=b5 ah3 [] []
theorem ah2:bt 233 F1:=bF ah3 [bW aA'] []
noncomputable def aie:de:=⟨(put (put (put (put (put .nil 5 .bY) 6 .bY) 7 .bY) 8 .bY) 15 .bY),[aH FG,aH Xg,aH Gw,aH ah2,aH Xj,aH aKa]⟩
theorem aBE:bV 234 0 Nq:=b5 aie [] []
theorem aBH:bt 234 Np:=bF aie [bW aBE] []
theorem ay6:bt 188 MH:=bF ⟨(put (put (put (put .nil 5 .bY) 6 .bY) 7 .bY) 8 .bY),[aH FG,aH Gy,aH aBC,aH aBw,aH aB4,aH aCh,aH ah2,aH aBH,aH Vh]⟩ [] [.c 7 UP ag_,.c 37 UR ag',.c 53 UT aha]
noncomputable def Vn:de:=⟨(put (put (put (put .nil 3 .bY) 4 .bY) 8 .bY) 25 (.arr [false,false])),[aH Bf,aH ahG,aH Nf,aH ay6]⟩
theorem aB_:bV 148 1 NB:=b5 Vn [] []
theorem aB7:bV 148 0 NA:=b5 Vn [bW aB_] []
theorem aCb:bt 148 Nz:=bF Vn [bW aB7] []
noncomputable def Vf:de:=⟨(put (put (put (put (put .nil 1 .bY) 5 .bY) 6 .bY) 7 .bY) 14 .bY),[aH azz,aH aJy,aH ahG,aH Nf,aH aCb]⟩
theorem aAT:bV 99 0 Nb:=b5 Vf [] []
theorem aAW:bV 99 1 Nc:=b5 Vf [] []
theorem aAZ:bt 99 Na:=bF Vf [bW aAT,bW aAW] []
theorem aAy:bt 46 M7:=bF ⟨(put (put (put .nil 1 .bY) 4 .bY) 6 .bY),[aH aAZ]⟩ [] []
theorem azI:bV 47 0 MW:=b5 fl [] []
theorem azL:bt 47 MV:=bF fl [bW azI] []
theorem azC:bV 48 0 MU:=b5 fl [] []
theorem azF:bt 48 MT:=bF fl [bW azC] []
noncomputable def aht:de:=⟨(put (put .nil 2 .bY) 3 .bY),[aH aKm,aH alr]⟩
theorem aAd:bV 42 0 Bi:=b5 aht [] []
theorem aAg:bt 42 M3:=bF aht [bW aAd] []
theorem az8:bV 172 0 Bh:=b5 fl [] []
theorem az':bt 172 FM:=bF fl [bW az8] []
end cF
end Go.Proofs.YtgmdfchkljaooaaGreat
