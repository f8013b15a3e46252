/- Typed functions. -/
import Derived.Test.YtgmdfchkljaooaaGreatM01
import Derived.Test.YtgmdfchkljaooaaGreatM05
noncomputable section
namespace Go.Proofs.YtgmdfchkljaooaaGreat
namespace cx
open bC (T)
set_option linter.unusedVariables false
set_option maxRecDepth 100000
def ajr:=aH [(0,.agg fq),(1,aB fR)]
def aFJ:=aH [(0,aB [.aR cl])]
def V3:=aH [(7,aB cl),(10,.cH c_ 0)]
def ajq:=[jL [(11,bR)]]
def V2 (x:U V3):Option (bq ajq):=cond (a9 x.1.2.1.2.1 (W 5)) (some ((true,()),())) ((o_ ((x.1.1,x.1.2.1.1,()),())).bind λcu=>some ((cu.1.1,()),()))
def GK:a4:=⟨[(5,.arr 0 [.aR cl] [true]),(8,aB bp),(10,.cH c_ 0),(11,bR),(12,au)],z9⟩
def aFG:bE:=[((.exit 4),⟨[(11,bR)],z9⟩)]
def Oc (x:U GK):Option (U GK⊕bq aFG):=cond (bh x.1.2.2.2.2.1 (ba x.1.2.1)) (cond (x.1.2.2.2.1) (some (.inl (((),x.1.2.1,x.1.2.2.1,true,(bj x.1.2.2.2.2.1 (W 1)),()),(x.2.1,())))) ((aX x.1.2.1 (x.1.2.2.2.2.1).1).bind λea=>cond (decide (0<=(ea.1).1)&&decide ((ea.1).1<(x.2.1.1.length:Nat))) ((eO x.2.1 ((ea.1).1).toNat).bind λgl=>(o_ ((gl.1,x.1.2.2.1.1,()),())).bind λcT=>some (.inl (((),x.1.2.1,x.1.2.2.1,cT.1.1,(bj x.1.2.2.2.2.1 (W 1)),()),(x.2.1,())))) (none))) (some (.inr ((x.1.2.2.2.1,()),(x.2.1,()))))
def GJ:a4:=⟨[(1,aB fR),(5,.arr 0 [.aR cl] [true]),(6,au),(7,aB cl),(8,aB bp),(9,au)],z9⟩
def aFD:bE:=[((.exit 2),⟨[],z9⟩)]
def Ob (x:U GJ):Option (U GJ⊕bq aFD):=(aX x.1.1 (x.1.2.2.1).1).bind λdP=>cond (bh x.1.2.2.2.2.2.1 (ba dP.2.1)) ((aX x.1.1 (x.1.2.2.1).1).bind λdb=>(aX db.2.1 (x.1.2.2.2.2.2.1).1).bind λfk=>(V2 ((x.1.2.2.2.1,fk,()),())).bind λbU=>(a3 Oc (((),x.1.2.2.2.2.1,fk,bU.1.1,(W 0),()),(x.2.1,()))).bind λcA=>cond (cA.1.1) (cond (decide (0<=(x.1.2.2.1).1)&&decide ((x.1.2.2.1).1<(x.2.1.1.length:Nat))) ((eO cA.2.1 ((x.1.2.2.1).1).toNat).bind λgM=>(c8 16 gM.1 (cD [(fk.1,())])).bind λpU=>cond (decide (0<=(x.1.2.2.1).1)&&decide ((x.1.2.2.1).1<(x.2.1.1.length:Nat))) ((eO cA.2.1 ((x.1.2.2.1).1).toNat).bind λg8=>cond (decide (((x.1.2.2.1).1).toNat=((x.1.2.2.1).1).toNat)) (some (.inl ((x.1.1,(),x.1.2.2.1,x.1.2.2.2.1,x.1.2.2.2.2.1,(bj x.1.2.2.2.2.2.1 (W 1)),()),((dO cA.2.1 ((x.1.2.2.1).1).toNat (pU,())),())))) (none)) (none)) (none)) (some (.inl ((x.1.1,(),x.1.2.2.1,x.1.2.2.2.1,x.1.2.2.2.2.1,(bj x.1.2.2.2.2.2.1 (W 1)),()),(cA.2.1,()))))) (some (.inr ((),(x.2.1,()))))
def GI:a4:=⟨[(1,aB fR),(2,.cH fq 0),(5,.arr 0 [.aR cl] [true]),(6,au)],z9⟩
def aFA:bE:=[((.exit 0),⟨[],z9⟩)]
def Oa (x:U GI):Option (U GI⊕bq aFA):=cond (fN (W 0) x.1.2.2.2.1) ((Fs ((x.1.2.1,x.1.2.2.2.1,()),())).bind λaF=>(aX x.1.2.1.2.2.2.1 (x.1.2.2.2.1).1).bind λbO=>(vZ ((bO,()),())).bind λaY=>(a3 Ob ((x.1.1,(),x.1.2.2.2.1,aF.1.1,aY.1.1,(W 0),()),(x.2.1,()))).bind λfg=>some (.inl ((x.1.1,(x.1.2.1.1,x.1.2.1.2.1,x.1.2.1.2.2.1,x.1.2.1.2.2.2.1,()),(),(eF x.1.2.2.2.1 (W 1)),()),(fg.2.1,())))) (some (.inr ((),(x.2.1,()))))
def N_ (x:U ajr):Option (U aFJ):=(q9 (α:=D [.aR [.str]]) 24 (ba x.1.1.2.2.2.1) (L.nil,())).bind λdk=>(a3 Oa ((x.1.2.1,x.1.1,(),(eF (ba x.1.1.2.2.2.1) (W 1)),()),(dk,()))).bind λe_=>some ((e_.2.1,()),())
def ai_:=aH [(0,.agg cS),(1,au)]
def aE5:=aH [(0,a_)]
def N4 (x:U ai_):Option (U aE5):=cond (a9 x.1.1.1 (W 1)) (cond (a9 x.1.1.1 (W 1)) (some ((x.1.1.2.1,()),())) (cond (a9 x.1.1.1 (W 5)) ((aX x.1.1.2.2.2.2.2.2.2.2.1 (x.1.2.1).1).bind λaD=>some ((aD.2.1,()),())) (some (((S ⟨#[]⟩),()),())))) (cond (a9 x.1.1.1 (W 8)) (some ((x.1.1.2.1,()),())) (cond (a9 x.1.1.1 (W 5)) ((aX x.1.1.2.2.2.2.2.2.2.2.1 (x.1.2.1).1).bind λaQ=>some ((aQ.2.1,()),())) (some (((S ⟨#[]⟩),()),()))))
def ajv:=aH [(0,aB bp)]
def aFX:=aH [(0,au)]
def GN:=aH [(0,aB bp),(3,au),(4,bR),(5,au)]
def aFU:bE:=[((.exit 2),aH [(4,bR)])]
def Og (x:U GN):Option (U GN⊕bq aFU):=cond (bh x.1.2.2.2.1 (ba x.1.1)) (cond (x.1.2.2.1) (some (.inl ((x.1.1,x.1.2.1,true,(bj x.1.2.2.2.1 (W 1)),()),()))) ((aX x.1.1 (x.1.2.2.2.1).1).bind λaD=>some (.inl ((x.1.1,x.1.2.1,(a9 aD.1 x.1.2.1),(bj x.1.2.2.2.1 (W 1)),()),())))) (some (.inr ((x.1.2.2.1,()),())))
def GM:=aH [(0,aB bp),(3,au)]
def aFR:=[fP [(2,au)]]
def Of (x:U GM):Option (U GM⊕bq aFR):=(a3 Og ((x.1.1,x.1.2.1,false,(W 0),()),())).bind λaF=>cond (!aF.1.1) (some (.inr ((x.1.2.1,()),()))) (some (.inl ((x.1.1,(bj x.1.2.1 (W 1)),()),())))
def Oe (x:U ajv):Option (U aFX):=(a3 Of ((x.1.1,(W 0),()),())).bind λaT=>some ((aT.1.1,()),())
def ajL:=aH [(0,.agg fq),(1,aB [.aR cl])]
def aGV:=aH [(0,aB [.aR bp]),(1,au),(2,aB [.aR bp])]
def GP:a4:=⟨[(1,aB [.aR cl]),(2,.cH fq 0),(7,.arr 0 [.aR bp] [true]),(10,au),(11,au)],z_⟩
def aGG:bE:=[((.exit 2),⟨[],z_⟩)]
def Oq (x:U GP):Option (U GP⊕bq aGG):=cond (bh x.1.2.2.2.2.1 (ba x.1.2.1.2.1)) ((aX x.1.2.1.2.1 (x.1.2.2.2.2.1).1).bind λcP=>(aX x.1.1 ((W 0)).1).bind λdP=>(aX dP.1 (x.1.2.2.2.1).1).bind λdb=>cond (cB cP.1 db.1) (cond (decide (0<=((W 0)).1)&&decide (((W 0)).1<(x.2.1.1.length:Nat))) ((eO x.2.1 (((W 0)).1).toNat).bind λfk=>(c8 8 fk.1 (cD [(x.1.2.2.2.2.1,())])).bind λj0=>cond (decide (0<=((W 0)).1)&&decide (((W 0)).1<(x.2.1.1.length:Nat))) ((eO x.2.1 (((W 0)).1).toNat).bind λeS=>cond (decide ((((W 0)).1).toNat=(((W 0)).1).toNat)) (some (.inl ((x.1.1,x.1.2.1,(),x.1.2.2.2.1,(bj x.1.2.2.2.2.1 (W 1)),()),((dO x.2.1 (((W 0)).1).toNat (j0,())),())))) (none)) (none)) (none)) (some (.inl ((x.1.1,x.1.2.1,(),x.1.2.2.2.1,(bj x.1.2.2.2.2.1 (W 1)),()),(x.2.1,()))))) (some (.inr ((),(x.2.1,()))))
def GO:a4:=⟨[(1,aB [.aR cl]),(2,.cH fq 0),(7,.arr 0 [.aR bp] [true]),(10,au)],z_⟩
def aGD:bE:=[((.exit 0),⟨[],z_⟩)]
def Oo (x:U GO):Option (U GO⊕bq aGD):=(aX x.1.1 ((W 0)).1).bind λbO=>cond (bh x.1.2.2.2.1 (ba bO.1)) ((a3 Oq ((x.1.1,x.1.2.1,(),x.1.2.2.2.1,(W 0),()),(x.2.1,()))).bind λcd=>some (.inl ((x.1.1,x.1.2.1,(),(bj x.1.2.2.2.1 (W 1)),()),(cd.2.1,())))) (some (.inr ((),(x.2.1,()))))
def GS:a4:=⟨[(1,aB [.aR cl]),(7,.arr 0 [.aR bp] [true]),(12,au),(13,aB bp),(14,au),(15,a_),(16,.tok bp 1 []),(17,au)],[.arr [.aR bp] [true],.bG bp]⟩
def aGP:bE:=[((.exit 8),⟨[(16,.tok bp 2 [])],[.arr [.aR bp] [true],.gone,.bG bp]⟩)]
def Ov (x:U GS):Option (U GS⊕bq aGP):=(aX x.1.2.2.2.1 (x.1.2.2.2.2.1).1).bind λg8=>(aX x.1.1 (g8.1).1).bind λkA=>cond (bh x.1.2.2.2.2.2.2.2.1 (ba kA.1)) ((aX x.1.2.2.2.1 (x.1.2.2.2.2.1).1).bind λkk=>(aX x.1.1 (kk.1).1).bind λoa=>(aX oa.1 (x.1.2.2.2.2.2.2.2.1).1).bind λoc=>cond (!cB oc.1 x.1.2.2.2.2.2.1) (cond (decide (0<=(x.1.2.2.1).1)&&decide ((x.1.2.2.1).1<(x.2.1.1.length:Nat))) ((eO x.2.1 ((x.1.2.2.1).1).toNat).bind λnm=>(aX x.1.1 (x.1.2.2.1).1).bind λqP=>(aX x.1.2.2.2.1 (x.1.2.2.2.2.1).1).bind λlv=>(aX x.1.1 (lv.1).1).bind λAf=>(aX Af.1 (x.1.2.2.2.2.2.2.2.1).1).bind λl9=>(uU ((qP.1,l9.1,()),())).bind λmS=>(aX nm.1 (mS.1.1).1).bind λAg=>(c8 8 x.1.2.2.2.2.2.2.1 (cD [Ag])).bind λabX=>some (.inl ((x.1.1,(),x.1.2.2.1,x.1.2.2.2.1,x.1.2.2.2.2.1,x.1.2.2.2.2.2.1,abX,(bj x.1.2.2.2.2.2.2.2.1 (W 1)),()),(x.2.1,(),())))) (none)) (some (.inl ((x.1.1,(),x.1.2.2.1,x.1.2.2.2.1,x.1.2.2.2.2.1,x.1.2.2.2.2.2.1,x.1.2.2.2.2.2.2.1,(bj x.1.2.2.2.2.2.2.2.1 (W 1)),()),(x.2.1,(),()))))) (some (.inr ((x.1.2.2.2.2.2.2.1,()),(x.2.1,(),(),()))))
def Wf:=aH [(1,aB [.aR cl]),(9,au),(13,aB bp),(14,au),(15,a_),(16,aB bp),(18,au)]
def ajK:=[jL [(9,au),(18,au)]]
def We (x:U Wf):Option (bq ajK):=cond (!cB x.1.2.2.2.2.1 (S ⟨#[]⟩)) ((aX x.1.2.2.1 (x.1.2.2.2.1).1).bind λCY=>(aX x.1.1 (CY.1).1).bind λCZ=>(o_ ((CZ.1,x.1.2.2.2.2.1,()),())).bind λtP=>cond (tP.1.1) ((Oe ((x.1.2.2.2.2.2.1,()),())).bind λCg=>some (((imax x.1.2.1 (bj Cg.1.1 (W 1))),Cg.1.1,()),())) (some ((x.1.2.1,x.1.2.2.2.2.2.2.1,()),()))) (some ((x.1.2.1,x.1.2.2.2.2.2.2.1,()),()))
def GU:a4:=⟨[(1,aB [.aR cl]),(7,.arr 0 [.aR bp] [true]),(13,aB bp),(14,au),(15,a_),(16,aB bp),(18,au),(19,au),(20,au)],z_⟩
def aGS:bE:=[((.exit 10),⟨[],z_⟩)]
def Ow (x:U GU):Option (U GU⊕bq aGS):=(aX x.1.2.2.1 (x.1.2.2.2.1).1).bind λvk=>(aX x.1.1 (vk.1).1).bind λJe=>cond (bh x.1.2.2.2.2.2.2.2.2.1 (ba Je.1)) ((aX x.1.2.2.1 (x.1.2.2.2.1).1).bind λZl=>(aX x.1.1 (Zl.1).1).bind λZm=>(aX Zm.1 (x.1.2.2.2.2.2.2.2.2.1).1).bind λZn=>cond (cB Zn.1 x.1.2.2.2.2.1) ((aX x.1.2.2.1 (x.1.2.2.2.1).1).bind λAh=>(aX x.1.2.2.1 (x.1.2.2.2.1).1).bind λC0=>cond (decide (0<=(C0.1).1)&&decide ((C0.1).1<(x.2.1.1.length:Nat))) ((eO x.2.1 ((C0.1).1).toNat).bind λRE=>(c8 8 RE.1 (cD [(x.1.2.2.2.2.2.2.1,())])).bind λKh=>cond (decide (0<=(Ah.1).1)&&decide ((Ah.1).1<(x.2.1.1.length:Nat))) ((eO x.2.1 ((Ah.1).1).toNat).bind λan8=>cond (decide (((C0.1).1).toNat=((Ah.1).1).toNat)) (some (.inl ((x.1.1,(),x.1.2.2.1,x.1.2.2.2.1,x.1.2.2.2.2.1,x.1.2.2.2.2.2.1,x.1.2.2.2.2.2.2.1,x.1.2.2.2.2.2.2.2.1,(bj x.1.2.2.2.2.2.2.2.2.1 (W 1)),()),((dO x.2.1 ((Ah.1).1).toNat (Kh,())),())))) (none)) (none)) (none)) ((aX x.1.2.2.1 (x.1.2.2.2.1).1).bind λAi=>(aX x.1.2.2.1 (x.1.2.2.2.1).1).bind λC1=>cond (decide (0<=(C1.1).1)&&decide ((C1.1).1<(x.2.1.1.length:Nat))) ((eO x.2.1 ((C1.1).1).toNat).bind λZo=>(aX x.1.2.2.2.2.2.1 (x.1.2.2.2.2.2.2.2.1).1).bind λZp=>(c8 8 Zo.1 (cD [Zp])).bind λKi=>cond (decide (0<=(Ai.1).1)&&decide ((Ai.1).1<(x.2.1.1.length:Nat))) ((eO x.2.1 ((Ai.1).1).toNat).bind λan9=>cond (decide (((C1.1).1).toNat=((Ai.1).1).toNat)) (some (.inl ((x.1.1,(),x.1.2.2.1,x.1.2.2.2.1,x.1.2.2.2.2.1,x.1.2.2.2.2.2.1,x.1.2.2.2.2.2.2.1,(bj x.1.2.2.2.2.2.2.2.1 (W 1)),(bj x.1.2.2.2.2.2.2.2.2.1 (W 1)),()),((dO x.2.1 ((Ai.1).1).toNat (Ki,())),())))) (none)) (none)) (none))) (some (.inr ((),(x.2.1,()))))
def GR:a4:=⟨[(1,aB [.aR cl]),(2,.cH fq 0),(7,.arr 0 [.aR bp] [true]),(8,.arr 1 [.aR bp] [true]),(9,au),(12,au),(13,aB bp),(14,au)],IY⟩
def aGM:bE:=[((.exit 6),⟨[(9,au)],IY⟩)]
def Ou (x:U GR):Option (U GR⊕bq aGM):=cond (bh x.1.2.2.2.2.2.2.2.1 (ba x.1.2.2.2.2.2.2.1)) ((aX x.1.2.1.2.2.2.1 (x.1.2.2.2.2.2.1).1).bind λgM=>(N4 ((gM,x.1.2.2.2.2.2.2.2.1,()),())).bind λdF=>(a3 Ov ((x.1.1,(),x.1.2.2.2.2.2.1,x.1.2.2.2.2.2.2.1,x.1.2.2.2.2.2.2.2.1,dF.1.1,L.nil,(W 0),()),(x.2.1,(),()))).bind λxH=>(We ((x.1.1,x.1.2.2.2.2.1,x.1.2.2.2.2.2.2.1,x.1.2.2.2.2.2.2.2.1,dF.1.1,xH.1.1,(W (-1)),()),())).bind λzL=>cond (decide (0<=(x.1.2.2.2.2.2.1).1)&&decide ((x.1.2.2.2.2.2.1).1<(x.2.2.1.1.length:Nat))) ((eO x.2.2.1 ((x.1.2.2.2.2.2.1).1).toNat).bind λZk=>(c8 8 Zk.1 (cD [(zL.1.2.1,())])).bind λKg=>cond (decide (0<=(x.1.2.2.2.2.2.1).1)&&decide ((x.1.2.2.2.2.2.1).1<(x.2.2.1.1.length:Nat))) ((eO x.2.2.1 ((x.1.2.2.2.2.2.1).1).toNat).bind λan6=>cond (decide (((x.1.2.2.2.2.2.1).1).toNat=((x.1.2.2.2.2.2.1).1).toNat)) ((a3 Ow ((x.1.1,(),x.1.2.2.2.2.2.2.1,x.1.2.2.2.2.2.2.2.1,dF.1.1,xH.1.1,zL.1.2.1,(W 0),(W 0),()),(xH.2.1,()))).bind λXB=>some (.inl ((x.1.1,x.1.2.1,(),(),zL.1.1,x.1.2.2.2.2.2.1,x.1.2.2.2.2.2.2.1,(bj x.1.2.2.2.2.2.2.2.1 (W 1)),()),(XB.2.1,(dO x.2.2.1 ((x.1.2.2.2.2.2.1).1).toNat (Kg,())),())))) (none)) (none)) (none)) (some (.inr ((x.1.2.2.2.2.1,()),(x.2.1,x.2.2.1,()))))
def GQ:a4:=⟨[(1,aB [.aR cl]),(2,.cH fq 0),(7,.arr 0 [.aR bp] [true]),(8,.arr 1 [.aR bp] [true]),(9,au),(12,au)],IY⟩
def aGJ:bE:=[((.exit 4),⟨[(9,au)],IY⟩)]
def Ot (x:U GQ):Option (U GQ⊕bq aGJ):=cond (bh x.1.2.2.2.2.2.1 (ba x.1.2.1.2.2.2.1)) ((aX x.1.2.1.2.2.2.1 (x.1.2.2.2.2.2.1).1).bind λiC=>(vZ ((iC,()),())).bind λcA=>(a3 Ou ((x.1.1,x.1.2.1,(),(),x.1.2.2.2.2.1,x.1.2.2.2.2.2.1,cA.1.1,(W 0),()),(x.2.1,x.2.2.1,()))).bind λIp=>some (.inl ((x.1.1,x.1.2.1,(),(),Ip.1.1,(bj x.1.2.2.2.2.2.1 (W 1)),()),(Ip.2.1,Ip.2.2.1,())))) (some (.inr ((x.1.2.2.2.2.1,()),(x.2.1,x.2.2.1,()))))
def On (x:U ajL):Option (U aGV):=(q9 (α:=D [.aR [.int .i64]]) 24 (ba x.1.1.2.2.2.1) (L.nil,())).bind λdk=>(q9 (α:=D [.aR [.int .i64]]) 24 (ba x.1.1.2.2.2.1) (L.nil,())).bind λdg=>(a3 Oo ((x.1.2.1,x.1.1,(),(W 0),()),(dk,()))).bind λbY=>(a3 Ot ((x.1.2.1,x.1.1,(),(),(ba x.1.1.2.1),(W 0),()),(bY.2.1,dg,()))).bind λQD=>some ((QD.2.1,QD.1.1,QD.2.2.1,()),())
def rR:a4:=⟨[(0,aB er),(1,au),(2,aB cl),(3,aB bp),(4,.tok ey 0 lS)],[.bG ey]⟩
def uX:a4:=⟨[(0,.tok ey 1 lS),(1,bR)],Rh⟩
def ajF:a4:=⟨[(0,aB er),(2,aB cl),(3,aB bp),(4,.tok ey 0 lS),(12,.cH er 0),(13,bR)],[.bG ey]⟩
def ajE:bE:=[(.normal,⟨[(4,.tok ey 1 lS),(13,bR)],Rh⟩)]
def ajD (rec:U rR->Option (U uX))(x:U ajF):Option (bq ajE):=cond (fN (W 0) x.1.2.2.2.2.1.2.2.2.2.1) ((rec ((x.1.1,x.1.2.2.2.2.1.2.2.2.2.1,x.1.2.1,x.1.2.2.1,x.1.2.2.2.1,()),((),()))).bind λaF=>some ((aF.1.1,aF.1.2.1,()),((),(),()))) (some ((x.1.2.2.2.1,x.1.2.2.2.2.2.1,()),((),(),())))
def ajI:a4:=⟨[(0,aB er),(2,aB cl),(3,aB bp),(4,.tok ey 0 lS),(12,.cH er 0),(13,bR)],[.bG ey]⟩
def ajH:bE:=[(.normal,⟨[(4,.tok ey 1 lS),(13,bR)],Rh⟩)]
def ajG (rec:U rR->Option (U uX))(x:U ajI):Option (bq ajH):=cond (x.1.2.2.2.2.2.1) (cond (fN (W 0) x.1.2.2.2.2.1.2.2.2.2.2.1) ((rec ((x.1.1,x.1.2.2.2.2.1.2.2.2.2.2.1,x.1.2.1,x.1.2.2.1,x.1.2.2.2.1,()),((),()))).bind λaY=>some ((aY.1.1,aY.1.2.1,()),((),(),()))) (some ((x.1.2.2.2.1,x.1.2.2.2.2.2.1,()),((),(),())))) (some ((x.1.2.2.2.1,x.1.2.2.2.2.2.1,()),((),(),())))
def Wd:a4:=⟨[(2,aB cl),(3,aB bp),(12,.cH er 0),(14,cC)],Q_⟩
def ajJ:bE:=[(.normal,⟨[],Q_⟩),(.ret,⟨[(10,.dt),(11,bR)],Q_⟩)]
def Wc (rec:U rR->Option (U uX))(x:U Wd):Option (bq ajJ):=cond (a9 x.1.2.2.1.1 (W 0)) ((uU ((x.1.1,x.1.2.2.1.2.1,()),())).bind λbK=>cond (bh bK.1.1 (W 0)) (some (.inr (((),false,()),(x.2.1,())))) ((aX x.1.2.1 (bK.1.1).1).bind λfk=>some (.inl ((),(((W 5),fk.1,(W 0),(W 0),(S ⟨#[]⟩),(S ⟨#[]⟩),(),(),(),()),()))))) (cond (a9 x.1.2.2.1.1 (W 1)) (some (.inl ((),(((W 0),(W 0),(W 0),x.1.2.2.1.2.2.1,(S ⟨#[]⟩),(S ⟨#[]⟩),(),(),(),()),())))) (cond (a9 x.1.2.2.1.1 (W 2)) (some (.inl ((),(((W 1),(W 0),(W 0),x.1.2.2.1.2.2.1,(S ⟨#[]⟩),(S ⟨#[]⟩),(),(),(),()),())))) (cond (a9 x.1.2.2.1.1 (W 3)) (some (.inl ((),(((W 2),(W 0),(W 0),(W 0),x.1.2.2.1.2.2.2.1,(S ⟨#[]⟩),(),(),(),()),())))) (cond (a9 x.1.2.2.1.1 (W 4)) (some (.inl ((),(((W 3),(W 0),(W 0),(W 0),(S ⟨#[]⟩),(S ⟨#[]⟩),(),(),(),()),())))) (cond (a9 x.1.2.2.1.1 (W 5)) (some (.inl ((),(((W 4),(W 0),(W 0),(W 0),(S ⟨#[]⟩),(S ⟨#[]⟩),(),(),(),()),())))) (some (.inl ((),(x.2.1,())))))))))
def Om (rec:U rR->Option (U uX))(x:U rR):Option (U uX):=(aX x.1.1 (x.1.2.1).1).bind λaD=>(ajD rec ((x.1.1,x.1.2.2.1,x.1.2.2.2.1,x.1.2.2.2.2.1,aD,true,()),((),()))).bind λaT=>(ajG rec ((x.1.1,x.1.2.2.1,x.1.2.2.2.1,aT.1.1,aD,aT.1.2.1,()),((),()))).bind λa5=>cond (!a5.1.2.1) (some ((L.nil,false,()),((),(),()))) ((Wc rec ((x.1.2.2.1,x.1.2.2.2.1,aD,(),()),((aD.1,(W 0),(W 0),(W 0),(S ⟨#[]⟩),(S ⟨#[]⟩),(),(),(),()),()))).bind λcu=>Sum.elim (λbU=>(c8 136 a5.1.1 (cD [(bU.2.1.1,bU.2.1.2.1,bU.2.1.2.2.1,bU.2.1.2.2.2.1,bU.2.1.2.2.2.2.1,bU.2.1.2.2.2.2.2.1,L.nil,L.nil,L.nil,())])).bind λrJ=>some ((rJ,true,()),((),(),()))) (λcd=>some ((L.nil,cd.1.2.1,()),((),(),()))) cu)
def BO:Nat->U rR->Option (U uX)
 |0=>λ_=>none
 |n+1=>Om (BO n)
def Wb:U rR->Option (U uX):=BO pg
def ajl:a4:=⟨[(0,cC),(1,au),(2,au)],x5⟩
def aFn:a4:=⟨[],z'⟩
def xu (x:U ajl):Option (U aFn):=(aX x.2.1.2.2.2.2.2.1 (x.1.2.1).1).bind λaD=>(aX x.2.1.2.2.2.2.2.2.1 (x.1.2.1).1).bind λaQ=>(Wb ((x.2.1.2.2.1,x.1.2.2.1,aD.1,aQ.1,L.nil,()),((),()))).bind λaT=>(c8 136 x.2.2.1 aT.1.1).bind λjk=>some ((),(x.2.1,(),jk,()))
def ajN:=aH [(0,aB c_),(1,a_)]
def aHa:=aH [(0,.agg jc),(1,bR)]
def GV:a4:=⟨[(0,aB c_),(1,a_),(4,cC),(6,au)],[.box [au,au]]⟩
def aG9:bE:=[((.exit 0),⟨[],[.box [au,au]]⟩),(.ret,⟨[(5,bR)],[.box [au,au]]⟩)]
def OA (x:U GV):Option (U GV⊕bq aG9):=cond (bh x.1.2.2.2.1 (ba x.1.1)) ((aX x.1.1 (x.1.2.2.2.1).1).bind λaD=>cond (cB aD.1 x.1.2.1) ((aX x.1.1 (x.1.2.2.2.1).1).bind λaQ=>some (.inr (.inr ((true,()),((aQ.2.1,aQ.2.2.1,()),()))))) (some (.inl ((x.1.1,x.1.2.1,(),(bj x.1.2.2.2.1 (W 1)),()),(x.2.1,()))))) (some (.inr (.inl ((),(x.2.1,())))))
def Oz (x:U ajN):Option (U aHa):=(a3 OA ((x.1.1,x.1.2.1,(),(W 0),()),(((W 0),(W 0),()),()))).bind λaT=>Sum.elim (λaY=>some ((((W 0),(W 0),()),false,()),())) (λa5=>some (((a5.2.1.1,a5.2.1.2.1,()),a5.1.1,()),())) aT
def ajn:a4:=⟨[(0,cC),(1,au),(2,a_)],x5⟩
def aFo:a4:=⟨[(0,au)],z'⟩
def we (x:U ajn):Option (U aFo):=(aX x.2.1.2.2.2.2.2.2.1 (x.1.2.1).1).bind λaD=>(aX x.2.1.2.2.2.2.2.1 (x.1.2.1).1).bind λaQ=>(uU ((aQ.1,x.1.2.2.1,()),())).bind λaT=>(aX aD.1 (aT.1.1).1).bind λcP=>some ((cP.1,()),(x.2.1,(),x.2.2.1,()))
def aje:a4:=⟨[(0,cC),(1,au),(2,au)],x5⟩
def aFc:a4:=⟨[(0,au),(1,bR)],z'⟩
def GF (x:U aje):Option (U aFc):=(aX x.2.1.2.2.1 (x.1.2.2.1).1).bind λaD=>(aX x.2.1.2.2.2.2.1 (x.1.2.1).1).bind λaQ=>(Oz ((aQ.2.1,aD.2.1,()),())).bind λaT=>cond (!a9 aD.1 (W 0)) (some (((W (-1)),false,()),(x.2.1,(),x.2.2.1,()))) (cond (!aT.1.2.1) (some (((W (-1)),false,()),(x.2.1,(),x.2.2.1,()))) (cond (!a9 aT.1.1.1 (W 5)) (some (((W (-1)),false,()),(x.2.1,(),x.2.2.1,()))) ((we (((),x.1.2.1,aD.2.1,()),(x.2.1,x.2.2.1,()))).bind λaY=>some ((aY.1.1,true,()),(aY.2.1,(),aY.2.2.2.1,())))))
def ajh:a4:=⟨[(0,cC),(1,au),(2,aB bp)],x5⟩
def aFh:a4:=⟨[(0,aB bp)],z'⟩
def GG:a4:=⟨[(0,cC),(1,au),(2,aB bp),(7,.tok bp 2 []),(8,au)],[.box [a_,aB gH,aB er,aB cS,aB fR,aB [.aR cl],aB [.aR bp],aB [.aR bp],.arr 1 ey lS],.arr ey lS,.bG bp]⟩
def aFe:bE:=[((.exit 0),⟨[(7,.tok bp 3 [])],[.box [a_,aB gH,aB er,aB cS,aB fR,aB [.aR cl],aB [.aR bp],aB [.aR bp],.arr 4 ey lS],.gone,.gone,.bG bp,.arr ey lS]⟩)]
def N7 (x:U GG):Option (U GG⊕bq aFe):=cond (bh x.1.2.2.2.2.1 (ba x.1.2.2.1)) ((aX x.1.2.2.1 (x.1.2.2.2.2.1).1).bind λaD=>(GF (((),x.1.2.1,aD.1,()),(x.2.1,x.2.2.1,()))).bind λaF=>cond (!aF.1.2.1) ((aX x.1.2.2.1 (x.1.2.2.2.2.1).1).bind λbO=>(xu (((),x.1.2.1,bO.1,()),(aF.2.1,aF.2.2.2.1,()))).bind λaY=>(c8 8 x.1.2.2.2.1 (cD [(aF.1.1,())])).bind λiD=>some (.inl (((),x.1.2.1,x.1.2.2.1,iD,(bj x.1.2.2.2.2.1 (W 1)),()),(aY.2.1,aY.2.2.2.1,(),())))) ((c8 8 x.1.2.2.2.1 (cD [(aF.1.1,())])).bind λmN=>some (.inl (((),x.1.2.1,x.1.2.2.1,mN,(bj x.1.2.2.2.2.1 (W 1)),()),(aF.2.1,aF.2.2.2.1,(),()))))) (some (.inr ((x.1.2.2.2.1,()),(x.2.1,(),(),(),x.2.2.1,()))))
def BB (x:U ajh):Option (U aFh):=(a3 N7 (((),x.1.2.1,x.1.2.2.1,L.nil,(W 0),()),(x.2.1,x.2.2.1,(),()))).bind λbL=>some ((bL.1.1,()),(bL.2.1,(),bL.2.2.2.2.2.1,()))
def ajc:a4:=⟨[(0,cC),(1,au)],x5⟩
def aFa:a4:=⟨[(0,.sD ey lS)],z'⟩
def GD:a4:=⟨[(0,cC),(1,au),(5,.cH cS 0),(9,.ptr 2 0),(10,au)],[.box [a_,aB gH,aB er,aB cS,aB fR,aB [.aR cl],aB [.aR bp],aB [.aR bp],.arr 1 ey lS],.arr ey lS,.box [au,au,au,au,a_,a_,.dt,.dt,.tok fV 3 []],.bG fV]⟩
def aE9:bE:=[((.exit 1),⟨[],[.box [a_,aB gH,aB er,aB cS,aB fR,aB [.aR cl],aB [.aR bp],aB [.aR bp],.arr 4 ey lS],.gone,.box [au,au,au,au,a_,a_,.dt,.dt,.tok fV 5 []],.gone,.arr ey lS,.bG fV]⟩)]
def N6 (x:U GD):Option (U GD⊕bq aE9):=cond (bh x.1.2.2.2.2.1 (ba x.1.2.2.1.2.2.2.2.2.2.2.1)) ((aX x.1.2.2.1.2.2.2.2.2.2.2.1 (x.1.2.2.2.2.1).1).bind λkA=>(aX x.1.2.2.1.2.2.2.2.2.2.2.1 (x.1.2.2.2.2.1).1).bind λkk=>(aX x.1.2.2.1.2.2.2.2.2.2.2.1 (x.1.2.2.2.2.1).1).bind λoa=>(BB (((),x.1.2.1,oa.2.2.1,()),(x.2.1,x.2.2.1,()))).bind λfY=>(c8 56 x.2.2.2.1.2.2.2.2.2.2.2.2.1 (cD [(kA.1,kk.2.1,fY.1.1,())])).bind λxc=>some (.inl (((),x.1.2.1,x.1.2.2.1,(),(bj x.1.2.2.2.2.1 (W 1)),()),(fY.2.1,fY.2.2.2.1,(x.2.2.2.1.1,x.2.2.2.1.2.1,x.2.2.2.1.2.2.1,x.2.2.2.1.2.2.2.1,x.2.2.2.1.2.2.2.2.1,x.2.2.2.1.2.2.2.2.2.1,(),(),xc,()),(),())))) (some (.inr ((),(x.2.1,(),x.2.2.2.1,(),x.2.2.1,(),()))))
def N5 (x:U ajc):Option (U aFa):=(aX x.2.1.2.2.2.1 (x.1.2.1).1).bind λaD=>cond (a9 aD.1 (W 0)) (some ((((W 20),(W 0),(W 0),(W 0),(S ⟨#[]⟩),(S ⟨#[]⟩),L.nil,L.nil,L.nil,()),()),(x.2.1,(),x.2.2.1,()))) (cond (a9 aD.1 (W 10)) (some ((((W 30),(W 0),(W 0),(W 0),(S ⟨#[]⟩),(S ⟨#[]⟩),L.nil,L.nil,L.nil,()),()),(x.2.1,(),x.2.2.1,()))) (cond (a9 aD.1 (W 1)) ((xu (((),x.1.2.1,aD.2.2.2.2.2.1,()),(x.2.1,x.2.2.1,()))).bind λaF=>(aX aF.2.1.2.2.2.2.2.2.2.1 (x.1.2.1).1).bind λbO=>(aX bO.1 ((W 0)).1).bind λcP=>some ((((W 21),cP.1,(W 0),(W 0),(S ⟨#[]⟩),(S ⟨#[]⟩),L.nil,L.nil,L.nil,()),()),(aF.2.1,(),aF.2.2.2.1,()))) (cond (a9 aD.1 (W 2)) ((xu (((),x.1.2.1,aD.2.2.2.2.2.1,()),(x.2.1,x.2.2.1,()))).bind λa5=>some ((((W 22),(W 0),(W 0),(W 0),(S ⟨#[]⟩),(S ⟨#[]⟩),L.nil,L.nil,L.nil,()),()),(a5.2.1,(),a5.2.2.2.1,()))) (cond (a9 aD.1 (W 3)) ((xu (((),x.1.2.1,aD.2.2.2.2.2.1,()),(x.2.1,x.2.2.1,()))).bind λbK=>some ((((W 23),(W 0),(W 0),(W 0),(S ⟨#[]⟩),(S ⟨#[]⟩),L.nil,L.nil,L.nil,()),()),(bK.2.1,(),bK.2.2.2.1,()))) (cond (a9 aD.1 (W 4)) (cond (!a9 aD.2.2.2.2.2.1 (W (-1))) ((GF (((),x.1.2.1,aD.2.2.2.2.2.1,()),(x.2.1,x.2.2.1,()))).bind λbL=>cond (!bL.1.2.1) ((xu (((),x.1.2.1,aD.2.2.2.2.2.1,()),(bL.2.1,bL.2.2.2.1,()))).bind λcu=>(we (((),x.1.2.1,aD.2.1,()),(cu.2.1,cu.2.2.2.1,()))).bind λbU=>some ((((W 24),bU.1.1,(W (-2)),(W 0),aD.2.2.1,aD.2.2.2.1,L.nil,L.nil,L.nil,()),()),(bU.2.1,(),bU.2.2.2.1,()))) ((we (((),x.1.2.1,aD.2.1,()),(bL.2.1,bL.2.2.2.1,()))).bind λcd=>some ((((W 24),cd.1.1,bL.1.1,(W 0),aD.2.2.1,aD.2.2.2.1,L.nil,L.nil,L.nil,()),()),(cd.2.1,(),cd.2.2.2.1,())))) ((we (((),x.1.2.1,aD.2.1,()),(x.2.1,x.2.2.1,()))).bind λbY=>some ((((W 24),bY.1.1,(W (-1)),(W 0),aD.2.2.1,aD.2.2.2.1,L.nil,L.nil,L.nil,()),()),(bY.2.1,(),bY.2.2.2.1,())))) (cond (a9 aD.1 (W 5)) ((we (((),x.1.2.1,aD.2.1,()),(x.2.1,x.2.2.1,()))).bind λcT=>some ((((W 25),cT.1.1,(W 0),(W 0),aD.2.2.1,(S ⟨#[]⟩),L.nil,L.nil,L.nil,()),()),(cT.2.1,(),cT.2.2.2.1,()))) (cond (a9 aD.1 (W 6)) ((BB (((),x.1.2.1,aD.2.2.2.2.2.2.1,()),(x.2.1,x.2.2.1,()))).bind λcA=>some ((((W 26),(W 0),(W 0),(W 0),aD.2.2.2.2.1,(S ⟨#[]⟩),cA.1.1,L.nil,L.nil,()),()),(cA.2.1,(),cA.2.2.2.1,()))) (cond (a9 aD.1 (W 7)) ((BB (((),x.1.2.1,aD.2.2.2.2.2.2.1,()),(x.2.1,x.2.2.1,()))).bind λep=>some ((((W 27),(W 0),(W 0),(W 0),aD.2.2.2.2.1,(S ⟨#[]⟩),ep.1.1,L.nil,L.nil,()),()),(ep.2.1,(),ep.2.2.2.1,()))) (cond (a9 aD.1 (W 8)) ((aX x.2.1.2.2.2.2.2.2.2.1 (x.1.2.1).1).bind λiw=>(aX iw.1 ((W 0)).1).bind λg8=>(a3 N6 (((),x.1.2.1,aD,(),(W 0),()),(x.2.1,x.2.2.1,((W 28),g8.1,(W 0),(W 0),aD.2.2.2.1,aD.2.2.1,(),(),L.nil,()),(),()))).bind λeV=>some (((eV.2.2.2.1.1,eV.2.2.2.1.2.1,eV.2.2.2.1.2.2.1,eV.2.2.2.1.2.2.2.1,eV.2.2.2.1.2.2.2.2.1,eV.2.2.2.1.2.2.2.2.2.1,L.nil,L.nil,eV.2.2.2.1.2.2.2.2.2.2.2.2.1,()),()),(eV.2.1,(),eV.2.2.2.2.2.1,()))) ((we (((),x.1.2.1,aD.2.1,()),(x.2.1,x.2.2.1,()))).bind λlI=>some ((((W 29),lI.1.1,(W 0),(W 0),(S ⟨#[]⟩),(S ⟨#[]⟩),L.nil,L.nil,L.nil,()),()),(lI.2.1,(),lI.2.2.2.1,()))))))))))))
def uW:a4:=⟨[(0,cC),(1,au)],x5⟩
def BC:a4:=⟨[],z'⟩
def VY:a4:=⟨[(0,cC),(1,au),(4,.ptr 2 0),(6,au),(7,aB bp),(8,au)],[.box [a_,aB gH,aB er,aB cS,aB fR,aB [.aR cl],aB [.aR bp],aB [.aR bp],.arr 1 ey lS],.arr ey lS,.box [au,a_,a_,a_,a_,au,aB bp,aB fV,aB mW,au]]⟩
def ajj:bE:=[((.exit 0),⟨[],[.box [a_,aB gH,aB er,aB cS,aB fR,aB [.aR cl],aB [.aR bp],aB [.aR bp],.arr 3 ey lS],.gone,.box [au,a_,a_,a_,a_,au,aB bp,aB fV,aB mW,au],.arr ey lS]⟩)]
def N9 (rec:U uW->Option (U BC))(x:U VY):Option (U VY⊕bq ajj):=cond (bh x.1.2.2.2.2.2.1 (ba x.1.2.2.2.2.1)) (cond (a9 x.2.2.2.1.1 (W 5)) (cond (decide (0<=(x.1.2.2.2.1).1)&&decide ((x.1.2.2.2.1).1<(x.2.2.1.1.length:Nat))) ((eO x.2.2.1 ((x.1.2.2.2.1).1).toNat).bind λdP=>(aX x.2.2.2.1.2.2.2.2.2.2.2.2.1 (x.1.2.2.2.2.2.1).1).bind λdb=>(aX x.2.1.2.2.2.2.2.2.2.1 (x.1.2.1).1).bind λfk=>(aX fk.1 (x.1.2.2.2.2.2.1).1).bind λdG=>(c8 32 dP.2.2.2.2.2.2.2.1 (cD [(db.1,dG.1,(W (x.2.2.1.1.length:Nat)),())])).bind λow=>cond (decide (0<=(x.1.2.2.2.1).1)&&decide ((x.1.2.2.2.1).1<(x.2.2.1.1.length:Nat))) ((eO x.2.2.1 ((x.1.2.2.2.1).1).toNat).bind λea=>cond (decide (((x.1.2.2.2.1).1).toNat=((x.1.2.2.2.1).1).toNat)) (cond (a9 x.2.2.2.1.1 (W 3)) (cond (a9 x.1.2.2.2.2.2.1 (W 1)) (cond (decide (0<=(x.1.2.2.2.1).1)&&decide ((x.1.2.2.2.1).1<(x.2.2.1.1.length:Nat))) ((eO (dO x.2.2.1 ((x.1.2.2.2.1).1).toNat (ea.1,ea.2.1,ea.2.2.1,ea.2.2.2.1,ea.2.2.2.2.1,ea.2.2.2.2.2.1,ea.2.2.2.2.2.2.1,ow,ea.2.2.2.2.2.2.2.2.1,())) ((x.1.2.2.2.1).1).toNat).bind λgl=>(aX x.1.2.2.2.2.1 (x.1.2.2.2.2.2.1).1).bind λiC=>(rec (((),iC.1,()),(x.2.1,(dO (dO x.2.2.1 ((x.1.2.2.2.1).1).toNat (ea.1,ea.2.1,ea.2.2.1,ea.2.2.2.1,ea.2.2.2.2.1,ea.2.2.2.2.2.1,ea.2.2.2.2.2.2.1,ow,ea.2.2.2.2.2.2.2.2.1,())) ((x.1.2.2.2.1).1).toNat (gl.1,(W (x.2.2.1.1.length:Nat)),gl.2.2.1,gl.2.2.2.1,gl.2.2.2.2.1,gl.2.2.2.2.2.1,gl.2.2.2.2.2.2.1,gl.2.2.2.2.2.2.2.1,gl.2.2.2.2.2.2.2.2.1,())),()))).bind λcA=>some (.inl (((),x.1.2.1,(),x.1.2.2.2.1,x.1.2.2.2.2.1,(bj x.1.2.2.2.2.2.1 (W 1)),()),(cA.2.1,cA.2.2.2.1,x.2.2.2.1,())))) (none)) ((aX x.1.2.2.2.2.1 (x.1.2.2.2.2.2.1).1).bind λgM=>(rec (((),gM.1,()),(x.2.1,(dO x.2.2.1 ((x.1.2.2.2.1).1).toNat (ea.1,ea.2.1,ea.2.2.1,ea.2.2.2.1,ea.2.2.2.2.1,ea.2.2.2.2.2.1,ea.2.2.2.2.2.2.1,ow,ea.2.2.2.2.2.2.2.2.1,())),()))).bind λdF=>some (.inl (((),x.1.2.1,(),x.1.2.2.2.1,x.1.2.2.2.2.1,(bj x.1.2.2.2.2.2.1 (W 1)),()),(dF.2.1,dF.2.2.2.1,x.2.2.2.1,()))))) ((aX x.1.2.2.2.2.1 (x.1.2.2.2.2.2.1).1).bind λg8=>(rec (((),g8.1,()),(x.2.1,(dO x.2.2.1 ((x.1.2.2.2.1).1).toNat (ea.1,ea.2.1,ea.2.2.1,ea.2.2.2.1,ea.2.2.2.2.1,ea.2.2.2.2.2.1,ea.2.2.2.2.2.2.1,ow,ea.2.2.2.2.2.2.2.2.1,())),()))).bind λfg=>some (.inl (((),x.1.2.1,(),x.1.2.2.2.1,x.1.2.2.2.2.1,(bj x.1.2.2.2.2.2.1 (W 1)),()),(fg.2.1,fg.2.2.2.1,x.2.2.2.1,()))))) (none)) (none)) (none)) (cond (a9 x.2.2.2.1.1 (W 3)) (cond (a9 x.1.2.2.2.2.2.1 (W 1)) (cond (decide (0<=(x.1.2.2.2.1).1)&&decide ((x.1.2.2.2.1).1<(x.2.2.1.1.length:Nat))) ((eO x.2.2.1 ((x.1.2.2.2.1).1).toNat).bind λkk=>(aX x.1.2.2.2.2.1 (x.1.2.2.2.2.2.1).1).bind λoa=>(rec (((),oa.1,()),(x.2.1,(dO x.2.2.1 ((x.1.2.2.2.1).1).toNat (kk.1,(W (x.2.2.1.1.length:Nat)),kk.2.2.1,kk.2.2.2.1,kk.2.2.2.2.1,kk.2.2.2.2.2.1,kk.2.2.2.2.2.2.1,kk.2.2.2.2.2.2.2.1,kk.2.2.2.2.2.2.2.2.1,())),()))).bind λfY=>some (.inl (((),x.1.2.1,(),x.1.2.2.2.1,x.1.2.2.2.2.1,(bj x.1.2.2.2.2.2.1 (W 1)),()),(fY.2.1,fY.2.2.2.1,x.2.2.2.1,())))) (none)) ((aX x.1.2.2.2.2.1 (x.1.2.2.2.2.2.1).1).bind λnm=>(rec (((),nm.1,()),(x.2.1,x.2.2.1,()))).bind λeV=>some (.inl (((),x.1.2.1,(),x.1.2.2.2.1,x.1.2.2.2.2.1,(bj x.1.2.2.2.2.2.1 (W 1)),()),(eV.2.1,eV.2.2.2.1,x.2.2.2.1,()))))) ((aX x.1.2.2.2.2.1 (x.1.2.2.2.2.2.1).1).bind λlv=>(rec (((),lv.1,()),(x.2.1,x.2.2.1,()))).bind λlJ=>some (.inl (((),x.1.2.1,(),x.1.2.2.2.1,x.1.2.2.2.2.1,(bj x.1.2.2.2.2.2.1 (W 1)),()),(lJ.2.1,lJ.2.2.2.1,x.2.2.2.1,())))))) (some (.inr ((),(x.2.1,(),x.2.2.2.1,x.2.2.1,()))))
def N8 (rec:U uW->Option (U BC))(x:U uW):Option (U BC):=(aX x.2.1.2.2.2.1 (x.1.2.1).1).bind λaD=>(N5 (((),x.1.2.1,()),(x.2.1,x.2.2.1,()))).bind λaF=>(c8 136 aF.2.2.2.1 (cD [(aF.1.1.1,aF.1.1.2.1,aF.1.1.2.2.1,aF.1.1.2.2.2.1,aF.1.1.2.2.2.2.1,aF.1.1.2.2.2.2.2.1,aF.1.1.2.2.2.2.2.2.1,L.nil,aF.1.1.2.2.2.2.2.2.2.2.1,())])).bind λbT=>(vZ ((aD,()),())).bind λaY=>(a3 (N9 rec) (((),x.1.2.1,(),(eF (W (bT.1.length:Nat)) (W 1)),aY.1.1,(W 0),()),(aF.2.1,bT,(aD.1,aD.2.1,aD.2.2.1,aD.2.2.2.1,aD.2.2.2.2.1,aD.2.2.2.2.2.1,aD.2.2.2.2.2.2.1,aD.2.2.2.2.2.2.2.1,aD.2.2.2.2.2.2.2.2.1,aD.2.2.2.2.2.2.2.2.2.1,()),()))).bind λkg=>some ((),(kg.2.1,(),kg.2.2.2.2.1,()))
def xq:Nat->U uW->Option (U BC)
 |0=>λ_=>none
 |n+1=>N8 (xq n)
def VW:U uW->Option (U BC):=xq pg
def aiU:=aH [(0,.agg hY)]
def aEe:=aH [(0,.agg gX),(1,au)]
def Gw:a4:=⟨[(1,.cH hY 0),(6,cC),(7,au)],[.box [.tok dE 1 [],.dt,.dt],.bG dE]⟩
def aD4:bE:=[((.exit 0),⟨[],[.box [.tok dE 2 [],.dt,.dt],.gone,.bG dE]⟩)]
def NR (x:U Gw):Option (U Gw⊕bq aD4):=cond (bh x.1.2.2.1 (ba x.1.1.1)) ((aX x.1.1.1 (x.1.2.2.1).1).bind λaQ=>(Mp ((aQ,()),())).bind λaT=>(c8 64 x.2.1.1 (cD [aT.1.1])).bind λjk=>some (.inl ((x.1.1,(),(bj x.1.2.2.1 (W 1)),()),((jk,(),(),()),(),())))) (some (.inr ((),(x.2.1,(),(),()))))
def Gx:a4:=⟨[(1,.cH hY 0),(6,cC),(8,au)],[.box [.tok dE 1 [],.tok ek 2 [],.dt],.bG dE,.bG ek]⟩
def aD7:bE:=[((.exit 2),⟨[],[.box [.tok dE 3 [],.tok ek 4 [],.dt],.gone,.gone,.bG dE,.bG ek]⟩)]
def NS (x:U Gx):Option (U Gx⊕bq aD7):=cond (bh x.1.2.2.1 (ba x.1.1.2.1)) ((aX x.1.1.2.1 (x.1.2.2.1).1).bind λdb=>(Mn ((db,()),())).bind λbL=>(c8 40 x.2.1.2.1 (cD [bL.1.1])).bind λj0=>some (.inl ((x.1.1,(),(bj x.1.2.2.1 (W 1)),()),((x.2.1.1,j0,(),()),(),(),())))) (some (.inr ((),(x.2.1,(),(),(),(),()))))
def VI:a4:=⟨[(13,au),(15,cC)],x5⟩
def aiT:bE:=[(.normal,⟨[(109,bR)],[.box [a_,aB gH,aB er,aB cS,aB fR,aB [.aR cl],aB [.aR bp],aB [.aR bp],aB ey],.gone]⟩)]
def VH (x:U VI):Option (bq aiT):=cond (bh (W 40) x.1.1) (some ((true,()),((x.2.1.1,x.2.1.2.1,x.2.1.2.2.1,x.2.1.2.2.2.1,x.2.1.2.2.2.2.1,x.2.1.2.2.2.2.2.1,x.2.1.2.2.2.2.2.2.1,x.2.1.2.2.2.2.2.2.2.1,x.2.2.1,()),(),()))) (some (((bh (W 800) (W (x.2.2.1.1.length:Nat))),()),((x.2.1.1,x.2.1.2.1,x.2.1.2.2.1,x.2.1.2.2.2.1,x.2.1.2.2.2.2.1,x.2.1.2.2.2.2.2.1,x.2.1.2.2.2.2.2.2.1,x.2.1.2.2.2.2.2.2.2.1,x.2.2.1,()),(),())))
def VG:a4:=⟨[(2,cC),(13,au),(15,.ptr 1 0)],[.box [.dt,.dt,.dt],.box [a_,aB gH,aB er,aB cS,aB fR,aB [.aR cl],aB [.aR bp],aB [.aR bp],.arr 2 ey lS],.arr ey lS]⟩
def aiS:bE:=[(.normal,⟨[],[.box [.dt,.dt,.dt],.box [a_,aB gH,aB er,aB cS,aB fR,aB [.aR cl],aB [.aR bp],aB [.aR bp],aB ey],.gone]⟩),(.ret,⟨[(3,au)],[.box [.dt,.dt,.dt],.box [a_,aB gH,aB er,aB cS,aB fR,aB [.aR cl],aB [.aR bp],aB [.aR bp],aB ey],.gone]⟩)]
def VF (x:U VG):Option (bq aiS):=(VH ((x.1.2.1,(),()),((x.2.2.1.1,x.2.2.1.2.1,x.2.2.1.2.2.1,x.2.2.1.2.2.2.1,x.2.2.1.2.2.2.2.1,x.2.2.1.2.2.2.2.2.1,x.2.2.1.2.2.2.2.2.2.1,x.2.2.1.2.2.2.2.2.2.2.1,(),()),x.2.2.2.1,()))).bind λeK=>cond (eK.1.1) (some (.inr (((W 3201),()),(((),(),(),()),eK.2.1,(),())))) (some (.inl ((),(((),(),(),()),eK.2.1,(),()))))
def Gz:a4:=⟨[(10,.cH fq 0),(16,cC),(17,au)],[.box [a_,.tok ig 1 [],au,aB ey],.bG ig]⟩
def aEb:bE:=[((.exit 6),⟨[],[.box [a_,.tok ig 2 [],au,aB ey],.gone,.bG ig]⟩)]
def NU (x:U Gz):Option (U Gz⊕bq aEb):=cond (bh x.1.2.2.1 (ba x.1.1.2.1)) ((aX x.1.1.2.1 (x.1.2.2.1).1).bind λoc=>(c8 24 x.2.1.2.1 (cD [(oc.2.1,oc.2.2.1,())])).bind λxc=>some (.inl ((x.1.1,(),(bj x.1.2.2.1 (W 1)),()),((x.2.1.1,xc,x.2.1.2.2.1,x.2.1.2.2.2.1,()),(),())))) (some (.inr ((),(x.2.1,(),(),()))))
def Gy:a4:=⟨[(1,.cH hY 0),(2,cC),(4,aB [.aR fR]),(6,.ptr 1 0),(9,au)],[.box [.dt,.dt,.dt],.box [.tok dE 2 [],.tok ek 3 [],.tok hU 4 []],.bG dE,.bG ek,.bG hU]⟩
def aD_:bE:=[((.exit 4),⟨[],[.box [.dt,.dt,.dt],.box [.tok dE 5 [],.tok ek 6 [],.tok hU 7 []],.gone,.gone,.gone,.bG dE,.bG ek,.bG hU]⟩),(.ret,⟨[(3,au)],[.box [.dt,.dt,.dt],.box [.tok dE 5 [],.tok ek 6 [],.tok hU 7 []],.gone,.gone,.gone,.bG dE,.bG ek,.bG hU]⟩)]
def NT (x:U Gy):Option (U Gy⊕bq aD_):=cond (bh x.1.2.2.2.2.1 (ba x.1.1.2.2.1)) ((aX x.1.1.2.2.1 (x.1.2.2.2.2.1).1).bind λea=>(aX x.1.2.2.1 (x.1.2.2.2.2.1).1).bind λgl=>(N_ ((ea,gl.1,()),())).bind λcT=>(On ((ea,cT.1.1,()),())).bind λcA=>(aX x.1.2.2.1 (x.1.2.2.2.2.1).1).bind λgM=>(VW (((),(W 0),()),((ea.1,ea.2.1,ea.2.2.1,ea.2.2.2.1,gM.1,cT.1.1,cA.1.1,cA.1.2.2.1,(),()),L.nil,()))).bind λdF=>(VF (((),cA.1.2.1,(),()),(((),(),(),()),dF.2.1,dF.2.2.2.1,()))).bind λfg=>Sum.elim (λe_=>(a3 NU ((ea,(),(W 0),()),((ea.1,L.nil,cA.1.2.1,e_.2.2.1.2.2.2.2.2.2.2.2.1,()),(),()))).bind λeV=>(c8 72 x.2.2.1.2.2.1 (cD [(eV.2.1.1,eV.2.1.2.1,eV.2.1.2.2.1,eV.2.1.2.2.2.1,())])).bind λabW=>some (.inl (((x.1.1.1,x.1.1.2.1,x.1.1.2.2.1,()),(),x.1.2.2.1,(),(bj x.1.2.2.2.2.1 (W 1)),()),(((),(),(),()),(x.2.2.1.1,x.2.2.1.2.1,abW,()),(),(),(),())))) (λfo=>some (.inr (.inr ((fo.1.1,()),(((),(),(),()),(x.2.2.1.1,x.2.2.1.2.1,x.2.2.1.2.2.1,()),(),(),(),(),(),(),()))))) fg) (some (.inr (.inl ((),(((),(),(),()),(x.2.2.1.1,x.2.2.1.2.1,x.2.2.1.2.2.1,()),(),(),(),(),(),(),())))))
def NQ (x:U aiU):Option (U aEe):=(MA ((x.1.1,()),())).bind λaz=>cond (!a9 az.1.2.1.1 (W 0)) (some (((L.nil,L.nil,L.nil,()),(W 3200),()),())) ((a3 NR ((x.1.1,(),(W 0),()),((L.nil,(),(),()),(),()))).bind λa5=>(a3 NS ((x.1.1,(),(W 0),()),((a5.2.1.1,L.nil,(),()),(),(),()))).bind λbU=>(a3 NT (((x.1.1.1,x.1.1.2.1,x.1.1.2.2.1,()),(),az.1.1,(),(W 0),()),(((),(),(),()),(bU.2.1.1,bU.2.1.2.1,L.nil,()),(),(),(),()))).bind λlJ=>Sum.elim (λkg=>some (((kg.2.2.1.1,kg.2.2.1.2.1,kg.2.2.1.2.2.1,()),(W 0),()),())) (λmS=>some (((L.nil,L.nil,L.nil,()),mS.1.1,()),())) lJ)
def aiZ:=aH [(0,au)]
def aEj:=aH [(0,a_)]
def aiY:=aH [(0,au),(3,uD)]
def aiX:=[jL [(3,uD)]]
def aiW (x:U aiY):Option (bq aiX):=cond (bh x.1.1 (W 0)) (some (((DS x.1.2.1),()),())) (some ((x.1.2.1,()),()))
def VJ:a4:=⟨[(3,uD),(4,.tok [.int .u8] 0 [])],[.bG [.int .u8]]⟩
def aEi:bE:=[((.exit 0),⟨[(3,uD),(4,.tok [.int .u8] 1 [])],[.gone,.bG [.int .u8]]⟩)]
def NV (x:U VJ):Option (U VJ⊕bq aEi):=cond (fN (bc.w .u64 128) x.1.1) ((lk x.1.1 (bc.w .u64 128)).bind λcK=>(c8 1 x.1.2.1 (cD [((bj (eN .u8 cK) (bc.w .u8 128)),())])).bind λjk=>(vK x.1.1 (bc.w .u64 128)).bind λcV=>some (.inl ((cV,jk,()),((),())))) (some (.inr ((x.1.1,x.1.2.1,()),((),(),()))))
def Bt (x:U aiZ):Option (U aEj):=(AR (eN .u64 x.1.1) (bc.w .u64 1)).bind λv1=>(aiW ((x.1.1,v1,()),())).bind λaF=>(a3 NV ((aF.1.1,L.nil,()),((),()))).bind λbK=>(c8 1 bK.1.2.1 (cD [((eN .u8 bK.1.1),())])).bind λj'=>some (((py j'),()),())
def aiV:=aH [(0,au)]
def aEg:=aH [(0,a_)]
def l3 (x:U aiV):Option (U aEg):=(Bt ((x.1.1,()),())).bind λaz=>some ((az.1.1,()),())
def ai4:=aH [(0,a_)]
def aEV:=aH [(0,a_)]
def pb (x:U ai4):Option (U aEV):=(Bt (((mO x.1.1),()),())).bind λaz=>(fF az.1.1 x.1.1).bind λv2=>some ((v2,()),())
def ajO:=aH [(0,aB cl)]
def aHg:=aH [(0,a_)]
def Wh:=aH [(0,aB cl),(3,a_),(4,au)]
def aHd:bE:=[((.exit 0),aH [(3,a_)])]
def BQ (x:U Wh):Option (U Wh⊕bq aHd):=cond (bh x.1.2.2.1 (ba x.1.1)) ((aX x.1.1 (x.1.2.2.1).1).bind λaQ=>(pb ((aQ.1,()),())).bind λaT=>(fF x.1.2.1 aT.1.1).bind λv4=>some (.inl ((x.1.1,v4,(bj x.1.2.2.1 (W 1)),()),()))) (some (.inr ((x.1.2.1,()),())))
def OB (x:U ajO):Option (U aHg):=(l3 (((ba x.1.1),()),())).bind λaz=>(a3 BQ ((x.1.1,az.1.1,(W 0),()),())).bind λa5=>some ((a5.1.1,()),())
def ai':=aH [(0,.agg ig)]
def aE7:=aH [(0,a_)]
def GC (x:U ai'):Option (U aE7):=(l3 ((x.1.1.1,()),())).bind λaz=>(pb ((x.1.1.2.1,()),())).bind λaF=>(fF az.1.1 aF.1.1).bind λcK=>some ((cK,()),())
def ai6:=aH [(0,aB dR)]
def aE2:=aH [(0,a_)]
def VU:=aH [(0,aB dR),(3,a_),(4,au)]
def aE0:bE:=[((.exit 0),aH [(3,a_)])]
def BA (x:U VU):Option (U VU⊕bq aE0):=cond (bh x.1.2.2.1 (ba x.1.1)) ((aX x.1.1 (x.1.2.2.1).1).bind λaQ=>(pb ((aQ.1,()),())).bind λaT=>(fF x.1.2.1 aT.1.1).bind λv4=>(aX x.1.1 (x.1.2.2.1).1).bind λdP=>(GC (((dP.2.1,dP.2.2.1,()),()),())).bind λbK=>(fF v4 bK.1.1).bind λdU=>(aX x.1.1 (x.1.2.2.1).1).bind λdG=>(l3 ((dG.2.2.2.1,()),())).bind λbU=>(fF dU bU.1.1).bind λv10=>some (.inl ((x.1.1,v10,(bj x.1.2.2.1 (W 1)),()),()))) (some (.inr ((x.1.2.1,()),())))
def GB (x:U ai6):Option (U aE2):=(l3 (((ba x.1.1),()),())).bind λaz=>(a3 BA ((x.1.1,az.1.1,(W 0),()),())).bind λbY=>some ((bY.1.1,()),())
def ajA:=aH [(0,.agg dE)]
def aGs:=aH [(0,a_)]
def Wa:=aH [(1,.cH dE 0),(3,a_),(4,au)]
def aGp:bE:=[((.exit 0),aH [(3,a_)])]
def BN (x:U Wa):Option (U Wa⊕bq aGp):=cond (bh x.1.2.2.1 (ba x.1.1.2.2.1)) ((aX x.1.1.2.2.1 (x.1.2.2.1).1).bind λdb=>(pb ((db.1,()),())).bind λbL=>(fF x.1.2.1 bL.1.1).bind λdz=>(aX x.1.1.2.2.1 (x.1.2.2.1).1).bind λeS=>(pb ((eS.2.1,()),())).bind λcd=>(fF dz cd.1.1).bind λv11=>(aX x.1.1.2.2.1 (x.1.2.2.1).1).bind λiC=>(GB ((iC.2.2.1,()),())).bind λcA=>(fF v11 cA.1.1).bind λic=>some (.inl ((x.1.1,ic,(bj x.1.2.2.1 (W 1)),()),()))) (some (.inr ((x.1.2.1,()),())))
def Ol (x:U ajA):Option (U aGs):=(pb ((x.1.1.1,()),())).bind λaz=>(OB ((x.1.1.2.1,()),())).bind λaF=>(fF az.1.1 aF.1.1).bind λcK=>(l3 (((ba x.1.1.2.2.1),()),())).bind λaY=>(fF cK aY.1.1).bind λcV=>(a3 BN ((x.1.1,cV,(W 0),()),())).bind λdF=>some ((dF.1.1,()),())
def ajw:=aH [(0,.agg ek)]
def aF3:=aH [(0,a_)]
def V5:=aH [(1,.cH ek 0),(3,a_),(4,au)]
def aF0:bE:=[((.exit 0),aH [(3,a_)])]
def BH (x:U V5):Option (U V5⊕bq aF0):=cond (bh x.1.2.2.1 (ba x.1.1.2.1)) ((aX x.1.1.2.1 (x.1.2.2.1).1).bind λcP=>(l3 ((cP.1,()),())).bind λa5=>(fF x.1.2.1 a5.1.1).bind λv6=>(aX x.1.1.2.1 (x.1.2.2.1).1).bind λfk=>(pb ((fk.2.1,()),())).bind λcu=>(fF v6 cu.1.1).bind λe8=>(aX x.1.1.2.1 (x.1.2.2.1).1).bind λea=>(GB ((ea.2.2.1,()),())).bind λbY=>(fF e8 bY.1.1).bind λeB=>some (.inl ((x.1.1,eB,(bj x.1.2.2.1 (W 1)),()),()))) (some (.inr ((x.1.2.1,()),())))
def Oh (x:U ajw):Option (U aF3):=(pb ((x.1.1.1,()),())).bind λaz=>(l3 (((ba x.1.1.2.1),()),())).bind λaF=>(fF az.1.1 aF.1.1).bind λcK=>(a3 BH ((x.1.1,cK,(W 0),()),())).bind λcA=>some ((cA.1.1,()),())
def ajs:=aH [(0,aB bp)]
def aFP:=aH [(0,a_)]
def V4:=aH [(0,aB bp),(3,a_),(4,au)]
def aFM:bE:=[((.exit 0),aH [(3,a_)])]
def BG (x:U V4):Option (U V4⊕bq aFM):=cond (bh x.1.2.2.1 (ba x.1.1)) ((aX x.1.1 (x.1.2.2.1).1).bind λaQ=>(l3 ((aQ.1,()),())).bind λaT=>(fF x.1.2.1 aT.1.1).bind λv4=>some (.inl ((x.1.1,v4,(bj x.1.2.2.1 (W 1)),()),()))) (some (.inr ((x.1.2.1,()),())))
def GL (x:U ajs):Option (U aFP):=(l3 (((ba x.1.1),()),())).bind λaz=>(a3 BG ((x.1.1,az.1.1,(W 0),()),())).bind λa5=>some ((a5.1.1,()),())
def ajp:=aH [(0,.agg ey)]
def aFw:=aH [(0,a_)]
def VZ:=aH [(1,.cH ey 0),(3,a_),(4,au)]
def aFq:bE:=[((.exit 0),aH [(3,a_)])]
def BE (x:U VZ):Option (U VZ⊕bq aFq):=cond (bh x.1.2.2.1 (ba x.1.1.2.2.2.2.2.2.2.1)) ((aX x.1.1.2.2.2.2.2.2.2.1 (x.1.2.2.1).1).bind λg8=>(pb ((g8.1,()),())).bind λfg=>(fF x.1.2.1 fg.1.1).bind λxC=>(aX x.1.1.2.2.2.2.2.2.2.1 (x.1.2.2.1).1).bind λoa=>(l3 ((oa.2.1,()),())).bind λfY=>(fF xC fY.1.1).bind λxD=>(aX x.1.1.2.2.2.2.2.2.2.1 (x.1.2.2.1).1).bind λqP=>(l3 ((qP.2.2.1,()),())).bind λlI=>(fF xD lI.1.1).bind λami=>some (.inl ((x.1.1,ami,(bj x.1.2.2.1 (W 1)),()),()))) (some (.inr ((x.1.2.1,()),())))
def V0:=aH [(1,.cH ey 0),(3,a_),(5,au)]
def aFt:bE:=[((.exit 2),aH [(3,a_)])]
def BF (x:U V0):Option (U V0⊕bq aFt):=cond (bh x.1.2.2.1 (ba x.1.1.2.2.2.2.2.2.2.2.1)) ((aX x.1.1.2.2.2.2.2.2.2.2.1 (x.1.2.2.1).1).bind λZi=>(pb ((Zi.1,()),())).bind λxH=>(fF x.1.2.1 xH.1.1).bind λv30=>(aX x.1.1.2.2.2.2.2.2.2.2.1 (x.1.2.2.1).1).bind λCZ=>(pb ((CZ.2.1,()),())).bind λtP=>(fF v30 tP.1.1).bind λamj=>(aX x.1.1.2.2.2.2.2.2.2.2.1 (x.1.2.2.1).1).bind λZj=>(GL ((Zj.2.2.1,()),())).bind λCh=>(fF amj Ch.1.1).bind λamk=>some (.inl ((x.1.1,amk,(bj x.1.2.2.1 (W 1)),()),()))) (some (.inr ((x.1.2.1,()),())))
def N' (x:U ajp):Option (U aFw):=(l3 ((x.1.1.1,()),())).bind λaz=>(l3 ((x.1.1.2.1,()),())).bind λaF=>(fF az.1.1 aF.1.1).bind λcK=>(l3 ((x.1.1.2.2.1,()),())).bind λaY=>(fF cK aY.1.1).bind λcV=>(Bt ((x.1.1.2.2.2.1,()),())).bind λbK=>(fF cV bK.1.1).bind λdU=>(pb ((x.1.1.2.2.2.2.1,()),())).bind λcu=>(fF dU cu.1.1).bind λe8=>(pb ((x.1.1.2.2.2.2.2.1,()),())).bind λcd=>(fF e8 cd.1.1).bind λv11=>(GL ((x.1.1.2.2.2.2.2.2.1,()),())).bind λcT=>(fF v11 cT.1.1).bind λjQ=>(l3 (((ba x.1.1.2.2.2.2.2.2.2.1),()),())).bind λep=>(fF jQ ep.1.1).bind λu0=>(a3 BE ((x.1.1,u0,(W 0),()),())).bind λkg=>(l3 (((ba x.1.1.2.2.2.2.2.2.2.2.1),()),())).bind λmS=>(fF kg.1.1 mS.1.1).bind λXt=>(a3 BF ((x.1.1,Xt,(W 0),()),())).bind λIo=>some ((Io.1.1,()),())
def ajz:=aH [(0,.agg hU)]
def aGm:=aH [(0,a_)]
def V9:=aH [(1,.cH hU 0),(3,a_),(4,au)]
def aGg:bE:=[((.exit 0),aH [(3,a_)])]
def BL (x:U V9):Option (U V9⊕bq aGg):=cond (bh x.1.2.2.1 (ba x.1.1.2.1)) ((aX x.1.1.2.1 (x.1.2.2.1).1).bind λcP=>(GC ((cP,()),())).bind λa5=>(fF x.1.2.1 a5.1.1).bind λv6=>some (.inl ((x.1.1,v6,(bj x.1.2.2.1 (W 1)),()),()))) (some (.inr ((x.1.2.1,()),())))
def V_:=aH [(1,.cH hU 0),(3,a_),(5,au)]
def aGj:bE:=[((.exit 2),aH [(3,a_)])]
def BM (x:U V_):Option (U V_⊕bq aGj):=cond (bh x.1.2.2.1 (ba x.1.1.2.2.2.1)) ((aX x.1.1.2.2.2.1 (x.1.2.2.1).1).bind λiC=>(N' ((iC,()),())).bind λcA=>(fF x.1.2.1 cA.1.1).bind λic=>some (.inl ((x.1.1,ic,(bj x.1.2.2.1 (W 1)),()),()))) (some (.inr ((x.1.2.1,()),())))
def Ok (x:U ajz):Option (U aGm):=(pb ((x.1.1.1,()),())).bind λaz=>(l3 (((ba x.1.1.2.1),()),())).bind λaF=>(fF az.1.1 aF.1.1).bind λcK=>(a3 BL ((x.1.1,cK,(W 0),()),())).bind λbL=>(l3 ((x.1.1.2.2.1,()),())).bind λcu=>(fF bL.1.1 cu.1.1).bind λe8=>(l3 (((ba x.1.1.2.2.2.1),()),())).bind λcd=>(fF e8 cd.1.1).bind λv11=>(a3 BM ((x.1.1,v11,(W 0),()),())).bind λdF=>some ((dF.1.1,()),())
def ajy:=aH [(0,.agg gX)]
def aGd:=aH [(0,a_)]
def V6:=aH [(1,.cH gX 0),(3,a_),(4,au)]
def aF6:bE:=[((.exit 0),aH [(3,a_)])]
def BI (x:U V6):Option (U V6⊕bq aF6):=cond (bh x.1.2.2.1 (ba x.1.1.1)) ((aX x.1.1.1 (x.1.2.2.1).1).bind λaQ=>(Ol ((aQ,()),())).bind λaT=>(fF x.1.2.1 aT.1.1).bind λv4=>some (.inl ((x.1.1,v4,(bj x.1.2.2.1 (W 1)),()),()))) (some (.inr ((x.1.2.1,()),())))
def V7:=aH [(1,.cH gX 0),(3,a_),(5,au)]
def aF9:bE:=[((.exit 2),aH [(3,a_)])]
def BJ (x:U V7):Option (U V7⊕bq aF9):=cond (bh x.1.2.2.1 (ba x.1.1.2.1)) ((aX x.1.1.2.1 (x.1.2.2.1).1).bind λdG=>(Oh ((dG,()),())).bind λbU=>(fF x.1.2.1 bU.1.1).bind λv10=>some (.inl ((x.1.1,v10,(bj x.1.2.2.1 (W 1)),()),()))) (some (.inr ((x.1.2.1,()),())))
def V8:=aH [(1,.cH gX 0),(3,a_),(6,au)]
def aGa:bE:=[((.exit 4),aH [(3,a_)])]
def BK (x:U V8):Option (U V8⊕bq aGa):=cond (bh x.1.2.2.1 (ba x.1.1.2.2.1)) ((aX x.1.1.2.2.1 (x.1.2.2.1).1).bind λgM=>(Ok ((gM,()),())).bind λdF=>(fF x.1.2.1 dF.1.1).bind λkX=>some (.inl ((x.1.1,kX,(bj x.1.2.2.1 (W 1)),()),()))) (some (.inr ((x.1.2.1,()),())))
def Oi (x:U ajy):Option (U aGd):=(l3 (((ba x.1.1.1),()),())).bind λaz=>(a3 BI ((x.1.1,az.1.1,(W 0),()),())).bind λa5=>(l3 (((ba x.1.1.2.1),()),())).bind λbK=>(fF a5.1.1 bK.1.1).bind λdU=>(a3 BJ ((x.1.1,dU,(W 0),()),())).bind λbY=>(l3 (((ba x.1.1.2.2.1),()),())).bind λcT=>(fF bY.1.1 cT.1.1).bind λjQ=>(a3 BK ((x.1.1,jQ,(W 0),()),())).bind λfg=>some ((fg.1.1,()),())
def ai3:=aH [(0,a_)]
def aET:=aH [(0,.leaf (.int .u32))]
def VT:=aH [(0,a_),(3,.leaf (.int .u32)),(4,au)]
def ai2:bE:=[((.exit 0),aH [(3,.leaf (.int .u32))])]
def N2 (x:U VT):Option (U VT⊕bq ai2):=cond (bh x.1.2.2.1 (mO x.1.1)) ((uC x.1.1 (x.1.2.2.1).1).bind λv1=>some (.inl ((x.1.1,(vI (q7 x.1.2.1 (eN .u32 v1)) (bc.w .u32 16777619)),(bj x.1.2.2.1 (W 1)),()),()))) (some (.inr ((x.1.2.1,()),())))
def N0 (x:U ai3):Option (U aET):=(a3 N2 ((x.1.1,(bc.w .u32 2166136261),(W 0),()),())).bind λaF=>some ((aF.1.1,()),())
def ai1:=aH [(0,a_)]
def aEP:=aH [(0,a_)]
def N1 (x:U ai1):Option (U aEP):=(N0 ((x.1.1,()),())).bind λaz=>(rI az.1.1 (bc.w .u64 24)).bind λv2=>(rI az.1.1 (bc.w .u64 16)).bind λcK=>(rI az.1.1 (bc.w .u64 8)).bind λv4=>some (((py (cD [((eN .u8 v2),()),((eN .u8 cK),()),((eN .u8 v4),()),((eN .u8 az.1.1),())])),()),())
def ai5:=aH [(0,.agg gX)]
def aEX:=aH [(0,a_),(1,au)]
def N3 (x:U ai5):Option (U aEX):=(Oi ((x.1.1,()),())).bind λaz=>(fF (S ⟨#[82,80,84,49]⟩) az.1.1).bind λv2=>(N1 ((v2,()),())).bind λaT=>(fF v2 aT.1.1).bind λv4=>cond (bh (W 65536) (mO v4)) (some (((S ⟨#[]⟩),(W 3300),()),())) (some ((v4,(W 0),()),()))
def aGY:=aH [(0,.agg ek),(1,.agg ek)]
def aG0:=aH [(0,bR)]
def Ox (x:U aGY):Option (U aG0):=cond (cB x.1.1.1 x.1.2.1.1) ((O0 ((x.1.1.2.1,x.1.2.1.2.1,()),())).bind λaz=>some ((az.1.1,()),())) (some ((false,()),()))
def aEy:=aH [(0,.agg ey),(1,.agg ey)]
def aEA:=aH [(0,bR)]
def VN:=aH [(2,.cH ey 0),(3,.cH ey 0),(5,au)]
def aEu:bE:=[((.exit 0),aH []),fP [(4,bR)]]
def Bv (x:U VN):Option (U VN⊕bq aEu):=cond (bh x.1.2.2.1 (ba x.1.1.2.2.2.2.2.2.2.1)) ((aX x.1.1.2.2.2.2.2.2.2.1 (x.1.2.2.1).1).bind λaQ=>(aX x.1.2.1.2.2.2.2.2.2.2.1 (x.1.2.2.1).1).bind λbO=>cond (!((cB aQ.1 bO.1)&&((a9 aQ.2.1 bO.2.1)&&((a9 aQ.2.2.1 bO.2.2.1)&&true)))) (some (.inr (.inr ((false,()),())))) (some (.inl ((x.1.1,x.1.2.1,(bj x.1.2.2.1 (W 1)),()),())))) (some (.inr (.inl ((),()))))
def VO:=aH [(2,.cH ey 0),(3,.cH ey 0),(6,au)]
def aEx:bE:=[((.exit 2),aH []),fP [(4,bR)]]
def Bw (x:U VO):Option (U VO⊕bq aEx):=cond (bh x.1.2.2.1 (ba x.1.1.2.2.2.2.2.2.2.2.1)) ((aX x.1.1.2.2.2.2.2.2.2.2.1 (x.1.2.2.1).1).bind λfk=>(aX x.1.2.1.2.2.2.2.2.2.2.2.1 (x.1.2.2.1).1).bind λdG=>cond (!cB fk.1 dG.1) (some (.inr (.inr ((false,()),())))) ((aX x.1.1.2.2.2.2.2.2.2.2.1 (x.1.2.2.1).1).bind λeS=>(aX x.1.2.1.2.2.2.2.2.2.2.2.1 (x.1.2.2.1).1).bind λea=>cond (!cB eS.2.1 ea.2.1) (some (.inr (.inr ((false,()),())))) ((aX x.1.1.2.2.2.2.2.2.2.2.1 (x.1.2.2.1).1).bind λgl=>(aX x.1.2.1.2.2.2.2.2.2.2.2.1 (x.1.2.2.1).1).bind λiC=>(Fq ((gl.2.2.1,iC.2.2.1,()),())).bind λcA=>cond (!cA.1.1) (some (.inr (.inr ((false,()),())))) (some (.inl ((x.1.1,x.1.2.1,(bj x.1.2.2.1 (W 1)),()),())))))) (some (.inr (.inl ((),()))))
def NX (x:U aEy):Option (U aEA):=cond (!a9 x.1.1.1 x.1.2.1.1) (some ((false,()),())) (cond (!a9 x.1.1.2.1 x.1.2.1.2.1) (some ((false,()),())) (cond (!a9 x.1.1.2.2.1 x.1.2.1.2.2.1) (some ((false,()),())) (cond (!a9 x.1.1.2.2.2.1 x.1.2.1.2.2.2.1) (some ((false,()),())) (cond (!cB x.1.1.2.2.2.2.1 x.1.2.1.2.2.2.2.1) (some ((false,()),())) (cond (!cB x.1.1.2.2.2.2.2.1 x.1.2.1.2.2.2.2.2.1) (some ((false,()),())) ((Fq ((x.1.1.2.2.2.2.2.2.1,x.1.2.1.2.2.2.2.2.2.1,()),())).bind λaz=>cond (!az.1.1) (some ((false,()),())) (cond (!a9 (ba x.1.1.2.2.2.2.2.2.2.1) (ba x.1.2.1.2.2.2.2.2.2.2.1)) (some ((false,()),())) (cond (!a9 (ba x.1.1.2.2.2.2.2.2.2.2.1) (ba x.1.2.1.2.2.2.2.2.2.2.2.1)) (some ((false,()),())) ((a3 Bv ((x.1.1,x.1.2.1,(W 0),()),())).bind λaY=>Sum.elim (λa5=>(a3 Bw ((x.1.1,x.1.2.1,(W 0),()),())).bind λep=>Sum.elim (λdF=>some ((true,()),())) (λeK=>some ((eK.1.1,()),())) ep) (λbK=>some ((bK.1.1,()),())) aY)))))))))
def aEo:=aH [(0,aB ey),(1,aB ey)]
def aEq:=aH [(0,bR)]
def VM:=aH [(0,aB ey),(1,aB ey),(5,au)]
def aEn:bE:=[((.exit 0),aH []),fP [(4,bR)]]
def Bu (x:U VM):Option (U VM⊕bq aEn):=cond (bh x.1.2.2.1 (ba x.1.1)) ((aX x.1.1 (x.1.2.2.1).1).bind λaD=>(aX x.1.2.1 (x.1.2.2.1).1).bind λaQ=>(NX ((aD,aQ,()),())).bind λaT=>cond (!aT.1.1) (some (.inr (.inr ((false,()),())))) (some (.inl ((x.1.1,x.1.2.1,(bj x.1.2.2.1 (W 1)),()),())))) (some (.inr (.inl ((),()))))
def NW (x:U aEo):Option (U aEq):=cond (!a9 (ba x.1.1) (ba x.1.2.1)) (some ((false,()),())) ((a3 Bu ((x.1.1,x.1.2.1,(W 0),()),())).bind λaY=>Sum.elim (λa5=>some ((true,()),())) (λbK=>some ((bK.1.1,()),())) aY)
def aG5:=aH [(0,.agg hU),(1,.agg hU)]
def aG7:=aH [(0,bR)]
def Wg:=aH [(2,.cH hU 0),(3,.cH hU 0),(5,au)]
def aG4:bE:=[((.exit 0),aH []),fP [(4,bR)]]
def BP (x:U Wg):Option (U Wg⊕bq aG4):=cond (bh x.1.2.2.1 (ba x.1.1.2.1)) ((aX x.1.1.2.1 (x.1.2.2.1).1).bind λaD=>(aX x.1.2.1.2.1 (x.1.2.2.1).1).bind λaQ=>cond (!((a9 aD.1 aQ.1)&&((cB aD.2.1 aQ.2.1)&&true))) (some (.inr (.inr ((false,()),())))) (some (.inl ((x.1.1,x.1.2.1,(bj x.1.2.2.1 (W 1)),()),())))) (some (.inr (.inl ((),()))))
def Oy (x:U aG5):Option (U aG7):=cond (!cB x.1.1.1 x.1.2.1.1) (some ((false,()),())) (cond (!a9 x.1.1.2.2.1 x.1.2.1.2.2.1) (some ((false,()),())) (cond (!a9 (ba x.1.1.2.1) (ba x.1.2.1.2.1)) (some ((false,()),())) ((a3 BP ((x.1.1,x.1.2.1,(W 0),()),())).bind λaT=>Sum.elim (λaY=>(NW ((x.1.1.2.2.2.1,x.1.2.1.2.2.2.1,()),())).bind λbK=>some ((bK.1.1,()),())) (λa5=>some ((a5.1.1,()),())) aT)))
def aEL:=aH [(0,.agg gX),(1,.agg gX)]
def aEN:=aH [(0,bR)]
def VQ:=aH [(2,.cH gX 0),(3,.cH gX 0),(5,au)]
def aEE:bE:=[((.exit 0),aH []),fP [(4,bR)]]
def Bx (x:U VQ):Option (U VQ⊕bq aEE):=cond (bh x.1.2.2.1 (ba x.1.1.1)) ((aX x.1.1.1 (x.1.2.2.1).1).bind λaD=>(aX x.1.2.1.1 (x.1.2.2.1).1).bind λaQ=>(Mw ((aD,aQ,()),())).bind λaT=>cond (!aT.1.1) (some (.inr (.inr ((false,()),())))) (some (.inl ((x.1.1,x.1.2.1,(bj x.1.2.2.1 (W 1)),()),())))) (some (.inr (.inl ((),()))))
def VR:=aH [(2,.cH gX 0),(3,.cH gX 0),(6,au)]
def aEH:bE:=[((.exit 2),aH []),fP [(4,bR)]]
def By (x:U VR):Option (U VR⊕bq aEH):=cond (bh x.1.2.2.1 (ba x.1.1.2.1)) ((aX x.1.1.2.1 (x.1.2.2.1).1).bind λfk=>(aX x.1.2.1.2.1 (x.1.2.2.1).1).bind λdG=>(Ox ((fk,dG,()),())).bind λbU=>cond (!bU.1.1) (some (.inr (.inr ((false,()),())))) (some (.inl ((x.1.1,x.1.2.1,(bj x.1.2.2.1 (W 1)),()),())))) (some (.inr (.inl ((),()))))
def VS:=aH [(2,.cH gX 0),(3,.cH gX 0),(7,au)]
def aEK:bE:=[((.exit 4),aH []),fP [(4,bR)]]
def Bz (x:U VS):Option (U VS⊕bq aEK):=cond (bh x.1.2.2.1 (ba x.1.1.2.2.1)) ((aX x.1.1.2.2.1 (x.1.2.2.1).1).bind λkj=>(aX x.1.2.1.2.2.1 (x.1.2.2.1).1).bind λgM=>(Oy ((kj,gM,()),())).bind λdF=>cond (!dF.1.1) (some (.inr (.inr ((false,()),())))) (some (.inl ((x.1.1,x.1.2.1,(bj x.1.2.2.1 (W 1)),()),())))) (some (.inr (.inl ((),()))))
def NY (x:U aEL):Option (U aEN):=cond (!a9 (ba x.1.1.1) (ba x.1.2.1.1)) (some ((false,()),())) (cond (!a9 (ba x.1.1.2.1) (ba x.1.2.1.2.1)) (some ((false,()),())) (cond (!a9 (ba x.1.1.2.2.1) (ba x.1.2.1.2.2.1)) (some ((false,()),())) ((a3 Bx ((x.1.1,x.1.2.1,(W 0),()),())).bind λaY=>Sum.elim (λa5=>(a3 By ((x.1.1,x.1.2.1,(W 0),()),())).bind λcd=>Sum.elim (λbY=>(a3 Bz ((x.1.1,x.1.2.1,(W 0),()),())).bind λeK=>Sum.elim (λfg=>some ((true,()),())) (λe_=>some ((e_.1.1,()),())) eK) (λcT=>some ((cT.1.1,()),())) cd) (λbK=>some ((bK.1.1,()),())) aY)))
noncomputable def Od:dn:=⟨(put (put (put .nil 2 .bW) 10 .bW) 16 (.arr [true])),[aI agY,aI Bf,aI v7]⟩
theorem aFF:bZ 49 2 Oc:=b9 Od [] []
theorem aFC:bZ 49 1 Ob:=b9 Od [b8 aFF] [.c 11 V3 ajq]
theorem aFz:bZ 49 0 Oa:=b9 Od [b8 aFC] []
theorem aFI:bw 49 N_:=bD Od [b8 aFz] []
theorem aE4:bw 103 N4:=bD ⟨(put .nil 2 .bW),[]⟩ [] []
theorem aFT:bZ 105 1 Og:=b9 fj [] []
theorem aFQ:bZ 105 0 Of:=b9 fj [b8 aFT] []
theorem aFW:bw 105 Oe:=bD fj [b8 aFQ] []
noncomputable def zD:dn:=⟨(put (put (put .nil 2 .bW) 24 (.arr [true])) 28 (.arr [true])),[aI Bf,aI v7,aI aE4,aI Gk,aI aFW]⟩
theorem aGF:bZ 50 1 Oq:=b9 zD [] []
theorem aGC:bZ 50 0 Oo:=b9 zD [b8 aGF] []
theorem aGO:bZ 50 4 Ov:=b9 zD [] []
theorem aGR:bZ 50 5 Ow:=b9 zD [] []
theorem aGL:bZ 50 3 Ou:=b9 zD [b8 aGO,b8 aGR] [.c 20 Wf ajK]
theorem aGI:bZ 50 2 Ot:=b9 zD [b8 aGL] []
theorem aGU:bw 50 On:=bD zD [b8 aGC,b8 aGI] []
abbrev ajC:={g:U rR->Option (U uX)//bw 191 g}
noncomputable def aGz (r:ajC):dn:=⟨(put .nil 12 .bW),[aI Gk,aI r.2]⟩
theorem aGu:∀r:ajC,bw 191 (Om r.1):=Al aGz (λr=>[]) [.c 7 ajF ajE,.c 13 ajI ajH,.c 29 Wd ajJ]
theorem aGw (n:Nat):bw 191 (BO n):=by
 induction n with
 |zero=>exactλx y h=>by cases h
 |succ n cj=>exact aGu ⟨BO n,cj⟩
theorem aGy:bw 191 Wb:=aGw pg
theorem ajm:bw 153 xu:=bD ⟨.nil,[aI aGy]⟩ [] []
theorem aG8:bZ 192 0 OA:=b9 fj [] []
theorem aG':bw 192 Oz:=bD fj [b8 aG8] []
theorem ajo:bw 155 we:=bD ⟨.nil,[aI Gk]⟩ [] []
theorem ajf:bw 154 GF:=bD ⟨(put (put .nil 8 .bW) 9 .bW),[aI ajo,aI aG']⟩ [] []
noncomputable def aji:dn:=⟨.nil,[aI ajm,aI ajf]⟩
theorem aFd:bZ 156 0 N7:=b9 aji [] []
theorem aFg:bw 156 BB:=bD aji [b8 aFd] []
noncomputable def ajd:dn:=⟨(put .nil 5 .bW),[aI ajm,aI ajf,aI ajo,aI aFg]⟩
theorem aE8:bZ 106 0 N6:=b9 ajd [] []
theorem aE':bw 106 N5:=bD ajd [b8 aE8] []
abbrev VX:={g:U uW->Option (U BC)//bw 51 g}
noncomputable def ajk (r:VX):dn:=⟨.nil,[aI r.2,aI Bf,aI aE']⟩
theorem aFj:∀r:VX,bZ 51 0 (N9 r.1):=ab' ajk (λr=>[]) []
theorem aFi:∀r:VX,bw 51 (N8 r.1):=Al ajk (λr=>[b8 (aFj r)]) []
theorem aFk (n:Nat):bw 51 (xq n):=by
 induction n with
 |zero=>exactλx y h=>by cases h
 |succ n cj=>exact aFi ⟨xq n,cj⟩
theorem aFl:bw 51 VW:=aFk pg
noncomputable def GA:dn:=⟨(put (put (put .nil 1 .bW) 5 .bW) 10 .bW),[aI azJ,aI ayW,aI ayQ,aI aFI,aI aGU,aI aFl]⟩
theorem aD3:bZ 24 0 NR:=b9 GA [] []
theorem aD6:bZ 24 1 NS:=b9 GA [] []
theorem aEa:bZ 24 3 NU:=b9 GA [] []
theorem aD9:bZ 24 2 NT:=b9 GA [b8 aEa] [.c 19 VG aiS,.c 20 VI aiT]
theorem aEd:bw 24 NQ:=bD GA [b8 aD3,b8 aD6,b8 aD9] []
theorem aEh:bZ 23 0 NV:=b9 fj [] []
theorem VK:bw 23 Bt:=bD fj [b8 aEh] [.c 5 aiY aiX]
theorem v_:bw 73 l3:=bD ⟨.nil,[aI VK]⟩ [] []
theorem zC:bw 126 pb:=bD ⟨.nil,[aI VK]⟩ [] []
noncomputable def ajP:dn:=⟨.nil,[aI v_,aI zC]⟩
theorem aHc:bZ 127 0 BQ:=b9 ajP [] []
theorem aHf:bw 127 OB:=bD ajP [b8 aHc] []
theorem aja:bw 129 GC:=bD ⟨(put .nil 1 .bW),[aI v_,aI zC]⟩ [] []
noncomputable def ai8:dn:=⟨.nil,[aI v_,aI zC,aI aja]⟩
theorem aEZ:bZ 128 0 BA:=b9 ai8 [] []
theorem ai7:bw 128 GB:=bD ai8 [b8 aEZ] []
noncomputable def ajB:dn:=⟨(put .nil 1 .bW),[aI v_,aI zC,aI aHf,aI ai7]⟩
theorem aGo:bZ 74 0 BN:=b9 ajB [] []
theorem aGr:bw 74 Ol:=bD ajB [b8 aGo] []
noncomputable def ajx:dn:=⟨(put .nil 1 .bW),[aI v_,aI zC,aI ai7]⟩
theorem aFZ:bZ 75 0 BH:=b9 ajx [] []
theorem aF2:bw 75 Oh:=bD ajx [b8 aFZ] []
noncomputable def ajt:dn:=⟨.nil,[aI v_]⟩
theorem aFL:bZ 171 0 BG:=b9 ajt [] []
theorem aFO:bw 171 GL:=bD ajt [b8 aFL] []
noncomputable def V1:dn:=⟨(put .nil 1 .bW),[aI VK,aI v_,aI zC,aI aFO]⟩
theorem aFp:bZ 130 0 BE:=b9 V1 [] []
theorem aFs:bZ 130 1 BF:=b9 V1 [] []
theorem aFv:bw 130 N':=bD V1 [b8 aFp,b8 aFs] []
noncomputable def V':dn:=⟨(put .nil 1 .bW),[aI v_,aI zC,aI aja,aI aFv]⟩
theorem aGf:bZ 76 0 BL:=b9 V' [] []
theorem aGi:bZ 76 1 BM:=b9 V' [] []
theorem aGl:bw 76 Ok:=bD V' [b8 aGf,b8 aGi] []
noncomputable def Oj:dn:=⟨(put .nil 1 .bW),[aI v_,aI aGr,aI aF2,aI aGl]⟩
theorem aF5:bZ 35 0 BI:=b9 Oj [] []
theorem aF8:bZ 35 1 BJ:=b9 Oj [] []
theorem aF':bZ 35 2 BK:=b9 Oj [] []
theorem aGc:bw 35 Oi:=bD Oj [b8 aF5,b8 aF8,b8 aF'] []
theorem aER:bZ 21 0 N2:=b9 fj [] []
theorem aES:bw 21 N0:=bD fj [b8 aER] []
theorem aEO:bw 16 N1:=bD ⟨.nil,[aI aES]⟩ [] []
theorem aEW:bw 12 N3:=bD ⟨(put .nil 1 .bW),[aI aEO,aI aGc]⟩ [] []
theorem aGZ:bw 43 Ox:=bD ⟨(put (put .nil 2 .bW) 3 .bW),[aI aIH]⟩ [] []
noncomputable def VP:dn:=⟨(put (put .nil 2 .bW) 3 .bW),[aI azk]⟩
theorem aEt:bZ 137 0 Bv:=b9 VP [] []
theorem aEw:bZ 137 1 Bw:=b9 VP [] []
theorem aEz:bw 137 NX:=bD VP [b8 aEt,b8 aEw] []
noncomputable def ai0:dn:=⟨.nil,[aI aEz]⟩
theorem aEm:bZ 94 0 Bu:=b9 ai0 [] []
theorem aEp:bw 94 NW:=bD ai0 [b8 aEm] []
noncomputable def ajM:dn:=⟨(put (put .nil 2 .bW) 3 .bW),[aI aEp]⟩
theorem aG3:bZ 44 0 BP:=b9 ajM [] []
theorem aG6:bw 44 Oy:=bD ajM [b8 aG3] []
noncomputable def NZ:dn:=⟨(put (put .nil 2 .bW) 3 .bW),[aI azr,aI aGZ,aI aG6]⟩
theorem aED:bZ 14 0 Bx:=b9 NZ [] []
theorem aEG:bZ 14 1 By:=b9 NZ [] []
theorem aEJ:bZ 14 2 Bz:=b9 NZ [] []
theorem aEM:bw 14 NY:=bD NZ [b8 aED,b8 aEG,b8 aEJ] []
def acp:=aH [(0,aB bp)]
def asz:a4:=⟨[(0,cC)],[.box [.tok bp 1 [],au],.bG bp]⟩
def Ks (x:U acp):Option (U asz):=(c8 8 (L.nil:L (D [.int .i64])) x.1.1).bind λdk=>some (((),()),((dk,(W 0),()),(),()))
def aco:a4:=⟨[(0,cC),(1,au)],mK⟩
def D4:a4:=⟨[(0,au)],mK⟩
def ia (x:U aco):Option (U D4):=cond (bh x.1.2.1 (W 1)) (some (((W 0),()),(x.2.1,()))) (cond (fN (ba x.2.1.1) x.2.1.2.1) (some (((W 0),()),(x.2.1,()))) ((aX x.2.1.1 ((eF (bj x.2.1.2.1 (W 1)) (W 1))).1).bind λaD=>(lk (eN .u64 aD.1) (eN .u64 x.1.2.1)).bind λv2=>some (((eN .i64 v2),()),((x.2.1.1,(bj x.2.1.2.1 (W 1)),()),()))))
def acT:=aH []
def acV:=aH [(0,aB cl)]
def zg (x:U acT):Option (U acV):=some (((cD [((S ⟨#[97]⟩),()),((S ⟨#[98]⟩),()),((S ⟨#[99]⟩),()),((S ⟨#[100]⟩),()),((S ⟨#[101]⟩),())]),()),())
def acJ:=aH []
def acL:=aH [(0,aB cl)]
def zf (x:U acJ):Option (U acL):=some (((cD [((S ⟨#[119]⟩),()),((S ⟨#[120]⟩),()),((S ⟨#[121]⟩),()),((S ⟨#[122]⟩),())]),()),())
def ack:a4:=⟨[(0,cC)],mK⟩
def acn:a4:=⟨[(0,.agg ig)],mK⟩
def uH (x:U ack):Option (U acn):=(ia (((),(W 6),()),(x.2.1,()))).bind λaz=>(aX (cD [((W 1),()),((W 0),()),((W 1),()),((W 2),()),((W 3),()),((W 4),())]) (az.1.1).1).bind λaQ=>some (((aQ.1,(S ⟨#[]⟩),()),()),(az.2.1,()))
def acG:a4:=⟨[(0,cC),(1,aB cl)],mK⟩
def atb:a4:=⟨[(0,.agg ig)],mK⟩
def ze (x:U acG):Option (U atb):=cond (bh (W 0) (ba x.1.2.1)) ((ia (((),(W 4),()),(x.2.1,()))).bind λaz=>cond (a9 az.1.1 (W 1)) ((ia (((),(ba x.1.2.1),()),(az.2.1,()))).bind λaF=>(aX x.1.2.1 (aF.1.1).1).bind λbO=>some ((((W 5),bO.1,()),()),(aF.2.1,()))) ((uH (((),()),(az.2.1,()))).bind λaY=>some ((aY.1.1,()),(aY.2.1,())))) ((uH (((),()),(x.2.1,()))).bind λa5=>some ((a5.1.1,()),(a5.2.1,())))
def acD:a4:=⟨[(0,cC),(1,aB cl),(2,au)],mK⟩
def as9:a4:=⟨[(0,aB dR)],mK⟩
def D8:a4:=⟨[(0,cC),(1,aB cl),(2,au),(7,.tok dR 1 []),(8,au),(9,au),(10,au)],[.box [aB bp,au],.bG dR]⟩
def as6:bE:=[((.exit 0),⟨[(7,.tok dR 2 [])],[.box [aB bp,au],.gone,.bG dR]⟩)]
def KF (x:U D8):Option (U D8⊕bq as6):=cond (bh x.1.2.2.2.2.2.2.1 x.1.2.2.2.2.1) ((zf ((),())).bind λaT=>(lk (bj x.1.2.2.2.2.2.1 x.1.2.2.2.2.2.2.1) (W 4)).bind λv4=>(aX aT.1.1 (v4).1).bind λdP=>(ze (((),x.1.2.1,()),(x.2.1,()))).bind λbK=>(ia (((),x.1.2.2.1,()),(bK.2.1,()))).bind λbL=>(c8 48 x.1.2.2.2.1 (cD [(dP.1,bK.1.1.1,bK.1.1.2.1,bL.1.1,())])).bind λj0=>some (.inl (((),x.1.2.1,x.1.2.2.1,j0,x.1.2.2.2.2.1,x.1.2.2.2.2.2.1,(bj x.1.2.2.2.2.2.2.1 (W 1)),()),(bL.2.1,(),())))) (some (.inr ((x.1.2.2.2.1,()),(x.2.1,(),(),()))))
def KE (x:U acD):Option (U as9):=(ia (((),(W 3),()),(x.2.1,()))).bind λaz=>(ia (((),(W 4),()),(az.2.1,()))).bind λaF=>(a3 KF (((),x.1.2.1,x.1.2.2.1,L.nil,(bj (W 1) az.1.1),aF.1.1,(W 0),()),(aF.2.1,(),()))).bind λbU=>some ((bU.1.1,()),(bU.2.1,()))
def acA:a4:=⟨[(0,cC),(1,a_),(2,au),(3,aB cl)],mK⟩
def as4:a4:=⟨[(0,.agg dE)],mK⟩
def D7:a4:=⟨[(0,cC),(2,au),(3,aB cl),(9,au),(10,.ptr 1 0),(11,au)],[.box [aB bp,au],.box [a_,.tok cl 2 [],.tok fi 3 []],.bG cl,.bG fi]⟩
def as2:bE:=[((.exit 0),⟨[],[.box [aB bp,au],.box [a_,.tok cl 4 [],.tok fi 5 []],.gone,.gone,.bG cl,.bG fi]⟩)]
def KD (x:U D7):Option (U D7⊕bq as2):=cond (bh x.1.2.2.2.2.2.1 x.1.2.2.2.1) ((ia (((),x.1.2.1,()),(x.2.1,()))).bind λa5=>(ia (((),(eF x.1.2.1 (W 1)),()),(a5.2.1,()))).bind λbK=>(lk (bj (bj a5.1.1 (W 1)) bK.1.1) x.1.2.1).bind λdU=>(aX x.2.2.1.2.1 (a5.1.1).1).bind λdG=>(aX x.2.2.1.2.1 (dU).1).bind λeS=>(KE (((),x.1.2.2.1,(bj x.1.2.2.2.1 (W 1)),()),(bK.2.1,()))).bind λcd=>(c8 56 x.2.2.1.2.2.1 (cD [(dG.1,eS.1,cd.1.1,())])).bind λrJ=>some (.inl (((),x.1.2.1,x.1.2.2.1,x.1.2.2.2.1,(),(bj x.1.2.2.2.2.2.1 (W 1)),()),(cd.2.1,(x.2.2.1.1,x.2.2.1.2.1,rJ,()),(),(),())))) (some (.inr ((),(x.2.1,x.2.2.1,(),(),(),(),()))))
def AV (x:U acA):Option (U as4):=(ia (((),(W 6),()),(x.2.1,()))).bind λaz=>(zg ((),())).bind λaF=>(nG aF.1.1 0 (x.1.2.2.1).1).bind λcK=>(c8 16 (L.nil:L (D [.str])) cK).bind λjk=>(a3 KD (((),x.1.2.2.1,x.1.2.2.2.1,(bj (W 1) az.1.1),(),(W 0),()),(az.2.1,(x.1.2.1,jk,L.nil,()),(),(),()))).bind λcT=>(c8 56 cT.2.2.1.2.2.1 (cD [((S ⟨#[]⟩),(S ⟨#[]⟩),L.nil,())])).bind λmz=>some (((cT.2.2.1.1,cT.2.2.1.2.1,mz,()),()),(cT.2.1,()))
def D9:a4:=⟨[(0,cC),(1,a_),(2,au),(3,aB cl)],mK⟩
def D_:a4:=⟨[(0,.agg dE)],mK⟩
def gp (ro:L (D [.str]))(i:Nat):ee:=((ro.1[i]?).map λe=>e.1).getD (S ⟨#[]⟩)
def uI (go:ee)(ts ro:L (D [.str])):Nat->Nat->D [.aR [.int .i64],.int .i64]->Option (List (D fi)×D [.aR [.int .i64],.int .i64])
 |0,_,d=>some ([],d)
 |n+1,i,d=>(ze (((),ts,()),(d,()))).bind λy=>(uI go ts ro n (i+1) y.2.1).bind λr=>
  some ((gp ro i,gp ro (i+1),cD [(go,y.1.1.1,y.1.1.2.1,bc.w .i64 ((i+1:Nat):Int),())],())::r.1,r.2)
def xf:List (D fi)->List (D fi)
 |[]=>[]
 |[p]=>[(p.1,p.2.1,cD (match p.2.2.1.1 with|[]=>[]|a::l=>(a.1,a.2.1,a.2.2.1,bc.w .i64 0,())::l),())]
 |p::q::l=>p::xf (q::l)
def tE (ja:ee)(ro:L (D [.str])):Nat->Nat->Nat->List (D fi)
 |0,_,_=>[]
 |n+1,i,k=>(gp ro i,gp ro (i+1),cD [(ja,bc.w .i64 0,S ⟨#[]⟩,bc.w .i64 ((k+1:Nat):Int),())],())::tE ja ro n (i+1) (k+1)
def AW (go ja:ee)(ro:L (D [.str]))(m:Nat)(c:D ig)(xd:List (D fi))(n8:Option (D ig)):List (D fi):=
 let LW:Int->D fi:=λk=>(gp ro 0,gp ro 1,cD [(go,c.1,c.2.1,bc.w .i64 1,()),(ja,bc.w .i64 0,S ⟨#[]⟩,bc.w .i64 k,())],())
 let up:Int->List (D fi):=λk=>match n8 with
  |some b=>LW k::xd++[(gp ro (m+1),gp ro 0,cD [(S ⟨#[111,107]⟩,b.1,b.2.1,bc.w .i64 0,())],())]
  |none=>xf (LW k::xd)
 let k:=(up 0).length
 up k++tE ja ro m 1 k++[(S ⟨#[]⟩,S ⟨#[]⟩,L.nil,())]
def zh (x:U D9):Option (U D_):=cond (fN (bc.w .i64 (2)) x.1.2.2.1) (cond (fN x.1.2.2.1 (bc.w .i64 (5))) ((zg ((),())).bind λaz=>(nG az.1.1 0 (x.1.2.2.1).1).bind λv2=>(c8 16 (L.nil:L (D [.str])) v2).bind λbT=>(zf ((),())).bind λaY=>(ia (((),(bc.w .i64 (2)),()),(x.2.1,()))).bind λa5=>(aX aY.1.1 (a5.1.1).1).bind λdb=>(ia (((),(bc.w .i64 (2)),()),(a5.2.1,()))).bind λcu=>(aX aY.1.1 ((bj (bc.w .i64 (2)) cu.1.1)).1).bind λeS=>(ia (((),(bc.w .i64 (2)),()),(cu.2.1,()))).bind λcd=>(uH (((),()),(cd.2.1,()))).bind λbY=>(uI db.1 x.1.2.2.2.1 bT (x.1.2.2.1.1-2).toNat 1 bY.2.1).bind λmF=>cond (a9 cd.1.1 (bc.w .i64 (1))) ((uH (((),()),(mF.2,()))).bind λcA=>some (((x.1.2.1,bT,cD (AW db.1 eS.1 bT (x.1.2.2.1.1-2).toNat bY.1.1 mF.1 (some cA.1.1)),()),()),(cA.2.1,()))) (some (((x.1.2.1,bT,cD (AW db.1 eS.1 bT (x.1.2.2.1.1-2).toNat bY.1.1 mF.1 none),()),()),(mF.2,())))) (none)) (none)
def acs:a4:=⟨[(0,cC),(1,a_),(2,aB cl)],mK⟩
def asL:a4:=⟨[(0,.agg dE)],mK⟩
def Kz (x:U acs):Option (U asL):=(ia (((),(W 4),()),(x.2.1,()))).bind λaz=>cond (a9 az.1.1 (W 0)) ((AV (((),x.1.2.1,(W 2),x.1.2.2.1,()),(az.2.1,()))).bind λaF=>some ((aF.1.1,()),(aF.2.1,()))) (cond (a9 az.1.1 (W 1)) ((ia (((),(W 3),()),(az.2.1,()))).bind λaT=>(zh (((),x.1.2.1,(bj (W 2) aT.1.1),x.1.2.2.1,()),(aT.2.1,()))).bind λaY=>some ((aY.1.1,()),(aY.2.1,()))) (cond (a9 az.1.1 (W 2)) ((AV (((),x.1.2.1,(W 3),x.1.2.2.1,()),(az.2.1,()))).bind λa5=>some ((a5.1.1,()),(a5.2.1,()))) ((zh (((),x.1.2.1,(W 3),x.1.2.2.1,()),(az.2.1,()))).bind λbK=>some ((bK.1.1,()),(bK.2.1,())))))
def acv:a4:=⟨[(0,cC),(1,a_),(2,aB cl)],mK⟩
def asR:a4:=⟨[(0,.agg dE)],mK⟩
def D5 (x:U acv):Option (U asR):=(Kz (((),x.1.2.1,x.1.2.2.1,()),(x.2.1,()))).bind λaz=>(BS ((az.1.1,()),())).bind λaF=>cond (a9 aF.1.2.2.1 (W 0)) (some ((az.1.1,()),(az.2.1,()))) ((AV (((),x.1.2.1,(W 2),x.1.2.2.1,()),(az.2.1,()))).bind λaT=>some ((aT.1.1,()),(aT.2.1,())))
def acy:=aH [(0,.agg dE)]
def asZ:=aH [(0,aB cl)]
def D6:a4:=⟨[(1,.cH dE 0),(3,.tok cl 0 []),(4,au)],[.bG cl]⟩
def asW:bE:=[((.exit 0),⟨[(3,.tok cl 1 [])],[.gone,.bG cl]⟩)]
def KC (x:U D6):Option (U D6⊕bq asW):=cond (bh x.1.2.2.1 (ba x.1.1.2.1)) ((fF x.1.1.1 (S ⟨#[46]⟩)).bind λv1=>(aX x.1.1.2.1 (x.1.2.2.1).1).bind λaQ=>(fF v1 aQ.1).bind λcK=>(c8 16 x.1.2.1 (cD [(cK,())])).bind λjk=>some (.inl ((x.1.1,jk,(bj x.1.2.2.1 (W 1)),()),((),())))) (some (.inr ((x.1.2.1,()),((),(),()))))
def KB (x:U acy):Option (U asZ):=(a3 KC ((x.1.1,L.nil,(W 0),()),((),()))).bind λa5=>some ((a5.1.1,()),())
def acu:a4:=⟨[(0,cC)],mK⟩
def asO:a4:=⟨[(0,aB dE)],mK⟩
def KA (x:U acu):Option (U asO):=(D5 (((),(S ⟨#[112]⟩),L.nil,()),(x.2.1,()))).bind λaz=>(ia (((),(W 2),()),(az.2.1,()))).bind λaF=>cond (a9 aF.1.1 (W 1)) ((KB ((az.1.1,()),())).bind λaT=>(D5 (((),(S ⟨#[113]⟩),aT.1.1,()),(aF.2.1,()))).bind λaY=>(c8 64 (cD [az.1.1]) (cD [aY.1.1])).bind λiD=>some ((iD,()),(aY.2.1,()))) (some (((cD [az.1.1]),()),(aF.2.1,())))
def acq:=aH [(0,.agg dE),(1,a_)]
def asB:=aH [(0,a_)]
def zc (x:U acq):Option (U asB):=(fF x.1.1.1 x.1.2.1).bind λv1=>some ((v1,()),())
def acF:=aH [(0,au)]
def ata:=aH [(0,.sD cS [false,false,false,false,false,false,false,true,true,false])]
def nP (x:U acF):Option (U ata):=some (((x.1.1,(S ⟨#[]⟩),(S ⟨#[]⟩),(S ⟨#[]⟩),(S ⟨#[]⟩),(W (-1)),L.nil,L.nil,L.nil,(W (-1)),()),()),())
def ads:a4:=⟨[(0,cC),(1,.sD cS kD)],m0⟩
def atP:a4:=⟨[(0,au)],mZ⟩
def sC (x:U ads):Option (U atP):=(c8 160 x.2.2.2.2.1 (cD [(x.1.2.1.1,x.1.2.1.2.1,x.1.2.1.2.2.1,x.1.2.1.2.2.2.1,x.1.2.1.2.2.2.2.1,x.1.2.1.2.2.2.2.2.1,x.1.2.1.2.2.2.2.2.2.1,x.1.2.1.2.2.2.2.2.2.2.1,L.nil,(W (-1)),())])).bind λdk=>some (((eF (W (dk.1.length:Nat)) (W 1)),()),(((),x.2.1.2.1,x.2.1.2.2.1,x.2.1.2.2.2.1,x.2.1.2.2.2.2.1,(),x.2.1.2.2.2.2.2.2.1,x.2.1.2.2.2.2.2.2.2.1,x.2.1.2.2.2.2.2.2.2.2.1,x.2.1.2.2.2.2.2.2.2.2.2.1,(eF x.2.1.2.2.2.2.2.2.2.2.2.2.1 (W 1)),()),x.2.2.1,(),(),(),dk,()))
def adu:a4:=⟨[(0,cC),(1,.sD cS kD)],m0⟩
def atS:a4:=⟨[(0,au)],mZ⟩
def rL (x:U adu):Option (U atS):=(sC (((),(x.1.2.1.1,x.1.2.1.2.1,x.1.2.1.2.2.1,x.1.2.1.2.2.2.1,x.1.2.1.2.2.2.2.1,x.1.2.1.2.2.2.2.2.1,x.1.2.1.2.2.2.2.2.2.1,x.1.2.1.2.2.2.2.2.2.2.1,L.nil,x.1.2.1.2.2.2.2.2.2.2.2.2.1,()),()),(x.2.1,x.2.2.1,(),x.2.2.2.2.1,()))).bind λaz=>cond (decide (0<=(az.1.1).1)&&decide ((az.1.1).1<(az.2.2.2.2.2.2.1.1.length:Nat))) ((eO az.2.2.2.2.2.2.1 ((az.1.1).1).toNat).bind λaQ=>some ((az.1.1,()),(az.2.1,az.2.2.1,(),(),(),(dO az.2.2.2.2.2.2.1 ((az.1.1).1).toNat (aQ.1,aQ.2.1,aQ.2.2.1,aQ.2.2.2.1,aQ.2.2.2.2.1,aQ.2.2.2.2.2.1,aQ.2.2.2.2.2.2.1,aQ.2.2.2.2.2.2.2.1,aQ.2.2.2.2.2.2.2.2.1,(W (az.2.2.2.2.2.2.1.1.length:Nat)),())),()))) (none)
def ac9:a4:=⟨[(0,cC),(1,bR)],m0⟩
def atv:a4:=⟨[(0,au)],mZ⟩
def AY (x:U ac9):Option (U atv):=cond (!x.1.2.1) ((nP (((W 9),()),())).bind λaz=>(rL (((),(az.1.1.1,(S ⟨#[99]⟩),az.1.1.2.2.1,az.1.1.2.2.2.1,az.1.1.2.2.2.2.1,az.1.1.2.2.2.2.2.1,az.1.1.2.2.2.2.2.2.1,L.nil,L.nil,az.1.1.2.2.2.2.2.2.2.2.2.1,()),()),(x.2.1,x.2.2.1,(),x.2.2.2.2.1,()))).bind λaF=>(nP (((W 0),()),())).bind λaT=>(sC (((),(aT.1.1.1,aT.1.1.2.1,aT.1.1.2.2.1,aT.1.1.2.2.2.1,aT.1.1.2.2.2.2.1,aT.1.1.2.2.2.2.2.1,aT.1.1.2.2.2.2.2.2.1,L.nil,L.nil,aT.1.1.2.2.2.2.2.2.2.2.2.1,()),()),(aF.2.1,aF.2.2.1,(),aF.2.2.2.2.2.2.1,()))).bind λaY=>some (((W (x.2.2.2.2.1.1.length:Nat)),()),(aY.2.1,aY.2.2.1,(),(),(),aY.2.2.2.2.2.2.1,()))) ((nP (((W 0),()),())).bind λa5=>(sC (((),(a5.1.1.1,a5.1.1.2.1,a5.1.1.2.2.1,a5.1.1.2.2.2.1,a5.1.1.2.2.2.2.1,a5.1.1.2.2.2.2.2.1,a5.1.1.2.2.2.2.2.2.1,L.nil,L.nil,a5.1.1.2.2.2.2.2.2.2.2.2.1,()),()),(x.2.1,x.2.2.1,(),x.2.2.2.2.1,()))).bind λbK=>some (((W (x.2.2.2.2.1.1.length:Nat)),()),(bK.2.1,bK.2.2.1,(),(),(),bK.2.2.2.2.2.2.1,())))
def adt:a4:=⟨[(0,cC),(1,.agg er)],m0⟩
def atQ:a4:=⟨[(0,au)],mZ⟩
def uK (x:U adt):Option (U atQ):=(c8 64 x.2.1.2.2.2.2.1 (cD [x.1.2.1])).bind λdk=>some (((eF (ba dk) (W 1)),()),(((),x.2.1.2.1,x.2.1.2.2.1,x.2.1.2.2.2.1,dk,(),x.2.1.2.2.2.2.2.2.1,x.2.1.2.2.2.2.2.2.2.1,x.2.1.2.2.2.2.2.2.2.2.1,x.2.1.2.2.2.2.2.2.2.2.2.1,x.2.1.2.2.2.2.2.2.2.2.2.2.1,()),x.2.2.1,(),(),(),x.2.2.2.2.1,()))
def Tp:a4:=⟨[(0,cC),(1,au)],m0⟩
def adm:a4:=⟨[(0,au)],mZ⟩
def rK (x:U Tp):Option (U adm):=(uK (((),((W 1),(S ⟨#[]⟩),x.1.2.1,(S ⟨#[]⟩),(W (-1)),(W (-1)),()),()),(x.2.1,x.2.2.1,(),x.2.2.2.2.1,()))).bind λaz=>some ((az.1.1,()),(az.2.1,az.2.2.1,(),(),(),az.2.2.2.2.2.2.1,()))
def adl:a4:=⟨[(0,cC),(1,a_)],m0⟩
def atI:a4:=⟨[(0,au)],mZ⟩
def qx (x:U adl):Option (U atI):=(uK (((),((W 0),x.1.2.1,(W 0),(S ⟨#[]⟩),(W (-1)),(W (-1)),()),()),(x.2.1,x.2.2.1,(),x.2.2.2.2.1,()))).bind λaz=>some ((az.1.1,()),(az.2.1,az.2.2.1,(),(),(),az.2.2.2.2.2.2.1,()))
def ac8:a4:=⟨[(0,cC),(1,au),(2,au),(3,au)],m0⟩
def atu:a4:=⟨[(0,au)],mZ⟩
def tF (x:U ac8):Option (U atu):=(uK (((),(x.1.2.1,(S ⟨#[]⟩),(W 0),(S ⟨#[]⟩),x.1.2.2.1,x.1.2.2.2.1,()),()),(x.2.1,x.2.2.1,(),x.2.2.2.2.1,()))).bind λaz=>some ((az.1.1,()),(az.2.1,az.2.2.1,(),(),(),az.2.2.2.2.2.2.1,()))
def adk:a4:=⟨[(0,cC)],m0⟩
def atG:a4:=⟨[(0,au)],mZ⟩
def KO (x:U adk):Option (U atG):=(qx (((),(S ⟨#[110]⟩),()),(x.2.1,x.2.2.1,(),x.2.2.2.2.1,()))).bind λaz=>(rK (((),(W 1),()),(az.2.1,az.2.2.1,(),az.2.2.2.2.2.2.1,()))).bind λaF=>(tF (((),(W 7),az.1.1,aF.1.1,()),(aF.2.1,aF.2.2.1,(),aF.2.2.2.2.2.2.1,()))).bind λaT=>some ((aT.1.1,()),(aT.2.1,aT.2.2.1,(),(),(),aT.2.2.2.2.2.2.1,()))
def acZ:a4:=⟨[(0,cC)],m0⟩
def atm:a4:=⟨[],mZ⟩
def KJ (x:U acZ):Option (U atm):=(nP (((W 3),()),())).bind λaz=>(rK (((),(W 0),()),(x.2.1,x.2.2.1,(),x.2.2.2.2.1,()))).bind λaF=>(qx (((),(S ⟨#[110]⟩),()),(aF.2.1,aF.2.2.1,(),aF.2.2.2.2.2.2.1,()))).bind λaT=>(tF (((),(W 12),aF.1.1,aT.1.1,()),(aT.2.1,aT.2.2.1,(),aT.2.2.2.2.2.2.1,()))).bind λaY=>(sC (((),(az.1.1.1,az.1.1.2.1,az.1.1.2.2.1,az.1.1.2.2.2.1,az.1.1.2.2.2.2.1,aY.1.1,az.1.1.2.2.2.2.2.2.1,L.nil,L.nil,az.1.1.2.2.2.2.2.2.2.2.2.1,()),()),(aY.2.1,aY.2.2.1,(),aY.2.2.2.2.2.2.1,()))).bind λa5=>cond (decide (0<=(a5.1.1).1)&&decide ((a5.1.1).1<(a5.2.2.2.2.2.2.1.1.length:Nat))) ((eO a5.2.2.2.2.2.2.1 ((a5.1.1).1).toNat).bind λdb=>(c8 40 db.2.2.2.2.2.2.2.2.1 (cD [((S ⟨#[]⟩),(S ⟨#[]⟩),(W (a5.2.2.2.2.2.2.1.1.length:Nat)),())])).bind λj'=>cond (decide (0<=(a5.1.1).1)&&decide ((a5.1.1).1<(a5.2.2.2.2.2.2.1.1.length:Nat))) ((eO a5.2.2.2.2.2.2.1 ((a5.1.1).1).toNat).bind λdG=>cond (decide (((a5.1.1).1).toNat=((a5.1.1).1).toNat)) ((nP (((W 6),()),())).bind λbU=>(qx (((),(S ⟨#[99]⟩),()),(a5.2.1,a5.2.2.1,(),(dO a5.2.2.2.2.2.2.1 ((a5.1.1).1).toNat (dG.1,dG.2.1,dG.2.2.1,dG.2.2.2.1,dG.2.2.2.2.1,dG.2.2.2.2.2.1,dG.2.2.2.2.2.2.1,dG.2.2.2.2.2.2.2.1,j',dG.2.2.2.2.2.2.2.2.2.1,())),()))).bind λcd=>(KO (((),()),(cd.2.1,cd.2.2.1,(),cd.2.2.2.2.2.2.1,()))).bind λbY=>(sC (((),(bU.1.1.1,bU.1.1.2.1,bU.1.1.2.2.1,bU.1.1.2.2.2.1,a5.2.1.2.2.2.2.2.2.1,bU.1.1.2.2.2.2.2.1,(cD [(cd.1.1,()),(bY.1.1,())]),L.nil,L.nil,bU.1.1.2.2.2.2.2.2.2.2.2.1,()),()),(bY.2.1,bY.2.2.1,(),bY.2.2.2.2.2.2.1,()))).bind λcT=>(AY (((),false,()),(cT.2.1,cT.2.2.1,(),cT.2.2.2.2.2.2.1,()))).bind λcA=>cond (decide (0<=(a5.1.1).1)&&decide ((a5.1.1).1<(cA.2.2.2.2.2.2.1.1.length:Nat))) ((eO cA.2.2.2.2.2.2.1 ((a5.1.1).1).toNat).bind λgM=>(c8 40 gM.2.2.2.2.2.2.2.2.1 (cD [((S ⟨#[]⟩),(S ⟨#[]⟩),cA.1.1,())])).bind λpU=>cond (decide (0<=(a5.1.1).1)&&decide ((a5.1.1).1<(cA.2.2.2.2.2.2.1.1.length:Nat))) ((eO cA.2.2.2.2.2.2.1 ((a5.1.1).1).toNat).bind λg8=>cond (decide (((a5.1.1).1).toNat=((a5.1.1).1).toNat)) (some ((),(cA.2.1,cA.2.2.1,(),(),(),(dO cA.2.2.2.2.2.2.1 ((a5.1.1).1).toNat (g8.1,g8.2.1,g8.2.2.1,g8.2.2.2.1,g8.2.2.2.2.1,g8.2.2.2.2.2.1,g8.2.2.2.2.2.2.1,g8.2.2.2.2.2.2.2.1,pU,g8.2.2.2.2.2.2.2.2.2.1,())),()))) (none)) (none)) (none)) (none)) (none)) (none)
def ac':a4:=⟨[(0,cC)],m0⟩
def atw:a4:=⟨[(0,a_)],mZ⟩
def Eb (x:U ac'):Option (U atw):=(Ge (((bj x.2.1.2.2.2.2.2.2.2.2.2.1 (W 1)),()),())).bind λaz=>(fF (S ⟨#[118]⟩) az.1.1).bind λv2=>some ((v2,()),(((),x.2.1.2.1,x.2.1.2.2.1,x.2.1.2.2.2.1,x.2.1.2.2.2.2.1,(),x.2.1.2.2.2.2.2.2.1,x.2.1.2.2.2.2.2.2.2.1,x.2.1.2.2.2.2.2.2.2.2.1,(bj x.2.1.2.2.2.2.2.2.2.2.2.1 (W 1)),x.2.1.2.2.2.2.2.2.2.2.2.2.1,()),x.2.2.1,(),(),(),x.2.2.2.2.1,()))
def adw:a4:=⟨[(0,cC),(1,a_)],m0⟩
def at1:a4:=⟨[(0,.agg dE),(1,a_)],mZ⟩
def KT:a4:=⟨[(0,cC),(1,a_),(4,.ptr 4 0),(6,au),(7,au)],[.box [.ptr 1 0,aB dE,a_,aB gH,.tok er 2 [],.arr 3 cS kD,a_,aB ek,au,au,au],.box [aB bp,au],.bG er,.arr cS kD,.box [a_,.dt,.dt]]⟩
def atZ:bE:=[((.exit 2),⟨[],[.box [.ptr 1 0,aB dE,a_,aB gH,.tok er 5 [],.arr 6 cS kD,a_,aB ek,au,au,au],.box [aB bp,au],.gone,.gone,.box [a_,.dt,.dt],.bG er,.arr cS kD]⟩),(.ret,⟨[(5,a_)],[.box [.ptr 1 0,aB dE,a_,aB gH,.tok er 5 [],.arr 6 cS kD,a_,aB ek,au,au,au],.box [aB bp,au],.gone,.gone,.box [a_,aB cl,aB fi],.bG er,.arr cS kD]⟩)]
def KS (x:U KT):Option (U KT⊕bq atZ):=(aX x.2.1.2.1 (x.1.2.2.2.1).1).bind λaD=>cond (bh x.1.2.2.2.2.1 (ba aD.2.1)) ((aX x.2.1.2.1 (x.1.2.2.2.1).1).bind λaQ=>(fF aQ.1 (S ⟨#[46]⟩)).bind λcK=>(aX x.2.1.2.1 (x.1.2.2.2.1).1).bind λcP=>(aX cP.2.1 (x.1.2.2.2.2.1).1).bind λdP=>(fF cK dP.1).bind λv6=>cond (cB v6 x.1.2.1) ((aX x.2.1.2.1 (x.1.2.2.2.1).1).bind λfk=>(aX x.2.1.2.1 (x.1.2.2.2.1).1).bind λdG=>(aX dG.2.1 (x.1.2.2.2.2.1).1).bind λeS=>some (.inr (.inr ((eS.1,()),(x.2.1,x.2.2.1,(),(),(fk.1,fk.2.1,fk.2.2.1,()),(),x.2.2.2.2.1,()))))) (some (.inl (((),x.1.2.1,(),x.1.2.2.2.1,(bj x.1.2.2.2.2.1 (W 1)),()),(x.2.1,x.2.2.1,(),x.2.2.2.2.1,x.2.2.2.2.2.1,()))))) (some (.inr (.inl ((),(x.2.1,x.2.2.1,(),(),x.2.2.2.2.2.1,(),x.2.2.2.2.1,())))))
def Ts:a4:=⟨[(0,cC),(1,a_),(4,.ptr 4 0),(6,au)],[.box [.ptr 1 0,aB dE,a_,aB gH,.tok er 2 [],.arr 3 cS kD,a_,aB ek,au,au,au],.box [aB bp,au],.bG er,.arr cS kD,.box [a_,.dt,.dt]]⟩
def atX:bE:=[((.exit 0),⟨[],[.box [.ptr 1 0,aB dE,a_,aB gH,.tok er 5 [],.arr 6 cS kD,a_,aB ek,au,au,au],.box [aB bp,au],.gone,.gone,.box [a_,.dt,.dt],.bG er,.arr cS kD]⟩),(.ret,⟨[(5,a_)],[.box [.ptr 1 0,aB dE,a_,aB gH,.tok er 5 [],.arr 6 cS kD,a_,aB ek,au,au,au],.box [aB bp,au],.gone,.gone,.box [a_,aB cl,aB fi],.bG er,.arr cS kD]⟩)]
def KR (x:U Ts):Option (U Ts⊕bq atX):=cond (bh x.1.2.2.2.1 (ba x.2.1.2.1)) ((a3 KS (((),x.1.2.1,(),x.1.2.2.2.1,(W 0),()),(x.2.1,x.2.2.1,(),x.2.2.2.2.1,x.2.2.2.2.2.1,()))).bind λcd=>Sum.elim (λbY=>some (.inl (((),x.1.2.1,(),(bj x.1.2.2.2.1 (W 1)),()),(bY.2.1,bY.2.2.1,(),bY.2.2.2.2.2.2.2.1,bY.2.2.2.2.2.1,())))) (λcT=>some (.inr (.inr ((cT.1.1,()),(cT.2.1,cT.2.2.1,(),(),cT.2.2.2.2.2.1,(),cT.2.2.2.2.2.2.2.1,()))))) cd) (some (.inr (.inl ((),(x.2.1,x.2.2.1,(),(),x.2.2.2.2.2.1,(),x.2.2.2.2.1,())))))
def Ee (x:U adw):Option (U at1):=(a3 KR (((),x.1.2.1,(),(W 0),()),(x.2.1,x.2.2.1,(),x.2.2.2.2.1,((S ⟨#[]⟩),(),(),()),()))).bind λcA=>Sum.elim (λep=>(aX ep.2.1.2.1 ((W 0)).1).bind λg8=>(aX ep.2.1.2.1 ((W 0)).1).bind λkA=>(aX kA.2.1 ((W 0)).1).bind λkk=>some ((g8,kk.1,()),(ep.2.1,ep.2.2.1,(),(),(),ep.2.2.2.2.2.2.2.1,()))) (λdF=>some (((dF.2.2.2.2.2.1.1,dF.2.2.2.2.2.1.2.1,dF.2.2.2.2.2.1.2.2.1,()),dF.1.1,()),(dF.2.1,dF.2.2.1,(),(),(),dF.2.2.2.2.2.2.2.1,()))) cA
def adv:a4:=⟨[(0,cC),(1,a_),(2,.agg ig)],m0⟩
def atU:a4:=⟨[],mZ⟩
def KQ (x:U adv):Option (U atU):=cond (!a9 x.1.2.2.1.1 (W 5)) ((ia (((),(W 3),()),(x.2.2.1,()))).bind λaz=>cond (a9 az.1.1 (W 0)) ((nP (((W 2),()),())).bind λaF=>(qx (((),x.1.2.1,()),(x.2.1,az.2.1,(),x.2.2.2.2.1,()))).bind λaT=>(rL (((),(aF.1.1.1,aF.1.1.2.1,aF.1.1.2.2.1,aF.1.1.2.2.2.1,aF.1.1.2.2.2.2.1,aT.1.1,aF.1.1.2.2.2.2.2.2.1,L.nil,L.nil,aF.1.1.2.2.2.2.2.2.2.2.2.1,()),()),(aT.2.1,aT.2.2.1,(),aT.2.2.2.2.2.2.1,()))).bind λaY=>some ((),(aY.2.1,aY.2.2.1,(),(),(),aY.2.2.2.2.2.2.1,()))) (some ((),(x.2.1,az.2.1,(),(),(),x.2.2.2.2.1,())))) ((ia (((),(W 3),()),(x.2.2.1,()))).bind λa5=>cond (a9 a5.1.1 (W 0)) ((nP (((W 9),()),())).bind λbK=>(rL (((),(bK.1.1.1,x.1.2.1,bK.1.1.2.2.1,bK.1.1.2.2.2.1,bK.1.1.2.2.2.2.1,bK.1.1.2.2.2.2.2.1,bK.1.1.2.2.2.2.2.2.1,L.nil,L.nil,bK.1.1.2.2.2.2.2.2.2.2.2.1,()),()),(x.2.1,a5.2.1,(),x.2.2.2.2.1,()))).bind λbL=>some ((),(bL.2.1,bL.2.2.1,(),(),(),bL.2.2.2.2.2.2.1,()))) ((Ee (((),x.1.2.2.1.2.1,()),(x.2.1,a5.2.1,(),x.2.2.2.2.1,()))).bind λcu=>(nP (((W 7),()),())).bind λbU=>(zc ((cu.1.1,cu.1.2.1,()),())).bind λcd=>(qx (((),x.1.2.1,()),(cu.2.1,cu.2.2.1,(),cu.2.2.2.2.2.2.1,()))).bind λbY=>(ia (((),(W 3),()),(bY.2.2.1,()))).bind λcT=>(rK (((),cT.1.1,()),(bY.2.1,cT.2.1,(),bY.2.2.2.2.2.2.1,()))).bind λcA=>(rL (((),(bU.1.1.1,bU.1.1.2.1,bU.1.1.2.2.1,bU.1.1.2.2.2.1,cd.1.1,bU.1.1.2.2.2.2.2.1,(cD [(bY.1.1,()),(cA.1.1,())]),L.nil,L.nil,bU.1.1.2.2.2.2.2.2.2.2.2.1,()),()),(cA.2.1,cA.2.2.1,(),cA.2.2.2.2.2.2.1,()))).bind λep=>some ((),(ep.2.1,ep.2.2.1,(),(),(),ep.2.2.2.2.2.2.1,()))))
def adn:a4:=⟨[(0,cC),(1,.agg dE),(2,a_)],m0⟩
def atL:a4:=⟨[(0,a_)],mZ⟩
def Tq:a4:=⟨[(0,cC),(2,a_),(4,.cH dE 0),(7,.ptr 4 0),(8,au)],[.box [.ptr 1 0,aB dE,a_,aB gH,.tok er 2 [],.arr 3 cS kD,a_,aB ek,au,au,au],.box [aB bp,au],.bG er,.arr cS kD,.box [au,a_,a_,a_,a_,au,aB bp,.tok fV 5 [],.dt,au],.bG fV]⟩
def atK:bE:=[((.exit 0),⟨[],[.box [.ptr 1 0,aB dE,a_,aB gH,.tok er 6 [],.arr 7 cS kD,a_,aB ek,au,au,au],.box [aB bp,au],.gone,.gone,.box [au,a_,a_,a_,a_,au,aB bp,.tok fV 8 [],.dt,au],.gone,.bG er,.arr cS kD,.bG fV]⟩)]
def KP (x:U Tq):Option (U Tq⊕bq atK):=cond (bh x.1.2.2.2.2.1 (ba x.1.2.2.1.2.1)) ((aX x.1.2.2.1.2.1 (x.1.2.2.2.2.1).1).bind λbO=>cond (!cB bO.1 x.1.2.1) ((aX x.1.2.2.1.2.1 (x.1.2.2.2.2.1).1).bind λcP=>(aX x.1.2.2.1.2.1 (x.1.2.2.2.2.1).1).bind λdP=>(zc ((x.1.2.2.1,dP.1,()),())).bind λbK=>(ia (((),(W 4),()),(x.2.2.1,()))).bind λbL=>(rK (((),bL.1.1,()),(x.2.1,bL.2.1,(),x.2.2.2.2.1,()))).bind λcu=>(c8 56 x.2.2.2.2.2.1.2.2.2.2.2.2.2.1 (cD [(cP.1,bK.1.1,(cD [(cu.1.1,())]),())])).bind λow=>some (.inl (((),x.1.2.1,x.1.2.2.1,(),(bj x.1.2.2.2.2.1 (W 1)),()),(cu.2.1,cu.2.2.1,(),cu.2.2.2.2.2.2.1,(x.2.2.2.2.2.1.1,x.2.2.2.2.2.1.2.1,x.2.2.2.2.2.1.2.2.1,x.2.2.2.2.2.1.2.2.2.1,x.2.2.2.2.2.1.2.2.2.2.1,x.2.2.2.2.2.1.2.2.2.2.2.1,x.2.2.2.2.2.1.2.2.2.2.2.2.1,ow,(),x.2.2.2.2.2.1.2.2.2.2.2.2.2.2.2.1,()),(),())))) (some (.inl (((),x.1.2.1,x.1.2.2.1,(),(bj x.1.2.2.2.2.1 (W 1)),()),(x.2.1,x.2.2.1,(),x.2.2.2.2.1,x.2.2.2.2.2.1,(),()))))) (some (.inr ((),(x.2.1,x.2.2.1,(),(),x.2.2.2.2.2.1,(),(),x.2.2.2.2.1,(),()))))
def Ec (x:U adn):Option (U atL):=(nP (((W 8),()),())).bind λaz=>(Eb (((),()),(x.2.1,x.2.2.1,(),x.2.2.2.2.1,()))).bind λaF=>(a3 KP (((),x.1.2.2.1,x.1.2.1,(),(W 0),()),(aF.2.1,aF.2.2.1,(),aF.2.2.2.2.2.2.1,(az.1.1.1,aF.1.1,x.1.2.2.1,x.1.2.1.1,az.1.1.2.2.2.2.1,az.1.1.2.2.2.2.2.1,az.1.1.2.2.2.2.2.2.1,L.nil,(),az.1.1.2.2.2.2.2.2.2.2.2.1,()),(),()))).bind λcd=>(rL (((),(cd.2.2.2.2.2.1.1,cd.2.2.2.2.2.1.2.1,cd.2.2.2.2.2.1.2.2.1,cd.2.2.2.2.2.1.2.2.2.1,cd.2.2.2.2.2.1.2.2.2.2.1,cd.2.2.2.2.2.1.2.2.2.2.2.1,cd.2.2.2.2.2.1.2.2.2.2.2.2.1,cd.2.2.2.2.2.1.2.2.2.2.2.2.2.1,L.nil,cd.2.2.2.2.2.1.2.2.2.2.2.2.2.2.2.1,()),()),(cd.2.1,cd.2.2.1,(),cd.2.2.2.2.2.2.2.2.1,()))).bind λbY=>some ((cd.2.2.2.2.2.1.2.1,()),(bY.2.1,bY.2.2.1,(),(),(),bY.2.2.2.2.2.2.1,()))
def ade:a4:=⟨[(0,cC),(1,au)],m0⟩
def aty:a4:=⟨[(0,au)],mZ⟩
def KL (x:U ade):Option (U aty):=cond (a9 x.1.2.1 (W 1)) ((ia (((),(W 5),()),(x.2.2.1,()))).bind λaz=>cond (a9 az.1.1 (W 0)) ((rK (((),(W 12),()),(x.2.1,az.2.1,(),x.2.2.2.2.1,()))).bind λaF=>(qx (((),(S ⟨#[110]⟩),()),(aF.2.1,aF.2.2.1,(),aF.2.2.2.2.2.2.1,()))).bind λaT=>(tF (((),(W 9),aF.1.1,aT.1.1,()),(aT.2.1,aT.2.2.1,(),aT.2.2.2.2.2.2.1,()))).bind λaY=>some ((aY.1.1,()),(aY.2.1,aY.2.2.1,(),(),(),aY.2.2.2.2.2.2.1,()))) (cond (a9 az.1.1 (W 1)) ((ia (((),(W 9),()),(az.2.1,()))).bind λa5=>(rK (((),(eF a5.1.1 (W 3)),()),(x.2.1,a5.2.1,(),x.2.2.2.2.1,()))).bind λbK=>some ((bK.1.1,()),(bK.2.1,bK.2.2.1,(),(),(),bK.2.2.2.2.2.2.1,()))) ((qx (((),(S ⟨#[110]⟩),()),(x.2.1,az.2.1,(),x.2.2.2.2.1,()))).bind λbL=>(ia (((),(W 5),()),(bL.2.2.1,()))).bind λcu=>(rK (((),cu.1.1,()),(bL.2.1,cu.2.1,(),bL.2.2.2.2.2.2.1,()))).bind λbU=>(tF (((),(W 6),bL.1.1,bU.1.1,()),(bU.2.1,bU.2.2.1,(),bU.2.2.2.2.2.2.1,()))).bind λcd=>some ((cd.1.1,()),(cd.2.1,cd.2.2.1,(),(),(),cd.2.2.2.2.2.2.1,()))))) (cond (a9 x.1.2.1 (W 2)) ((qx (((),(S ⟨#[110]⟩),()),(x.2.1,x.2.2.1,(),x.2.2.2.2.1,()))).bind λbY=>(ia (((),(W 4),()),(bY.2.2.1,()))).bind λcT=>(rK (((),cT.1.1,()),(bY.2.1,cT.2.1,(),bY.2.2.2.2.2.2.1,()))).bind λcA=>(tF (((),(W 12),bY.1.1,cA.1.1,()),(cA.2.1,cA.2.2.1,(),cA.2.2.2.2.2.2.1,()))).bind λep=>some ((ep.1.1,()),(ep.2.1,ep.2.2.1,(),(),(),ep.2.2.2.2.2.2.1,()))) (cond (a9 x.1.2.1 (W 3)) ((ia (((),(W 9),()),(x.2.2.1,()))).bind λdF=>(Ge ((dF.1.1,()),())).bind λeK=>(fF (S ⟨#[116]⟩) eK.1.1).bind λjy=>(uK (((),((W 3),(S ⟨#[]⟩),(W 0),jy,(W (-1)),(W (-1)),()),()),(x.2.1,dF.2.1,(),x.2.2.2.2.1,()))).bind λe_=>(uK (((),((W 3),(S ⟨#[]⟩),(W 0),(S ⟨#[117]⟩),(W (-1)),(W (-1)),()),()),(e_.2.1,e_.2.2.1,(),e_.2.2.2.2.2.2.1,()))).bind λfo=>(tF (((),(W 19),e_.1.1,fo.1.1,()),(fo.2.1,fo.2.2.1,(),fo.2.2.2.2.2.2.1,()))).bind λfY=>some ((fY.1.1,()),(fY.2.1,fY.2.2.1,(),(),(),fY.2.2.2.2.2.2.1,()))) ((uK (((),((W 4),(S ⟨#[]⟩),(W 0),(S ⟨#[]⟩),(W (-1)),(W (-1)),()),()),(x.2.1,x.2.2.1,(),x.2.2.2.2.1,()))).bind λjA=>(qx (((),(S ⟨#[110]⟩),()),(jA.2.1,jA.2.2.1,(),jA.2.2.2.2.2.2.1,()))).bind λeV=>(tF (((),(W 18),jA.1.1,eV.1.1,()),(eV.2.1,eV.2.2.1,(),eV.2.2.2.2.2.2.1,()))).bind λlI=>some ((lI.1.1,()),(lI.2.1,lI.2.2.1,(),(),(),lI.2.2.2.2.2.2.1,())))))
def o6:a4:=⟨[(0,cC),(1,au),(2,au)],m0⟩
def ra:a4:=⟨[],mZ⟩
def adr:a4:=⟨[(0,cC),(1,au),(2,au),(3,au)],m0⟩
def atO:a4:=⟨[(0,au)],mZ⟩
def AZ (rec:U o6->Option (U ra))(x:U adr):Option (U atO):=(aX x.2.1.2.2.2.2.2.2.2.1 (x.2.1.2.2.2.2.2.2.2.2.1).1).bind λaD=>(aX aD.2.1 (x.1.2.1).1).bind λaQ=>(aX aQ.2.2.1 (x.1.2.2.1).1).bind λbO=>(nP (((W 4),()),())).bind λaY=>cond (a9 bO.2.1 (W 0)) ((rL (((),(aY.1.1.1,(S ⟨#[99]⟩),aQ.2.1,bO.1,aY.1.1.2.2.2.2.1,aY.1.1.2.2.2.2.2.1,aY.1.1.2.2.2.2.2.2.1,L.nil,L.nil,aY.1.1.2.2.2.2.2.2.2.2.2.1,()),()),(x.2.1,x.2.2.1,(),x.2.2.2.2.1,()))).bind λbU=>(rec (((),bO.2.2.2.1,(bj x.1.2.2.2.1 (W 1)),()),(bU.2.1,bU.2.2.1,(),bU.2.2.2.2.2.2.1,()))).bind λcd=>some (((W (x.2.2.2.2.1.1.length:Nat)),()),(cd.2.1,cd.2.2.1,(),(),(),cd.2.2.2.2.2.2.1,()))) (cond (a9 bO.2.1 (W 5)) ((Ee (((),bO.2.2.1,()),(x.2.1,x.2.2.1,(),x.2.2.2.2.1,()))).bind λa5=>(Ec (((),a5.1.1,a5.1.2.1,()),(a5.2.1,a5.2.2.1,(),a5.2.2.2.2.2.2.1,()))).bind λbK=>(qx (((),bK.1.1,()),(bK.2.1,bK.2.2.1,(),bK.2.2.2.2.2.2.1,()))).bind λbL=>(rL (((),(aY.1.1.1,(S ⟨#[99]⟩),aQ.2.1,bO.1,aY.1.1.2.2.2.2.1,bL.1.1,aY.1.1.2.2.2.2.2.2.1,L.nil,L.nil,aY.1.1.2.2.2.2.2.2.2.2.2.1,()),()),(bL.2.1,bL.2.2.1,(),bL.2.2.2.2.2.2.1,()))).bind λbY=>(rec (((),bO.2.2.2.1,(bj x.1.2.2.2.1 (W 1)),()),(bY.2.1,bY.2.2.1,(),bY.2.2.2.2.2.2.1,()))).bind λcT=>some (((W (x.2.2.2.2.1.1.length:Nat)),()),(cT.2.1,cT.2.2.1,(),(),(),cT.2.2.2.2.2.2.1,()))) ((KL (((),bO.2.1,()),(x.2.1,x.2.2.1,(),x.2.2.2.2.1,()))).bind λcu=>(rL (((),(aY.1.1.1,(S ⟨#[99]⟩),aQ.2.1,bO.1,aY.1.1.2.2.2.2.1,cu.1.1,aY.1.1.2.2.2.2.2.2.1,L.nil,L.nil,aY.1.1.2.2.2.2.2.2.2.2.2.1,()),()),(cu.2.1,cu.2.2.1,(),cu.2.2.2.2.2.2.1,()))).bind λcA=>(rec (((),bO.2.2.2.1,(bj x.1.2.2.2.1 (W 1)),()),(cA.2.1,cA.2.2.1,(),cA.2.2.2.2.2.2.1,()))).bind λep=>some (((W (x.2.2.2.2.1.1.length:Nat)),()),(ep.2.1,ep.2.2.1,(),(),(),ep.2.2.2.2.2.2.1,()))))
def adi:a4:=⟨[(0,cC),(1,au),(2,au)],m0⟩
def atD:a4:=⟨[],mZ⟩
def adh:a4:=⟨[(0,cC),(6,.cH fZ 0),(9,au),(10,.ptr 4 0)],[.box [.ptr 1 0,aB dE,a_,aB gH,.tok er 2 [],.arr 3 cS kD,a_,aB ek,au,au,au],.box [aB bp,au],.bG er,.arr cS kD,.box [a_,a_,au]]⟩
def adg:bE:=[(.normal,⟨[],[.box [.ptr 1 0,aB dE,a_,aB gH,.tok er 5 [],.arr 6 cS kD,a_,aB ek,au,au,au],.box [aB bp,au],.gone,.gone,.box [a_,a_,au],.bG er,.arr cS kD]⟩)]
def adf (rec:U o6->Option (U ra))(x:U adh):Option (bq adg):=(aX x.1.2.1.2.2.1 (x.1.2.2.1).1).bind λdb=>cond (!a9 db.2.1 (W 0)) ((Eb (((),()),(x.2.1,x.2.2.1,(),x.2.2.2.2.1,()))).bind λbL=>(aX x.1.2.1.2.2.1 (x.1.2.2.1).1).bind λdG=>(KQ (((),bL.1.1,(dG.2.1,dG.2.2.1,()),()),(bL.2.1,bL.2.2.1,(),bL.2.2.2.2.2.2.1,()))).bind λbU=>some ((),(bU.2.1,bU.2.2.1,(),(),(x.2.2.2.2.2.1.1,bL.1.1,x.2.2.2.2.2.1.2.2.1,()),(),bU.2.2.2.2.2.2.1,()))) (some ((),(x.2.1,x.2.2.1,(),(),x.2.2.2.2.2.1,(),x.2.2.2.2.1,())))
def To:a4:=⟨[(0,cC),(2,au),(6,.cH fZ 0),(8,au),(9,au)],m0⟩
def atB:bE:=[((.exit 0),⟨[],mZ⟩)]
def KN (rec:U o6->Option (U ra))(x:U To):Option (U To⊕bq atB):=cond (bh x.1.2.2.2.2.1 (ba x.1.2.2.1.2.2.1)) ((aX x.1.2.2.1.2.2.1 (x.1.2.2.2.2.1).1).bind λdP=>(adf rec (((),x.1.2.2.1,x.1.2.2.2.2.1,(),()),(x.2.1,x.2.2.1,(),x.2.2.2.2.1,(dP.1,(S ⟨#[]⟩),(W (x.2.2.2.2.1.1.length:Nat)),()),()))).bind λcd=>(aX x.1.2.2.1.2.2.1 (x.1.2.2.2.2.1).1).bind λgl=>(rec (((),gl.2.2.2.1,(bj x.1.2.1 (W 1)),()),(cd.2.1,cd.2.2.1,(),cd.2.2.2.2.2.2.2.1,()))).bind λcT=>cond (decide (0<=(x.1.2.2.2.1).1)&&decide ((x.1.2.2.2.1).1<(cT.2.2.2.2.2.2.1.1.length:Nat))) ((eO cT.2.2.2.2.2.2.1 ((x.1.2.2.2.1).1).toNat).bind λkj=>(c8 40 kj.2.2.2.2.2.2.2.2.1 (cD [(cd.2.2.2.2.2.1.1,cd.2.2.2.2.2.1.2.1,cd.2.2.2.2.2.1.2.2.1,())])).bind λtC=>cond (decide (0<=(x.1.2.2.2.1).1)&&decide ((x.1.2.2.2.1).1<(cT.2.2.2.2.2.2.1.1.length:Nat))) ((eO cT.2.2.2.2.2.2.1 ((x.1.2.2.2.1).1).toNat).bind λiw=>cond (decide (((x.1.2.2.2.1).1).toNat=((x.1.2.2.2.1).1).toNat)) (some (.inl (((),x.1.2.1,x.1.2.2.1,x.1.2.2.2.1,(bj x.1.2.2.2.2.1 (W 1)),()),(cT.2.1,cT.2.2.1,(),(dO cT.2.2.2.2.2.2.1 ((x.1.2.2.2.1).1).toNat (iw.1,iw.2.1,iw.2.2.1,iw.2.2.2.1,iw.2.2.2.2.1,iw.2.2.2.2.2.1,iw.2.2.2.2.2.2.1,iw.2.2.2.2.2.2.2.1,tC,iw.2.2.2.2.2.2.2.2.2.1,())),())))) (none)) (none)) (none)) (some (.inr ((),(x.2.1,x.2.2.1,(),(),(),x.2.2.2.2.1,()))))
def KM (rec:U o6->Option (U ra))(x:U adi):Option (U atD):=(aX x.2.1.2.2.2.2.2.2.2.1 (x.2.1.2.2.2.2.2.2.2.2.1).1).bind λaD=>(aX aD.2.1 (x.1.2.1).1).bind λaQ=>(nP (((W 5),()),())).bind λaT=>(sC (((),(aT.1.1.1,(S ⟨#[99]⟩),aQ.2.1,aT.1.1.2.2.2.1,aT.1.1.2.2.2.2.1,aT.1.1.2.2.2.2.2.1,aT.1.1.2.2.2.2.2.2.1,L.nil,L.nil,aT.1.1.2.2.2.2.2.2.2.2.2.1,()),()),(x.2.1,x.2.2.1,(),x.2.2.2.2.1,()))).bind λaY=>(a3 (KN rec) (((),x.1.2.2.1,aQ,aY.1.1,(W 0),()),(aY.2.1,aY.2.2.1,(),aY.2.2.2.2.2.2.1,()))).bind λeK=>(ia (((),(W 3),()),(eK.2.2.1,()))).bind λfg=>cond (a9 fg.1.1 (W 1)) ((nP (((W 2),()),())).bind λe_=>(uK (((),((W 3),(S ⟨#[]⟩),(W 0),(S ⟨#[108,111,115,116]⟩),(W (-1)),(W (-1)),()),()),(eK.2.1,fg.2.1,(),eK.2.2.2.2.2.2.1,()))).bind λfo=>(rL (((),(e_.1.1.1,e_.1.1.2.1,e_.1.1.2.2.1,e_.1.1.2.2.2.1,e_.1.1.2.2.2.2.1,fo.1.1,e_.1.1.2.2.2.2.2.2.1,L.nil,L.nil,e_.1.1.2.2.2.2.2.2.2.2.2.1,()),()),(fo.2.1,fo.2.2.1,(),fo.2.2.2.2.2.2.1,()))).bind λfY=>(nP (((W 0),()),())).bind λjA=>(sC (((),(jA.1.1.1,jA.1.1.2.1,jA.1.1.2.2.1,jA.1.1.2.2.2.1,jA.1.1.2.2.2.2.1,jA.1.1.2.2.2.2.2.1,jA.1.1.2.2.2.2.2.2.1,L.nil,L.nil,jA.1.1.2.2.2.2.2.2.2.2.2.1,()),()),(fY.2.1,fY.2.2.1,(),fY.2.2.2.2.2.2.1,()))).bind λeV=>cond (decide (0<=(aY.1.1).1)&&decide ((aY.1.1).1<(eV.2.2.2.2.2.2.1.1.length:Nat))) ((eO eV.2.2.2.2.2.2.1 ((aY.1.1).1).toNat).bind λlv=>(c8 40 lv.2.2.2.2.2.2.2.2.1 (cD [((S ⟨#[]⟩),(S ⟨#[]⟩),(W (eK.2.2.2.2.2.2.1.1.length:Nat)),())])).bind λuF=>cond (decide (0<=(aY.1.1).1)&&decide ((aY.1.1).1<(eV.2.2.2.2.2.2.1.1.length:Nat))) ((eO eV.2.2.2.2.2.2.1 ((aY.1.1).1).toNat).bind λl9=>cond (decide (((aY.1.1).1).toNat=((aY.1.1).1).toNat)) (some ((),(eV.2.1,eV.2.2.1,(),(),(),(dO eV.2.2.2.2.2.2.1 ((aY.1.1).1).toNat (l9.1,l9.2.1,l9.2.2.1,l9.2.2.2.1,l9.2.2.2.2.1,l9.2.2.2.2.2.1,l9.2.2.2.2.2.2.1,l9.2.2.2.2.2.2.2.1,uF,l9.2.2.2.2.2.2.2.2.2.1,())),()))) (none)) (none)) (none)) (some ((),(eK.2.1,fg.2.1,(),(),(),eK.2.2.2.2.2.2.1,())))
def ac2:a4:=⟨[(0,cC),(1,au),(2,au)],m0⟩
def ac1:bE:=[(.normal,⟨[(44,bR)],mZ⟩)]
def Tm (rec:U o6->Option (U ra))(x:U ac2):Option (bq ac1):=cond (a9 x.1.2.1 (W 0)) (cond (bh (W 0) x.1.2.2.1) (some (((bh (W 0) x.2.1.2.2.2.2.2.2.2.2.2.2.1),()),(x.2.1,x.2.2.1,(),(),(),x.2.2.2.2.1,()))) (some ((false,()),(x.2.1,x.2.2.1,(),(),(),x.2.2.2.2.1,())))) (some ((false,()),(x.2.1,x.2.2.1,(),(),(),x.2.2.2.2.1,())))
def ac4:a4:=⟨[(0,cC),(2,au)],m0⟩
def ac3:bE:=[(.normal,⟨[(60,bR)],mZ⟩)]
def Tn (rec:U o6->Option (U ra))(x:U ac4):Option (bq ac3):=cond (bh x.2.1.2.2.2.2.2.2.2.2.2.2.1 (W 1)) (some ((true,()),(x.2.1,x.2.2.1,(),(),(),x.2.2.2.2.1,()))) (some (((bh (W 4) x.1.2.1),()),(x.2.1,x.2.2.1,(),(),(),x.2.2.2.2.1,())))
def ac7:a4:=⟨[(0,cC),(6,.cH fZ 0)],m0⟩
def ac6:bE:=[(.normal,⟨[(80,bR)],mZ⟩)]
def ac5 (rec:U o6->Option (U ra))(x:U ac7):Option (bq ac6):=cond (bh (W 1) (ba x.1.2.1.2.2.1)) (some (((bh (W 8) x.2.1.2.2.2.2.2.2.2.2.2.2.1),()),(x.2.1,x.2.2.1,(),(),(),x.2.2.2.2.1,()))) (some ((false,()),(x.2.1,x.2.2.1,(),(),(),x.2.2.2.2.1,())))
def AX (rec:U o6->Option (U ra))(x:U o6):Option (U ra):=(aX x.2.1.2.2.2.2.2.2.2.1 (x.2.1.2.2.2.2.2.2.2.2.1).1).bind λaD=>(aX aD.2.1 (x.1.2.1).1).bind λaQ=>cond (a9 aQ.1 (W 0)) ((AY (((),true,()),(x.2.1,x.2.2.1,(),x.2.2.2.2.1,()))).bind λaT=>some ((),(aT.2.1,aT.2.2.1,(),(),(),aT.2.2.2.2.2.2.1,()))) ((Tm rec (((),x.1.2.1,x.1.2.2.1,()),(x.2.1,x.2.2.1,(),x.2.2.2.2.1,()))).bind λaY=>cond (aY.1.1) ((KJ (((),()),(aY.2.1,aY.2.2.1,(),aY.2.2.2.2.2.2.1,()))).bind λa5=>some ((),(a5.2.1,a5.2.2.1,(),(),(),a5.2.2.2.2.2.2.1,()))) ((Tn rec (((),x.1.2.2.1,()),(aY.2.1,aY.2.2.1,(),aY.2.2.2.2.2.2.1,()))).bind λbK=>cond (bK.1.1) ((AY (((),false,()),(bK.2.1,bK.2.2.1,(),bK.2.2.2.2.2.2.1,()))).bind λbL=>some ((),(bL.2.1,bL.2.2.1,(),(),(),bL.2.2.2.2.2.2.1,()))) (cond (a9 aQ.1 (W 2)) (((KM rec) (((),x.1.2.1,x.1.2.2.1,()),(bK.2.1,bK.2.2.1,(),bK.2.2.2.2.2.2.1,()))).bind λcu=>some ((),(cu.2.1,cu.2.2.1,(),(),(),cu.2.2.2.2.2.2.1,()))) ((ac5 rec (((),aQ,()),(bK.2.1,bK.2.2.1,(),bK.2.2.2.2.2.2.1,()))).bind λbU=>cond (bU.1.1) ((nP (((W 3),()),())).bind λcd=>(ia (((),(W 3),()),(bU.2.2.1,()))).bind λbY=>(rK (((),bY.1.1,()),(bU.2.1,bY.2.1,(),bU.2.2.2.2.2.2.1,()))).bind λcT=>(qx (((),(S ⟨#[110]⟩),()),(cT.2.1,cT.2.2.1,(),cT.2.2.2.2.2.2.1,()))).bind λcA=>(tF (((),(W 12),cT.1.1,cA.1.1,()),(cA.2.1,cA.2.2.1,(),cA.2.2.2.2.2.2.1,()))).bind λep=>(sC (((),(cd.1.1.1,cd.1.1.2.1,cd.1.1.2.2.1,cd.1.1.2.2.2.1,cd.1.1.2.2.2.2.1,ep.1.1,cd.1.1.2.2.2.2.2.2.1,L.nil,L.nil,cd.1.1.2.2.2.2.2.2.2.2.2.1,()),()),(ep.2.1,ep.2.2.1,(),ep.2.2.2.2.2.2.1,()))).bind λdF=>(ia (((),(ba aQ.2.2.1),()),(dF.2.2.1,()))).bind λeK=>(ia (((),(ba aQ.2.2.1),()),(eK.2.1,()))).bind λfg=>((AZ rec) (((),x.1.2.1,eK.1.1,x.1.2.2.1,()),(dF.2.1,fg.2.1,(),dF.2.2.2.2.2.2.1,()))).bind λe_=>cond (decide (0<=(dF.1.1).1)&&decide ((dF.1.1).1<(e_.2.2.2.2.2.2.1.1.length:Nat))) ((eO e_.2.2.2.2.2.2.1 ((dF.1.1).1).toNat).bind λoa=>(c8 40 oa.2.2.2.2.2.2.2.2.1 (cD [((S ⟨#[]⟩),(S ⟨#[]⟩),e_.1.1,())])).bind λy6=>cond (decide (0<=(dF.1.1).1)&&decide ((dF.1.1).1<(e_.2.2.2.2.2.2.1.1.length:Nat))) ((eO e_.2.2.2.2.2.2.1 ((dF.1.1).1).toNat).bind λnm=>cond (decide (((dF.1.1).1).toNat=((dF.1.1).1).toNat)) (((AZ rec) (((),x.1.2.1,fg.1.1,x.1.2.2.1,()),(e_.2.1,e_.2.2.1,(),(dO e_.2.2.2.2.2.2.1 ((dF.1.1).1).toNat (nm.1,nm.2.1,nm.2.2.1,nm.2.2.2.1,nm.2.2.2.2.1,nm.2.2.2.2.2.1,nm.2.2.2.2.2.2.1,nm.2.2.2.2.2.2.2.1,y6,nm.2.2.2.2.2.2.2.2.2.1,())),()))).bind λeV=>cond (decide (0<=(dF.1.1).1)&&decide ((dF.1.1).1<(eV.2.2.2.2.2.2.1.1.length:Nat))) ((eO eV.2.2.2.2.2.2.1 ((dF.1.1).1).toNat).bind λlv=>(c8 40 lv.2.2.2.2.2.2.2.2.1 (cD [((S ⟨#[]⟩),(S ⟨#[]⟩),eV.1.1,())])).bind λuF=>cond (decide (0<=(dF.1.1).1)&&decide ((dF.1.1).1<(eV.2.2.2.2.2.2.1.1.length:Nat))) ((eO eV.2.2.2.2.2.2.1 ((dF.1.1).1).toNat).bind λl9=>cond (decide (((dF.1.1).1).toNat=((dF.1.1).1).toNat)) (some ((),(eV.2.1,eV.2.2.1,(),(),(),(dO eV.2.2.2.2.2.2.1 ((dF.1.1).1).toNat (l9.1,l9.2.1,l9.2.2.1,l9.2.2.2.1,l9.2.2.2.2.1,l9.2.2.2.2.2.1,l9.2.2.2.2.2.2.1,l9.2.2.2.2.2.2.2.1,uF,l9.2.2.2.2.2.2.2.2.2.1,())),()))) (none)) (none)) (none)) (none)) (none)) (none)) ((ia (((),(ba aQ.2.2.1),()),(bU.2.2.1,()))).bind λmS=>((AZ rec) (((),x.1.2.1,mS.1.1,x.1.2.2.1,()),(bU.2.1,mS.2.1,(),bU.2.2.2.2.2.2.1,()))).bind λCf=>some ((),(Cf.2.1,Cf.2.2.1,(),(),(),Cf.2.2.2.2.2.2.1,())))))))
def xg:Nat->U o6->Option (U ra)
 |0=>λ_=>none
 |n+1=>AX (xg n)
def Tl:U o6->Option (U ra):=xg pg
def acS:a4:=⟨[(0,cC),(1,aB dE),(2,.agg dE),(3,aB ek),(4,au),(5,a_)],mK⟩
def ati:a4:=⟨[(0,.agg fq)],mK⟩
def KI (x:U acS):Option (U ati):=(aX x.1.2.2.1.2.1 (x.1.2.2.2.2.1).1).bind λaD=>(zc ((x.1.2.2.1,aD.1,()),())).bind λaF=>(ia (((),(W 7),()),(x.2.1,()))).bind λaT=>(Tl (((),(W 0),(W 0),()),(((),x.1.2.1,aF.1.1,(cD [((S ⟨#[99]⟩),(W 5),x.1.2.2.2.2.2.1,()),((S ⟨#[110]⟩),(W 1),(S ⟨#[]⟩),())]),L.nil,(),aF.1.1,x.1.2.2.2.1,x.1.2.2.2.2.1,(W 0),(bj (W 9) aT.1.1),()),aT.2.1,(),L.nil,()))).bind λaY=>some (((aY.2.1.2.2.1,aY.2.1.2.2.2.1,aY.2.1.2.2.2.2.1,aY.2.2.2.2.2.2.1,()),()),(aY.2.2.1,()))
def acQ:a4:=⟨[(0,cC),(1,aB dE)],mK⟩
def atf:a4:=⟨[(0,.agg fq)],mK⟩
def acP:a4:=⟨[(6,au),(7,au),(11,cC)],[.box [au,a_,a_,a_,a_,au,aB bp,.dt,.dt,au]]⟩
def acO:bE:=[(.normal,⟨[],[.box [au,a_,a_,a_,a_,au,aB bp,.dt,.dt,au]]⟩)]
def acN (x:U acP):Option (bq acO):=cond (a9 x.1.2.1 (eF x.1.1 (W 1))) ((nP (((W 6),()),())).bind λcu=>some ((),((cu.1.1.1,cu.1.1.2.1,cu.1.1.2.2.1,cu.1.1.2.2.2.1,cu.1.1.2.2.2.2.1,cu.1.1.2.2.2.2.2.1,cu.1.1.2.2.2.2.2.2.1,(),(),cu.1.1.2.2.2.2.2.2.2.2.2.1,()),()))) (some ((),(x.2.1,())))
def Tk:a4:=⟨[(0,cC),(1,aB dE),(5,.ptr 1 0),(6,au),(7,au)],[.box [aB bp,au],.box [cC,aB dE,a_,aB gH,.tok er 2 [],.arr 3 cS kD,a_,aB ek,au,au,au],.bG er,.arr cS kD]⟩
def atd:bE:=[((.exit 0),⟨[],[.box [aB bp,au],.box [cC,aB dE,a_,aB gH,.tok er 4 [],.arr 5 cS kD,a_,aB ek,au,au,au],.gone,.gone,.bG er,.arr cS kD]⟩)]
def KH (x:U Tk):Option (U Tk⊕bq atd):=cond (bh x.1.2.2.2.2.1 x.1.2.2.2.1) ((ia (((),(ba x.1.2.1),()),(x.2.1,()))).bind λaF=>(aX x.1.2.1 (aF.1.1).1).bind λbO=>(ia (((),(ba bO.2.1),()),(aF.2.1,()))).bind λaY=>(aX bO.2.1 (aY.1.1).1).bind λdP=>(Ec (((),bO,dP.1,()),(x.2.2.1,aY.2.1,(),x.2.2.2.2.1,()))).bind λbK=>(nP (((W 7),()),())).bind λbL=>(acN ((x.1.2.2.2.1,x.1.2.2.2.2.1,(),()),((bL.1.1.1,bL.1.1.2.1,bL.1.1.2.2.1,bL.1.1.2.2.2.1,bL.1.1.2.2.2.2.1,bL.1.1.2.2.2.2.2.1,bL.1.1.2.2.2.2.2.2.1,(),(),bL.1.1.2.2.2.2.2.2.2.2.2.1,()),()))).bind λbU=>(zc ((bO,dP.1,()),())).bind λcd=>(qx (((),bK.1.1,()),(bK.2.1,bK.2.2.1,(),bK.2.2.2.2.2.2.1,()))).bind λbY=>(ia (((),(W 4),()),(bY.2.2.1,()))).bind λcT=>(rK (((),cT.1.1,()),(bY.2.1,cT.2.1,(),bY.2.2.2.2.2.2.1,()))).bind λcA=>cond (a9 x.1.2.2.2.2.1 (eF x.1.2.2.2.1 (W 1))) ((sC (((),(bU.2.1.1,bU.2.1.2.1,bU.2.1.2.2.1,bU.2.1.2.2.2.1,cd.1.1,bU.2.1.2.2.2.2.2.1,(cD [(bY.1.1,()),(cA.1.1,())]),L.nil,L.nil,bU.2.1.2.2.2.2.2.2.2.2.2.1,()),()),(cA.2.1,cA.2.2.1,(),cA.2.2.2.2.2.2.1,()))).bind λep=>some (.inl (((),x.1.2.1,(),x.1.2.2.2.1,(bj x.1.2.2.2.2.1 (W 1)),()),(ep.2.2.1,ep.2.1,(),ep.2.2.2.2.2.2.1,())))) ((rL (((),(bU.2.1.1,bU.2.1.2.1,bU.2.1.2.2.1,bU.2.1.2.2.2.1,cd.1.1,bU.2.1.2.2.2.2.2.1,(cD [(bY.1.1,()),(cA.1.1,())]),L.nil,L.nil,bU.2.1.2.2.2.2.2.2.2.2.2.1,()),()),(cA.2.1,cA.2.2.1,(),cA.2.2.2.2.2.2.1,()))).bind λdF=>some (.inl (((),x.1.2.1,(),x.1.2.2.2.1,(bj x.1.2.2.2.2.1 (W 1)),()),(dF.2.2.1,dF.2.1,(),dF.2.2.2.2.2.2.1,()))))) (some (.inr ((),((x.2.1.1,x.2.1.2.1,()),x.2.2.1,(),(),(),x.2.2.2.2.1,()))))
def KG (x:U acQ):Option (U atf):=(ia (((),(W 3),()),(x.2.1,()))).bind λaz=>(a3 KH (((),x.1.2.1,(),(bj (W 1) az.1.1),(W 0),()),(az.2.1,((),x.1.2.1,(S ⟨#[109,97,105,110]⟩),L.nil,L.nil,(),(S ⟨#[]⟩),L.nil,(W 0),(W 0),(W 0),()),(),L.nil,()))).bind λeK=>some (((eK.2.2.1.2.2.1,eK.2.2.1.2.2.2.1,eK.2.2.1.2.2.2.2.1,eK.2.2.2.2.2.2.1,()),()),(eK.2.1,()))
def acr:=aH [(0,aB bp)]
def asI:=aH [(0,.agg hY)]
def Ky:a4:=⟨[(3,cC),(4,.ptr 1 0),(5,au),(6,aB ek),(9,au)],[.box [aB bp,au],.box [aB dE,.dt,.tok fq 2 []],.bG fq]⟩
def asF:bE:=[((.exit 2),⟨[],[.box [aB bp,au],.box [aB dE,.dt,.tok fq 3 []],.gone,.bG fq]⟩)]
def Kx (x:U Ky):Option (U Ky⊕bq asF):=cond (bh x.1.2.2.2.2.1 (ba x.1.2.2.2.1)) ((aX x.2.2.1.1 (x.1.2.2.1).1).bind λdP=>(aX x.1.2.2.2.1 (x.1.2.2.2.2.1).1).bind λdb=>(KI (((),x.2.2.1.1,dP,x.1.2.2.2.1,x.1.2.2.2.2.1,db.1,()),(x.2.1,()))).bind λbL=>(c8 88 x.2.2.1.2.2.1 (cD [bL.1.1])).bind λj0=>some (.inl (((),(),x.1.2.2.1,x.1.2.2.2.1,(bj x.1.2.2.2.2.1 (W 1)),()),(bL.2.1,(x.2.2.1.1,(),j0,()),(),())))) (some (.inr ((),(x.2.1,x.2.2.1,(),(),()))))
def Th:a4:=⟨[(3,cC),(4,.ptr 1 0),(5,au)],[.box [aB bp,au],.box [aB dE,.dt,.tok fq 2 []],.bG fq]⟩
def asD:bE:=[((.exit 0),⟨[],[.box [aB bp,au],.box [aB dE,.dt,.tok fq 3 []],.gone,.bG fq]⟩)]
def Kw (x:U Th):Option (U Th⊕bq asD):=cond (bh x.1.2.2.1 (ba x.2.2.1.1)) ((aX x.2.2.1.1 (x.1.2.2.1).1).bind λbO=>(BS ((bO,()),())).bind λaY=>(a3 Kx (((),(),x.1.2.2.1,aY.1.1,(W 0),()),(x.2.1,x.2.2.1,(),()))).bind λbU=>some (.inl (((),(),(bj x.1.2.2.1 (W 1)),()),(bU.2.1,bU.2.2.1,(),())))) (some (.inr ((),(x.2.1,x.2.2.1,(),(),()))))
def Kv (x:U acr):Option (U asI):=(Ks ((x.1.1,()),())).bind λaz=>(KA (((),()),((az.2.1.1,az.2.1.2.1,()),()))).bind λaF=>(a3 Kw (((),(),(W 0),()),(aF.2.1,(aF.1.1,(),L.nil,()),(),()))).bind λcd=>(KG (((),cd.2.2.1.1,()),(cd.2.1,()))).bind λbY=>(c8 88 cd.2.2.1.2.2.1 (cD [bY.1.1])).bind λvL=>some (((cd.2.2.1.1,L.nil,vL,()),()),())
def asS:a4:=aH [(0,aB bp),(1,au),(2,au)]
def asU:a4:=aH [(0,.agg hY)]
def acx (x:U asS):Option (U asU):=none
def agd:=aH [(0,aB bp),(1,au),(2,au)]
def axQ:=aH [(0,.agg hY)]
def L4 (x:U agd):Option (U axQ):=cond (bh x.1.2.1 (W 1)) ((Kv ((x.1.1,()),())).bind λaz=>some ((az.1.1,()),())) ((acx ((x.1.1,x.1.2.1,x.1.2.2.1,()),())).bind λaF=>some ((aF.1.1,()),()))
def aga:=aH [(0,.agg hY)]
def axM:=aH [(0,.agg gX),(1,bR)]
def L2 (x:U aga):Option (U axM):=(NQ ((x.1.1,()),())).bind λaz=>some ((az.1.1,(a9 az.1.2.1 (W 0)),()),())
def agb:=aH [(0,au),(1,au)]
def axO:=aH [(0,au)]
def zy (x:U agb):Option (U axO):=cond (bh x.1.2.1 (W 1)) (some (((W 0),()),())) ((lk (eN .u64 x.1.1) (eN .u64 x.1.2.1)).bind λv1=>some (((eN .i64 v1),()),()))
def age:=aH [(0,.agg ey),(1,au),(2,au)]
def agf:=aH [(0,.agg ey)]
def L5 (x:U age):Option (U agf):=(c8 8 (L.nil:L (D [.int .i64])) x.1.1.2.2.2.2.2.2.1).bind λdk=>(c8 32 (L.nil:L (D [.str,.int .i64,.int .i64])) x.1.1.2.2.2.2.2.2.2.1).bind λdg=>(c8 56 (L.nil:L (D [.str,.str,.aR [.int .i64]])) x.1.1.2.2.2.2.2.2.2.2.1).bind λbT=>cond (a9 x.1.2.1 (W 3)) ((lk x.1.2.2.1 (W 32)).bind λv4=>some (((v4,x.1.1.2.1,x.1.1.2.2.1,x.1.1.2.2.2.1,x.1.1.2.2.2.2.1,x.1.1.2.2.2.2.2.1,dk,dg,bT,()),()),())) (cond (a9 x.1.2.1 (W 4)) ((lk x.1.2.2.1 (W 12)).bind λcV=>some (((x.1.1.1,(eF cV (W 1)),x.1.1.2.2.1,x.1.1.2.2.2.1,x.1.1.2.2.2.2.1,x.1.1.2.2.2.2.2.1,dk,dg,bT,()),()),())) (cond (a9 x.1.2.1 (W 5)) ((lk x.1.2.2.1 (W 8)).bind λv6=>some (((x.1.1.1,x.1.1.2.1,(eF v6 (W 3)),x.1.1.2.2.2.1,x.1.1.2.2.2.2.1,x.1.1.2.2.2.2.2.1,dk,dg,bT,()),()),())) (cond (a9 x.1.2.1 (W 6)) ((lk x.1.2.2.1 (W 3)).bind λdU=>some (((x.1.1.1,x.1.1.2.1,x.1.1.2.2.1,dU,x.1.1.2.2.2.2.1,x.1.1.2.2.2.2.2.1,dk,dg,bT,()),()),())) (cond (a9 x.1.2.1 (W 7)) ((lk x.1.2.2.1 (W 7)).bind λdz=>(aX (cD [((S ⟨#[97]⟩),()),((S ⟨#[98]⟩),()),((S ⟨#[99]⟩),()),((S ⟨#[]⟩),()),((S ⟨#[112]⟩),()),((S ⟨#[112,97]⟩),()),((S ⟨#[109,97,105,110]⟩),())]) (dz).1).bind λeS=>some (((x.1.1.1,x.1.1.2.1,x.1.1.2.2.1,x.1.1.2.2.2.1,eS.1,x.1.1.2.2.2.2.2.1,dk,dg,bT,()),()),())) (cond (a9 x.1.2.1 (W 8)) ((lk x.1.2.2.1 (W 6)).bind λv10=>(aX (cD [((S ⟨#[119]⟩),()),((S ⟨#[120]⟩),()),((S ⟨#[121]⟩),()),((S ⟨#[]⟩),()),((S ⟨#[97]⟩),()),((S ⟨#[98]⟩),())]) (v10).1).bind λgl=>some (((x.1.1.1,x.1.1.2.1,x.1.1.2.2.1,x.1.1.2.2.2.1,x.1.1.2.2.2.2.1,gl.1,dk,dg,bT,()),()),())) (cond (a9 x.1.2.1 (W 9)) ((lk x.1.2.2.1 (W 4)).bind λeB=>(c8 8 dk (cD [((eF eB (W 1)),())])).bind λmz=>some (((x.1.1.1,x.1.1.2.1,x.1.1.2.2.1,x.1.1.2.2.2.1,x.1.1.2.2.2.2.1,x.1.1.2.2.2.2.2.1,mz,dg,bT,()),()),())) (cond (a9 x.1.2.1 (W 10)) (cond (bh (W 0) (W (dk.1.length:Nat))) ((lk x.1.2.2.1 (W 6)).bind λic=>cond (decide (0<=((W 0)).1)&&decide (((W 0)).1<(dk.1.length:Nat))) ((eO dk (((W 0)).1).toNat).bind λiw=>some (((x.1.1.1,x.1.1.2.1,x.1.1.2.2.1,x.1.1.2.2.2.1,x.1.1.2.2.2.2.1,x.1.1.2.2.2.2.2.1,(dO dk (((W 0)).1).toNat ((eF ic (W 1)),())),dg,bT,()),()),())) (none)) (some (((x.1.1.1,x.1.1.2.1,x.1.1.2.2.1,x.1.1.2.2.2.1,x.1.1.2.2.2.2.1,x.1.1.2.2.2.2.2.1,dk,dg,bT,()),()),()))) (cond (a9 x.1.2.1 (W 11)) (cond (bh (W 0) (W (dg.1.length:Nat))) ((lk x.1.2.2.1 (W (dg.1.length:Nat))).bind λkX=>(lk x.1.2.2.1 (W 7)).bind λjy=>cond (decide (0<=(kX).1)&&decide ((kX).1<(dg.1.length:Nat))) ((eO dg ((kX).1).toNat).bind λkk=>some (((x.1.1.1,x.1.1.2.1,x.1.1.2.2.1,x.1.1.2.2.2.1,x.1.1.2.2.2.2.1,x.1.1.2.2.2.2.2.1,dk,(dO dg ((kX).1).toNat (kk.1,(eF jy (W 1)),kk.2.2.1,())),bT,()),()),())) (none)) (some (((x.1.1.1,x.1.1.2.1,x.1.1.2.2.1,x.1.1.2.2.2.1,x.1.1.2.2.2.2.1,x.1.1.2.2.2.2.2.1,dk,dg,bT,()),()),()))) (cond (a9 x.1.2.1 (W 12)) (cond (bh (W 0) (W (dg.1.length:Nat))) (cond (decide (0<=((W 1)).1)&&decide (((W 1)).1<=(dg.1.length:Int))&&decide ((dg.1.length:Int)<=(dg.1.length:Nat))) (some (((x.1.1.1,x.1.1.2.1,x.1.1.2.2.1,x.1.1.2.2.2.1,x.1.1.2.2.2.2.1,x.1.1.2.2.2.2.2.1,dk,(nf dg (((W 1)).1).toNat ((dg.1.length:Int)-((W 1)).1).toNat),bT,()),()),())) (none)) (some (((x.1.1.1,x.1.1.2.1,x.1.1.2.2.1,x.1.1.2.2.2.1,x.1.1.2.2.2.2.1,x.1.1.2.2.2.2.2.1,dk,dg,bT,()),()),()))) (cond (bh (W 0) (W (bT.1.length:Nat))) ((lk x.1.2.2.1 (W (bT.1.length:Nat))).bind λv20=>(lk x.1.2.2.1 (W 3)).bind λxD=>(aX (cD [((S ⟨#[97]⟩),()),((S ⟨#[98]⟩),()),((S ⟨#[99]⟩),())]) (xD).1).bind λqP=>cond (decide (0<=(v20).1)&&decide ((v20).1<(bT.1.length:Nat))) ((eO bT ((v20).1).toNat).bind λlv=>some (((x.1.1.1,x.1.1.2.1,x.1.1.2.2.1,x.1.1.2.2.2.1,x.1.1.2.2.2.2.1,x.1.1.2.2.2.2.2.1,dk,dg,(dO bT ((v20).1).toNat (qP.1,lv.2.1,lv.2.2.1,())),()),()),())) (none)) (some (((x.1.1.1,x.1.1.2.1,x.1.1.2.2.1,x.1.1.2.2.2.1,x.1.1.2.2.2.2.1,x.1.1.2.2.2.2.2.1,dk,dg,bT,()),()),()))))))))))))
def agh:=aH [(0,.agg hU),(1,au),(2,au)]
def axV:=aH [(0,.agg hU)]
def T':a4:=⟨[(1,au),(2,au),(3,.cH hU 0),(7,au),(8,.tok ig 0 []),(9,.arr 1 ey [false,false,false,false,false,false,false,false,false]),(10,.ptr 2 0)],[.bG ig,.arr ey [false,false,false,false,false,false,false,false,false],.box [a_,.dt,au,.dt]]⟩
def T_:bE:=[(.normal,⟨[(8,.tok ig 3 []),(9,aB ey)],[.gone,.gone,.box [a_,.dt,au,.dt],.bG ig]⟩)]
def T9 (x:U T'):Option (bq T_):=(lk (eN .u64 x.1.2.1) (bc.w .u64 16)).bind λcV=>cond (a9 cV (bc.w .u64 0)) ((lk x.1.2.2.2.1 (W 10)).bind λv6=>some ((x.1.2.2.2.2.1,x.2.2.1,()),((),(),(x.2.2.2.1.1,(),(eF v6 (W 1)),(),()),(),()))) (cond (a9 cV (bc.w .u64 1)) ((lk x.1.2.2.2.1 (W 5)).bind λdU=>(aX (cD [((S ⟨#[109,97,105,110]⟩),()),((S ⟨#[112,97]⟩),()),((S ⟨#[112,98]⟩),()),((S ⟨#[]⟩),()),((S ⟨#[120]⟩),())]) (dU).1).bind λdG=>some ((x.1.2.2.2.2.1,x.2.2.1,()),((),(),(dG.1,(),x.2.2.2.1.2.2.1,(),()),(),()))) (cond (a9 cV (bc.w .u64 2)) ((lk x.1.2.2.2.1 (W 7)).bind λe8=>(c8 24 x.1.2.2.2.2.1 (cD [(e8,(S ⟨#[]⟩),())])).bind λnu=>some ((nu,x.2.2.1,()),((),(),x.2.2.2.1,(),()))) (cond (a9 cV (bc.w .u64 14)) (cond (bh (W 0) (W (x.2.2.1.1.length:Nat))) (cond (decide (0<=(0:Int))&&decide ((0:Int)<=((eF (W (x.2.2.1.1.length:Nat)) (W 1))).1)&&decide (((eF (W (x.2.2.1.1.length:Nat)) (W 1))).1<=(x.2.2.1.1.length:Nat))) (some ((x.1.2.2.2.2.1,(nf x.2.2.1 ((0:Int)).toNat (((eF (W (x.2.2.1.1.length:Nat)) (W 1))).1-(0:Int)).toNat),()),((),(),x.2.2.2.1,(),()))) (none)) (some ((x.1.2.2.2.2.1,x.2.2.1,()),((),(),x.2.2.2.1,(),())))) (cond (a9 cV (bc.w .u64 15)) (cond (bh (W 0) (W (x.2.2.1.1.length:Nat))) ((vK x.1.1 (W 8)).bind λeB=>(zy ((eB,(W (x.2.2.1.1.length:Nat)),()),())).bind λcA=>cond (decide (0<=((eF (W (x.2.2.1.1.length:Nat)) (W 1))).1)&&decide (((eF (W (x.2.2.1.1.length:Nat)) (W 1))).1<(x.2.2.1.1.length:Nat))) ((eO x.2.2.1 (((eF (W (x.2.2.1.1.length:Nat)) (W 1))).1).toNat).bind λgM=>cond (decide (0<=(cA.1.1).1)&&decide ((cA.1.1).1<(x.2.2.1.1.length:Nat))) ((eO x.2.2.1 ((cA.1.1).1).toNat).bind λiw=>cond (decide (0<=(cA.1.1).1)&&decide ((cA.1.1).1<(x.2.2.1.1.length:Nat))) ((eO x.2.2.1 ((cA.1.1).1).toNat).bind λg8=>cond (decide (0<=((eF (W (x.2.2.1.1.length:Nat)) (W 1))).1)&&decide (((eF (W (x.2.2.1.1.length:Nat)) (W 1))).1<(x.2.2.1.1.length:Nat))) ((eO (dO x.2.2.1 ((cA.1.1).1).toNat gM) (((eF (W (x.2.2.1.1.length:Nat)) (W 1))).1).toNat).bind λkA=>some ((x.1.2.2.2.2.1,(dO (dO x.2.2.1 ((cA.1.1).1).toNat gM) (((eF (W (x.2.2.1.1.length:Nat)) (W 1))).1).toNat iw),()),((),(),x.2.2.2.1,(),()))) (none)) (none)) (none)) (none)) (some ((x.1.2.2.2.2.1,x.2.2.1,()),((),(),x.2.2.2.1,(),())))) (cond (bh (W 0) (W (x.2.2.1.1.length:Nat))) ((vK x.1.1 (W 8)).bind λxC=>(zy ((xC,(W (x.2.2.1.1.length:Nat)),()),())).bind λfo=>(aX x.1.2.2.1.2.2.2.1 (fo.1.1).1).bind λoc=>(lk (eN .u64 x.1.2.1) (bc.w .u64 16)).bind λxD=>(L5 ((oc,(eN .i64 xD),x.1.2.2.2.1,()),())).bind λeV=>cond (decide (0<=(fo.1.1).1)&&decide ((fo.1.1).1<(x.2.2.1.1.length:Nat))) ((eO x.2.2.1 ((fo.1.1).1).toNat).bind λlv=>some ((x.1.2.2.2.2.1,(dO x.2.2.1 ((fo.1.1).1).toNat eV.1.1),()),((),(),x.2.2.2.1,(),()))) (none)) (some ((x.1.2.2.2.2.1,x.2.2.1,()),((),(),x.2.2.2.1,(),()))))))))
def L6 (x:U agh):Option (U axV):=(vK x.1.2.2.1 (W 16)).bind λv1=>(zy ((v1,(W 60),()),())).bind λaF=>(c8 24 (L.nil:L (D [.int .i64,.str])) x.1.1.2.1).bind λbT=>(c8 136 (L.nil:L (D [.int .i64,.int .i64,.int .i64,.int .i64,.str,.str,.aR [.int .i64],.aR [.str,.int .i64,.int .i64],.aR [.str,.str,.aR [.int .i64]]])) x.1.1.2.2.2.1).bind λjk=>(T9 ((x.1.2.1,x.1.2.2.1,x.1.1,aF.1.1,bT,(),(),()),((),jk,(x.1.1.1,(),x.1.1.2.2.1,(),()),()))).bind λlJ=>some (((lJ.2.2.2.1.1,lJ.1.1,lJ.2.2.2.1.2.2.1,lJ.1.2.1,()),()),())
def af':=aH [(0,.agg gX),(1,au),(2,au)]
def axJ:=aH [(0,.agg gX)]
def L1 (x:U af'):Option (U axJ):=cond (a9 (ba x.1.1.2.2.1) (W 0)) (some ((x.1.1,()),())) ((zy ((x.1.2.1,(ba x.1.1.2.2.1),()),())).bind λaz=>(c8 72 (L.nil:L (D [.str,.aR [.int .i64,.str],.int .i64,.aR [.int .i64,.int .i64,.int .i64,.int .i64,.str,.str,.aR [.int .i64],.aR [.str,.int .i64,.int .i64],.aR [.str,.str,.aR [.int .i64]]]])) x.1.1.2.2.1).bind λdg=>(aX x.1.1.2.2.1 (az.1.1).1).bind λbO=>(L6 ((bO,x.1.2.1,x.1.2.2.1,()),())).bind λaY=>cond (decide (0<=(az.1.1).1)&&decide ((az.1.1).1<(dg.1.length:Nat))) ((eO dg ((az.1.1).1).toNat).bind λdP=>some (((x.1.1.1,x.1.1.2.1,(dO dg ((az.1.1).1).toNat aY.1.1),()),()),())) (none))
theorem asy:bw 52 Ks:=bD fj [] []
theorem q_:bw 108 ia:=bD fj [] []
theorem acU:bw 57 zg:=bD fj [] []
theorem acK:bw 58 zf:=bD fj [] []
theorem acm:bw 237 uH:=bD ⟨.nil,[aI q_]⟩ [] []
theorem acH:bw 238 ze:=bD ⟨.nil,[aI q_,aI acm]⟩ [] []
noncomputable def acE:dn:=⟨.nil,[aI acK,aI q_,aI acH]⟩
theorem as5:bZ 194 0 KF:=b9 acE [] []
theorem as8:bw 194 KE:=bD acE [b8 as5] []
noncomputable def acC:dn:=⟨.nil,[aI acU,aI q_,aI as8]⟩
theorem as1:bZ 158 0 KD:=b9 acC [] []
theorem acB:bw 158 AV:=bD acC [b8 as1] []
end cx
open Go.RowKit
def jb (w:World)(g:Nat)(cs:Array Value)(t:TypeId):Prop:=w.heap[g]?=some (.cells cs t (0,0))
section
variable{w w':World}{g:Nat}{cs:Array Value}{t:TypeId}
theorem jb.lt (h:jb w g cs t):g<w.heap.size:=by
 rcases ky g w.heap.size with aa|aa
 ·exact aa
 ·unfold jb at h;rw[Array.getElem?_eq_none aa] at h;cases h
theorem jb.cell (h:jb w g cs t)(i:Nat):w.cell? ⟨g,i,none⟩=cs[i]?:=cell_of_row w g i cs t (0,0) h
theorem jb.frozen (h:jb w g cs t)(i:Nat):w.frozen? ⟨g,i,none⟩=false:=frozen_of_row w g i cs t h
theorem jb.new (w:World)(cs:Array Value)(t:TypeId):jb (w.alloc (.cells cs t)) w.heap.size cs t:=heap_alloc_new w _
theorem jb.alloc (h:jb w g cs t)(o:Obj):jb (w.alloc o) g cs t:=(Below.heap_alloc w o g h.lt).trans h
theorem jb.H_ (h:jb w g cs t)(i:Nat)(u:Value):jb (w.setCell ⟨g,i,none⟩ u) g (cs.setIfInBounds i u) t:=heap_setCell_same w g i cs t u h
theorem wI {a b c:Value}(h:jb w g #[a,b,c] t):w.cell? ⟨g,0,none⟩=some a/\w.cell? ⟨g,1,none⟩=some b/\w.cell? ⟨g,2,none⟩=some c:=⟨h.cell 0,h.cell 1,h.cell 2⟩
theorem Aa {a b c:Value}(h:jb w g #[a,b,c] t):w.frozen? ⟨g,0,none⟩=false/\w.frozen? ⟨g,1,none⟩=false/\w.frozen? ⟨g,2,none⟩=false:=⟨h.frozen 0,h.frozen 1,h.frozen 2⟩
end
namespace cx
open bC (T cL)
set_option linter.unusedVariables false
abbrev oT:ec:=.box [.leaf (.aR [.int .i64]),.leaf (.int .i64)]
def nH (d:kY oT):bV:=pS ⟨[],[oT]⟩ ((),(d,()))
def kO (m:M)(b:Nat):Prop:=m.dy b=none/\m.fz b=[]
section
variable{aS:Program}{w w':World}{m m':M}{σ bb:bV}
theorem bM.CG {F:Nat->List Value}(h:bM m σ w)(ai:w.heap.size<=w'.heap.size)(ah:∀b,b<w.heap.size->¬kO m b->w'.heap[b]?=w.heap[b]?/\F b=m.fz b)(dI:∀(b j:Nat) v,kO m b->(F b)[j]?=some v->∃cur ty b_,w'.heap[b]?=some (.cells cur ty b_)/\cur[j]?=some v):
 Ext m {m with fz:=F}/\bM {m with fz:=F} σ w':=by
 have e:Ext m {m with fz:=F}:=by
  refine⟨λ_ _ h=>h,λ_ _ h=>h,λ_ _ _ _ h=>h,λb j v aL=>?_⟩;obtain⟨cur,ty,b_,aa,_⟩:=h.stay b j v aL;show(F b)[j]?=some v;rw[(ah b (q8 aa) λe=>by rw[e.2] at aL;cases aL).2];exact aL
 refine⟨e,⟨h.fresh,λi b aj=>?_,h.inj,λb R k aU=>⟨Nat.lt_of_lt_of_le (h.own b R k aU).1 ai,(h.own b R k aU).2⟩,λb j v aL=>?_⟩⟩
 ·refine(h.live i b aj).frame e rfl rfl (λc k r _ an=>?_) (λ_ _ _ _ an=>an);obtain⟨aa,af⟩:=ah c (h.own c r k an).1 (λe=>by rw[e.1] at an;cases an);exact⟨aa,rfl,af⟩
 ·by_cases bX:kO m b
  ·exact dI b j v bX aL
  ·rcases ky b w.heap.size with bn|mu
   ·have aQ:=(ah b bn bX).2;obtain⟨cur,ty,b_,aa,af⟩:=h.stay b j v (by rw[<-aQ];exact aL);exact⟨cur,ty,b_,(ah b bn bX).1.trans aa,af⟩
   ·exact absurd ⟨h.af1 mu,h.wQ mu⟩ bX
theorem bM.rQ (h:bM m σ w){b:Nat}(ah:w.heap.size<=b):kO m b:=⟨h.af1 ah,h.wQ ah⟩
structure K (dS:M)(d0:kY oT)(w0:World)(m:M)(d:kY oT)(w:World):Prop where
  a6:bM dS (nH d0) w0
  aO:bM m (nH d) w
  st:Step dS (nH d0) w0 m (nH d) w
variable{dS:M}{d0 d d':kY oT}{w0:World}
theorem K.CG {F:Nat->List Value}(h:K dS d0 w0 m d w)(tw:w'.os=w.os/\w'.tape=w.tape/\w'.output=w.output)(ai:w.heap.size<=w'.heap.size)(ah:∀b,b<w.heap.size->¬kO m b->w'.heap[b]?=w.heap[b]?/\F b=m.fz b)(dI:∀(b j:Nat) v,kO m b->(F b)[j]?=some v->∃cur ty b_,w'.heap[b]?=some (.cells cur ty b_)/\cur[j]?=some v)(JW:∀b,b<w0.heap.size->w'.heap[b]?=w.heap[b]?/\F b=m.fz b):Ext m {m with fz:=F}/\K dS d0 w0 {m with fz:=F} d w':=by
 obtain⟨e,af⟩:=h.aO.CG ai ah dI;refine⟨e,h.a6,af,⟨h.st.iL.trans ⟨e,λ_ _=>rfl⟩ (Nat.le_refl _),?_,h.st.next,h.st.CK⟩⟩;have k:=h.st.gE;refine⟨tw.1.trans k.os,tw.2.1.trans k.tape,tw.2.2.trans k.output,jd k.size ai,k.fz.trans e.fz,λb ah bX=>?_,k.own⟩;obtain⟨aa,af,ax,a8⟩:=k.kept b ah bX;exact⟨(JW b ah).1.trans aa,(JW b ah).2.trans af,ax,a8⟩
theorem K.world (h:K dS d0 w0 m d w)(tw:w'.os=w.os/\w'.tape=w.tape/\w'.output=w.output)(ai:w.heap.size<=w'.heap.size)(ah:∀b,b<w.heap.size->¬kO m b->w'.heap[b]?=w.heap[b]?)(JW:∀b,b<w0.heap.size->w'.heap[b]?=w.heap[b]?):K dS d0 w0 m d w':=
 (h.CG (F:=m.fz) tw ai (λb aa af=>⟨ah b aa af,rfl⟩) (λb j v bF aL=>by rw[bF.2] at aL;cases aL) λb aa=>⟨JW b aa,rfl⟩).2
theorem K.below (h:K dS d0 w0 m d w)(ah:Below w.heap.size w w'):K dS d0 w0 m d w':=h.world ⟨ah.os,ah.tape,ah.output⟩ ah.size (λb aa _=>ah.block b aa) λb aa=>ah.block b (Nat.lt_of_lt_of_le aa h.st.gE.size)
theorem auj {σ:bV}{b:Nat}(h:kO m b):¬Cv m σ b:=λ⟨R,k,i,x,aa,_⟩=>by rw[h.1] at aa;cases aa
theorem K.call (h:K dS d0 w0 m d w)(s:Step m (nH d) w m' (nH d') w')(af:bM m' (nH d') w'):
 K dS d0 w0 m' d' w'/\Ext m m'/\w.heap.size<=w'.heap.size/\∀b,b<w.heap.size->kO m b->w'.heap[b]?=w.heap[b]?/\kO m' b:=by
 refine⟨⟨h.a6,af,h.st.trans h.a6 s⟩,s.iL.ext,s.gE.size,λb ah bF=>?_⟩;obtain⟨aa,af,ax,a8⟩:=s.gE.kept b ah (auj bF);exact⟨aa,ax.trans bF.1,af.trans bF.2⟩
theorem K.pl (h:K dS d0 w0 m d w){r:Nat}(aO:dS.pl 0=some r):m.pl 0=some r:=(h.st.iL.pl 0 (by show 0<1;omega)).trans aO
theorem tZ.run {f:Nat}{e:oG}(h:tZ aS f e){args:List V}{z:List V×bV}{x:U e.dD×List Nat}{y:U e.out}(ai:vQ e.dD args σ=some z)(aW:ye e.dD z.1 z.2=some x)(b7:e.g x.1=some y)(cf:z5 z.2 x.2 e.out.blocks=true)(vs:Array Value)(bf:bM m σ w)(aL:cL (en m) args vs.toList):
 Calls aS f vs w λex w'=>∃m' ej,ex=.returned ej/\Step m σ w m' (vU z.2 x.2 e.out y) w'/\bM m' (vU z.2 x.2 e.out y) w'/\en m' (W6 (EZ z.2 x.2 e.out y)) ej:=by
 obtain⟨ga,s1,bA,cW⟩:=K0 ai bf aL;obtain⟨aD,aQ,bO,cP,dP,db,fk,dG⟩:=Jh (x:=x.1) (ids:=x.2) aW bA cW;obtain⟨aG,aN⟩:=h x.1 y b7 _ w vs db dG fk;refine aN.mono ?_;rintro ex w' ⟨dc,fh,us,rfl,cr,cI,dw⟩;obtain⟨fw,fQ,eQ,gq⟩:=Kl bA aQ bO cP (by rw[aD];rfl) dP cI cr (by rw[aD];exact dw) cf;exact⟨fw,_,rfl,s1.trans bf eQ,fQ,alv (Ry _ _ _) gq⟩
theorem dQ.alX {l:L (D [.str])}{v:Value}(bg:dQ m.fz (.aR [.str]) l v){i:Nat}{e:D [.str]}(aj:l.1[i]?=some e):
 ∃b o c,v=.slice (some ⟨b,o,none⟩) l.1.length c/\l.1.length<=c/\(m.fz b)[o+i]?=some (.string e.1.1):=by
 simp only[dQ] at bg;obtain⟨A,c,rfl,aa,af⟩:=bg;obtain⟨b,o,rfl,ax⟩:=af (by rintro aQ;rw[aQ] at aj;cases aj);have:=ax i e aj;simp only[iz,dQ] at this;obtain⟨⟨v,a8,rfl⟩,_⟩:=this;exact⟨b,o,c,rfl,aa,by simpa using a8⟩
theorem bM.cellOf (h:bM m σ w){b j:Nat}{v:Value}(aL:(m.fz b)[j]?=some v):w.cell? ⟨b,j,none⟩=some v:=by
 obtain⟨cur,ty,b_,aa,af⟩:=h.stay b j v aL;unfold World.cell?;simp[aa,af]
abbrev gW:=D fi
abbrev p4:=D dR
def z3 (a:p4):List Value:=[.string a.1.1,.int .i64 a.2.1.1,.string a.2.2.1.1,.int .i64 a.2.2.2.1.1]
def mJ (p:gW):List Value:=p.2.2.1.1.flatMap z3
def qn (b:Nat)(p:gW):Value:=if p.2.2.1.1=[] then .slice none 0 0 else .slice (some ⟨b,0,none⟩) p.2.2.1.1.length p.2.2.1.1.length
def l1 (e:Nat×gW):List Value:=[.string e.2.1.1,.string e.2.2.1.1,qn e.1 e.2]
theorem anf (a:p4):(z3 a).length=4:=rfl
theorem agm (e:Nat×gW):(l1 e).length=3:=rfl
def mL (A:Option Addr):Option Nat:=A.map (·.block)
structure nC (kK kf j2:TypeId)(m:M)(w:World)(dx q:Nat)(fO ro:Value)(A:Option Addr)(c:Nat)(ck:List (Nat×gW)):Prop where
  nT:jb w q #[fO,ro,.slice A ck.length c] kK
  ay:q<dx
  qp:dx<=w.heap.size
  L9:kO m q
  row:w.ownsRow dx kf 3 (.slice A ck.length c) ck.length (ck.flatMap l1)
  an:ck.length<=c
  rQ:∀g,mL A=some g->kO m g
  el:∀e∈ck,dx<=e.1/\e.1<w.heap.size/\kO m e.1/\some e.1≠mL A/\(e.2.2.2.1.1≠[]->jb w e.1 (mJ e.2).toArray j2)
  vP:(ck.map (·.1)).Nodup
variable{kK kf j2:TypeId}{dx q:Nat}{fO ro:Value}{A eW:Option Addr}{c c':Nat}{ck:List (Nat×gW)}
theorem vV (A:Option Addr)(n c:Nat):(Value.slice A n c).ownBlock=mL A:=by cases A<;>rfl
theorem nC.wg (h:nC kK kf j2 m w dx q fO ro A c ck){g:Nat}(cm:mL A=some g):dx<=g/\g<w.heap.size:=h.row.lt g (by rw[vV];exact cm)
theorem nC.Kc (h:nC kK kf j2 m w dx q fO ro A c ck)(ai:w.heap.size<=w'.heap.size)(aU:∀b,b<w.heap.size->kO m b->w'.heap[b]?=w.heap[b]?/\kO m' b):nC kK kf j2 m' w' dx q fO ro A c ck:=by
 have ay:=aU q h.nT.lt h.L9;refine⟨ay.1.trans h.nT,h.ay,jd h.qp ai,ay.2,⟨h.row.1,?_⟩,h.an,λg cm=>(aU g (h.wg cm).2 (h.rQ g cm)).2,λe he=>?_,h.vP⟩
 ·rcases h.row.2 with a6|⟨g,cap,cur,aa,af,ax,a8⟩
  ·exact .inl a6
  ·have dH:=aa;injection dH with dH _ _
   have Sb:mL A=some g:=by rw[dH];rfl
   exact .inr ⟨g,cap,cur,aa,af,(aU g (h.wg Sb).2 (h.rQ g Sb)).1.trans ax,a8⟩
 ·obtain⟨aa,af,ax,a8,cy⟩:=h.el e he;have:=aU e.1 af ax;exact⟨aa,Nat.lt_of_lt_of_le af ai,this.2,a8,λaA=>this.1.trans (cy aA)⟩
theorem nC.add (h:nC kK kf j2 m w dx q fO ro A c ck)(bf:K dS d0 w0 m d w)(qp:w0.heap.size<=q){eU gw:World}(ah:Below w.heap.size w eU){b:Nat}{p:gW}(aC:w.heap.size<=b)(aV:b<eU.heap.size)(cf:p.2.2.1.1≠[]->jb eU b (mJ p).toArray j2)(cm:eU.grownBy gw (Value.slice A ck.length c).ownBlock)(bX:gw.ownsRow dx kf 3 (.slice eW (ck.length+1) c') (ck.length+1) (ck.flatMap l1++l1 (b,p)))(ju:(Value.slice eW (ck.length+1) c').ownBlock=(Value.slice A ck.length c).ownBlock\/(Value.slice eW (ck.length+1) c').ownBlock=some eU.heap.size)(kS:ck.length+1<=c'):
 nC kK kf j2 m (gw.setCell ⟨q,2,none⟩ (.slice eW (ck.length+1) c')) dx q fO ro eW c' (ck++[(b,p)])/\K dS d0 w0 m d (gw.setCell ⟨q,2,none⟩ (.slice eW (ck.length+1) c')):=by
 rw[vV] at cm ju;rw[vV] at ju;have SH:=ah.size;have aO9:=cm.size;have SF:=h.nT.lt;have yQ:=h.ay;have apc:some q≠mL A:=λe=>by have:=(h.wg e.symm).1;omega
 have aPg:(gw.setCell ⟨q,2,none⟩ (.slice eW (ck.length+1) c')).heap.size=gw.heap.size:=by simp[World.setCell]
 have mq:∀k,k<w.heap.size->k≠q->some k≠mL A->(gw.setCell ⟨q,2,none⟩ (.slice eW (ck.length+1) c')).heap[k]?=w.heap[k]?:=λk aa af ax=>by
  rw[Below.heap_setCell _ _ _ _ af,cm.block k ab ax,ah.block k aa]
 have aua:∀g,mL eW=some g->kO m g:=λg e=>by
  rcases ju with aa|aa
  ·exact h.rQ g (aa.symm.trans e)
  ·rw[e] at aa;injection aa with aa
   exact bf.aO.rQ ab
 refine⟨⟨?_,h.ay,by have:=h.qp;omega,h.L9,?_,by simpa using kS,aua,λe he=>?_,?_⟩,bf.world ?_ ab (λk aa af=>mq k aa (λe=>af (e▸h.L9)) λe=>af (h.rQ k e.symm)) λk aa=>?_⟩
 ·have fa:jb gw q #[fO,ro,.slice A ck.length c] kK:=(cm.block q ab apc).trans ((ah.block q SF).trans h.nT);have:=fa.H_ 2 (.slice eW (ck.length+1) c');simpa using this
 ·rw[bl,List.length_singleton,List.flatMap_append];simp only[List.flatMap_cons,List.flatMap_nil,dr];exact ownsRow_setCell_below bX yQ _
 ·rcases List.mem_append.1 he with he|he
  ·obtain⟨aa,af,ax,a8,cy⟩:=h.el e he;have eJ:e.1≠q:=ab;refine⟨aa,ab,ax,λaQ=>?_,λaA=>(mq e.1 af eJ a8).trans (cy aA)⟩;rcases ju with g|g
   ·exact a8 (aQ.trans g)
   ·rw[<-aQ] at g;injection g with g;omega
  ·obtain rfl:=List.mem_singleton.1 he;have eJ:some b≠mL A:=λe=>by have:=(h.wg e.symm).2;omega
   refine⟨by have:=h.qp;show dx<=b;omega,by show b<_;omega,bf.aO.rQ aC,λaQ=>?_,λaA=>?_⟩
   ·rcases ju with g|g
    ·exact eJ (aQ.trans g)
    ·rw[<-aQ] at g;injection g with g
     have g:b=eU.heap.size:=g;omega
   ·have aa:=cf aA;show(gw.setCell ⟨q,2,none⟩ (.slice eW (ck.length+1) c')).heap[b]?=_;rw[Below.heap_setCell _ _ _ _ (show b≠q by omega),cm.block b aV eJ];exact aa
 ·rw[List.map_append,List.nodup_append];refine⟨h.vP,by simp,λx aW y b7=>?_⟩;obtain⟨e,he,rfl⟩:=List.mem_map.1 aW;have:=(h.el e he).2.1;simp at b7;omega
 ·exact⟨cm.os.trans ah.os,cm.tape.trans ah.tape,cm.output.trans ah.output⟩
 ·have ai:=bf.st.gE.size;refine mq k ab ab λe=>?_;have:=(h.wg e.symm).1;omega
theorem nC.Qe {dk dg:List (Nat×gW)}{b j:Nat}{p p':gW}{v:Value}(h:nC kK kf j2 m w dx q fO ro A c (dk++(b,p)::dg))(bf:K dS d0 w0 m d w)(qp:w0.heap.size<=q)(aA:p.2.2.1.1≠[])(aL:mJ p'=(mJ p).set j v)(aD:p'.1=p.1)(aQ:p'.2.1=p.2.1)(bO:p'.2.2.1.1.length=p.2.2.1.1.length):
 nC kK kf j2 m (w.setCell ⟨b,j,none⟩ v) dx q fO ro A c (dk++(b,p')::dg)/\K dS d0 w0 m d (w.setCell ⟨b,j,none⟩ v):=by
 obtain⟨bA,bI,c9,ei,jJ⟩:=h.el (b,p) (by simp);have jJ:=jJ aA;have yQ:=h.ay;have tu:p'.2.2.1.1≠[]:=λe=>aA (List.length_eq_zero_iff.1 (by rw[<-bO,e];rfl));have mq:∀k,k≠b->(w.setCell ⟨b,j,none⟩ v).heap[k]?=w.heap[k]?:=λk aU=>Below.heap_setCell _ _ _ _ aU;have ai:(w.setCell ⟨b,j,none⟩ v).heap.size=w.heap.size:=by simp[World.setCell]
 have cH:l1 (b,p')=l1 (b,p):=by
  unfold l1 qn;rw[if_neg aA,if_neg tu,aD,aQ,bO]
 have RH:(dk++(b,p')::dg).length=(dk++(b,p)::dg).length:=by simp
 have an':(dk++(b,p')::dg).flatMap l1=(dk++(b,p)::dg).flatMap l1:=by simp[List.flatMap_append,cH]
 have emap:(dk++(b,p')::dg).map (·.1)=(dk++(b,p)::dg).map (·.1):=by simp
 refine⟨⟨?_,h.ay,by rw[ai];exact h.qp,h.L9,?_,by rw[RH];exact h.an,h.rQ,λe he=>?_,by rw[emap];exact h.vP⟩,bf.world ⟨rfl,rfl,rfl⟩ ab (λk _ af=>mq k λe=>af (e▸c9)) λk aa=>mq k ab⟩
 ·rw[RH];exact(mq q ab).trans h.nT
 ·rw[RH,an'];refine⟨h.row.1,?_⟩;rcases h.row.2 with a6|⟨g,cap,cur,aa,af,ax,a8⟩
  ·exact .inl a6
  ·have dH:=aa;injection dH with dH _ _
   exact .inr ⟨g,cap,cur,aa,af,(mq g λe=>ei (by rw[dH,<-e];rfl)).trans ax,a8⟩
 ·have vT:∀e∈dk++dg,dx<=e.1/\e.1<(w.setCell ⟨b,j,none⟩ v).heap.size/\kO m e.1/\some e.1≠mL A/\(e.2.2.2.1.1≠[]->jb (w.setCell ⟨b,j,none⟩ v) e.1 (mJ e.2).toArray j2):=λe he=>by
   obtain⟨aG,aN,bo,cE,eM⟩:=h.el e (by rcases List.mem_append.1 he with aa|aa<;>simp[aa]);refine⟨aG,by rw[ai];exact aN,bo,cE,λaA=>(mq e.1 λcP=>?_).trans (eM aA)⟩;have AF:=h.vP;rw[List.map_append,List.map_cons,List.nodup_append] at AF;obtain⟨_,qy,KV⟩:=AF;rcases List.mem_append.1 he with aa|aa
   ·exact KV e.1 (List.mem_map_of_mem aa) b (by simp) cP
   ·have a8:e.1∈dg.map (·.1):=List.mem_map_of_mem aa;rw[cP] at a8;exact(List.nodup_cons.1 qy).1 a8
  rcases List.mem_append.1 he with aa|aa
  ·exact vT e (List.mem_append_left _ aa)
  ·rcases List.mem_cons.1 aa with rfl|aa
   ·refine⟨bA,by rw[ai];exact bI,c9,ei,λ_=>?_⟩;have:=jJ.H_ j v;rw[show(mJ p').toArray=(mJ p).toArray.setIfInBounds j v by rw[aL];simp];exact this
   ·exact vT e (List.mem_append_right _ aa)
theorem Jp {α:Type}(f:α->List Value)(k:Nat)(bB:∀x,(f x).length=k):∀(l:List α)(i:Nat)(x:α)(m:Nat),l[i]?=some x->m<k->(l.flatMap f)[i*k+m]?=(f x)[m]?
 |[],i,x,m,aj,_=>by simp at aj
 |y::l,0,x,m,aj,hm=>by
  simp at aj;subst aj;rw[List.flatMap_cons,Nat.zero_mul,fW,ml (by rw[bB];exact hm)]
 |y::l,i+1,x,m,aj,hm=>by
  have e:(i+1)*k+m=k+(i*k+m):=by rw[Nat.succ_mul];omega
  rw[List.flatMap_cons,e,mm (by rw[bB];omega),bB,show k+(i*k+m)-k=i*k+m by omega,Jp f k bB l i x m (by simpa using aj) hm]
theorem ZG:∀{l:List (Nat×gW)}{e:Nat×gW},(l.map (·.1)).Nodup->e∈l->l.find? (λx=>x.1==e.1)=some e
 |x::l,e,aA,he=>by
  rw[List.map_cons,List.nodup_cons] at aA;rcases List.mem_cons.1 he with rfl|aa
  ·simp
  ·rw[List.find?_cons_of_neg,ZG aA.2 aa];have:x.1≠e.1:=λaQ=>aA.1 (aQ▸List.mem_map_of_mem aa);simpa using this
theorem nC.done (h:nC kK kf j2 m w dx q fO ro A c ck)(bf:K dS d0 w0 m d w)(qp:w0.heap.size<=q)(l:L gW)(aZ:l.1=ck.map (·.2)):
 ∃m',Ext m m'/\K dS d0 w0 m' d w/\dQ m'.fz (.aR fi) l (.slice A ck.length c)/\∀b,b<dx->kO m b->kO m' b:=by
 classical
 have yQ:=h.ay
 let F:Nat->List Value:=λb=>if mL A=some b then ck.flatMap l1 else match ck.find? (λe=>e.1==b) with
  |some e=>(if e.2.2.2.1.1=[] then[] else mJ e.2)
  |none=>m.fz b
 have XR:∀g,mL A=some g->F g=ck.flatMap l1:=λg cm=>if_pos cm;have oG:∀e∈ck,F e.1=if e.2.2.2.1.1=[] then[] else mJ e.2:=λe he=>by
  show(if mL A=some e.1 then _ else _)=_;rw[if_neg λaQ=>(h.el e he).2.2.2.1 aQ.symm,ZG h.vP he]
 have Iw:∀b,(mL A≠some b)->(∀e∈ck,e.1≠b)->F b=m.fz b:=λb aa af=>by
  show(if mL A=some b then _ else _)=_;rw[if_neg aa,List.find?_eq_none.2 λe he=>by simpa using af e he]
 have Si:∀b,mL A=some b\/(∃e∈ck,e.1=b)\/(mL A≠some b/\∀e∈ck,e.1≠b):=λb=>by
  by_cases aa:mL A=some b
  ·exact .inl aa
  ·by_cases af:∃e∈ck,e.1=b
   ·exact .inr (.inl af)
   ·exact .inr (.inr ⟨aa,λe he aQ=>af ⟨e,he,aQ⟩⟩)
 obtain⟨e,k⟩:=bf.CG (F:=F) (w':=w) ⟨rfl,rfl,rfl⟩ (Nat.le_refl _) (λb _ bF=>⟨rfl,by
  rcases Si b with aa|⟨e,he,aa⟩|aa
  ·exact absurd (h.rQ b aa) bF
  ·exact absurd (aa▸(h.el e he).2.2.1) bF
  ·exact Iw b aa.1 aa.2⟩) (λb j v bF aL=>by
  rcases Si b with aa|⟨e,he,aa⟩|aa
  ·rw[XR b aa] at aL;rcases h.row.2 with⟨a6,yn⟩|⟨g,cap,cur,aG,aN,bo,cE,eM,fH,gz⟩
   ·have:ck=[]:=List.length_eq_zero_iff.1 yn;rw[this] at aL;simp at aL
   ·injection aG with dH _ _
    rw[dH] at aa;injection aa with aa
    have aa:g=b:=aa;subst aa;refine⟨cur,_,_,bo,?_⟩;rw[<-gz,List.getElem?_take] at aL;split at aL
    ·simpa using aL
    ·cases aL
  ·subst aa;rw[oG e he] at aL;split at aL
   ·simp at aL
   ·rename_i aA;exact⟨_,_,_,(h.el e he).2.2.2.2 aA,by simpa using aL⟩
  ·rw[Iw b aa.1 aa.2,bF.2] at aL;cases aL) (λb ah=>⟨rfl,by
  rcases Si b with aa|⟨e,he,aa⟩|aa
  ·have:=(h.wg aa).1;omega
  ·have:=(h.el e he).1;omega
  ·exact Iw b aa.1 aa.2⟩)
 refine⟨_,e,k,?_,λb ah bF=>⟨bF.1,?_⟩⟩
 ·simp only[dQ];refine⟨A,c,by rw[aZ,List.length_map],by rw[aZ,List.length_map];exact h.an,λeJ=>?_⟩;rcases h.row.2 with⟨a6,yn⟩|⟨g,cap,cur,aG,aN,bo,cE,eM,fH,gz⟩
  ·refine absurd ?_ eJ;rw[aZ,List.length_eq_zero_iff.1 yn];rfl
  ·injection aG with dH _ _
   refine⟨g,0,dH,λi x aj=>?_⟩;rw[aZ,List.getElem?_map] at aj;obtain⟨e,he,rfl⟩:=Option.map_eq_some_iff.1 aj;have hm:e∈ck:=List.mem_of_getElem? he;have at_:∀m,m<3->(F g)[0+i*3+m]?=(l1 e)[m]?:=λm hm=>by
    rw[XR g (by rw[dH];rfl),fW];exact Jp l1 3 agm ck i e m he hm
   have a6:=at_ 0 ab;have aa:=at_ 1 ab;have af:=at_ 2 ab;simp only[iz,gS,bN,and_true];refine⟨⟨_,a6,rfl⟩,⟨_,aa,rfl⟩,⟨_,af,?_⟩⟩;show dQ F (.aR dR) e.2.2.2.1 (qn e.1 e.2);unfold qn;simp only[dQ];split
   ·rename_i aA;exact⟨none,0,by rw[aA];rfl,by rw[aA];exact Nat.le_refl _,λeJ=>absurd aA eJ⟩
   ·rename_i aA;refine⟨_,_,rfl,Nat.le_refl _,λ_=>⟨e.1,0,rfl,λi a cf=>?_⟩⟩;have at_:∀m,m<4->(F e.1)[0+i*4+m]?=(z3 a)[m]?:=λm aqp=>by
     rw[oG e hm,if_neg aA,fW];exact Jp z3 4 anf _ i a m cf aqp
    have a0:=at_ 0 ab;have dM:=at_ 1 ab;have di:=at_ 2 ab;have gL:=at_ 3 ab;simp only[iz,gS,bN,and_true];exact⟨⟨_,a0,rfl⟩,⟨_,dM,rfl⟩,⟨_,di,rfl⟩,⟨_,gL,rfl⟩⟩
 ·rw[<-bF.2];refine Iw b (λe=>?_) λe he aQ=>?_
  ·have:=(h.wg e).1;omega
  ·have:=(h.el e he).1;omega
def rm (l:List (D [.str])):List Value:=l.map λe=>.string e.1.1
theorem aMn {l:L (D [.str])}{n:Nat}(bg:dQ m.fz (.aR [.str]) l (.slice A n c))(h:bM m σ w):n=l.1.length/\n<=c/\ku w A (rm l.1):=by
 simp only[dQ] at bg;obtain⟨eW,c',aa,af,ax⟩:=bg;injection aa with aD aQ bO
 subst aD bO;refine⟨aQ,ab,λaA=>?_⟩;obtain⟨b,o,rfl,a8⟩:=ax (λe=>aA (by unfold rm;rw[e];rfl));have at_:∀i u,(rm l.1)[i]?=some u->(m.fz b)[o+i]?=some u:=λi u hu=>by
  unfold rm at hu;rw[List.getElem?_map] at hu;obtain⟨e,he,rfl⟩:=Option.map_eq_some_iff.1 hu;have:=a8 i e he;simp only[iz,dQ] at this;obtain⟨⟨v,a8,rfl⟩,_⟩:=this;simpa using a8
 refine⟨b,o,rfl,?_,λi u hu=>h.cellOf (at_ i u hu)⟩;cases aW:rm l.1 with
 |nil=>exact absurd aW aA
 |cons a t=>
  obtain⟨cur,ty,b_,aG,_⟩:=h.stay b _ _ (at_ 0 a (by rw[aW];rfl));exact q8 aG
theorem axv (l:List (D [.str])):∀u∈rm l,u.oneCell'=true:=by
 intro u hu;obtain⟨s,_,rfl⟩:=List.mem_map.1 hu;rfl
theorem K.row {e:TypeId}{n base:Nat}{l:L (D [.str])}(bf:K dS d0 w0 m d w)(bX:w.ownsRow base e 1 (.slice A n c) n (rm l.1))(bF:∀g,mL A=some g->kO m g/\w0.heap.size<=g):
 ∃m',Ext m m'/\K dS d0 w0 m' d w/\dQ m'.fz (.aR [.str]) l (.slice A n c)/\∀b,some b≠mL A->kO m b->kO m' b:=by
 have aA:n=l.1.length:=by have:=bX.1;unfold rm at this;simp at this;omega
 rcases bX.2 with⟨a6,yn⟩|⟨g,cap,cur,aG,aN,bo,cE,eM,fH,gz⟩
 ·refine⟨m,Ext.refl _,bf,?_,λb _ h=>h⟩;rw[a6];have:l=L.nil:=Subtype.ext (List.length_eq_zero_iff.1 (by rw[<-aA];exact yn));rw[this];exact dQ.nil _ _
 ·injection aG with dH _ apP
  subst dH apP;obtain⟨eT,fK⟩:=bF g rfl;obtain⟨ex,k⟩:=bf.CG (F:=λb=>if b=g then rm l.1 else m.fz b) (w':=w) ⟨rfl,rfl,rfl⟩ (Nat.le_refl _) (λb _ ah=>⟨rfl,if_neg (show¬b=g fromλaQ=>ah (by rw[aQ];exact eT))⟩) (λb j v ah aL=>by
   split at aL
   ·rename_i Ar;subst Ar;refine⟨cur,_,_,bo,?_⟩;rw[<-gz,List.getElem?_take] at aL;split at aL
    ·simpa using aL
    ·cases aL
   ·rw[ah.2] at aL;cases aL) (λb ah=>⟨rfl,if_neg ab⟩)
  refine⟨_,ex,k,?_,λb ah bF=>⟨bF.1,(if_neg λe=>ah (by rw[e];rfl)).trans bF.2⟩⟩;simp only[dQ];refine⟨_,_,by rw[aA],ab,λ_=>⟨g,0,rfl,λi x aj=>?_⟩⟩;simp only[iz,dQ,and_true];refine⟨_,?_,rfl⟩;rw[if_pos trivial];unfold rm;rw[List.getElem?_map];simp[aj]
def rX (m:M)(w:World)(m':M)(w':World):Prop:=Ext m m'/\w.heap.size<=w'.heap.size/\∀b,b<w.heap.size->kO m b->w'.heap[b]?=w.heap[b]?/\kO m' b
theorem rX.below (ah:Below w.heap.size w w'):rX m w m w':=⟨Ext.refl _,ah.size,λb aa af=>⟨ah.block b aa,af⟩⟩
structure ue (dS:M)(d0:kY oT)(w0:World)(t8 t9:TypeId)(gF jO:Nat)(iQ kM:Array Value)(bT ts:L (D [.str]))(ro u:Value)(m:M)(d:kY oT)(w:World):Prop where
  k:K dS d0 w0 m d w
  lu:jb w gF iQ t8
  ri:kO m gF
  CH:jb w jO kM t9
  nT:kO m jO
  ro:dQ m.fz (.aR [.str]) bT ro
  ts:dQ m.fz (.aR [.str]) ts u
theorem ue.call {t8 t9:TypeId}{gF jO:Nat}{iQ kM:Array Value}{bT ts:L (D [.str])}{ro u:Value}(h:ue dS d0 w0 t8 t9 gF jO iQ kM bT ts ro u m d w)(k:K dS d0 w0 m' d' w')(s:rX m w m' w'):ue dS d0 w0 t8 t9 gF jO iQ kM bT ts ro u m' d' w':=by
 have dY:=s.2.2 gF h.lu.lt h.ri;have fa:=s.2.2 jO h.CH.lt h.nT;exact⟨k,dY.1.trans h.lu,dY.2,fa.1.trans h.CH,fa.2,h.ro.ext s.1.fz,h.ts.ext s.1.fz⟩
theorem ue.below {t8 t9:TypeId}{gF jO:Nat}{iQ kM:Array Value}{bT ts:L (D [.str])}{ro u:Value}(h:ue dS d0 w0 t8 t9 gF jO iQ kM bT ts ro u m d w)(ah:Below w.heap.size w w'):ue dS d0 w0 t8 t9 gF jO iQ kM bT ts ro u m d w':=h.call (h.k.below ah) (rX.below ah)
theorem rowAt {l:L (D [.str])}{n:Nat}(bg:dQ m.fz (.aR [.str]) l (.slice A n c))(eJ:l.1≠[]):∃b o,A=some ⟨b,o,none⟩/\∀(i:Nat) e,l.1[i]?=some e->(m.fz b)[o+i]?=some (.string e.1.1):=by
 simp only[dQ] at bg;obtain⟨eW,c',aa,af,ax⟩:=bg;injection aa with aD aQ bO
 subst aD;obtain⟨b,o,rfl,a8⟩:=ax eJ;refine⟨b,o,rfl,λi e he=>?_⟩;have:=a8 i e he;simp only[iz,dQ] at this;obtain⟨⟨v,a8,rfl⟩,_⟩:=this;simpa using a8
theorem alB {l:L (D [.str])}{i:Nat}(h:i<l.1.length):∃e,l.1[i]?=some e/\e.1=gp l i:=by
 refine⟨l.1[i],fy h,?_⟩;unfold gp;rw[fy h];rfl
theorem ku.two (w:World)(a p:Array Value)(j2 kf:TypeId):ku ((w.alloc (.cells a j2)).alloc (.cells p kf)) (some ⟨w.heap.size+1,0,none⟩) p.toList:=by
 have:=ku.new (w.alloc (.cells a j2)) p kf;simpa using this
theorem nC.pre (h:nC kK kf j2 m w dx q fO ro A c ck){eU gw:World}(ah:Below w.heap.size w eU)(cm:eU.grownBy gw (Value.slice A ck.length c).ownBlock):jb gw q #[fO,ro,.slice A ck.length c] kK:=by
 rw[vV] at cm;have SH:=ah.size;have SF:=h.nT.lt;have yQ:=h.ay;exact(cm.block q ab (λe=>by have:=(h.wg e.symm).1;omega)).trans ((ah.block q SF).trans h.nT)
theorem Q7 (w:World)(a b:Obj):Below w.heap.size w ((w.drew.alloc a).alloc b):=
 ((Below.refl w.heap.size w).drew.alloc (Nat.le_refl _) a).alloc (by rw[World.size_alloc];exact Nat.le_succ _) b
theorem r5 (w:World)(a b:Obj):Below w.heap.size w ((w.alloc a).alloc b):=
 ((Below.refl w.heap.size w).alloc (Nat.le_refl _) a).alloc (by rw[World.size_alloc];exact Nat.le_succ _) b
theorem D0 (w:World)(a b:Obj):w.heap.size<((w.alloc a).alloc b).heap.size:=by
 rw[World.size_alloc,World.size_alloc];omega
theorem SX {n:Nat}(h:n<=100):(bc.w .i64 (n:Int)).1=(n:Int):=by
 have aa:IntKind.i64.min<=(n:Int)/\(n:Int)<=IntKind.i64.max:=by
  simp[IntKind.min,IntKind.max,IntKind.bits,IntKind.signed]<;>omega
 exact Ce aa
theorem aM5 (w:World)(a b:Obj):w.heap.size<((w.drew.alloc a).alloc b).heap.size:=by
 rw[World.size_alloc,World.size_alloc];show w.heap.size<w.heap.size+1+1;omega
theorem ue.start {t8:TypeId}{gF jO:Nat}{iQ:Array Value}{bT ts:L (D [.str])}{u:Value}(h:ue dS d0 w0 t8 kK gF jO iQ #[fO,ro,.slice none 0 0] bT ts ro u m d w):nC kK kf j2 m w w.heap.size jO fO ro none 0 []:=
 ⟨h.CH,h.CH.lt,Nat.le_refl _,h.nT,World.ownsRow_nil _ _ _ _,Nat.le_refl _,λg cm=>(by cases cm),λe he=>absurd he List.not_mem_nil,List.nodup_nil⟩
theorem Uc {b:Nat}{p:gW}{a:p4}{l:List p4}(h:p.2.2.1.1=a::l):l1 (b,p)=[.string p.1.1,.string p.2.1.1,.slice (some ⟨b,0,none⟩) (l.length+1) (l.length+1)]:=by
 unfold l1 qn;rw[if_neg (by rw[h];simp),h];rfl
structure mV (dS:M)(d0:kY oT)(w0:World)(kK kf j2:TypeId)(gF jO dx:Nat)(iQ:Array Value)(fO:Value)(bT ts:L (D [.str]))(ro u:Value)(A:Option Addr)(c:Nat)(ck:List (Nat×gW))(m:M)(d:kY oT)(w:World):Prop where
  k:K dS d0 w0 m d w
  jj:nC kK kf j2 m w dx jO fO ro A c ck
  lu:jb w gF iQ kK
  ri:kO m gF
  dY:gF<jO
  a6:w0.heap.size<=gF
  ro:dQ m.fz (.aR [.str]) bT ro
  ts:dQ m.fz (.aR [.str]) ts u
section
variable{gF jO:Nat}{iQ:Array Value}{bT ts:L (D [.str])}{u:Value}
theorem mV.call (h:mV dS d0 w0 kK kf j2 gF jO dx iQ fO bT ts ro u A c ck m d w)(k:K dS d0 w0 m' d' w')(s:rX m w m' w'):mV dS d0 w0 kK kf j2 gF jO dx iQ fO bT ts ro u A c ck m' d' w':=by
 have dY:=s.2.2 gF h.lu.lt h.ri;exact⟨k,h.jj.Kc s.2.1 s.2.2,dY.1.trans h.lu,dY.2,h.dY,h.a6,h.ro.ext s.1.fz,h.ts.ext s.1.fz⟩
theorem mV.below (h:mV dS d0 w0 kK kf j2 gF jO dx iQ fO bT ts ro u A c ck m d w)(ah:Below w.heap.size w w'):mV dS d0 w0 kK kf j2 gF jO dx iQ fO bT ts ro u A c ck m d w':=h.call (h.k.below ah) (rX.below ah)
theorem mV.add (h:mV dS d0 w0 kK kf j2 gF jO dx iQ fO bT ts ro u A c ck m d w){eU gw:World}(ah:Below w.heap.size w eU){b:Nat}{p:gW}(aC:w.heap.size<=b)(aV:b<eU.heap.size)(cf:p.2.2.1.1≠[]->jb eU b (mJ p).toArray j2)(cm:eU.grownBy gw (Value.slice A ck.length c).ownBlock)(bX:gw.ownsRow dx kf 3 (.slice eW (ck.length+1) c') (ck.length+1) (ck.flatMap l1++l1 (b,p)))(ju:(Value.slice eW (ck.length+1) c').ownBlock=(Value.slice A ck.length c).ownBlock\/(Value.slice eW (ck.length+1) c').ownBlock=some eU.heap.size)(kS:ck.length+1<=c'):
 mV dS d0 w0 kK kf j2 gF jO dx iQ fO bT ts ro u eW c' (ck++[(b,p)]) m d (gw.setCell ⟨jO,2,none⟩ (.slice eW (ck.length+1) c')):=by
 have fa:=h.dY;have a6:=h.a6;have ay:=h.jj.ay;obtain⟨jj,k⟩:=h.jj.add h.k ab ah aC aV cf cm bX ju kS;refine⟨k,jj,?_,h.ri,h.dY,h.a6,h.ro,h.ts⟩;have bn:=h.lu.lt;have aP:=ah.size;rw[vV] at cm;show(gw.setCell ⟨jO,2,none⟩ (.slice eW (ck.length+1) c')).heap[gF]?=_;rw[Below.heap_setCell _ _ _ _ (show gF≠jO by omega),cm.block gF ab (λe=>by have:=(h.jj.wg e.symm).1;omega),ah.block gF bn];exact h.lu
theorem mV.Qe {dk dg:List (Nat×gW)}{b j:Nat}{p p':gW}{v:Value}(h:mV dS d0 w0 kK kf j2 gF jO dx iQ fO bT ts ro u A c (dk++(b,p)::dg) m d w)(aA:p.2.2.1.1≠[])(aL:mJ p'=(mJ p).set j v)(aD:p'.1=p.1)(aQ:p'.2.1=p.2.1)(bO:p'.2.2.1.1.length=p.2.2.1.1.length):
 mV dS d0 w0 kK kf j2 gF jO dx iQ fO bT ts ro u A c (dk++(b,p')::dg) m d (w.setCell ⟨b,j,none⟩ v):=by
 have fa:=h.dY;have a6:=h.a6;have ay:=h.jj.ay;obtain⟨jj,k⟩:=h.jj.Qe h.k ab aA aL aD aQ bO;have ah:=(h.jj.el (b,p) (by simp)).1;refine⟨k,jj,?_,h.ri,h.dY,h.a6,h.ro,h.ts⟩;show(w.setCell ⟨b,j,none⟩ v).heap[gF]?=_;rw[Below.heap_setCell _ _ _ _ (show gF≠b fromλe=>by have ah:dx<=b:=ah;omega)];exact h.lu
end
section
variable{gF jO:Nat}{iQ:Array Value}{bT ts:L (D [.str])}{u:Value}{jU k5 n eR:Nat}
theorem mV.held (h:mV dS d0 w0 kK kf j2 gF jO dx iQ fO bT ts (.slice (some ⟨jU,k5,none⟩) n eR) u A c ck m d w){tH i j:Nat}(aZ:ck.length=tH)(aj:i<bT.1.length)(aq:j<bT.1.length):
 w.cell? ⟨jO,1,none⟩=some (.slice (some ⟨jU,k5,none⟩) n eR)/\w.cell? ⟨jO,2,none⟩=some (.slice A tH c)/\w.cell? ⟨jU,k5+i,none⟩=some (.string (gp bT i).1)/\w.cell? ⟨jU,k5+j,none⟩=some (.string (gp bT j).1):=by
 subst aZ;obtain⟨f_,fC,e,k2⟩:=rowAt h.ro (λe=>by rw[e] at aj;simp at aj);cases e;have at_:∀i,i<bT.1.length->w.cell? ⟨jU,k5+i,none⟩=some (.string (gp bT i).1):=λi aj=>by
  obtain⟨e,aa,af⟩:=alB aj;rw[<-af];exact h.k.aO.cellOf (k2 i e aa)
 exact⟨h.jj.nT.cell 1,h.jj.nT.cell 2,at_ i aj,at_ j aq⟩
theorem mV.ne (h:mV dS d0 w0 kK kf j2 gF jO dx iQ fO bT ts (.slice (some ⟨jU,k5,none⟩) n eR) u A c ck m d w)(eJ:bT.1≠[]):some jU≠mL A:=λe=>by
 obtain⟨f_,fC,e',k2⟩:=rowAt h.ro eJ;cases e';have bF:=h.jj.rQ jU e.symm;have aa:=k2 0 _ (fy (List.length_pos_iff.2 eJ));rw[bF.2] at aa;cases aa
end
end
def p1 (p:gW):gW:=(p.1,p.2.1,cD (match p.2.2.1.1 with|[]=>[]|a::l=>(a.1,a.2.1,a.2.2.1,bc.w .i64 0,())::l),())
theorem alK:∀(l:List gW)(p:gW),xf (l++[p])=l++[p1 p]
 |[],p=>rfl
 |q::l,p=>by
  have h:=alK l p;cases l with
  |nil=>rfl
  |cons x l=>
   show q::xf ((x::l)++[p])=_;rw[h];rfl
theorem aly {go:ee}{ts ro:L (D [.str])}:∀{n i:Nat}{d:kY oT}{r:List (D fi)×kY oT},uI go ts ro n i d=some r->∀p∈r.1,∃a:p4,p.2.2.1.1=[a]
 |0,i,d,r,h,p,bF=>by cases h;simp at bF
 |n+1,i,d,r,h,p,bF=>by
  rw[uI] at h;obtain⟨xI,aa,h⟩:=Option.bind_eq_some_iff.1 h;obtain⟨Qa,af,h⟩:=Option.bind_eq_some_iff.1 h;cases h;rcases List.mem_cons.1 bF with rfl|bF
  ·exact⟨_,rfl⟩
  ·exact aly af p bF
section
variable(go ja:ee)(ro:L (D [.str]))(c:D ig)
def qz (k:Int):gW:=(gp ro 0,gp ro 1,cD [(go,c.1,c.2.1,bc.w .i64 1,()),(ja,bc.w .i64 0,S ⟨#[]⟩,bc.w .i64 k,())],())
def qS (a0:p4)(k:Int):gW:=(gp ro 0,gp ro 1,cD [a0,(ja,bc.w .i64 0,S ⟨#[]⟩,bc.w .i64 k,())],())
def tQ:gW:=(S ⟨#[]⟩,S ⟨#[]⟩,L.nil,())
theorem aMj {xd:List gW}{dk:List (Nat×gW)}{b:Nat}{p:gW}(h:(dk++[(b,p)]).map (·.2)=qz go ja ro c 0::xd)(m:Nat):
 ∃cR a0 T,dk++[(b,p1 p)]=(cR,qS ja ro a0 0)::T/\AW go ja ro m c xd none=(qS ja ro a0 ((T.length+1:Nat):Int)::T.map (·.2))++tE ja ro m 1 (T.length+1)++[tQ]:=by
 cases dk with
 |nil=>
  simp at h;obtain⟨rfl,rfl⟩:=h;exact⟨b,(go,c.1,c.2.1,bc.w .i64 0,()),[],rfl,rfl⟩
 |cons e dk=>
  simp at h;obtain⟨aa,rfl⟩:=h;refine⟨e.1,(go,c.1,c.2.1,bc.w .i64 1,()),dk++[(b,p1 p)],by rw[List.cons_append];congr 1;exact Prod.ext rfl aa,?_⟩;have ai:∀k,xf (qz go ja ro c k::(dk.map (·.2)++[p]))=qz go ja ro c k::(dk.map (·.2)++[p1 p]):=λk=>alK (qz go ja ro c k::dk.map (λx:Nat×gW=>x.2)) p;show xf (qz go ja ro c (((xf (qz go ja ro c 0::(dk.map (·.2)++[p]))).length:Nat):Int)::(dk.map (·.2)++[p]))++tE ja ro m 1 (xf (qz go ja ro c 0::(dk.map (·.2)++[p]))).length++[tQ]=_;rw[ai,ai];have aZ:(qz go ja ro c 0::(dk.map (·.2)++[p1 p])).length=(dk++[(b,p1 p)]).length+1:=by simp
  rw[aZ,List.map_append];rfl
theorem aMl {xd:List gW}{ck:List (Nat×gW)}{b:Nat}{n8:D ig}(h:ck.map (·.2)=qz go ja ro c 0::xd)(m:Nat):
 ∃cR a0 T,ck++[(b,(gp ro (m+1),gp ro 0,cD [(S ⟨#[111,107]⟩,n8.1,n8.2.1,bc.w .i64 0,())],()))]=(cR,qS ja ro a0 0)::T/\
  AW go ja ro m c xd (some n8)=(qS ja ro a0 ((T.length+1:Nat):Int)::T.map (·.2))++tE ja ro m 1 (T.length+1)++[tQ]:=by
 cases ck with
 |nil=>simp at h
 |cons e ck=>
  simp at h;obtain⟨aa,rfl⟩:=h;refine⟨e.1,(go,c.1,c.2.1,bc.w .i64 1,()),ck++[(b,(gp ro (m+1),gp ro 0,cD [(S ⟨#[111,107]⟩,n8.1,n8.2.1,bc.w .i64 0,())],()))],by rw[List.cons_append];congr 1;exact Prod.ext rfl aa,?_⟩;have aZ:(qz go ja ro c 0::ck.map (·.2)++[((gp ro (m+1),gp ro 0,cD [(S ⟨#[111,107]⟩,n8.1,n8.2.1,bc.w .i64 0,())],()):gW)]).length=(ck++[(b,((gp ro (m+1),gp ro 0,cD [(S ⟨#[111,107]⟩,n8.1,n8.2.1,bc.w .i64 0,())],()):gW))]).length+1:=by simp
  show(qz go ja ro c (((qz go ja ro c 0::ck.map (·.2)++[((gp ro (m+1),gp ro 0,cD [(S ⟨#[111,107]⟩,n8.1,n8.2.1,bc.w .i64 0,())],()):gW)]).length:Nat):Int)::ck.map (·.2)++[_])++tE ja ro m 1 (qz go ja ro c 0::ck.map (·.2)++[((gp ro (m+1),gp ro 0,cD [(S ⟨#[111,107]⟩,n8.1,n8.2.1,bc.w .i64 0,())],()):gW)]).length++[tQ]=_;rw[aZ,List.map_append];rfl
end
theorem nC.aaf {m:M}{w:World}{kK kf j2:TypeId}{dx q:Nat}{fO ro:Value}{A:Option Addr}{c:Nat}{ck:List (Nat×gW)}(h:nC kK kf j2 m w dx q fO ro A c ck){i:Nat}{e:Nat×gW}(he:ck[i]?=some e):
 ∃g,A=some ⟨g,0,none⟩/\w.cell? ⟨g,i*3+2,none⟩=some (qn e.1 e.2):=by
 rcases h.row.2 with⟨a6,yn⟩|⟨g,cap,cur,aG,aN,bo,cE,eM,fH,gz⟩
 ·rw[List.length_eq_zero_iff.1 yn] at he;cases he
 ·injection aG with dH _ _
  refine⟨g,dH,?_⟩;have aa:=Jp l1 3 agm ck i e 2 he ab;rw[<-gz,List.getElem?_take] at aa;split at aa
  ·rw[show(l1 e)[2]?=some (qn e.1 e.2) from rfl] at aa;unfold World.cell?;simp[bo];simpa using aa
  ·cases aa
theorem amC {p:gW}{a:p4}{t:List p4}(h:p.2.2.1.1=a::t):(p1 p).2.2.1.1=(a.1,a.2.1,a.2.2.1,bc.w .i64 0,())::t:=by
 unfold p1;rw[h];refine fI ?_;have:=p.2.2.1.2;rw[h] at this;exact this
theorem aNz {p:gW}{a:p4}{t:List p4}(h:p.2.2.1.1=a::t):mJ (p1 p)=(mJ p).set 3 (.int .i64 0):=by
 unfold mJ;rw[amC h,h];rfl
theorem ang {p:gW}{a:p4}{t:List p4}(h:p.2.2.1.1=a::t):(mJ p).toArray[3]?=some (.int .i64 a.2.2.2.1.1):=by
 unfold mJ;rw[h];simp[z3]
theorem aoS {ja:ee}{ro:L (D [.str])}{a0:p4}{k:Nat}(aU:k<=100):mJ (qS ja ro a0 (k:Int))=(mJ (qS ja ro a0 0)).set 7 (.int .i64 (k:Int)):=by
 show z3 a0++[Value.string ja.1,.int .i64 0,.string ⟨#[]⟩,.int .i64 (bc.w .i64 (k:Int)).1]=_;rw[SX aU];rfl
theorem aoR {ja:ee}{ro:L (D [.str])}{a0:p4}:(mJ (qS ja ro a0 0)).toArray[7]?=some (.int .i64 0):=rfl
theorem K.end {gF:Nat}(dS:M)(d0:kY oT)(w0:World){m:M}{d:kY oT}{w:World}(h:K dS d0 w0 m d w)(bF:kO m gF)(ay:w0.heap.size<=gF)(Qs j3 kW:Value):
 K dS d0 w0 m d (((w.setCell ⟨gF,0,none⟩ Qs).setCell ⟨gF,1,none⟩ j3).setCell ⟨gF,2,none⟩ kW):=by
 have mq:∀k,k≠gF->(((w.setCell ⟨gF,0,none⟩ Qs).setCell ⟨gF,1,none⟩ j3).setCell ⟨gF,2,none⟩ kW).heap[k]?=w.heap[k]?:=λk aU=>by
  rw[Below.heap_setCell _ _ _ _ aU,Below.heap_setCell _ _ _ _ aU,Below.heap_setCell _ _ _ _ aU]
 exact h.world ⟨rfl,rfl,rfl⟩ (by simp[World.setCell]) (λb _ ah=>mq b λe=>ah (e▸bF)) λb ah=>mq b ab
theorem ax1 (b:Nat):l1 (b,tQ)=[.string ⟨#[]⟩,.string ⟨#[]⟩,.slice none 0 0]:=by
 have ai:qn b tQ=.slice none 0 0:=if_pos rfl;show[Value.string (S ⟨#[]⟩).1,.string (S ⟨#[]⟩).1,qn b tQ]=_;rw[ai];rfl
theorem IU (w:World)(a:Obj):Below w.heap.size w (w.alloc a):=(Below.refl w.heap.size w).alloc (Nat.le_refl _) a
end cx
end Go.Proofs.YtgmdfchkljaooaaGreat
