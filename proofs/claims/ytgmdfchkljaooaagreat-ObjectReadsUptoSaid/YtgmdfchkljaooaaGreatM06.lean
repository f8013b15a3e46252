/- Typed functions. -/
import Derived.Test.YtgmdfchkljaooaaGreatM01
import Derived.Test.YtgmdfchkljaooaaGreatM05
noncomputable section
namespace Go.Proofs.YtgmdfchkljaooaaGreat
namespace cF
open bI (T)
set_option linter.unusedVariables false
set_option maxRecDepth 100000
def akH:=aJ [(0,.agg fx),(1,aC fT)]
def aHu:=aJ [(0,aC [.a4 ck])]
def WJ:=aJ [(7,aC ck),(10,.cJ c7 0)]
def akG:=[ju [(11,bA)]]
def WI (x:U WJ):Option (bo akG):=cond (bb x.1.2.1.2.1 (W 5)) (some ((true,()),())) ((pg ((x.1.1,x.1.2.1.1,()),())).bind λcl=>some ((cl.1.1,()),()))
def Hf:aY:=⟨[(5,.arr 0 [.a4 ck] [true]),(8,aC bp),(10,.cJ c7 0),(11,bA),(12,au)],z9⟩
def aHr:bG:=[((.exit 4),⟨[(11,bA)],z9⟩)]
def OR (x:U Hf):Option (U Hf⊕bo aHr):=cond (bg x.1.2.2.2.2.1 (bf x.1.2.1)) (cond (x.1.2.2.2.1) (some (.inl (((),x.1.2.1,x.1.2.2.1,true,(bc x.1.2.2.2.2.1 (W 1)),()),(x.2.1,())))) ((a1 x.1.2.1 (x.1.2.2.2.2.1).1).bind λd_=>cond (decide (0<=(d_.1).1)&&decide ((d_.1).1<(x.2.1.1.length:Nat))) ((fq x.2.1 ((d_.1).1).toNat).bind λgw=>(pg ((gw.1,x.1.2.2.1.1,()),())).bind λcL=>some (.inl (((),x.1.2.1,x.1.2.2.1,cL.1.1,(bc x.1.2.2.2.2.1 (W 1)),()),(x.2.1,())))) (none))) (some (.inr ((x.1.2.2.2.1,()),(x.2.1,()))))
def He:aY:=⟨[(1,aC fT),(5,.arr 0 [.a4 ck] [true]),(6,au),(7,aC ck),(8,aC bp),(9,au)],z9⟩
def aHo:bG:=[((.exit 2),⟨[],z9⟩)]
def OQ (x:U He):Option (U He⊕bo aHo):=(a1 x.1.1 (x.1.2.2.1).1).bind λdO=>cond (bg x.1.2.2.2.2.2.1 (bf dO.2.1)) ((a1 x.1.1 (x.1.2.2.1).1).bind λdb=>(a1 db.2.1 (x.1.2.2.2.2.2.1).1).bind λfm=>(WI ((x.1.2.2.2.1,fm,()),())).bind λbO=>(a2 OR (((),x.1.2.2.2.2.1,fm,bO.1.1,(W 0),()),(x.2.1,()))).bind λcy=>cond (cy.1.1) (cond (decide (0<=(x.1.2.2.1).1)&&decide ((x.1.2.2.1).1<(x.2.1.1.length:Nat))) ((fq cy.2.1 ((x.1.2.2.1).1).toNat).bind λiu=>(c6 16 iu.1 (cD [(fm.1,())])).bind λp4=>cond (decide (0<=(x.1.2.2.1).1)&&decide ((x.1.2.2.1).1<(x.2.1.1.length:Nat))) ((fq cy.2.1 ((x.1.2.2.1).1).toNat).bind λhY=>cond (decide (((x.1.2.2.1).1).toNat=((x.1.2.2.1).1).toNat)) (some (.inl ((x.1.1,(),x.1.2.2.1,x.1.2.2.2.1,x.1.2.2.2.2.1,(bc x.1.2.2.2.2.2.1 (W 1)),()),((ej cy.2.1 ((x.1.2.2.1).1).toNat (p4,())),())))) (none)) (none)) (none)) (some (.inl ((x.1.1,(),x.1.2.2.1,x.1.2.2.2.1,x.1.2.2.2.2.1,(bc x.1.2.2.2.2.2.1 (W 1)),()),(cy.2.1,()))))) (some (.inr ((),(x.2.1,()))))
def Hd:aY:=⟨[(1,aC fT),(2,.cJ fx 0),(5,.arr 0 [.a4 ck] [true]),(6,au)],z9⟩
def aHl:bG:=[((.exit 0),⟨[],z9⟩)]
def OP (x:U Hd):Option (U Hd⊕bo aHl):=cond (f_ (W 0) x.1.2.2.2.1) ((FN ((x.1.2.1,x.1.2.2.2.1,()),())).bind λaB=>(a1 x.1.2.1.2.2.2.1 (x.1.2.2.2.1).1).bind λbS=>(v8 ((bS,()),())).bind λaS=>(a2 OQ ((x.1.1,(),x.1.2.2.2.1,aB.1.1,aS.1.1,(W 0),()),(x.2.1,()))).bind λeO=>some (.inl ((x.1.1,(x.1.2.1.1,x.1.2.1.2.1,x.1.2.1.2.2.1,x.1.2.1.2.2.2.1,()),(),(gf x.1.2.2.2.1 (W 1)),()),(eO.2.1,())))) (some (.inr ((),(x.2.1,()))))
def ON (x:U akH):Option (U aHu):=(rh (α:=D [.a4 [.str]]) 24 (bf x.1.1.2.2.2.1) (L.nil,())).bind λdF=>(a2 OP ((x.1.2.1,x.1.1,(),(gf (bf x.1.1.2.2.2.1) (W 1)),()),(dF,()))).bind λeY=>some ((eY.2.1,()),())
def ako:=aJ [(0,.agg cU),(1,au)]
def aGQ:=aJ [(0,aZ)]
def OH (x:U ako):Option (U aGQ):=cond (bb x.1.1.1 (W 1)) (cond (bb x.1.1.1 (W 1)) (some ((x.1.1.2.1,()),())) (cond (bb x.1.1.1 (W 5)) ((a1 x.1.1.2.2.2.2.2.2.2.2.1 (x.1.2.1).1).bind λaE=>some ((aE.2.1,()),())) (some (((S ⟨#[]⟩),()),())))) (cond (bb x.1.1.1 (W 8)) (some ((x.1.1.2.1,()),())) (cond (bb x.1.1.1 (W 5)) ((a1 x.1.1.2.2.2.2.2.2.2.2.1 (x.1.2.1).1).bind λaP=>some ((aP.2.1,()),())) (some (((S ⟨#[]⟩),()),()))))
def akL:=aJ [(0,aC bp)]
def aHI:=aJ [(0,au)]
def Hi:=aJ [(0,aC bp),(3,au),(4,bA),(5,au)]
def aHF:bG:=[((.exit 2),aJ [(4,bA)])]
def OV (x:U Hi):Option (U Hi⊕bo aHF):=cond (bg x.1.2.2.2.1 (bf x.1.1)) (cond (x.1.2.2.1) (some (.inl ((x.1.1,x.1.2.1,true,(bc x.1.2.2.2.1 (W 1)),()),()))) ((a1 x.1.1 (x.1.2.2.2.1).1).bind λaE=>some (.inl ((x.1.1,x.1.2.1,(bb aE.1 x.1.2.1),(bc x.1.2.2.2.1 (W 1)),()),())))) (some (.inr ((x.1.2.2.1,()),())))
def Hh:=aJ [(0,aC bp),(3,au)]
def aHC:=[fK [(2,au)]]
def OU (x:U Hh):Option (U Hh⊕bo aHC):=(a2 OV ((x.1.1,x.1.2.1,false,(W 0),()),())).bind λaB=>cond (!aB.1.1) (some (.inr ((x.1.2.1,()),()))) (some (.inl ((x.1.1,(bc x.1.2.1 (W 1)),()),())))
def OT (x:U akL):Option (U aHI):=(a2 OU ((x.1.1,(W 0),()),())).bind λaK=>some ((aK.1.1,()),())
def ak1:=aJ [(0,.agg fx),(1,aC [.a4 ck])]
def aIG:=aJ [(0,aC [.a4 bp]),(1,au),(2,aC [.a4 bp])]
def Hk:aY:=⟨[(1,aC [.a4 ck]),(2,.cJ fx 0),(7,.arr 0 [.a4 bp] [true]),(10,au),(11,au)],z_⟩
def aIr:bG:=[((.exit 2),⟨[],z_⟩)]
def O4 (x:U Hk):Option (U Hk⊕bo aIr):=cond (bg x.1.2.2.2.2.1 (bf x.1.2.1.2.1)) ((a1 x.1.2.1.2.1 (x.1.2.2.2.2.1).1).bind λcR=>(a1 x.1.1 ((W 0)).1).bind λdO=>(a1 dO.1 (x.1.2.2.2.1).1).bind λdb=>cond (cz cR.1 db.1) (cond (decide (0<=((W 0)).1)&&decide (((W 0)).1<(x.2.1.1.length:Nat))) ((fq x.2.1 (((W 0)).1).toNat).bind λfm=>(c6 8 fm.1 (cD [(x.1.2.2.2.2.1,())])).bind λjK=>cond (decide (0<=((W 0)).1)&&decide (((W 0)).1<(x.2.1.1.length:Nat))) ((fq x.2.1 (((W 0)).1).toNat).bind λeV=>cond (decide ((((W 0)).1).toNat=(((W 0)).1).toNat)) (some (.inl ((x.1.1,x.1.2.1,(),x.1.2.2.2.1,(bc x.1.2.2.2.2.1 (W 1)),()),((ej x.2.1 (((W 0)).1).toNat (jK,())),())))) (none)) (none)) (none)) (some (.inl ((x.1.1,x.1.2.1,(),x.1.2.2.2.1,(bc x.1.2.2.2.2.1 (W 1)),()),(x.2.1,()))))) (some (.inr ((),(x.2.1,()))))
def Hj:aY:=⟨[(1,aC [.a4 ck]),(2,.cJ fx 0),(7,.arr 0 [.a4 bp] [true]),(10,au)],z_⟩
def aIo:bG:=[((.exit 0),⟨[],z_⟩)]
def O3 (x:U Hj):Option (U Hj⊕bo aIo):=(a1 x.1.1 ((W 0)).1).bind λbS=>cond (bg x.1.2.2.2.1 (bf bS.1)) ((a2 O4 ((x.1.1,x.1.2.1,(),x.1.2.2.2.1,(W 0),()),(x.2.1,()))).bind λcc=>some (.inl ((x.1.1,x.1.2.1,(),(bc x.1.2.2.2.1 (W 1)),()),(cc.2.1,())))) (some (.inr ((),(x.2.1,()))))
def Hn:aY:=⟨[(1,aC [.a4 ck]),(7,.arr 0 [.a4 bp] [true]),(12,au),(13,aC bp),(14,au),(15,aZ),(16,.tok bp 1 []),(17,au)],[.arr [.a4 bp] [true],.bC bp]⟩
def aIA:bG:=[((.exit 8),⟨[(16,.tok bp 2 [])],[.arr [.a4 bp] [true],.gone,.bC bp]⟩)]
def O7 (x:U Hn):Option (U Hn⊕bo aIA):=(a1 x.1.2.2.2.1 (x.1.2.2.2.2.1).1).bind λhY=>(a1 x.1.1 (hY.1).1).bind λk1=>cond (bg x.1.2.2.2.2.2.2.2.1 (bf k1.1)) ((a1 x.1.2.2.2.1 (x.1.2.2.2.2.1).1).bind λk2=>(a1 x.1.1 (k2.1).1).bind λoh=>(a1 oh.1 (x.1.2.2.2.2.2.2.2.1).1).bind λqq=>cond (!cz qq.1 x.1.2.2.2.2.2.1) (cond (decide (0<=(x.1.2.2.1).1)&&decide ((x.1.2.2.1).1<(x.2.1.1.length:Nat))) ((fq x.2.1 ((x.1.2.2.1).1).toNat).bind λnv=>(a1 x.1.1 (x.1.2.2.1).1).bind λC7=>(a1 x.1.2.2.2.1 (x.1.2.2.2.2.1).1).bind λm7=>(a1 x.1.1 (m7.1).1).bind λAg=>(a1 Ag.1 (x.1.2.2.2.2.2.2.2.1).1).bind λl5=>(uZ ((C7.1,l5.1,()),())).bind λmW=>(a1 nv.1 (mW.1.1).1).bind λAh=>(c6 8 x.1.2.2.2.2.2.2.1 (cD [Ah])).bind λacM=>some (.inl ((x.1.1,(),x.1.2.2.1,x.1.2.2.2.1,x.1.2.2.2.2.1,x.1.2.2.2.2.2.1,acM,(bc x.1.2.2.2.2.2.2.2.1 (W 1)),()),(x.2.1,(),())))) (none)) (some (.inl ((x.1.1,(),x.1.2.2.1,x.1.2.2.2.1,x.1.2.2.2.2.1,x.1.2.2.2.2.2.1,x.1.2.2.2.2.2.2.1,(bc x.1.2.2.2.2.2.2.2.1 (W 1)),()),(x.2.1,(),()))))) (some (.inr ((x.1.2.2.2.2.2.2.1,()),(x.2.1,(),(),()))))
def WY:=aJ [(1,aC [.a4 ck]),(9,au),(13,aC bp),(14,au),(15,aZ),(16,aC bp),(18,au)]
def ak0:=[ju [(9,au),(18,au)]]
def WX (x:U WY):Option (bo ak0):=cond (!cz x.1.2.2.2.2.1 (S ⟨#[]⟩)) ((a1 x.1.2.2.1 (x.1.2.2.2.1).1).bind λC8=>(a1 x.1.1 (C8.1).1).bind λC9=>(pg ((C9.1,x.1.2.2.2.2.1,()),())).bind λtU=>cond (tU.1.1) ((OT ((x.1.2.2.2.2.2.1,()),())).bind λCs=>some (((imax x.1.2.1 (bc Cs.1.1 (W 1))),Cs.1.1,()),())) (some ((x.1.2.1,x.1.2.2.2.2.2.2.1,()),()))) (some ((x.1.2.1,x.1.2.2.2.2.2.2.1,()),()))
def Ho:aY:=⟨[(1,aC [.a4 ck]),(7,.arr 0 [.a4 bp] [true]),(13,aC bp),(14,au),(15,aZ),(16,aC bp),(18,au),(19,au),(20,au)],z_⟩
def aID:bG:=[((.exit 10),⟨[],z_⟩)]
def O8 (x:U Ho):Option (U Ho⊕bo aID):=(a1 x.1.2.2.1 (x.1.2.2.2.1).1).bind λvq=>(a1 x.1.1 (vq.1).1).bind λJJ=>cond (bg x.1.2.2.2.2.2.2.2.2.1 (bf JJ.1)) ((a1 x.1.2.2.1 (x.1.2.2.2.1).1).bind λZX=>(a1 x.1.1 (ZX.1).1).bind λZY=>(a1 ZY.1 (x.1.2.2.2.2.2.2.2.2.1).1).bind λZZ=>cond (cz ZZ.1 x.1.2.2.2.2.1) ((a1 x.1.2.2.1 (x.1.2.2.2.1).1).bind λAi=>(a1 x.1.2.2.1 (x.1.2.2.2.1).1).bind λC_=>cond (decide (0<=(C_.1).1)&&decide ((C_.1).1<(x.2.1.1.length:Nat))) ((fq x.2.1 ((C_.1).1).toNat).bind λSe=>(c6 8 Se.1 (cD [(x.1.2.2.2.2.2.2.1,())])).bind λKP=>cond (decide (0<=(Ai.1).1)&&decide ((Ai.1).1<(x.2.1.1.length:Nat))) ((fq x.2.1 ((Ai.1).1).toNat).bind λapf=>cond (decide (((C_.1).1).toNat=((Ai.1).1).toNat)) (some (.inl ((x.1.1,(),x.1.2.2.1,x.1.2.2.2.1,x.1.2.2.2.2.1,x.1.2.2.2.2.2.1,x.1.2.2.2.2.2.2.1,x.1.2.2.2.2.2.2.2.1,(bc x.1.2.2.2.2.2.2.2.2.1 (W 1)),()),((ej x.2.1 ((Ai.1).1).toNat (KP,())),())))) (none)) (none)) (none)) ((a1 x.1.2.2.1 (x.1.2.2.2.1).1).bind λAj=>(a1 x.1.2.2.1 (x.1.2.2.2.1).1).bind λC'=>cond (decide (0<=(C'.1).1)&&decide ((C'.1).1<(x.2.1.1.length:Nat))) ((fq x.2.1 ((C'.1).1).toNat).bind λZ0=>(a1 x.1.2.2.2.2.2.1 (x.1.2.2.2.2.2.2.2.1).1).bind λZ1=>(c6 8 Z0.1 (cD [Z1])).bind λKQ=>cond (decide (0<=(Aj.1).1)&&decide ((Aj.1).1<(x.2.1.1.length:Nat))) ((fq x.2.1 ((Aj.1).1).toNat).bind λapg=>cond (decide (((C'.1).1).toNat=((Aj.1).1).toNat)) (some (.inl ((x.1.1,(),x.1.2.2.1,x.1.2.2.2.1,x.1.2.2.2.2.1,x.1.2.2.2.2.2.1,x.1.2.2.2.2.2.2.1,(bc x.1.2.2.2.2.2.2.2.1 (W 1)),(bc x.1.2.2.2.2.2.2.2.2.1 (W 1)),()),((ej x.2.1 ((Aj.1).1).toNat (KQ,())),())))) (none)) (none)) (none))) (some (.inr ((),(x.2.1,()))))
def Hm:aY:=⟨[(1,aC [.a4 ck]),(2,.cJ fx 0),(7,.arr 0 [.a4 bp] [true]),(8,.arr 1 [.a4 bp] [true]),(9,au),(12,au),(13,aC bp),(14,au)],Jt⟩
def aIx:bG:=[((.exit 6),⟨[(9,au)],Jt⟩)]
def O6 (x:U Hm):Option (U Hm⊕bo aIx):=cond (bg x.1.2.2.2.2.2.2.2.1 (bf x.1.2.2.2.2.2.2.1)) ((a1 x.1.2.1.2.2.2.1 (x.1.2.2.2.2.2.1).1).bind λiu=>(OH ((iu,x.1.2.2.2.2.2.2.2.1,()),())).bind λdy=>(a2 O7 ((x.1.1,(),x.1.2.2.2.2.2.1,x.1.2.2.2.2.2.2.1,x.1.2.2.2.2.2.2.2.1,dy.1.1,L.nil,(W 0),()),(x.2.1,(),()))).bind λxI=>(WX ((x.1.1,x.1.2.2.2.2.1,x.1.2.2.2.2.2.2.1,x.1.2.2.2.2.2.2.2.1,dy.1.1,xI.1.1,(W (-1)),()),())).bind λzL=>cond (decide (0<=(x.1.2.2.2.2.2.1).1)&&decide ((x.1.2.2.2.2.2.1).1<(x.2.2.1.1.length:Nat))) ((fq x.2.2.1 ((x.1.2.2.2.2.2.1).1).toNat).bind λZW=>(c6 8 ZW.1 (cD [(zL.1.2.1,())])).bind λKO=>cond (decide (0<=(x.1.2.2.2.2.2.1).1)&&decide ((x.1.2.2.2.2.2.1).1<(x.2.2.1.1.length:Nat))) ((fq x.2.2.1 ((x.1.2.2.2.2.2.1).1).toNat).bind λapd=>cond (decide (((x.1.2.2.2.2.2.1).1).toNat=((x.1.2.2.2.2.2.1).1).toNat)) ((a2 O8 ((x.1.1,(),x.1.2.2.2.2.2.2.1,x.1.2.2.2.2.2.2.2.1,dy.1.1,xI.1.1,zL.1.2.1,(W 0),(W 0),()),(xI.2.1,()))).bind λYd=>some (.inl ((x.1.1,x.1.2.1,(),(),zL.1.1,x.1.2.2.2.2.2.1,x.1.2.2.2.2.2.2.1,(bc x.1.2.2.2.2.2.2.2.1 (W 1)),()),(Yd.2.1,(ej x.2.2.1 ((x.1.2.2.2.2.2.1).1).toNat (KO,())),())))) (none)) (none)) (none)) (some (.inr ((x.1.2.2.2.2.1,()),(x.2.1,x.2.2.1,()))))
def Hl:aY:=⟨[(1,aC [.a4 ck]),(2,.cJ fx 0),(7,.arr 0 [.a4 bp] [true]),(8,.arr 1 [.a4 bp] [true]),(9,au),(12,au)],Jt⟩
def aIu:bG:=[((.exit 4),⟨[(9,au)],Jt⟩)]
def O5 (x:U Hl):Option (U Hl⊕bo aIu):=cond (bg x.1.2.2.2.2.2.1 (bf x.1.2.1.2.2.2.1)) ((a1 x.1.2.1.2.2.2.1 (x.1.2.2.2.2.2.1).1).bind λiA=>(v8 ((iA,()),())).bind λcy=>(a2 O6 ((x.1.1,x.1.2.1,(),(),x.1.2.2.2.2.1,x.1.2.2.2.2.2.1,cy.1.1,(W 0),()),(x.2.1,x.2.2.1,()))).bind λI2=>some (.inl ((x.1.1,x.1.2.1,(),(),I2.1.1,(bc x.1.2.2.2.2.2.1 (W 1)),()),(I2.2.1,I2.2.2.1,())))) (some (.inr ((x.1.2.2.2.2.1,()),(x.2.1,x.2.2.1,()))))
def O2 (x:U ak1):Option (U aIG):=(rh (α:=D [.a4 [.int .i64]]) 24 (bf x.1.1.2.2.2.1) (L.nil,())).bind λdF=>(rh (α:=D [.a4 [.int .i64]]) 24 (bf x.1.1.2.2.2.1) (L.nil,())).bind λea=>(a2 O3 ((x.1.2.1,x.1.1,(),(W 0),()),(dF,()))).bind λbT=>(a2 O5 ((x.1.2.1,x.1.1,(),(),(bf x.1.1.2.1),(W 0),()),(bT.2.1,ea,()))).bind λRc=>some ((Rc.2.1,Rc.1.1,Rc.2.2.1,()),())
def rV:aY:=⟨[(0,aC eu),(1,au),(2,aC ck),(3,aC bp),(4,.tok eI 0 lP)],[.bC eI]⟩
def u3:aY:=⟨[(0,.tok eI 1 lP),(1,bA)],RS⟩
def akV:aY:=⟨[(0,aC eu),(2,aC ck),(3,aC bp),(4,.tok eI 0 lP),(12,.cJ eu 0),(13,bA)],[.bC eI]⟩
def akU:bG:=[(.normal,⟨[(4,.tok eI 1 lP),(13,bA)],RS⟩)]
def akT (rec:U rV->Option (U u3))(x:U akV):Option (bo akU):=cond (f_ (W 0) x.1.2.2.2.2.1.2.2.2.2.1) ((rec ((x.1.1,x.1.2.2.2.2.1.2.2.2.2.1,x.1.2.1,x.1.2.2.1,x.1.2.2.2.1,()),((),()))).bind λaB=>some ((aB.1.1,aB.1.2.1,()),((),(),()))) (some ((x.1.2.2.2.1,x.1.2.2.2.2.2.1,()),((),(),())))
def akY:aY:=⟨[(0,aC eu),(2,aC ck),(3,aC bp),(4,.tok eI 0 lP),(12,.cJ eu 0),(13,bA)],[.bC eI]⟩
def akX:bG:=[(.normal,⟨[(4,.tok eI 1 lP),(13,bA)],RS⟩)]
def akW (rec:U rV->Option (U u3))(x:U akY):Option (bo akX):=cond (x.1.2.2.2.2.2.1) (cond (f_ (W 0) x.1.2.2.2.2.1.2.2.2.2.2.1) ((rec ((x.1.1,x.1.2.2.2.2.1.2.2.2.2.2.1,x.1.2.1,x.1.2.2.1,x.1.2.2.2.1,()),((),()))).bind λaS=>some ((aS.1.1,aS.1.2.1,()),((),(),()))) (some ((x.1.2.2.2.1,x.1.2.2.2.2.2.1,()),((),(),())))) (some ((x.1.2.2.2.1,x.1.2.2.2.2.2.1,()),((),(),())))
def WW:aY:=⟨[(2,aC ck),(3,aC bp),(12,.cJ eu 0),(14,b_)],RK⟩
def akZ:bG:=[(.normal,⟨[],RK⟩),(.ret,⟨[(10,.dm),(11,bA)],RK⟩)]
def WV (rec:U rV->Option (U u3))(x:U WW):Option (bo akZ):=cond (bb x.1.2.2.1.1 (W 0)) ((uZ ((x.1.1,x.1.2.2.1.2.1,()),())).bind λbJ=>cond (bg bJ.1.1 (W 0)) (some (.inr (((),false,()),(x.2.1,())))) ((a1 x.1.2.1 (bJ.1.1).1).bind λfm=>some (.inl ((),(((W 5),fm.1,(W 0),(W 0),(S ⟨#[]⟩),(S ⟨#[]⟩),(),(),(),()),()))))) (cond (bb x.1.2.2.1.1 (W 1)) (some (.inl ((),(((W 0),(W 0),(W 0),x.1.2.2.1.2.2.1,(S ⟨#[]⟩),(S ⟨#[]⟩),(),(),(),()),())))) (cond (bb x.1.2.2.1.1 (W 2)) (some (.inl ((),(((W 1),(W 0),(W 0),x.1.2.2.1.2.2.1,(S ⟨#[]⟩),(S ⟨#[]⟩),(),(),(),()),())))) (cond (bb x.1.2.2.1.1 (W 3)) (some (.inl ((),(((W 2),(W 0),(W 0),(W 0),x.1.2.2.1.2.2.2.1,(S ⟨#[]⟩),(),(),(),()),())))) (cond (bb x.1.2.2.1.1 (W 4)) (some (.inl ((),(((W 3),(W 0),(W 0),(W 0),(S ⟨#[]⟩),(S ⟨#[]⟩),(),(),(),()),())))) (cond (bb x.1.2.2.1.1 (W 5)) (some (.inl ((),(((W 4),(W 0),(W 0),(W 0),(S ⟨#[]⟩),(S ⟨#[]⟩),(),(),(),()),())))) (some (.inl ((),(x.2.1,())))))))))
def O1 (rec:U rV->Option (U u3))(x:U rV):Option (U u3):=(a1 x.1.1 (x.1.2.1).1).bind λaE=>(akT rec ((x.1.1,x.1.2.2.1,x.1.2.2.2.1,x.1.2.2.2.2.1,aE,true,()),((),()))).bind λaK=>(akW rec ((x.1.1,x.1.2.2.1,x.1.2.2.2.1,aK.1.1,aE,aK.1.2.1,()),((),()))).bind λa9=>cond (!a9.1.2.1) (some ((L.nil,false,()),((),(),()))) ((WV rec ((x.1.2.2.1,x.1.2.2.2.1,aE,(),()),((aE.1,(W 0),(W 0),(W 0),(S ⟨#[]⟩),(S ⟨#[]⟩),(),(),(),()),()))).bind λcl=>Sum.elim (λbO=>(c6 136 a9.1.1 (cD [(bO.2.1.1,bO.2.1.2.1,bO.2.1.2.2.1,bO.2.1.2.2.2.1,bO.2.1.2.2.2.2.1,bO.2.1.2.2.2.2.2.1,L.nil,L.nil,L.nil,())])).bind λp2=>some ((p2,true,()),((),(),()))) (λcc=>some ((L.nil,cc.1.2.1,()),((),(),()))) cl)
def BZ:Nat->U rV->Option (U u3)
 |0=>λ_=>none
 |n+1=>O1 (BZ n)
def WU:U rV->Option (U u3):=BZ px
def akB:aY:=⟨[(0,b_),(1,au),(2,au)],x7⟩
def aG_:aY:=⟨[],z'⟩
def xy (x:U akB):Option (U aG_):=(a1 x.2.1.2.2.2.2.2.1 (x.1.2.1).1).bind λaE=>(a1 x.2.1.2.2.2.2.2.2.1 (x.1.2.1).1).bind λaP=>(WU ((x.2.1.2.2.1,x.1.2.2.1,aE.1,aP.1,L.nil,()),((),()))).bind λaK=>(c6 136 x.2.2.1 aK.1.1).bind λjj=>some ((),(x.2.1,(),jj,()))
def ak3:=aJ [(0,aC c7),(1,aZ)]
def aIX:=aJ [(0,.agg jb),(1,bA)]
def Hp:aY:=⟨[(0,aC c7),(1,aZ),(4,b_),(6,au)],[.box [au,au]]⟩
def aIU:bG:=[((.exit 0),⟨[],[.box [au,au]]⟩),(.ret,⟨[(5,bA)],[.box [au,au]]⟩)]
def Pa (x:U Hp):Option (U Hp⊕bo aIU):=cond (bg x.1.2.2.2.1 (bf x.1.1)) ((a1 x.1.1 (x.1.2.2.2.1).1).bind λaE=>cond (cz aE.1 x.1.2.1) ((a1 x.1.1 (x.1.2.2.2.1).1).bind λaP=>some (.inr (.inr ((true,()),((aP.2.1,aP.2.2.1,()),()))))) (some (.inl ((x.1.1,x.1.2.1,(),(bc x.1.2.2.2.1 (W 1)),()),(x.2.1,()))))) (some (.inr (.inl ((),(x.2.1,())))))
def O' (x:U ak3):Option (U aIX):=(a2 Pa ((x.1.1,x.1.2.1,(),(W 0),()),(((W 0),(W 0),()),()))).bind λaK=>Sum.elim (λaS=>some ((((W 0),(W 0),()),false,()),())) (λa9=>some (((a9.2.1.1,a9.2.1.2.1,()),a9.1.1,()),())) aK
def akD:aY:=⟨[(0,b_),(1,au),(2,aZ)],x7⟩
def aG':aY:=⟨[(0,au)],z'⟩
def wi (x:U akD):Option (U aG'):=(a1 x.2.1.2.2.2.2.2.2.1 (x.1.2.1).1).bind λaE=>(a1 x.2.1.2.2.2.2.2.1 (x.1.2.1).1).bind λaP=>(uZ ((aP.1,x.1.2.2.1,()),())).bind λaK=>(a1 aE.1 (aK.1.1).1).bind λcR=>some ((cR.1,()),(x.2.1,(),x.2.2.1,()))
def aku:aY:=⟨[(0,b_),(1,au),(2,au)],x7⟩
def aGZ:aY:=⟨[(0,au),(1,bA)],z'⟩
def Ha (x:U aku):Option (U aGZ):=(a1 x.2.1.2.2.1 (x.1.2.2.1).1).bind λaE=>(a1 x.2.1.2.2.2.2.1 (x.1.2.1).1).bind λaP=>(O' ((aP.2.1,aE.2.1,()),())).bind λaK=>cond (!bb aE.1 (W 0)) (some (((W (-1)),false,()),(x.2.1,(),x.2.2.1,()))) (cond (!aK.1.2.1) (some (((W (-1)),false,()),(x.2.1,(),x.2.2.1,()))) (cond (!bb aK.1.1.1 (W 5)) (some (((W (-1)),false,()),(x.2.1,(),x.2.2.1,()))) ((wi (((),x.1.2.1,aE.2.1,()),(x.2.1,x.2.2.1,()))).bind λaS=>some ((aS.1.1,true,()),(aS.2.1,(),aS.2.2.2.1,())))))
def akx:aY:=⟨[(0,b_),(1,au),(2,aC bp)],x7⟩
def aG4:aY:=⟨[(0,aC bp)],z'⟩
def Hb:aY:=⟨[(0,b_),(1,au),(2,aC bp),(7,.tok bp 2 []),(8,au)],[.box [aZ,aC gI,aC eu,aC cU,aC fT,aC [.a4 ck],aC [.a4 bp],aC [.a4 bp],.arr 1 eI lP],.arr eI lP,.bC bp]⟩
def aG1:bG:=[((.exit 0),⟨[(7,.tok bp 3 [])],[.box [aZ,aC gI,aC eu,aC cU,aC fT,aC [.a4 ck],aC [.a4 bp],aC [.a4 bp],.arr 4 eI lP],.gone,.gone,.bC bp,.arr eI lP]⟩)]
def OK (x:U Hb):Option (U Hb⊕bo aG1):=cond (bg x.1.2.2.2.2.1 (bf x.1.2.2.1)) ((a1 x.1.2.2.1 (x.1.2.2.2.2.1).1).bind λaE=>(Ha (((),x.1.2.1,aE.1,()),(x.2.1,x.2.2.1,()))).bind λaB=>cond (!aB.1.2.1) ((a1 x.1.2.2.1 (x.1.2.2.2.2.1).1).bind λbS=>(xy (((),x.1.2.1,bS.1,()),(aB.2.1,aB.2.2.2.1,()))).bind λaS=>(c6 8 x.1.2.2.2.1 (cD [(aB.1.1,())])).bind λgV=>some (.inl (((),x.1.2.1,x.1.2.2.1,gV,(bc x.1.2.2.2.2.1 (W 1)),()),(aS.2.1,aS.2.2.2.1,(),())))) ((c6 8 x.1.2.2.2.1 (cD [(aB.1.1,())])).bind λiB=>some (.inl (((),x.1.2.1,x.1.2.2.1,iB,(bc x.1.2.2.2.2.1 (W 1)),()),(aB.2.1,aB.2.2.2.1,(),()))))) (some (.inr ((x.1.2.2.2.1,()),(x.2.1,(),(),(),x.2.2.1,()))))
def BM (x:U akx):Option (U aG4):=(a2 OK (((),x.1.2.1,x.1.2.2.1,L.nil,(W 0),()),(x.2.1,x.2.2.1,(),()))).bind λbK=>some ((bK.1.1,()),(bK.2.1,(),bK.2.2.2.2.2.1,()))
def aks:aY:=⟨[(0,b_),(1,au)],x7⟩
def aGX:aY:=⟨[(0,.sJ eI lP)],z'⟩
def G':aY:=⟨[(0,b_),(1,au),(5,.cJ cU 0),(9,.ptr 2 0),(10,au)],[.box [aZ,aC gI,aC eu,aC cU,aC fT,aC [.a4 ck],aC [.a4 bp],aC [.a4 bp],.arr 1 eI lP],.arr eI lP,.box [au,au,au,au,aZ,aZ,.dm,.dm,.tok fR 3 []],.bC fR]⟩
def aGU:bG:=[((.exit 1),⟨[],[.box [aZ,aC gI,aC eu,aC cU,aC fT,aC [.a4 ck],aC [.a4 bp],aC [.a4 bp],.arr 4 eI lP],.gone,.box [au,au,au,au,aZ,aZ,.dm,.dm,.tok fR 5 []],.gone,.arr eI lP,.bC fR]⟩)]
def OJ (x:U G'):Option (U G'⊕bo aGU):=cond (bg x.1.2.2.2.2.1 (bf x.1.2.2.1.2.2.2.2.2.2.2.1)) ((a1 x.1.2.2.1.2.2.2.2.2.2.2.1 (x.1.2.2.2.2.1).1).bind λk1=>(a1 x.1.2.2.1.2.2.2.2.2.2.2.1 (x.1.2.2.2.2.1).1).bind λk2=>(a1 x.1.2.2.1.2.2.2.2.2.2.2.1 (x.1.2.2.2.2.1).1).bind λoh=>(BM (((),x.1.2.1,oh.2.2.1,()),(x.2.1,x.2.2.1,()))).bind λfM=>(c6 56 x.2.2.2.1.2.2.2.2.2.2.2.2.1 (cD [(k1.1,k2.2.1,fM.1.1,())])).bind λxf=>some (.inl (((),x.1.2.1,x.1.2.2.1,(),(bc x.1.2.2.2.2.1 (W 1)),()),(fM.2.1,fM.2.2.2.1,(x.2.2.2.1.1,x.2.2.2.1.2.1,x.2.2.2.1.2.2.1,x.2.2.2.1.2.2.2.1,x.2.2.2.1.2.2.2.2.1,x.2.2.2.1.2.2.2.2.2.1,(),(),xf,()),(),())))) (some (.inr ((),(x.2.1,(),x.2.2.2.1,(),x.2.2.1,(),()))))
def OI (x:U aks):Option (U aGX):=(a1 x.2.1.2.2.2.1 (x.1.2.1).1).bind λaE=>cond (bb aE.1 (W 0)) (some ((((W 20),(W 0),(W 0),(W 0),(S ⟨#[]⟩),(S ⟨#[]⟩),L.nil,L.nil,L.nil,()),()),(x.2.1,(),x.2.2.1,()))) (cond (bb aE.1 (W 10)) (some ((((W 30),(W 0),(W 0),(W 0),(S ⟨#[]⟩),(S ⟨#[]⟩),L.nil,L.nil,L.nil,()),()),(x.2.1,(),x.2.2.1,()))) (cond (bb aE.1 (W 1)) ((xy (((),x.1.2.1,aE.2.2.2.2.2.1,()),(x.2.1,x.2.2.1,()))).bind λaB=>(a1 aB.2.1.2.2.2.2.2.2.2.1 (x.1.2.1).1).bind λbS=>(a1 bS.1 ((W 0)).1).bind λcR=>some ((((W 21),cR.1,(W 0),(W 0),(S ⟨#[]⟩),(S ⟨#[]⟩),L.nil,L.nil,L.nil,()),()),(aB.2.1,(),aB.2.2.2.1,()))) (cond (bb aE.1 (W 2)) ((xy (((),x.1.2.1,aE.2.2.2.2.2.1,()),(x.2.1,x.2.2.1,()))).bind λa9=>some ((((W 22),(W 0),(W 0),(W 0),(S ⟨#[]⟩),(S ⟨#[]⟩),L.nil,L.nil,L.nil,()),()),(a9.2.1,(),a9.2.2.2.1,()))) (cond (bb aE.1 (W 3)) ((xy (((),x.1.2.1,aE.2.2.2.2.2.1,()),(x.2.1,x.2.2.1,()))).bind λbJ=>some ((((W 23),(W 0),(W 0),(W 0),(S ⟨#[]⟩),(S ⟨#[]⟩),L.nil,L.nil,L.nil,()),()),(bJ.2.1,(),bJ.2.2.2.1,()))) (cond (bb aE.1 (W 4)) (cond (!bb aE.2.2.2.2.2.1 (W (-1))) ((Ha (((),x.1.2.1,aE.2.2.2.2.2.1,()),(x.2.1,x.2.2.1,()))).bind λbK=>cond (!bK.1.2.1) ((xy (((),x.1.2.1,aE.2.2.2.2.2.1,()),(bK.2.1,bK.2.2.2.1,()))).bind λcl=>(wi (((),x.1.2.1,aE.2.1,()),(cl.2.1,cl.2.2.2.1,()))).bind λbO=>some ((((W 24),bO.1.1,(W (-2)),(W 0),aE.2.2.1,aE.2.2.2.1,L.nil,L.nil,L.nil,()),()),(bO.2.1,(),bO.2.2.2.1,()))) ((wi (((),x.1.2.1,aE.2.1,()),(bK.2.1,bK.2.2.2.1,()))).bind λcc=>some ((((W 24),cc.1.1,bK.1.1,(W 0),aE.2.2.1,aE.2.2.2.1,L.nil,L.nil,L.nil,()),()),(cc.2.1,(),cc.2.2.2.1,())))) ((wi (((),x.1.2.1,aE.2.1,()),(x.2.1,x.2.2.1,()))).bind λbT=>some ((((W 24),bT.1.1,(W (-1)),(W 0),aE.2.2.1,aE.2.2.2.1,L.nil,L.nil,L.nil,()),()),(bT.2.1,(),bT.2.2.2.1,())))) (cond (bb aE.1 (W 5)) ((wi (((),x.1.2.1,aE.2.1,()),(x.2.1,x.2.2.1,()))).bind λcL=>some ((((W 25),cL.1.1,(W 0),(W 0),aE.2.2.1,(S ⟨#[]⟩),L.nil,L.nil,L.nil,()),()),(cL.2.1,(),cL.2.2.2.1,()))) (cond (bb aE.1 (W 6)) ((BM (((),x.1.2.1,aE.2.2.2.2.2.2.1,()),(x.2.1,x.2.2.1,()))).bind λcy=>some ((((W 26),(W 0),(W 0),(W 0),aE.2.2.2.2.1,(S ⟨#[]⟩),cy.1.1,L.nil,L.nil,()),()),(cy.2.1,(),cy.2.2.2.1,()))) (cond (bb aE.1 (W 7)) ((BM (((),x.1.2.1,aE.2.2.2.2.2.2.1,()),(x.2.1,x.2.2.1,()))).bind λdX=>some ((((W 27),(W 0),(W 0),(W 0),aE.2.2.2.2.1,(S ⟨#[]⟩),dX.1.1,L.nil,L.nil,()),()),(dX.2.1,(),dX.2.2.2.1,()))) (cond (bb aE.1 (W 8)) ((a1 x.2.1.2.2.2.2.2.2.2.1 (x.1.2.1).1).bind λjY=>(a1 jY.1 ((W 0)).1).bind λhY=>(a2 OJ (((),x.1.2.1,aE,(),(W 0),()),(x.2.1,x.2.2.1,((W 28),hY.1,(W 0),(W 0),aE.2.2.2.1,aE.2.2.1,(),(),L.nil,()),(),()))).bind λfa=>some (((fa.2.2.2.1.1,fa.2.2.2.1.2.1,fa.2.2.2.1.2.2.1,fa.2.2.2.1.2.2.2.1,fa.2.2.2.1.2.2.2.2.1,fa.2.2.2.1.2.2.2.2.2.1,L.nil,L.nil,fa.2.2.2.1.2.2.2.2.2.2.2.2.1,()),()),(fa.2.1,(),fa.2.2.2.2.2.1,()))) ((wi (((),x.1.2.1,aE.2.1,()),(x.2.1,x.2.2.1,()))).bind λlD=>some ((((W 29),lD.1.1,(W 0),(W 0),(S ⟨#[]⟩),(S ⟨#[]⟩),L.nil,L.nil,L.nil,()),()),(lD.2.1,(),lD.2.2.2.1,()))))))))))))
def u2:aY:=⟨[(0,b_),(1,au)],x7⟩
def BN:aY:=⟨[],z'⟩
def WD:aY:=⟨[(0,b_),(1,au),(4,.ptr 2 0),(6,au),(7,aC bp),(8,au)],[.box [aZ,aC gI,aC eu,aC cU,aC fT,aC [.a4 ck],aC [.a4 bp],aC [.a4 bp],.arr 1 eI lP],.arr eI lP,.box [au,aZ,aZ,aZ,aZ,au,aC bp,aC fR,aC m0,au]]⟩
def akz:bG:=[((.exit 0),⟨[],[.box [aZ,aC gI,aC eu,aC cU,aC fT,aC [.a4 ck],aC [.a4 bp],aC [.a4 bp],.arr 3 eI lP],.gone,.box [au,aZ,aZ,aZ,aZ,au,aC bp,aC fR,aC m0,au],.arr eI lP]⟩)]
def OM (rec:U u2->Option (U BN))(x:U WD):Option (U WD⊕bo akz):=cond (bg x.1.2.2.2.2.2.1 (bf x.1.2.2.2.2.1)) (cond (bb x.2.2.2.1.1 (W 5)) (cond (decide (0<=(x.1.2.2.2.1).1)&&decide ((x.1.2.2.2.1).1<(x.2.2.1.1.length:Nat))) ((fq x.2.2.1 ((x.1.2.2.2.1).1).toNat).bind λdO=>(a1 x.2.2.2.1.2.2.2.2.2.2.2.2.1 (x.1.2.2.2.2.2.1).1).bind λdb=>(a1 x.2.1.2.2.2.2.2.2.2.1 (x.1.2.1).1).bind λfm=>(a1 fm.1 (x.1.2.2.2.2.2.1).1).bind λdD=>(c6 32 dO.2.2.2.2.2.2.2.1 (cD [(db.1,dD.1,(W (x.2.2.1.1.length:Nat)),())])).bind λj2=>cond (decide (0<=(x.1.2.2.2.1).1)&&decide ((x.1.2.2.2.1).1<(x.2.2.1.1.length:Nat))) ((fq x.2.2.1 ((x.1.2.2.2.1).1).toNat).bind λd_=>cond (decide (((x.1.2.2.2.1).1).toNat=((x.1.2.2.2.1).1).toNat)) (cond (bb x.2.2.2.1.1 (W 3)) (cond (bb x.1.2.2.2.2.2.1 (W 1)) (cond (decide (0<=(x.1.2.2.2.1).1)&&decide ((x.1.2.2.2.1).1<(x.2.2.1.1.length:Nat))) ((fq (ej x.2.2.1 ((x.1.2.2.2.1).1).toNat (d_.1,d_.2.1,d_.2.2.1,d_.2.2.2.1,d_.2.2.2.2.1,d_.2.2.2.2.2.1,d_.2.2.2.2.2.2.1,j2,d_.2.2.2.2.2.2.2.2.1,())) ((x.1.2.2.2.1).1).toNat).bind λgw=>(a1 x.1.2.2.2.2.1 (x.1.2.2.2.2.2.1).1).bind λiA=>(rec (((),iA.1,()),(x.2.1,(ej (ej x.2.2.1 ((x.1.2.2.2.1).1).toNat (d_.1,d_.2.1,d_.2.2.1,d_.2.2.2.1,d_.2.2.2.2.1,d_.2.2.2.2.2.1,d_.2.2.2.2.2.2.1,j2,d_.2.2.2.2.2.2.2.2.1,())) ((x.1.2.2.2.1).1).toNat (gw.1,(W (x.2.2.1.1.length:Nat)),gw.2.2.1,gw.2.2.2.1,gw.2.2.2.2.1,gw.2.2.2.2.2.1,gw.2.2.2.2.2.2.1,gw.2.2.2.2.2.2.2.1,gw.2.2.2.2.2.2.2.2.1,())),()))).bind λcy=>some (.inl (((),x.1.2.1,(),x.1.2.2.2.1,x.1.2.2.2.2.1,(bc x.1.2.2.2.2.2.1 (W 1)),()),(cy.2.1,cy.2.2.2.1,x.2.2.2.1,())))) (none)) ((a1 x.1.2.2.2.2.1 (x.1.2.2.2.2.2.1).1).bind λiu=>(rec (((),iu.1,()),(x.2.1,(ej x.2.2.1 ((x.1.2.2.2.1).1).toNat (d_.1,d_.2.1,d_.2.2.1,d_.2.2.2.1,d_.2.2.2.2.1,d_.2.2.2.2.2.1,d_.2.2.2.2.2.2.1,j2,d_.2.2.2.2.2.2.2.2.1,())),()))).bind λdy=>some (.inl (((),x.1.2.1,(),x.1.2.2.2.1,x.1.2.2.2.2.1,(bc x.1.2.2.2.2.2.1 (W 1)),()),(dy.2.1,dy.2.2.2.1,x.2.2.2.1,()))))) ((a1 x.1.2.2.2.2.1 (x.1.2.2.2.2.2.1).1).bind λhY=>(rec (((),hY.1,()),(x.2.1,(ej x.2.2.1 ((x.1.2.2.2.1).1).toNat (d_.1,d_.2.1,d_.2.2.1,d_.2.2.2.1,d_.2.2.2.2.1,d_.2.2.2.2.2.1,d_.2.2.2.2.2.2.1,j2,d_.2.2.2.2.2.2.2.2.1,())),()))).bind λeO=>some (.inl (((),x.1.2.1,(),x.1.2.2.2.1,x.1.2.2.2.2.1,(bc x.1.2.2.2.2.2.1 (W 1)),()),(eO.2.1,eO.2.2.2.1,x.2.2.2.1,()))))) (none)) (none)) (none)) (cond (bb x.2.2.2.1.1 (W 3)) (cond (bb x.1.2.2.2.2.2.1 (W 1)) (cond (decide (0<=(x.1.2.2.2.1).1)&&decide ((x.1.2.2.2.1).1<(x.2.2.1.1.length:Nat))) ((fq x.2.2.1 ((x.1.2.2.2.1).1).toNat).bind λk2=>(a1 x.1.2.2.2.2.1 (x.1.2.2.2.2.2.1).1).bind λoh=>(rec (((),oh.1,()),(x.2.1,(ej x.2.2.1 ((x.1.2.2.2.1).1).toNat (k2.1,(W (x.2.2.1.1.length:Nat)),k2.2.2.1,k2.2.2.2.1,k2.2.2.2.2.1,k2.2.2.2.2.2.1,k2.2.2.2.2.2.2.1,k2.2.2.2.2.2.2.2.1,k2.2.2.2.2.2.2.2.2.1,())),()))).bind λfM=>some (.inl (((),x.1.2.1,(),x.1.2.2.2.1,x.1.2.2.2.2.1,(bc x.1.2.2.2.2.2.1 (W 1)),()),(fM.2.1,fM.2.2.2.1,x.2.2.2.1,())))) (none)) ((a1 x.1.2.2.2.2.1 (x.1.2.2.2.2.2.1).1).bind λnv=>(rec (((),nv.1,()),(x.2.1,x.2.2.1,()))).bind λfa=>some (.inl (((),x.1.2.1,(),x.1.2.2.2.1,x.1.2.2.2.2.1,(bc x.1.2.2.2.2.2.1 (W 1)),()),(fa.2.1,fa.2.2.2.1,x.2.2.2.1,()))))) ((a1 x.1.2.2.2.2.1 (x.1.2.2.2.2.2.1).1).bind λm7=>(rec (((),m7.1,()),(x.2.1,x.2.2.1,()))).bind λnn=>some (.inl (((),x.1.2.1,(),x.1.2.2.2.1,x.1.2.2.2.2.1,(bc x.1.2.2.2.2.2.1 (W 1)),()),(nn.2.1,nn.2.2.2.1,x.2.2.2.1,())))))) (some (.inr ((),(x.2.1,(),x.2.2.2.1,x.2.2.1,()))))
def OL (rec:U u2->Option (U BN))(x:U u2):Option (U BN):=(a1 x.2.1.2.2.2.1 (x.1.2.1).1).bind λaE=>(OI (((),x.1.2.1,()),(x.2.1,x.2.2.1,()))).bind λaB=>(c6 136 aB.2.2.2.1 (cD [(aB.1.1.1,aB.1.1.2.1,aB.1.1.2.2.1,aB.1.1.2.2.2.1,aB.1.1.2.2.2.2.1,aB.1.1.2.2.2.2.2.1,aB.1.1.2.2.2.2.2.2.1,L.nil,aB.1.1.2.2.2.2.2.2.2.2.1,())])).bind λcg=>(v8 ((aE,()),())).bind λaS=>(a2 (OM rec) (((),x.1.2.1,(),(gf (W (cg.1.length:Nat)) (W 1)),aS.1.1,(W 0),()),(aB.2.1,cg,(aE.1,aE.2.1,aE.2.2.1,aE.2.2.2.1,aE.2.2.2.2.1,aE.2.2.2.2.2.1,aE.2.2.2.2.2.2.1,aE.2.2.2.2.2.2.2.1,aE.2.2.2.2.2.2.2.2.1,aE.2.2.2.2.2.2.2.2.2.1,()),()))).bind λki=>some ((),(ki.2.1,(),ki.2.2.2.2.1,()))
def xx:Nat->U u2->Option (U BN)
 |0=>λ_=>none
 |n+1=>OL (xx n)
def WB:U u2->Option (U BN):=xx px
def ajy:=aJ [(0,.agg hP)]
def aE5:=aJ [(0,.agg jD),(1,au)]
def GS:aY:=⟨[(1,.cJ hP 0),(6,b_),(7,au)],[.box [.tok du 1 [],.dm,.dm],.bC du]⟩
def aET:bG:=[((.exit 0),⟨[],[.box [.tok du 2 [],.dm,.dm],.gone,.bC du]⟩)]
def Ol (x:U GS):Option (U GS⊕bo aET):=cond (bg x.1.2.2.1 (bf x.1.1.1)) ((a1 x.1.1.1 (x.1.2.2.1).1).bind λaP=>(MV ((aP,()),())).bind λaK=>(c6 64 x.2.1.1 (cD [aK.1.1])).bind λjj=>some (.inl ((x.1.1,(),(bc x.1.2.2.1 (W 1)),()),((jj,(),(),()),(),())))) (some (.inr ((),(x.2.1,(),(),()))))
def GU:aY:=⟨[(1,.cJ hP 0),(6,b_),(8,au)],[.box [.tok du 1 [],.tok dZ 2 [],.dm],.bC du,.bC dZ]⟩
def aEW:bG:=[((.exit 2),⟨[],[.box [.tok du 3 [],.tok dZ 4 [],.dm],.gone,.gone,.bC du,.bC dZ]⟩)]
def Om (x:U GU):Option (U GU⊕bo aEW):=cond (bg x.1.2.2.1 (bf x.1.1.2.1)) ((a1 x.1.1.2.1 (x.1.2.2.1).1).bind λdb=>(MT ((db,()),())).bind λbK=>(c6 40 x.2.1.2.1 (cD [bK.1.1])).bind λjK=>some (.inl ((x.1.1,(),(bc x.1.2.2.1 (W 1)),()),((x.2.1.1,jK,(),()),(),(),())))) (some (.inr ((),(x.2.1,(),(),(),(),()))))
def Wb:aY:=⟨[(13,au),(15,b_)],x7⟩
def ajx:bG:=[(.normal,⟨[(109,bA)],[.box [aZ,aC gI,aC eu,aC cU,aC fT,aC [.a4 ck],aC [.a4 bp],aC [.a4 bp],aC eI],.gone]⟩)]
def Wa (x:U Wb):Option (bo ajx):=cond (bg (W 40) x.1.1) (some ((true,()),((x.2.1.1,x.2.1.2.1,x.2.1.2.2.1,x.2.1.2.2.2.1,x.2.1.2.2.2.2.1,x.2.1.2.2.2.2.2.1,x.2.1.2.2.2.2.2.2.1,x.2.1.2.2.2.2.2.2.2.1,x.2.2.1,()),(),()))) (some (((bg (W 800) (W (x.2.2.1.1.length:Nat))),()),((x.2.1.1,x.2.1.2.1,x.2.1.2.2.1,x.2.1.2.2.2.1,x.2.1.2.2.2.2.1,x.2.1.2.2.2.2.2.1,x.2.1.2.2.2.2.2.2.1,x.2.1.2.2.2.2.2.2.2.1,x.2.2.1,()),(),())))
def V':aY:=⟨[(2,b_),(13,au),(15,.ptr 1 0)],[.box [.dm,.dm,.dm],.box [aZ,aC gI,aC eu,aC cU,aC fT,aC [.a4 ck],aC [.a4 bp],aC [.a4 bp],.arr 2 eI lP],.arr eI lP]⟩
def ajw:bG:=[(.normal,⟨[],[.box [.dm,.dm,.dm],.box [aZ,aC gI,aC eu,aC cU,aC fT,aC [.a4 ck],aC [.a4 bp],aC [.a4 bp],aC eI],.gone]⟩),(.ret,⟨[(3,au)],[.box [.dm,.dm,.dm],.box [aZ,aC gI,aC eu,aC cU,aC fT,aC [.a4 ck],aC [.a4 bp],aC [.a4 bp],aC eI],.gone]⟩)]
def V_ (x:U V'):Option (bo ajw):=(Wa ((x.1.2.1,(),()),((x.2.2.1.1,x.2.2.1.2.1,x.2.2.1.2.2.1,x.2.2.1.2.2.2.1,x.2.2.1.2.2.2.2.1,x.2.2.1.2.2.2.2.2.1,x.2.2.1.2.2.2.2.2.2.1,x.2.2.1.2.2.2.2.2.2.2.1,(),()),x.2.2.2.1,()))).bind λeD=>cond (eD.1.1) (some (.inr (((W 3201),()),(((),(),(),()),eD.2.1,(),())))) (some (.inl ((),(((),(),(),()),eD.2.1,(),()))))
def GW:aY:=⟨[(10,.cJ fx 0),(16,b_),(17,au)],[.box [aZ,.tok g4 1 [],au,aC eI],.bC g4]⟩
def aE2:bG:=[((.exit 6),⟨[],[.box [aZ,.tok g4 2 [],au,aC eI],.gone,.bC g4]⟩)]
def Oo (x:U GW):Option (U GW⊕bo aE2):=cond (bg x.1.2.2.1 (bf x.1.1.2.1)) ((a1 x.1.1.2.1 (x.1.2.2.1).1).bind λqq=>(c6 24 x.2.1.2.1 (cD [(qq.2.1,qq.2.2.1,())])).bind λxf=>some (.inl ((x.1.1,(),(bc x.1.2.2.1 (W 1)),()),((x.2.1.1,xf,x.2.1.2.2.1,x.2.1.2.2.2.1,()),(),())))) (some (.inr ((),(x.2.1,(),(),()))))
def GV:aY:=⟨[(1,.cJ hP 0),(2,b_),(4,aC [.a4 fT]),(6,.ptr 1 0),(9,au)],[.box [.dm,.dm,.dm],.box [.tok du 2 [],.tok dZ 3 [],.tok iP 4 []],.bC du,.bC dZ,.bC iP]⟩
def aEZ:bG:=[((.exit 4),⟨[],[.box [.dm,.dm,.dm],.box [.tok du 5 [],.tok dZ 6 [],.tok iP 7 []],.gone,.gone,.gone,.bC du,.bC dZ,.bC iP]⟩),(.ret,⟨[(3,au)],[.box [.dm,.dm,.dm],.box [.tok du 5 [],.tok dZ 6 [],.tok iP 7 []],.gone,.gone,.gone,.bC du,.bC dZ,.bC iP]⟩)]
def On (x:U GV):Option (U GV⊕bo aEZ):=cond (bg x.1.2.2.2.2.1 (bf x.1.1.2.2.1)) ((a1 x.1.1.2.2.1 (x.1.2.2.2.2.1).1).bind λd_=>(a1 x.1.2.2.1 (x.1.2.2.2.2.1).1).bind λgw=>(ON ((d_,gw.1,()),())).bind λcL=>(O2 ((d_,cL.1.1,()),())).bind λcy=>(a1 x.1.2.2.1 (x.1.2.2.2.2.1).1).bind λiu=>(WB (((),(W 0),()),((d_.1,d_.2.1,d_.2.2.1,d_.2.2.2.1,iu.1,cL.1.1,cy.1.1,cy.1.2.2.1,(),()),L.nil,()))).bind λdy=>(V_ (((),cy.1.2.1,(),()),(((),(),(),()),dy.2.1,dy.2.2.2.1,()))).bind λeO=>Sum.elim (λeY=>(a2 Oo ((d_,(),(W 0),()),((d_.1,L.nil,cy.1.2.1,eY.2.2.1.2.2.2.2.2.2.2.2.1,()),(),()))).bind λfa=>(c6 72 x.2.2.1.2.2.1 (cD [(fa.2.1.1,fa.2.1.2.1,fa.2.1.2.2.1,fa.2.1.2.2.2.1,())])).bind λacL=>some (.inl (((x.1.1.1,x.1.1.2.1,x.1.1.2.2.1,()),(),x.1.2.2.1,(),(bc x.1.2.2.2.2.1 (W 1)),()),(((),(),(),()),(x.2.2.1.1,x.2.2.1.2.1,acL,()),(),(),(),())))) (λfe=>some (.inr (.inr ((fe.1.1,()),(((),(),(),()),(x.2.2.1.1,x.2.2.1.2.1,x.2.2.1.2.2.1,()),(),(),(),(),(),(),()))))) eO) (some (.inr (.inl ((),(((),(),(),()),(x.2.2.1.1,x.2.2.1.2.1,x.2.2.1.2.2.1,()),(),(),(),(),(),(),())))))
def Ok (x:U ajy):Option (U aE5):=(M7 ((x.1.1,()),())).bind λaq=>cond (!bb aq.1.2.1.1 (W 0)) (some (((L.nil,L.nil,L.nil,()),(W 3200),()),())) ((a2 Ol ((x.1.1,(),(W 0),()),((L.nil,(),(),()),(),()))).bind λa9=>(a2 Om ((x.1.1,(),(W 0),()),((a9.2.1.1,L.nil,(),()),(),(),()))).bind λbO=>(a2 On (((x.1.1.1,x.1.1.2.1,x.1.1.2.2.1,()),(),aq.1.1,(),(W 0),()),(((),(),(),()),(bO.2.1.1,bO.2.1.2.1,L.nil,()),(),(),(),()))).bind λnn=>Sum.elim (λki=>some (((ki.2.2.1.1,ki.2.2.1.2.1,ki.2.2.1.2.2.1,()),(W 0),()),())) (λmW=>some (((L.nil,L.nil,L.nil,()),mW.1.1,()),())) nn)
def ajD:=aJ [(0,au)]
def aE_:=aJ [(0,aZ)]
def ajC:=aJ [(0,au),(3,tG)]
def ajB:=[ju [(3,tG)]]
def ajA (x:U ajC):Option (bo ajB):=cond (bg x.1.1 (W 0)) (some (((vM x.1.2.1),()),())) (some ((x.1.2.1,()),()))
def Wc:aY:=⟨[(3,tG),(4,.tok [.int .u8] 0 [])],[.bC [.int .u8]]⟩
def aE9:bG:=[((.exit 0),⟨[(3,tG),(4,.tok [.int .u8] 1 [])],[.gone,.bC [.int .u8]]⟩)]
def Oq (x:U Wc):Option (U Wc⊕bo aE9):=cond (f_ (a_.w .u64 128) x.1.1) ((sE x.1.1 (a_.w .u64 128)).bind λcH=>(c6 1 x.1.2.1 (cD [((bc (ey .u8 cH) (a_.w .u8 128)),())])).bind λjj=>(AO x.1.1 (a_.w .u64 128)).bind λcQ=>some (.inl ((cQ,jj,()),((),())))) (some (.inr ((x.1.1,x.1.2.1,()),((),(),()))))
def u1 (x:U ajD):Option (U aE_):=(y3 (ey .u64 x.1.1) (a_.w .u64 1)).bind λv1=>(ajA ((x.1.1,v1,()),())).bind λaB=>(a2 Oq ((aB.1.1,L.nil,()),((),()))).bind λbJ=>(c6 1 bJ.1.2.1 (cD [((ey .u8 bJ.1.1),())])).bind λiV=>some (((nK iV),()),())
def ajz:=aJ [(0,au)]
def aE7:=aJ [(0,aZ)]
def lY (x:U ajz):Option (U aE7):=(u1 ((x.1.1,()),())).bind λaq=>some ((aq.1.1,()),())
def akg:=aJ [(0,aZ)]
def aGI:=aJ [(0,aZ)]
def pj (x:U akg):Option (U aGI):=(u1 (((kf x.1.1),()),())).bind λaq=>(fE aq.1.1 x.1.1).bind λv2=>some ((v2,()),())
def ak4:=aJ [(0,aC ck)]
def aI3:=aJ [(0,aZ)]
def W0:=aJ [(0,aC ck),(3,aZ),(4,au)]
def aI0:bG:=[((.exit 0),aJ [(3,aZ)])]
def B1 (x:U W0):Option (U W0⊕bo aI0):=cond (bg x.1.2.2.1 (bf x.1.1)) ((a1 x.1.1 (x.1.2.2.1).1).bind λaP=>(pj ((aP.1,()),())).bind λaK=>(fE x.1.2.1 aK.1.1).bind λv4=>some (.inl ((x.1.1,v4,(bc x.1.2.2.1 (W 1)),()),()))) (some (.inr ((x.1.2.1,()),())))
def Pb (x:U ak4):Option (U aI3):=(lY (((bf x.1.1),()),())).bind λaq=>(a2 B1 ((x.1.1,aq.1.1,(W 0),()),())).bind λa9=>some ((a9.1.1,()),())
def akp:=aJ [(0,.agg g4)]
def aGS:=aJ [(0,aZ)]
def G_ (x:U akp):Option (U aGS):=(lY ((x.1.1.1,()),())).bind λaq=>(pj ((x.1.1.2.1,()),())).bind λaB=>(fE aq.1.1 aB.1.1).bind λcH=>some ((cH,()),())
def akk:=aJ [(0,aC dN)]
def aGN:=aJ [(0,aZ)]
def Wz:=aJ [(0,aC dN),(3,aZ),(4,au)]
def aGL:bG:=[((.exit 0),aJ [(3,aZ)])]
def BL (x:U Wz):Option (U Wz⊕bo aGL):=cond (bg x.1.2.2.1 (bf x.1.1)) ((a1 x.1.1 (x.1.2.2.1).1).bind λaP=>(pj ((aP.1,()),())).bind λaK=>(fE x.1.2.1 aK.1.1).bind λv4=>(a1 x.1.1 (x.1.2.2.1).1).bind λdO=>(G_ (((dO.2.1,dO.2.2.1,()),()),())).bind λbJ=>(fE v4 bJ.1.1).bind λdW=>(a1 x.1.1 (x.1.2.2.1).1).bind λdD=>(lY ((dD.2.2.2.1,()),())).bind λbO=>(fE dW bO.1.1).bind λv10=>some (.inl ((x.1.1,v10,(bc x.1.2.2.1 (W 1)),()),()))) (some (.inr ((x.1.2.1,()),())))
def G9 (x:U akk):Option (U aGN):=(lY (((bf x.1.1),()),())).bind λaq=>(a2 BL ((x.1.1,aq.1.1,(W 0),()),())).bind λbT=>some ((bT.1.1,()),())
def akQ:=aJ [(0,.agg du)]
def aId:=aJ [(0,aZ)]
def WT:=aJ [(1,.cJ du 0),(3,aZ),(4,au)]
def aIa:bG:=[((.exit 0),aJ [(3,aZ)])]
def BY (x:U WT):Option (U WT⊕bo aIa):=cond (bg x.1.2.2.1 (bf x.1.1.2.2.1)) ((a1 x.1.1.2.2.1 (x.1.2.2.1).1).bind λdb=>(pj ((db.1,()),())).bind λbK=>(fE x.1.2.1 bK.1.1).bind λdx=>(a1 x.1.1.2.2.1 (x.1.2.2.1).1).bind λeV=>(pj ((eV.2.1,()),())).bind λcc=>(fE dx cc.1.1).bind λv11=>(a1 x.1.1.2.2.1 (x.1.2.2.1).1).bind λiA=>(G9 ((iA.2.2.1,()),())).bind λcy=>(fE v11 cy.1.1).bind λiw=>some (.inl ((x.1.1,iw,(bc x.1.2.2.1 (W 1)),()),()))) (some (.inr ((x.1.2.1,()),())))
def O0 (x:U akQ):Option (U aId):=(pj ((x.1.1.1,()),())).bind λaq=>(Pb ((x.1.1.2.1,()),())).bind λaB=>(fE aq.1.1 aB.1.1).bind λcH=>(lY (((bf x.1.1.2.2.1),()),())).bind λaS=>(fE cH aS.1.1).bind λcQ=>(a2 BY ((x.1.1,cQ,(W 0),()),())).bind λdy=>some ((dy.1.1,()),())
def akM:=aJ [(0,.agg dZ)]
def aHO:=aJ [(0,aZ)]
def WL:=aJ [(1,.cJ dZ 0),(3,aZ),(4,au)]
def aHL:bG:=[((.exit 0),aJ [(3,aZ)])]
def BS (x:U WL):Option (U WL⊕bo aHL):=cond (bg x.1.2.2.1 (bf x.1.1.2.1)) ((a1 x.1.1.2.1 (x.1.2.2.1).1).bind λcR=>(lY ((cR.1,()),())).bind λa9=>(fE x.1.2.1 a9.1.1).bind λv6=>(a1 x.1.1.2.1 (x.1.2.2.1).1).bind λfm=>(pj ((fm.2.1,()),())).bind λcl=>(fE v6 cl.1.1).bind λfi=>(a1 x.1.1.2.1 (x.1.2.2.1).1).bind λd_=>(G9 ((d_.2.2.1,()),())).bind λbT=>(fE fi bT.1.1).bind λeL=>some (.inl ((x.1.1,eL,(bc x.1.2.2.1 (W 1)),()),()))) (some (.inr ((x.1.2.1,()),())))
def OW (x:U akM):Option (U aHO):=(pj ((x.1.1.1,()),())).bind λaq=>(lY (((bf x.1.1.2.1),()),())).bind λaB=>(fE aq.1.1 aB.1.1).bind λcH=>(a2 BS ((x.1.1,cH,(W 0),()),())).bind λcy=>some ((cy.1.1,()),())
def akI:=aJ [(0,aC bp)]
def aHA:=aJ [(0,aZ)]
def WK:=aJ [(0,aC bp),(3,aZ),(4,au)]
def aHx:bG:=[((.exit 0),aJ [(3,aZ)])]
def BR (x:U WK):Option (U WK⊕bo aHx):=cond (bg x.1.2.2.1 (bf x.1.1)) ((a1 x.1.1 (x.1.2.2.1).1).bind λaP=>(lY ((aP.1,()),())).bind λaK=>(fE x.1.2.1 aK.1.1).bind λv4=>some (.inl ((x.1.1,v4,(bc x.1.2.2.1 (W 1)),()),()))) (some (.inr ((x.1.2.1,()),())))
def Hg (x:U akI):Option (U aHA):=(lY (((bf x.1.1),()),())).bind λaq=>(a2 BR ((x.1.1,aq.1.1,(W 0),()),())).bind λa9=>some ((a9.1.1,()),())
def akF:=aJ [(0,.agg eI)]
def aHh:=aJ [(0,aZ)]
def WE:=aJ [(1,.cJ eI 0),(3,aZ),(4,au)]
def aHb:bG:=[((.exit 0),aJ [(3,aZ)])]
def BP (x:U WE):Option (U WE⊕bo aHb):=cond (bg x.1.2.2.1 (bf x.1.1.2.2.2.2.2.2.2.1)) ((a1 x.1.1.2.2.2.2.2.2.2.1 (x.1.2.2.1).1).bind λhY=>(pj ((hY.1,()),())).bind λeO=>(fE x.1.2.1 eO.1.1).bind λIW=>(a1 x.1.1.2.2.2.2.2.2.2.1 (x.1.2.2.1).1).bind λoh=>(lY ((oh.2.1,()),())).bind λfM=>(fE IW fM.1.1).bind λanv=>(a1 x.1.1.2.2.2.2.2.2.2.1 (x.1.2.2.1).1).bind λC7=>(lY ((C7.2.2.1,()),())).bind λlD=>(fE anv lD.1.1).bind λanx=>some (.inl ((x.1.1,anx,(bc x.1.2.2.1 (W 1)),()),()))) (some (.inr ((x.1.2.1,()),())))
def WG:=aJ [(1,.cJ eI 0),(3,aZ),(5,au)]
def aHe:bG:=[((.exit 2),aJ [(3,aZ)])]
def BQ (x:U WG):Option (U WG⊕bo aHe):=cond (bg x.1.2.2.1 (bf x.1.1.2.2.2.2.2.2.2.2.1)) ((a1 x.1.1.2.2.2.2.2.2.2.2.1 (x.1.2.2.1).1).bind λZU=>(pj ((ZU.1,()),())).bind λxI=>(fE x.1.2.1 xI.1.1).bind λv30=>(a1 x.1.1.2.2.2.2.2.2.2.2.1 (x.1.2.2.1).1).bind λC9=>(pj ((C9.2.1,()),())).bind λtU=>(fE v30 tU.1.1).bind λanz=>(a1 x.1.1.2.2.2.2.2.2.2.2.1 (x.1.2.2.1).1).bind λZV=>(Hg ((ZV.2.2.1,()),())).bind λCt=>(fE anz Ct.1.1).bind λanA=>some (.inl ((x.1.1,anA,(bc x.1.2.2.1 (W 1)),()),()))) (some (.inr ((x.1.2.1,()),())))
def OO (x:U akF):Option (U aHh):=(lY ((x.1.1.1,()),())).bind λaq=>(lY ((x.1.1.2.1,()),())).bind λaB=>(fE aq.1.1 aB.1.1).bind λcH=>(lY ((x.1.1.2.2.1,()),())).bind λaS=>(fE cH aS.1.1).bind λcQ=>(u1 ((x.1.1.2.2.2.1,()),())).bind λbJ=>(fE cQ bJ.1.1).bind λdW=>(pj ((x.1.1.2.2.2.2.1,()),())).bind λcl=>(fE dW cl.1.1).bind λfi=>(pj ((x.1.1.2.2.2.2.2.1,()),())).bind λcc=>(fE fi cc.1.1).bind λv11=>(Hg ((x.1.1.2.2.2.2.2.2.1,()),())).bind λcL=>(fE v11 cL.1.1).bind λjQ=>(lY (((bf x.1.1.2.2.2.2.2.2.2.1),()),())).bind λdX=>(fE jQ dX.1.1).bind λu6=>(a2 BP ((x.1.1,u6,(W 0),()),())).bind λki=>(lY (((bf x.1.1.2.2.2.2.2.2.2.2.1),()),())).bind λmW=>(fE ki.1.1 mW.1.1).bind λX8=>(a2 BQ ((x.1.1,X8,(W 0),()),())).bind λI1=>some ((I1.1.1,()),())
def akP:=aJ [(0,.agg iP)]
def aH9:=aJ [(0,aZ)]
def WQ:=aJ [(1,.cJ iP 0),(3,aZ),(4,au)]
def aH3:bG:=[((.exit 0),aJ [(3,aZ)])]
def BW (x:U WQ):Option (U WQ⊕bo aH3):=cond (bg x.1.2.2.1 (bf x.1.1.2.1)) ((a1 x.1.1.2.1 (x.1.2.2.1).1).bind λcR=>(G_ ((cR,()),())).bind λa9=>(fE x.1.2.1 a9.1.1).bind λv6=>some (.inl ((x.1.1,v6,(bc x.1.2.2.1 (W 1)),()),()))) (some (.inr ((x.1.2.1,()),())))
def WR:=aJ [(1,.cJ iP 0),(3,aZ),(5,au)]
def aH6:bG:=[((.exit 2),aJ [(3,aZ)])]
def BX (x:U WR):Option (U WR⊕bo aH6):=cond (bg x.1.2.2.1 (bf x.1.1.2.2.2.1)) ((a1 x.1.1.2.2.2.1 (x.1.2.2.1).1).bind λiA=>(OO ((iA,()),())).bind λcy=>(fE x.1.2.1 cy.1.1).bind λiw=>some (.inl ((x.1.1,iw,(bc x.1.2.2.1 (W 1)),()),()))) (some (.inr ((x.1.2.1,()),())))
def OZ (x:U akP):Option (U aH9):=(pj ((x.1.1.1,()),())).bind λaq=>(lY (((bf x.1.1.2.1),()),())).bind λaB=>(fE aq.1.1 aB.1.1).bind λcH=>(a2 BW ((x.1.1,cH,(W 0),()),())).bind λbK=>(lY ((x.1.1.2.2.1,()),())).bind λcl=>(fE bK.1.1 cl.1.1).bind λfi=>(lY (((bf x.1.1.2.2.2.1),()),())).bind λcc=>(fE fi cc.1.1).bind λv11=>(a2 BX ((x.1.1,v11,(W 0),()),())).bind λdy=>some ((dy.1.1,()),())
def akO:=aJ [(0,.agg jD)]
def aH0:=aJ [(0,aZ)]
def WM:=aJ [(1,.cJ jD 0),(3,aZ),(4,au)]
def aHR:bG:=[((.exit 0),aJ [(3,aZ)])]
def BT (x:U WM):Option (U WM⊕bo aHR):=cond (bg x.1.2.2.1 (bf x.1.1.1)) ((a1 x.1.1.1 (x.1.2.2.1).1).bind λaP=>(O0 ((aP,()),())).bind λaK=>(fE x.1.2.1 aK.1.1).bind λv4=>some (.inl ((x.1.1,v4,(bc x.1.2.2.1 (W 1)),()),()))) (some (.inr ((x.1.2.1,()),())))
def WN:=aJ [(1,.cJ jD 0),(3,aZ),(5,au)]
def aHU:bG:=[((.exit 2),aJ [(3,aZ)])]
def BU (x:U WN):Option (U WN⊕bo aHU):=cond (bg x.1.2.2.1 (bf x.1.1.2.1)) ((a1 x.1.1.2.1 (x.1.2.2.1).1).bind λdD=>(OW ((dD,()),())).bind λbO=>(fE x.1.2.1 bO.1.1).bind λv10=>some (.inl ((x.1.1,v10,(bc x.1.2.2.1 (W 1)),()),()))) (some (.inr ((x.1.2.1,()),())))
def WO:=aJ [(1,.cJ jD 0),(3,aZ),(6,au)]
def aHX:bG:=[((.exit 4),aJ [(3,aZ)])]
def BV (x:U WO):Option (U WO⊕bo aHX):=cond (bg x.1.2.2.1 (bf x.1.1.2.2.1)) ((a1 x.1.1.2.2.1 (x.1.2.2.1).1).bind λiu=>(OZ ((iu,()),())).bind λdy=>(fE x.1.2.1 dy.1.1).bind λml=>some (.inl ((x.1.1,ml,(bc x.1.2.2.1 (W 1)),()),()))) (some (.inr ((x.1.2.1,()),())))
def OX (x:U akO):Option (U aH0):=(lY (((bf x.1.1.1),()),())).bind λaq=>(a2 BT ((x.1.1,aq.1.1,(W 0),()),())).bind λa9=>(lY (((bf x.1.1.2.1),()),())).bind λbJ=>(fE a9.1.1 bJ.1.1).bind λdW=>(a2 BU ((x.1.1,dW,(W 0),()),())).bind λbT=>(lY (((bf x.1.1.2.2.1),()),())).bind λcL=>(fE bT.1.1 cL.1.1).bind λjQ=>(a2 BV ((x.1.1,jQ,(W 0),()),())).bind λeO=>some ((eO.1.1,()),())
def akd:=aJ [(0,aZ)]
def aGH:=aJ [(0,.leaf (.int .u32))]
def Wy:=aJ [(0,aZ),(3,.leaf (.int .u32)),(4,au)]
def akc:bG:=[((.exit 0),aJ [(3,.leaf (.int .u32))])]
def OG (x:U Wy):Option (U Wy⊕bo akc):=cond (bg x.1.2.2.1 (kf x.1.1)) ((sF x.1.1 (x.1.2.2.1).1).bind λv1=>some (.inl ((x.1.1,(sC (rb x.1.2.1 (ey .u32 v1)) (a_.w .u32 16777619)),(bc x.1.2.2.1 (W 1)),()),()))) (some (.inr ((x.1.2.1,()),())))
def G6 (x:U akd):Option (U aGH):=(a2 OG ((x.1.1,(a_.w .u32 2166136261),(W 0),()),())).bind λaB=>some ((aB.1.1,()),())
def aj':=aJ [(0,aZ)]
def aGF:=aJ [(0,aZ)]
def G7 (x:U aj'):Option (U aGF):=(G6 ((x.1.1,()),())).bind λaq=>(ra aq.1.1 (a_.w .u64 24)).bind λv2=>(ra aq.1.1 (a_.w .u64 16)).bind λcH=>(ra aq.1.1 (a_.w .u64 8)).bind λv4=>some (((nK (cD [((ey .u8 v2),()),((ey .u8 cH),()),((ey .u8 v4),()),((ey .u8 aq.1.1),())])),()),())
def akh:=aJ [(0,.agg jD)]
def aGJ:=aJ [(0,aZ),(1,au)]
def G8 (x:U akh):Option (U aGJ):=(OX ((x.1.1,()),())).bind λaq=>(fE (S ⟨#[82,80,84,49]⟩) aq.1.1).bind λv2=>(G7 ((v2,()),())).bind λaK=>(fE v2 aK.1.1).bind λv4=>cond (bg (W 65536) (kf v4)) (some (((S ⟨#[]⟩),(W 3300),()),())) (some ((v4,(W 0),()),()))
def aIJ:=aJ [(0,.agg dZ),(1,.agg dZ)]
def aIL:=aJ [(0,bA)]
def O9 (x:U aIJ):Option (U aIL):=cond (cz x.1.1.1 x.1.2.1.1) ((PB ((x.1.1.2.1,x.1.2.1.2.1,()),())).bind λaq=>some ((aq.1.1,()),())) (some ((false,()),()))
def aGp:=aJ [(0,.agg eI),(1,.agg eI)]
def aGr:=aJ [(0,bA)]
def Ws:=aJ [(2,.cJ eI 0),(3,.cJ eI 0),(5,au)]
def aGl:bG:=[((.exit 0),aJ []),fK [(4,bA)]]
def BG (x:U Ws):Option (U Ws⊕bo aGl):=cond (bg x.1.2.2.1 (bf x.1.1.2.2.2.2.2.2.2.1)) ((a1 x.1.1.2.2.2.2.2.2.2.1 (x.1.2.2.1).1).bind λaP=>(a1 x.1.2.1.2.2.2.2.2.2.2.1 (x.1.2.2.1).1).bind λbS=>cond (!((cz aP.1 bS.1)&&((bb aP.2.1 bS.2.1)&&((bb aP.2.2.1 bS.2.2.1)&&true)))) (some (.inr (.inr ((false,()),())))) (some (.inl ((x.1.1,x.1.2.1,(bc x.1.2.2.1 (W 1)),()),())))) (some (.inr (.inl ((),()))))
def Wt:=aJ [(2,.cJ eI 0),(3,.cJ eI 0),(6,au)]
def aGo:bG:=[((.exit 2),aJ []),fK [(4,bA)]]
def BH (x:U Wt):Option (U Wt⊕bo aGo):=cond (bg x.1.2.2.1 (bf x.1.1.2.2.2.2.2.2.2.2.1)) ((a1 x.1.1.2.2.2.2.2.2.2.2.1 (x.1.2.2.1).1).bind λfm=>(a1 x.1.2.1.2.2.2.2.2.2.2.2.1 (x.1.2.2.1).1).bind λdD=>cond (!cz fm.1 dD.1) (some (.inr (.inr ((false,()),())))) ((a1 x.1.1.2.2.2.2.2.2.2.2.1 (x.1.2.2.1).1).bind λeV=>(a1 x.1.2.1.2.2.2.2.2.2.2.2.1 (x.1.2.2.1).1).bind λd_=>cond (!cz eV.2.1 d_.2.1) (some (.inr (.inr ((false,()),())))) ((a1 x.1.1.2.2.2.2.2.2.2.2.1 (x.1.2.2.1).1).bind λgw=>(a1 x.1.2.1.2.2.2.2.2.2.2.2.1 (x.1.2.2.1).1).bind λiA=>(FM ((gw.2.2.1,iA.2.2.1,()),())).bind λcy=>cond (!cy.1.1) (some (.inr (.inr ((false,()),())))) (some (.inl ((x.1.1,x.1.2.1,(bc x.1.2.2.1 (W 1)),()),())))))) (some (.inr (.inl ((),()))))
def OD (x:U aGp):Option (U aGr):=cond (!bb x.1.1.1 x.1.2.1.1) (some ((false,()),())) (cond (!bb x.1.1.2.1 x.1.2.1.2.1) (some ((false,()),())) (cond (!bb x.1.1.2.2.1 x.1.2.1.2.2.1) (some ((false,()),())) (cond (!bb x.1.1.2.2.2.1 x.1.2.1.2.2.2.1) (some ((false,()),())) (cond (!cz x.1.1.2.2.2.2.1 x.1.2.1.2.2.2.2.1) (some ((false,()),())) (cond (!cz x.1.1.2.2.2.2.2.1 x.1.2.1.2.2.2.2.2.1) (some ((false,()),())) ((FM ((x.1.1.2.2.2.2.2.2.1,x.1.2.1.2.2.2.2.2.2.1,()),())).bind λaq=>cond (!aq.1.1) (some ((false,()),())) (cond (!bb (bf x.1.1.2.2.2.2.2.2.2.1) (bf x.1.2.1.2.2.2.2.2.2.2.1)) (some ((false,()),())) (cond (!bb (bf x.1.1.2.2.2.2.2.2.2.2.1) (bf x.1.2.1.2.2.2.2.2.2.2.2.1)) (some ((false,()),())) ((a2 BG ((x.1.1,x.1.2.1,(W 0),()),())).bind λaS=>Sum.elim (λa9=>(a2 BH ((x.1.1,x.1.2.1,(W 0),()),())).bind λdX=>Sum.elim (λdy=>some ((true,()),())) (λeD=>some ((eD.1.1,()),())) dX) (λbJ=>some ((bJ.1.1,()),())) aS)))))))))
def aGf:=aJ [(0,aC eI),(1,aC eI)]
def aGh:=aJ [(0,bA)]
def Wr:=aJ [(0,aC eI),(1,aC eI),(5,au)]
def aGe:bG:=[((.exit 0),aJ []),fK [(4,bA)]]
def BF (x:U Wr):Option (U Wr⊕bo aGe):=cond (bg x.1.2.2.1 (bf x.1.1)) ((a1 x.1.1 (x.1.2.2.1).1).bind λaE=>(a1 x.1.2.1 (x.1.2.2.1).1).bind λaP=>(OD ((aE,aP,()),())).bind λaK=>cond (!aK.1.1) (some (.inr (.inr ((false,()),())))) (some (.inl ((x.1.1,x.1.2.1,(bc x.1.2.2.1 (W 1)),()),())))) (some (.inr (.inl ((),()))))
def OC (x:U aGf):Option (U aGh):=cond (!bb (bf x.1.1) (bf x.1.2.1)) (some ((false,()),())) ((a2 BF ((x.1.1,x.1.2.1,(W 0),()),())).bind λaS=>Sum.elim (λa9=>some ((true,()),())) (λbJ=>some ((bJ.1.1,()),())) aS)
def aIQ:=aJ [(0,.agg iP),(1,.agg iP)]
def aIS:=aJ [(0,bA)]
def WZ:=aJ [(2,.cJ iP 0),(3,.cJ iP 0),(5,au)]
def aIP:bG:=[((.exit 0),aJ []),fK [(4,bA)]]
def B0 (x:U WZ):Option (U WZ⊕bo aIP):=cond (bg x.1.2.2.1 (bf x.1.1.2.1)) ((a1 x.1.1.2.1 (x.1.2.2.1).1).bind λaE=>(a1 x.1.2.1.2.1 (x.1.2.2.1).1).bind λaP=>cond (!((bb aE.1 aP.1)&&((cz aE.2.1 aP.2.1)&&true))) (some (.inr (.inr ((false,()),())))) (some (.inl ((x.1.1,x.1.2.1,(bc x.1.2.2.1 (W 1)),()),())))) (some (.inr (.inl ((),()))))
def O_ (x:U aIQ):Option (U aIS):=cond (!cz x.1.1.1 x.1.2.1.1) (some ((false,()),())) (cond (!bb x.1.1.2.2.1 x.1.2.1.2.2.1) (some ((false,()),())) (cond (!bb (bf x.1.1.2.1) (bf x.1.2.1.2.1)) (some ((false,()),())) ((a2 B0 ((x.1.1,x.1.2.1,(W 0),()),())).bind λaK=>Sum.elim (λaS=>(OC ((x.1.1.2.2.2.1,x.1.2.1.2.2.2.1,()),())).bind λbJ=>some ((bJ.1.1,()),())) (λa9=>some ((a9.1.1,()),())) aK)))
def aGC:=aJ [(0,.agg jD),(1,.agg jD)]
def aGE:=aJ [(0,bA)]
def Wv:=aJ [(2,.cJ jD 0),(3,.cJ jD 0),(5,au)]
def aGv:bG:=[((.exit 0),aJ []),fK [(4,bA)]]
def BI (x:U Wv):Option (U Wv⊕bo aGv):=cond (bg x.1.2.2.1 (bf x.1.1.1)) ((a1 x.1.1.1 (x.1.2.2.1).1).bind λaE=>(a1 x.1.2.1.1 (x.1.2.2.1).1).bind λaP=>(M3 ((aE,aP,()),())).bind λaK=>cond (!aK.1.1) (some (.inr (.inr ((false,()),())))) (some (.inl ((x.1.1,x.1.2.1,(bc x.1.2.2.1 (W 1)),()),())))) (some (.inr (.inl ((),()))))
def Ww:=aJ [(2,.cJ jD 0),(3,.cJ jD 0),(6,au)]
def aGy:bG:=[((.exit 2),aJ []),fK [(4,bA)]]
def BJ (x:U Ww):Option (U Ww⊕bo aGy):=cond (bg x.1.2.2.1 (bf x.1.1.2.1)) ((a1 x.1.1.2.1 (x.1.2.2.1).1).bind λfm=>(a1 x.1.2.1.2.1 (x.1.2.2.1).1).bind λdD=>(O9 ((fm,dD,()),())).bind λbO=>cond (!bO.1.1) (some (.inr (.inr ((false,()),())))) (some (.inl ((x.1.1,x.1.2.1,(bc x.1.2.2.1 (W 1)),()),())))) (some (.inr (.inl ((),()))))
def Wx:=aJ [(2,.cJ jD 0),(3,.cJ jD 0),(7,au)]
def aGB:bG:=[((.exit 4),aJ []),fK [(4,bA)]]
def BK (x:U Wx):Option (U Wx⊕bo aGB):=cond (bg x.1.2.2.1 (bf x.1.1.2.2.1)) ((a1 x.1.1.2.2.1 (x.1.2.2.1).1).bind λkk=>(a1 x.1.2.1.2.2.1 (x.1.2.2.1).1).bind λiu=>(O_ ((kk,iu,()),())).bind λdy=>cond (!dy.1.1) (some (.inr (.inr ((false,()),())))) (some (.inl ((x.1.1,x.1.2.1,(bc x.1.2.2.1 (W 1)),()),())))) (some (.inr (.inl ((),()))))
def OE (x:U aGC):Option (U aGE):=cond (!bb (bf x.1.1.1) (bf x.1.2.1.1)) (some ((false,()),())) (cond (!bb (bf x.1.1.2.1) (bf x.1.2.1.2.1)) (some ((false,()),())) (cond (!bb (bf x.1.1.2.2.1) (bf x.1.2.1.2.2.1)) (some ((false,()),())) ((a2 BI ((x.1.1,x.1.2.1,(W 0),()),())).bind λaS=>Sum.elim (λa9=>(a2 BJ ((x.1.1,x.1.2.1,(W 0),()),())).bind λcc=>Sum.elim (λbT=>(a2 BK ((x.1.1,x.1.2.1,(W 0),()),())).bind λeD=>Sum.elim (λeO=>some ((true,()),())) (λeY=>some ((eY.1.1,()),())) eD) (λcL=>some ((cL.1.1,()),())) cc) (λbJ=>some ((bJ.1.1,()),())) aS)))
def ajF:=aJ [(0,aZ)]
def aFa:=aJ [(0,au),(1,au),(2,bA)]
def G1:=aJ [(0,aZ),(5,tG),(6,au)]
def ajE:bG:=[((.exit 0),aJ []),fK [(2,au),(3,au),(4,bA)]]
def Ou (x:U G1):Option (U G1⊕bo ajE):=cond (bg x.1.2.2.1 (kf x.1.1)) (cond (bg x.1.2.2.1 (W 10)) ((sF x.1.1 (x.1.2.2.1).1).bind λv1=>(sE v1 (a_.w .u8 128)).bind λv2=>(y3 (ey .u64 v2) (sC (a_.w .u64 7) (ey .u64 x.1.2.2.1))).bind λcH=>(sF x.1.1 (x.1.2.2.1).1).bind λv4=>cond (bg v4 (a_.w .u8 128)) ((ra (ox x.1.2.1 cH) (a_.w .u64 1)).bind λcQ=>(sE (ox x.1.2.1 cH) (a_.w .u64 2)).bind λv6=>cond (bb v6 (a_.w .u64 1)) ((u1 (((vM (ey .i64 cQ)),()),())).bind λbK=>(lM x.1.1 0 ((bc x.1.2.2.1 (W 1))).1).bind λdx=>cond (!cz bK.1.1 dx) (some (.inr (.inr (((W 0),(W 0),false,()),())))) (some (.inr (.inr (((vM (ey .i64 cQ)),(bc x.1.2.2.1 (W 1)),true,()),()))))) ((u1 (((ey .i64 cQ),()),())).bind λbO=>(lM x.1.1 0 ((bc x.1.2.2.1 (W 1))).1).bind λv10=>cond (!cz bO.1.1 v10) (some (.inr (.inr (((W 0),(W 0),false,()),())))) (some (.inr (.inr (((ey .i64 cQ),(bc x.1.2.2.1 (W 1)),true,()),())))))) (some (.inl ((x.1.1,(ox x.1.2.1 cH),(bc x.1.2.2.1 (W 1)),()),())))) (some (.inr (.inl ((),()))))) (some (.inr (.inl ((),()))))
def G0 (x:U ajF):Option (U aFa):=(a2 Ou ((x.1.1,(a_.w .u64 0),(W 0),()),())).bind λbT=>Sum.elim (λcL=>some (((W 0),(W 0),false,()),())) (λcy=>some ((cy.1.1,cy.1.2.1,cy.1.2.2.1,()),())) bT
def ajN:aY:=⟨[(0,b_)],[.box [aZ,bA]]⟩
def aFf:aY:=⟨[(0,au)],[.box [aZ,bA]]⟩
def G2 (x:U ajN):Option (U aFf):=(G0 ((x.2.1.1,()),())).bind λaq=>cond (x.2.1.2.1) (some (((W 0),()),((x.2.1.1,true,()),()))) (cond (!aq.1.2.2.1) (some (((W 0),()),((x.2.1.1,true,()),()))) ((lM x.2.1.1 (aq.1.2.1).1 x.2.1.1.1.size).bind λv2=>some ((aq.1.1,()),((v2,x.2.1.2.1,()),()))))
def ajM:aY:=⟨[(0,b_)],[.box [aZ,bA]]⟩
def aFe:aY:=⟨[(0,au)],[.box [aZ,bA]]⟩
def qK (x:U ajM):Option (U aFe):=(G2 (((),()),(x.2.1,()))).bind λaq=>some ((aq.1.1,()),(aq.2.1,()))
def ajL:aY:=⟨[(0,b_)],[.box [aZ,bA]]⟩
def aFd:aY:=⟨[(0,au)],[.box [aZ,bA]]⟩
def qJ (x:U ajL):Option (U aFd):=(qK (((),()),(x.2.1,()))).bind λaq=>cond (aq.2.1.2.1) (some (((W 0),()),((aq.2.1.1,true,()),()))) (cond (bg aq.1.1 (W 0)) (some (((W 0),()),((aq.2.1.1,true,()),()))) (cond (bg (kf aq.2.1.1) aq.1.1) (some (((W 0),()),((aq.2.1.1,true,()),()))) (some ((aq.1.1,()),(aq.2.1,())))))
def ajQ:aY:=⟨[(0,b_)],[.box [aZ,bA]]⟩
def aFg:aY:=⟨[(0,aZ)],[.box [aZ,bA]]⟩
def ph (x:U ajQ):Option (U aFg):=(qK (((),()),(x.2.1,()))).bind λaq=>cond (aq.2.1.2.1) (some (((S ⟨#[]⟩),()),((aq.2.1.1,true,()),()))) (cond (bg aq.1.1 (W 0)) (some (((S ⟨#[]⟩),()),((aq.2.1.1,true,()),()))) (cond (bg (kf aq.2.1.1) aq.1.1) (some (((S ⟨#[]⟩),()),((aq.2.1.1,true,()),()))) ((lM aq.2.1.1 0 (aq.1.1).1).bind λv2=>(lM aq.2.1.1 (aq.1.1).1 aq.2.1.1.1.size).bind λcH=>some ((v2,()),((cH,aq.2.1.2.1,()),())))))
def aj8:aY:=⟨[(0,b_)],[.box [aZ,bA]]⟩
def aF':aY:=⟨[(0,aC ck)],[.box [aZ,bA]]⟩
def Wq:aY:=⟨[(0,b_),(3,.tok ck 1 []),(4,au),(5,au)],[.box [aZ,bA],.bC ck]⟩
def aF8:bG:=[((.exit 0),⟨[(3,.tok ck 2 [])],[.box [aZ,bA],.gone,.bC ck]⟩)]
def BE (x:U Wq):Option (U Wq⊕bo aF8):=cond (bg x.1.2.2.2.1 x.1.2.2.1) (cond (!x.2.1.2.1) ((ph (((),()),(x.2.1,()))).bind λaB=>(c6 16 x.1.2.1 (cD [(aB.1.1,())])).bind λcg=>some (.inl (((),cg,x.1.2.2.1,(bc x.1.2.2.2.1 (W 1)),()),(aB.2.1,(),())))) (some (.inr ((x.1.2.1,()),(x.2.1,(),(),()))))) (some (.inr ((x.1.2.1,()),(x.2.1,(),(),()))))
def OB (x:U aj8):Option (U aF'):=(qJ (((),()),(x.2.1,()))).bind λaq=>(a2 BE (((),L.nil,aq.1.1,(W 0),()),(aq.2.1,(),()))).bind λaS=>some ((aS.1.1,()),(aS.2.1,()))
def ajV:aY:=⟨[(0,b_)],[.box [aZ,bA]]⟩
def aFl:aY:=⟨[(0,.agg g4)],[.box [aZ,bA]]⟩
def G4 (x:U ajV):Option (U aFl):=(qK (((),()),(x.2.1,()))).bind λaq=>(ph (((),()),(aq.2.1,()))).bind λaB=>some (((aq.1.1,aB.1.1,()),()),(aB.2.1,()))
def ajR:aY:=⟨[(0,b_)],[.box [aZ,bA]]⟩
def aFk:aY:=⟨[(0,aC dN)],[.box [aZ,bA]]⟩
def Wd:aY:=⟨[(0,b_),(3,.tok dN 1 []),(4,au),(5,au)],[.box [aZ,bA],.bC dN]⟩
def aFi:bG:=[((.exit 0),⟨[(3,.tok dN 2 [])],[.box [aZ,bA],.gone,.bC dN]⟩)]
def Bt (x:U Wd):Option (U Wd⊕bo aFi):=cond (bg x.1.2.2.2.1 x.1.2.2.1) (cond (!x.2.1.2.1) ((ph (((),()),(x.2.1,()))).bind λaB=>(G4 (((),()),(aB.2.1,()))).bind λaK=>(qK (((),()),(aK.2.1,()))).bind λaS=>(c6 48 x.1.2.1 (cD [(aB.1.1,aK.1.1.1,aK.1.1.2.1,aS.1.1,())])).bind λgV=>some (.inl (((),gV,x.1.2.2.1,(bc x.1.2.2.2.1 (W 1)),()),(aS.2.1,(),())))) (some (.inr ((x.1.2.1,()),(x.2.1,(),(),()))))) (some (.inr ((x.1.2.1,()),(x.2.1,(),(),()))))
def G3 (x:U ajR):Option (U aFk):=(qJ (((),()),(x.2.1,()))).bind λaq=>(a2 Bt (((),L.nil,aq.1.1,(W 0),()),(aq.2.1,(),()))).bind λbJ=>some ((bJ.1.1,()),(bJ.2.1,()))
def aj6:aY:=⟨[(0,b_)],[.box [aZ,bA]]⟩
def aF5:aY:=⟨[(0,.agg du)],[.box [aZ,bA]]⟩
def Wp:aY:=⟨[(0,b_),(3,.ptr 1 0),(4,au),(5,au)],[.box [aZ,bA],.box [aZ,aC ck,.tok ff 2 []],.bC ff]⟩
def aF2:bG:=[((.exit 0),⟨[],[.box [aZ,bA],.box [aZ,aC ck,.tok ff 3 []],.gone,.bC ff]⟩)]
def BD (x:U Wp):Option (U Wp⊕bo aF2):=cond (bg x.1.2.2.2.1 x.1.2.2.1) (cond (!x.2.1.2.1) ((ph (((),()),(x.2.1,()))).bind λaS=>(ph (((),()),(aS.2.1,()))).bind λa9=>(G3 (((),()),(a9.2.1,()))).bind λbJ=>(c6 56 x.2.2.1.2.2.1 (cD [(aS.1.1,a9.1.1,bJ.1.1,())])).bind λiV=>some (.inl (((),(),x.1.2.2.1,(bc x.1.2.2.2.1 (W 1)),()),(bJ.2.1,(x.2.2.1.1,x.2.2.1.2.1,iV,()),(),())))) (some (.inr ((),(x.2.1,x.2.2.1,(),(),()))))) (some (.inr ((),(x.2.1,x.2.2.1,(),(),()))))
def OA (x:U aj6):Option (U aF5):=(ph (((),()),(x.2.1,()))).bind λaq=>(OB (((),()),(aq.2.1,()))).bind λaB=>(qJ (((),()),(aB.2.1,()))).bind λaK=>(a2 BD (((),(),aK.1.1,(W 0),()),(aK.2.1,(aq.1.1,aB.1.1,L.nil,()),(),()))).bind λcl=>some (((cl.2.2.1.1,cl.2.2.1.2.1,cl.2.2.1.2.2.1,()),()),(cl.2.1,()))
def aj2:aY:=⟨[(0,b_)],[.box [aZ,bA]]⟩
def aFE:aY:=⟨[(0,.agg dZ)],[.box [aZ,bA]]⟩
def Wi:aY:=⟨[(0,b_),(3,.ptr 1 0),(4,au),(5,au)],[.box [aZ,bA],.box [aZ,.tok fS 2 []],.bC fS]⟩
def aFB:bG:=[((.exit 0),⟨[],[.box [aZ,bA],.box [aZ,.tok fS 3 []],.gone,.bC fS]⟩)]
def Bx (x:U Wi):Option (U Wi⊕bo aFB):=cond (bg x.1.2.2.2.1 x.1.2.2.1) (cond (!x.2.1.2.1) ((qK (((),()),(x.2.1,()))).bind λaK=>(ph (((),()),(aK.2.1,()))).bind λaS=>(G3 (((),()),(aS.2.1,()))).bind λa9=>(c6 48 x.2.2.1.2.1 (cD [(aK.1.1,aS.1.1,a9.1.1,())])).bind λiB=>some (.inl (((),(),x.1.2.2.1,(bc x.1.2.2.2.1 (W 1)),()),(a9.2.1,(x.2.2.1.1,iB,()),(),())))) (some (.inr ((),(x.2.1,x.2.2.1,(),(),()))))) (some (.inr ((),(x.2.1,x.2.2.1,(),(),()))))
def Ow (x:U aj2):Option (U aFE):=(ph (((),()),(x.2.1,()))).bind λaq=>(qJ (((),()),(aq.2.1,()))).bind λaB=>(a2 Bx (((),(),aB.1.1,(W 0),()),(aB.2.1,(aq.1.1,L.nil,()),(),()))).bind λbK=>some (((bK.2.2.1.1,bK.2.2.1.2.1,()),()),(bK.2.1,()))
def ajZ:aY:=⟨[(0,b_)],[.box [aZ,bA]]⟩
def aFz:aY:=⟨[(0,aC bp)],[.box [aZ,bA]]⟩
def Wh:aY:=⟨[(0,b_),(3,.tok bp 1 []),(4,au),(5,au)],[.box [aZ,bA],.bC bp]⟩
def aFw:bG:=[((.exit 0),⟨[(3,.tok bp 2 [])],[.box [aZ,bA],.gone,.bC bp]⟩)]
def Bw (x:U Wh):Option (U Wh⊕bo aFw):=cond (bg x.1.2.2.2.1 x.1.2.2.1) (cond (!x.2.1.2.1) ((qK (((),()),(x.2.1,()))).bind λaB=>(c6 8 x.1.2.1 (cD [(aB.1.1,())])).bind λcg=>some (.inl (((),cg,x.1.2.2.1,(bc x.1.2.2.2.1 (W 1)),()),(aB.2.1,(),())))) (some (.inr ((x.1.2.1,()),(x.2.1,(),(),()))))) (some (.inr ((x.1.2.1,()),(x.2.1,(),(),()))))
def G5 (x:U ajZ):Option (U aFz):=(qJ (((),()),(x.2.1,()))).bind λaq=>(a2 Bw (((),L.nil,aq.1.1,(W 0),()),(aq.2.1,(),()))).bind λaS=>some ((aS.1.1,()),(aS.2.1,()))
def ajY:aY:=⟨[(0,b_)],[.box [aZ,bA]]⟩
def aFt:aY:=⟨[(0,.agg eI)],[.box [aZ,bA]]⟩
def We:aY:=⟨[(0,b_),(3,.ptr 1 0),(4,au),(5,au)],[.box [aZ,bA],.box [au,au,au,au,aZ,aZ,aC bp,.tok c7 2 [],.dm],.bC c7]⟩
def aFn:bG:=[((.exit 0),⟨[],[.box [aZ,bA],.box [au,au,au,au,aZ,aZ,aC bp,.tok c7 3 [],.dm],.gone,.bC c7]⟩)]
def Bu (x:U We):Option (U We⊕bo aFn):=cond (bg x.1.2.2.2.1 x.1.2.2.1) (cond (!x.2.1.2.1) ((ph (((),()),(x.2.1,()))).bind λbO=>(qK (((),()),(bO.2.1,()))).bind λcc=>(qK (((),()),(cc.2.1,()))).bind λbT=>(c6 32 x.2.2.1.2.2.2.2.2.2.2.1 (cD [(bO.1.1,cc.1.1,bT.1.1,())])).bind λtH=>some (.inl (((),(),x.1.2.2.1,(bc x.1.2.2.2.1 (W 1)),()),(bT.2.1,(x.2.2.1.1,x.2.2.1.2.1,x.2.2.1.2.2.1,x.2.2.1.2.2.2.1,x.2.2.1.2.2.2.2.1,x.2.2.1.2.2.2.2.2.1,x.2.2.1.2.2.2.2.2.2.1,tH,(),()),(),())))) (some (.inr ((),(x.2.1,x.2.2.1,(),(),()))))) (some (.inr ((),(x.2.1,x.2.2.1,(),(),()))))
def Wf:aY:=⟨[(0,b_),(3,.ptr 1 0),(4,au),(7,au)],[.box [aZ,bA],.box [au,au,au,au,aZ,aZ,aC bp,.tok c7 2 [],.tok fR 3 []],.bC c7,.bC fR]⟩
def aFq:bG:=[((.exit 2),⟨[],[.box [aZ,bA],.box [au,au,au,au,aZ,aZ,aC bp,.tok c7 4 [],.tok fR 5 []],.gone,.gone,.bC c7,.bC fR]⟩)]
def Bv (x:U Wf):Option (U Wf⊕bo aFq):=cond (bg x.1.2.2.2.1 x.1.2.2.1) (cond (!x.2.1.2.1) ((ph (((),()),(x.2.1,()))).bind λdy=>(ph (((),()),(dy.2.1,()))).bind λeD=>(G5 (((),()),(eD.2.1,()))).bind λeO=>(c6 56 x.2.2.1.2.2.2.2.2.2.2.2.1 (cD [(dy.1.1,eD.1.1,eO.1.1,())])).bind λKN=>some (.inl (((),(),x.1.2.2.1,(bc x.1.2.2.2.1 (W 1)),()),(eO.2.1,(x.2.2.1.1,x.2.2.1.2.1,x.2.2.1.2.2.1,x.2.2.1.2.2.2.1,x.2.2.1.2.2.2.2.1,x.2.2.1.2.2.2.2.2.1,x.2.2.1.2.2.2.2.2.2.1,x.2.2.1.2.2.2.2.2.2.2.1,KN,()),(),(),())))) (some (.inr ((),(x.2.1,x.2.2.1,(),(),(),(),()))))) (some (.inr ((),(x.2.1,x.2.2.1,(),(),(),(),()))))
def Ov (x:U ajY):Option (U aFt):=(qK (((),()),(x.2.1,()))).bind λaq=>(qK (((),()),(aq.2.1,()))).bind λaB=>(qK (((),()),(aB.2.1,()))).bind λaK=>(G2 (((),()),(aK.2.1,()))).bind λaS=>(ph (((),()),(aS.2.1,()))).bind λa9=>(ph (((),()),(a9.2.1,()))).bind λbJ=>(G5 (((),()),(bJ.2.1,()))).bind λbK=>(qJ (((),()),(bK.2.1,()))).bind λcl=>(a2 Bu (((),(),cl.1.1,(W 0),()),(cl.2.1,(aq.1.1,aB.1.1,aK.1.1,aS.1.1,a9.1.1,bJ.1.1,bK.1.1,L.nil,(),()),(),()))).bind λcy=>(qJ (((),()),(cy.2.1,()))).bind λdX=>(a2 Bv (((),(),dX.1.1,(W 0),()),(dX.2.1,(cy.2.2.1.1,cy.2.2.1.2.1,cy.2.2.1.2.2.1,cy.2.2.1.2.2.2.1,cy.2.2.1.2.2.2.2.1,cy.2.2.1.2.2.2.2.2.1,cy.2.2.1.2.2.2.2.2.2.1,cy.2.2.1.2.2.2.2.2.2.2.1,L.nil,()),(),(),()))).bind λfe=>some (((fe.2.2.1.1,fe.2.2.1.2.1,fe.2.2.1.2.2.1,fe.2.2.1.2.2.2.1,fe.2.2.1.2.2.2.2.1,fe.2.2.1.2.2.2.2.2.1,fe.2.2.1.2.2.2.2.2.2.1,fe.2.2.1.2.2.2.2.2.2.2.1,fe.2.2.1.2.2.2.2.2.2.2.2.1,()),()),(fe.2.1,()))
def aj5:aY:=⟨[(0,b_)],[.box [aZ,bA]]⟩
def aFZ:aY:=⟨[(0,.agg iP)],[.box [aZ,bA]]⟩
def Wm:aY:=⟨[(0,b_),(3,.ptr 1 0),(4,au),(5,au)],[.box [aZ,bA],.box [aZ,.tok g4 2 [],au,.dm],.bC g4]⟩
def aFT:bG:=[((.exit 0),⟨[],[.box [aZ,bA],.box [aZ,.tok g4 3 [],au,.dm],.gone,.bC g4]⟩)]
def BB (x:U Wm):Option (U Wm⊕bo aFT):=cond (bg x.1.2.2.2.1 x.1.2.2.1) (cond (!x.2.1.2.1) ((G4 (((),()),(x.2.1,()))).bind λaK=>(c6 24 x.2.2.1.2.1 (cD [aK.1.1])).bind λjj=>some (.inl (((),(),x.1.2.2.1,(bc x.1.2.2.2.1 (W 1)),()),(aK.2.1,(x.2.2.1.1,jj,x.2.2.1.2.2.1,(),()),(),())))) (some (.inr ((),(x.2.1,x.2.2.1,(),(),()))))) (some (.inr ((),(x.2.1,x.2.2.1,(),(),()))))
def Wn:aY:=⟨[(0,b_),(3,.ptr 1 0),(4,au),(6,au)],[.box [aZ,bA],.box [aZ,.tok g4 2 [],au,.tok eI 3 []],.bC g4,.bC eI]⟩
def aFW:bG:=[((.exit 2),⟨[],[.box [aZ,bA],.box [aZ,.tok g4 4 [],au,.tok eI 5 []],.gone,.gone,.bC g4,.bC eI]⟩)]
def BC (x:U Wn):Option (U Wn⊕bo aFW):=cond (bg x.1.2.2.2.1 x.1.2.2.1) (cond (!x.2.1.2.1) ((Ov (((),()),(x.2.1,()))).bind λcl=>(c6 136 x.2.2.1.2.2.2.1 (cD [cl.1.1])).bind λj2=>some (.inl (((),(),x.1.2.2.1,(bc x.1.2.2.2.1 (W 1)),()),(cl.2.1,(x.2.2.1.1,x.2.2.1.2.1,x.2.2.1.2.2.1,j2,()),(),(),())))) (some (.inr ((),(x.2.1,x.2.2.1,(),(),(),(),()))))) (some (.inr ((),(x.2.1,x.2.2.1,(),(),(),(),()))))
def Oz (x:U aj5):Option (U aFZ):=(ph (((),()),(x.2.1,()))).bind λaq=>(qJ (((),()),(aq.2.1,()))).bind λaB=>(a2 BB (((),(),aB.1.1,(W 0),()),(aB.2.1,(aq.1.1,L.nil,(W 0),(),()),(),()))).bind λa9=>(qK (((),()),(a9.2.1,()))).bind λbJ=>(qJ (((),()),(bJ.2.1,()))).bind λbK=>(a2 BC (((),(),bK.1.1,(W 0),()),(bK.2.1,(a9.2.2.1.1,a9.2.2.1.2.1,bJ.1.1,L.nil,()),(),(),()))).bind λcc=>some (((cc.2.2.1.1,cc.2.2.1.2.1,cc.2.2.1.2.2.1,cc.2.2.1.2.2.2.1,()),()),(cc.2.1,()))
def aj4:aY:=⟨[(0,b_)],[.box [aZ,bA]]⟩
def aFQ:aY:=⟨[(0,.agg jD)],[.box [aZ,bA]]⟩
def Wj:aY:=⟨[(0,b_),(3,.ptr 1 0),(4,au),(5,au)],[.box [aZ,bA],.box [.tok du 2 [],.dm,.dm],.bC du]⟩
def aFH:bG:=[((.exit 0),⟨[],[.box [aZ,bA],.box [.tok du 3 [],.dm,.dm],.gone,.bC du]⟩)]
def By (x:U Wj):Option (U Wj⊕bo aFH):=cond (bg x.1.2.2.2.1 x.1.2.2.1) (cond (!x.2.1.2.1) ((OA (((),()),(x.2.1,()))).bind λaB=>(c6 64 x.2.2.1.1 (cD [aB.1.1])).bind λcg=>some (.inl (((),(),x.1.2.2.1,(bc x.1.2.2.2.1 (W 1)),()),(aB.2.1,(cg,(),(),()),(),())))) (some (.inr ((),(x.2.1,x.2.2.1,(),(),()))))) (some (.inr ((),(x.2.1,x.2.2.1,(),(),()))))
def Wk:aY:=⟨[(0,b_),(3,.ptr 1 0),(4,au),(6,au)],[.box [aZ,bA],.box [.tok du 2 [],.tok dZ 3 [],.dm],.bC du,.bC dZ]⟩
def aFK:bG:=[((.exit 2),⟨[],[.box [aZ,bA],.box [.tok du 4 [],.tok dZ 5 [],.dm],.gone,.gone,.bC du,.bC dZ]⟩)]
def Bz (x:U Wk):Option (U Wk⊕bo aFK):=cond (bg x.1.2.2.2.1 x.1.2.2.1) (cond (!x.2.1.2.1) ((Ow (((),()),(x.2.1,()))).bind λbJ=>(c6 40 x.2.2.1.2.1 (cD [bJ.1.1])).bind λiV=>some (.inl (((),(),x.1.2.2.1,(bc x.1.2.2.2.1 (W 1)),()),(bJ.2.1,(x.2.2.1.1,iV,(),()),(),(),())))) (some (.inr ((),(x.2.1,x.2.2.1,(),(),(),(),()))))) (some (.inr ((),(x.2.1,x.2.2.1,(),(),(),(),()))))
def Wl:aY:=⟨[(0,b_),(3,.ptr 1 0),(4,au),(7,au)],[.box [aZ,bA],.box [.tok du 2 [],.tok dZ 3 [],.tok iP 4 []],.bC du,.bC dZ,.bC iP]⟩
def aFN:bG:=[((.exit 4),⟨[],[.box [aZ,bA],.box [.tok du 5 [],.tok dZ 6 [],.tok iP 7 []],.gone,.gone,.gone,.bC du,.bC dZ,.bC iP]⟩)]
def BA (x:U Wl):Option (U Wl⊕bo aFN):=cond (bg x.1.2.2.2.1 x.1.2.2.1) (cond (!x.2.1.2.1) ((Oz (((),()),(x.2.1,()))).bind λcc=>(c6 72 x.2.2.1.2.2.1 (cD [cc.1.1])).bind λp2=>some (.inl (((),(),x.1.2.2.1,(bc x.1.2.2.2.1 (W 1)),()),(cc.2.1,(x.2.2.1.1,x.2.2.1.2.1,p2,()),(),(),(),())))) (some (.inr ((),(x.2.1,x.2.2.1,(),(),(),(),(),(),()))))) (some (.inr ((),(x.2.1,x.2.2.1,(),(),(),(),(),(),()))))
def Ox (x:U aj4):Option (U aFQ):=(qJ (((),()),(x.2.1,()))).bind λaq=>(a2 By (((),(),aq.1.1,(W 0),()),(aq.2.1,(L.nil,(),(),()),(),()))).bind λaS=>(qJ (((),()),(aS.2.1,()))).bind λa9=>(a2 Bz (((),(),a9.1.1,(W 0),()),(a9.2.1,(aS.2.2.1.1,L.nil,(),()),(),(),()))).bind λcl=>(qJ (((),()),(cl.2.1,()))).bind λbO=>(a2 BA (((),(),bO.1.1,(W 0),()),(bO.2.1,(cl.2.2.1.1,cl.2.2.1.2.1,L.nil,()),(),(),(),()))).bind λcL=>some (((cL.2.2.1.1,cL.2.2.1.2.1,cL.2.2.1.2.2.1,()),()),(cL.2.1,()))
def ajJ:=aJ [(0,aZ)]
def ajK:=aJ [(0,.agg jD),(1,au)]
def Ot (x:U ajJ):Option (U ajK):=cond (bg (kf x.1.1) (W 8)) (some (((L.nil,L.nil,L.nil,()),(W 3301),()),())) (cond (bg (W 65536) (kf x.1.1)) (some (((L.nil,L.nil,L.nil,()),(W 3301),()),())) ((lM x.1.1 0 ((W 4)).1).bind λv1=>cond (!cz v1 (S ⟨#[82,80,84,49]⟩)) (some (((L.nil,L.nil,L.nil,()),(W 3301),()),())) ((lM x.1.1 ((W 4)).1 ((gf (kf x.1.1) (W 4))).1).bind λv2=>(Ox (((),()),((v2,false,()),()))).bind λaK=>cond (aK.2.1.2.1) (some (((L.nil,L.nil,L.nil,()),(W 3301),()),())) (cond (!cz aK.2.1.1 (S ⟨#[]⟩)) (some (((L.nil,L.nil,L.nil,()),(W 3301),()),())) ((G8 ((aK.1.1,()),())).bind λaS=>cond (!bb aS.1.2.1 (W 0)) (some (((L.nil,L.nil,L.nil,()),(W 3301),()),())) (cond (!cz aS.1.1 x.1.1) (some (((L.nil,L.nil,L.nil,()),(W 3301),()),())) (some ((aK.1.1,(W 0),()),()))))))))
noncomputable def OS:de:=⟨(put (put (put .nil 2 .bY) 10 .bY) 16 (.arr [true])),[aH ahC,aH Bf,aH v_]⟩
theorem aHq:bV 49 2 OR:=b5 OS [] []
theorem aHn:bV 49 1 OQ:=b5 OS [bW aHq] [.c 11 WJ akG]
theorem aHk:bV 49 0 OP:=b5 OS [bW aHn] []
theorem aHt:bt 49 ON:=bF OS [bW aHk] []
theorem aGP:bt 103 OH:=bF ⟨(put .nil 2 .bY),[]⟩ [] []
theorem aHE:bV 105 1 OV:=b5 fl [] []
theorem aHB:bV 105 0 OU:=b5 fl [bW aHE] []
theorem aHH:bt 105 OT:=bF fl [bW aHB] []
noncomputable def zD:de:=⟨(put (put (put .nil 2 .bY) 24 (.arr [true])) 28 (.arr [true])),[aH Bf,aH v_,aH aGP,aH GH,aH aHH]⟩
theorem aIq:bV 50 1 O4:=b5 zD [] []
theorem aIn:bV 50 0 O3:=b5 zD [bW aIq] []
theorem aIz:bV 50 4 O7:=b5 zD [] []
theorem aIC:bV 50 5 O8:=b5 zD [] []
theorem aIw:bV 50 3 O6:=b5 zD [bW aIz,bW aIC] [.c 20 WY ak0]
theorem aIt:bV 50 2 O5:=b5 zD [bW aIw] []
theorem aIF:bt 50 O2:=bF zD [bW aIn,bW aIt] []
abbrev akS:={g:U rV->Option (U u3)//bt 191 g}
noncomputable def aIk (r:akS):de:=⟨(put .nil 12 .bY),[aH GH,aH r.2]⟩
theorem aIf:∀r:akS,bt 191 (O1 r.1):=Al aIk (λr=>[]) [.c 7 akV akU,.c 13 akY akX,.c 29 WW akZ]
theorem aIh (n:Nat):bt 191 (BZ n):=by
 induction n with
 |zero=>exactλx y h=>by cases h
 |succ n cu=>exact aIf ⟨BZ n,cu⟩
theorem aIj:bt 191 WU:=aIh px
theorem akC:bt 153 xy:=bF ⟨.nil,[aH aIj]⟩ [] []
theorem aIT:bV 192 0 Pa:=b5 fl [] []
theorem aIW:bt 192 O':=bF fl [bW aIT] []
theorem akE:bt 155 wi:=bF ⟨.nil,[aH GH]⟩ [] []
theorem akv:bt 154 Ha:=bF ⟨(put (put .nil 8 .bY) 9 .bY),[aH akE,aH aIW]⟩ [] []
noncomputable def aky:de:=⟨.nil,[aH akC,aH akv]⟩
theorem aG0:bV 156 0 OK:=b5 aky [] []
theorem aG3:bt 156 BM:=bF aky [bW aG0] []
noncomputable def akt:de:=⟨(put .nil 5 .bY),[aH akC,aH akv,aH akE,aH aG3]⟩
theorem aGT:bV 106 0 OJ:=b5 akt [] []
theorem aGW:bt 106 OI:=bF akt [bW aGT] []
abbrev WC:={g:U u2->Option (U BN)//bt 51 g}
noncomputable def akA (r:WC):de:=⟨.nil,[aH r.2,aH Bf,aH aGW]⟩
theorem aG6:∀r:WC,bV 51 0 (OM r.1):=ac0 akA (λr=>[]) []
theorem aG5:∀r:WC,bt 51 (OL r.1):=Al akA (λr=>[bW (aG6 r)]) []
theorem aG7 (n:Nat):bt 51 (xx n):=by
 induction n with
 |zero=>exactλx y h=>by cases h
 |succ n cu=>exact aG5 ⟨xx n,cu⟩
theorem aG8:bt 51 WB:=aG7 px
noncomputable def GX:de:=⟨(put (put (put .nil 1 .bY) 5 .bY) 10 .bY),[aH aAy,aH azL,aH azF,aH aHt,aH aIF,aH aG8]⟩
theorem aES:bV 24 0 Ol:=b5 GX [] []
theorem aEV:bV 24 1 Om:=b5 GX [] []
theorem aE1:bV 24 3 Oo:=b5 GX [] []
theorem aEY:bV 24 2 On:=b5 GX [bW aE1] [.c 19 V' ajw,.c 20 Wb ajx]
theorem aE4:bt 24 Ok:=bF GX [bW aES,bW aEV,bW aEY] []
theorem aE8:bV 23 0 Oq:=b5 fl [] []
theorem GY:bt 23 u1:=bF fl [bW aE8] [.c 5 ajC ajB]
theorem wh:bt 73 lY:=bF ⟨.nil,[aH GY]⟩ [] []
theorem zC:bt 126 pj:=bF ⟨.nil,[aH GY]⟩ [] []
noncomputable def ak5:de:=⟨.nil,[aH wh,aH zC]⟩
theorem aIZ:bV 127 0 B1:=b5 ak5 [] []
theorem aI2:bt 127 Pb:=bF ak5 [bW aIZ] []
theorem akq:bt 129 G_:=bF ⟨(put .nil 1 .bY),[aH wh,aH zC]⟩ [] []
noncomputable def akm:de:=⟨.nil,[aH wh,aH zC,aH akq]⟩
theorem aGK:bV 128 0 BL:=b5 akm [] []
theorem akl:bt 128 G9:=bF akm [bW aGK] []
noncomputable def akR:de:=⟨(put .nil 1 .bY),[aH wh,aH zC,aH aI2,aH akl]⟩
theorem aH':bV 74 0 BY:=b5 akR [] []
theorem aIc:bt 74 O0:=bF akR [bW aH'] []
noncomputable def akN:de:=⟨(put .nil 1 .bY),[aH wh,aH zC,aH akl]⟩
theorem aHK:bV 75 0 BS:=b5 akN [] []
theorem aHN:bt 75 OW:=bF akN [bW aHK] []
noncomputable def akJ:de:=⟨.nil,[aH wh]⟩
theorem aHw:bV 171 0 BR:=b5 akJ [] []
theorem aHz:bt 171 Hg:=bF akJ [bW aHw] []
noncomputable def WH:de:=⟨(put .nil 1 .bY),[aH GY,aH wh,aH zC,aH aHz]⟩
theorem aHa:bV 130 0 BP:=b5 WH [] []
theorem aHd:bV 130 1 BQ:=b5 WH [] []
theorem aHg:bt 130 OO:=bF WH [bW aHa,bW aHd] []
noncomputable def WS:de:=⟨(put .nil 1 .bY),[aH wh,aH zC,aH akq,aH aHg]⟩
theorem aH2:bV 76 0 BW:=b5 WS [] []
theorem aH5:bV 76 1 BX:=b5 WS [] []
theorem aH8:bt 76 OZ:=bF WS [bW aH2,bW aH5] []
noncomputable def OY:de:=⟨(put .nil 1 .bY),[aH wh,aH aIc,aH aHN,aH aH8]⟩
theorem aHQ:bV 35 0 BT:=b5 OY [] []
theorem aHT:bV 35 1 BU:=b5 OY [] []
theorem aHW:bV 35 2 BV:=b5 OY [] []
theorem aHZ:bt 35 OX:=bF OY [bW aHQ,bW aHT,bW aHW] []
theorem aGG:bV 21 0 OG:=b5 fl [] []
theorem ake:bt 21 G6:=bF fl [bW aGG] []
theorem aka:bt 16 G7:=bF ⟨.nil,[aH ake]⟩ [] []
theorem aki:bt 12 G8:=bF ⟨(put .nil 1 .bY),[aH aka,aH aHZ]⟩ [] []
theorem aIK:bt 43 O9:=bF ⟨(put (put .nil 2 .bY) 3 .bY),[aH aKt]⟩ [] []
noncomputable def Wu:de:=⟨(put (put .nil 2 .bY) 3 .bY),[aH az']⟩
theorem aGk:bV 137 0 BG:=b5 Wu [] []
theorem aGn:bV 137 1 BH:=b5 Wu [] []
theorem aGq:bt 137 OD:=bF Wu [bW aGk,bW aGn] []
noncomputable def aj_:de:=⟨.nil,[aH aGq]⟩
theorem aGd:bV 94 0 BF:=b5 aj_ [] []
theorem aGg:bt 94 OC:=bF aj_ [bW aGd] []
noncomputable def ak2:de:=⟨(put (put .nil 2 .bY) 3 .bY),[aH aGg]⟩
theorem aIO:bV 44 0 B0:=b5 ak2 [] []
theorem aIR:bt 44 O_:=bF ak2 [bW aIO] []
noncomputable def OF:de:=⟨(put (put .nil 2 .bY) 3 .bY),[aH aAg,aH aIK,aH aIR]⟩
theorem aGu:bV 14 0 BI:=b5 OF [] []
theorem aGx:bV 14 1 BJ:=b5 OF [] []
theorem aGA:bV 14 2 BK:=b5 OF [] []
theorem aGD:bt 14 OE:=bF OF [bW aGu,bW aGx,bW aGA] []
noncomputable def ajH:de:=⟨.nil,[aH GY]⟩
theorem aE':bV 19 0 Ou:=b5 ajH [] []
theorem ajG:bt 19 G0:=bF ajH [bW aE'] []
theorem ajO:bt 173 G2:=bF ⟨.nil,[aH ajG]⟩ [] []
theorem xw:bt 138 qK:=bF ⟨.nil,[aH ajO]⟩ [] []
theorem xv:bt 95 qJ:=bF ⟨.nil,[aH xw]⟩ [] []
theorem zB:bt 139 ph:=bF ⟨.nil,[aH xw]⟩ [] []
noncomputable def aj9:de:=⟨.nil,[aH xv,aH zB]⟩
theorem aF7:bV 140 0 BE:=b5 aj9 [] []
theorem aF_:bt 140 OB:=bF aj9 [bW aF7] []
theorem ajW:bt 142 G4:=bF ⟨.nil,[aH xw,aH zB]⟩ [] []
noncomputable def ajT:de:=⟨.nil,[aH xv,aH xw,aH zB,aH ajW]⟩
theorem aFh:bV 141 0 Bt:=b5 ajT [] []
theorem ajS:bt 141 G3:=bF ajT [bW aFh] []
noncomputable def aj7:de:=⟨.nil,[aH xv,aH zB,aH aF_,aH ajS]⟩
theorem aF1:bV 96 0 BD:=b5 aj7 [] []
theorem aF4:bt 96 OA:=bF aj7 [bW aF1] []
noncomputable def aj3:de:=⟨.nil,[aH xv,aH xw,aH zB,aH ajS]⟩
theorem aFA:bV 97 0 Bx:=b5 aj3 [] []
theorem aFD:bt 97 Ow:=bF aj3 [bW aFA] []
noncomputable def aj0:de:=⟨.nil,[aH xv,aH xw]⟩
theorem aFv:bV 174 0 Bw:=b5 aj0 [] []
theorem aFy:bt 174 G5:=bF aj0 [bW aFv] []
noncomputable def Wg:de:=⟨.nil,[aH xv,aH xw,aH zB,aH ajO,aH aFy]⟩
theorem aFm:bV 143 0 Bu:=b5 Wg [] []
theorem aFp:bV 143 1 Bv:=b5 Wg [] []
theorem aFs:bt 143 Ov:=bF Wg [bW aFm,bW aFp] []
noncomputable def Wo:de:=⟨.nil,[aH xv,aH xw,aH zB,aH ajW,aH aFs]⟩
theorem aFS:bV 98 0 BB:=b5 Wo [] []
theorem aFV:bV 98 1 BC:=b5 Wo [] []
theorem aFY:bt 98 Oz:=bF Wo [bW aFS,bW aFV] []
noncomputable def Oy:de:=⟨.nil,[aH xv,aH aF4,aH aFD,aH aFY]⟩
theorem aFG:bV 45 0 By:=b5 Oy [] []
theorem aFJ:bV 45 1 Bz:=b5 Oy [] []
theorem aFM:bV 45 2 BA:=b5 Oy [] []
theorem aFP:bt 45 Ox:=bF Oy [bW aFG,bW aFJ,bW aFM] []
theorem aFb:bt 17 Ot:=bF ⟨(put .nil 5 .bY),[aH aki,aH aFP]⟩ [] []
def adb:=aJ [(0,aC bp)]
def atF:aY:=⟨[(0,b_)],[.box [.tok bp 1 [],au],.bC bp]⟩
def KZ (x:U adb):Option (U atF):=(c6 8 (L.nil:L (D [.int .i64])) x.1.1).bind λdF=>some (((),()),((dF,(W 0),()),(),()))
def ada:aY:=⟨[(0,b_),(1,au)],mP⟩
def Ej:aY:=⟨[(0,au)],mP⟩
def h_ (x:U ada):Option (U Ej):=cond (bg x.1.2.1 (W 1)) (some (((W 0),()),(x.2.1,()))) (cond (f_ (bf x.2.1.1) x.2.1.2.1) (some (((W 0),()),(x.2.1,()))) ((a1 x.2.1.1 ((gf (bc x.2.1.2.1 (W 1)) (W 1))).1).bind λaE=>(sE (ey .u64 aE.1) (ey .u64 x.1.2.1)).bind λv2=>some (((ey .i64 v2),()),((x.2.1.1,(bc x.2.1.2.1 (W 1)),()),()))))
def adG:=aJ []
def adI:=aJ [(0,aC ck)]
def ze (x:U adG):Option (U adI):=some (((cD [((S ⟨#[97]⟩),()),((S ⟨#[98]⟩),()),((S ⟨#[99]⟩),()),((S ⟨#[100]⟩),()),((S ⟨#[101]⟩),())]),()),())
def adw:=aJ []
def ady:=aJ [(0,aC ck)]
def zc (x:U adw):Option (U ady):=some (((cD [((S ⟨#[119]⟩),()),((S ⟨#[120]⟩),()),((S ⟨#[121]⟩),()),((S ⟨#[122]⟩),())]),()),())
def ac9:aY:=⟨[(0,b_)],mP⟩
def ac':aY:=⟨[(0,.agg g4)],mP⟩
def uM (x:U ac9):Option (U ac'):=(h_ (((),(W 6),()),(x.2.1,()))).bind λaq=>(a1 (cD [((W 1),()),((W 0),()),((W 1),()),((W 2),()),((W 3),()),((W 4),())]) (aq.1.1).1).bind λaP=>some (((aP.1,(S ⟨#[]⟩),()),()),(aq.2.1,()))
def adt:aY:=⟨[(0,b_),(1,aC ck)],mP⟩
def aui:aY:=⟨[(0,.agg g4)],mP⟩
def zb (x:U adt):Option (U aui):=cond (bg (W 0) (bf x.1.2.1)) ((h_ (((),(W 4),()),(x.2.1,()))).bind λaq=>cond (bb aq.1.1 (W 1)) ((h_ (((),(bf x.1.2.1),()),(aq.2.1,()))).bind λaB=>(a1 x.1.2.1 (aB.1.1).1).bind λbS=>some ((((W 5),bS.1,()),()),(aB.2.1,()))) ((uM (((),()),(aq.2.1,()))).bind λaS=>some ((aS.1.1,()),(aS.2.1,())))) ((uM (((),()),(x.2.1,()))).bind λa9=>some ((a9.1.1,()),(a9.2.1,())))
def adq:aY:=⟨[(0,b_),(1,aC ck),(2,au)],mP⟩
def auf:aY:=⟨[(0,aC dN)],mP⟩
def En:aY:=⟨[(0,b_),(1,aC ck),(2,au),(7,.tok dN 1 []),(8,au),(9,au),(10,au)],[.box [aC bp,au],.bC dN]⟩
def auc:bG:=[((.exit 0),⟨[(7,.tok dN 2 [])],[.box [aC bp,au],.gone,.bC dN]⟩)]
def Lb (x:U En):Option (U En⊕bo auc):=cond (bg x.1.2.2.2.2.2.2.1 x.1.2.2.2.2.1) ((zc ((),())).bind λaK=>(sE (bc x.1.2.2.2.2.2.1 x.1.2.2.2.2.2.2.1) (W 4)).bind λv4=>(a1 aK.1.1 (v4).1).bind λdO=>(zb (((),x.1.2.1,()),(x.2.1,()))).bind λbJ=>(h_ (((),x.1.2.2.1,()),(bJ.2.1,()))).bind λbK=>(c6 48 x.1.2.2.2.1 (cD [(dO.1,bJ.1.1.1,bJ.1.1.2.1,bK.1.1,())])).bind λjK=>some (.inl (((),x.1.2.1,x.1.2.2.1,jK,x.1.2.2.2.2.1,x.1.2.2.2.2.2.1,(bc x.1.2.2.2.2.2.2.1 (W 1)),()),(bK.2.1,(),())))) (some (.inr ((x.1.2.2.2.1,()),(x.2.1,(),(),()))))
def La (x:U adq):Option (U auf):=(h_ (((),(W 3),()),(x.2.1,()))).bind λaq=>(h_ (((),(W 4),()),(aq.2.1,()))).bind λaB=>(a2 Lb (((),x.1.2.1,x.1.2.2.1,L.nil,(bc (W 1) aq.1.1),aB.1.1,(W 0),()),(aB.2.1,(),()))).bind λbO=>some ((bO.1.1,()),(bO.2.1,()))
def adn:aY:=⟨[(0,b_),(1,aZ),(2,au),(3,aC ck)],mP⟩
def aua:aY:=⟨[(0,.agg du)],mP⟩
def Em:aY:=⟨[(0,b_),(2,au),(3,aC ck),(9,au),(10,.ptr 1 0),(11,au)],[.box [aC bp,au],.box [aZ,.tok ck 2 [],.tok ff 3 []],.bC ck,.bC ff]⟩
def at9:bG:=[((.exit 0),⟨[],[.box [aC bp,au],.box [aZ,.tok ck 4 [],.tok ff 5 []],.gone,.gone,.bC ck,.bC ff]⟩)]
def K_ (x:U Em):Option (U Em⊕bo at9):=cond (bg x.1.2.2.2.2.2.1 x.1.2.2.2.1) ((h_ (((),x.1.2.1,()),(x.2.1,()))).bind λa9=>(h_ (((),(gf x.1.2.1 (W 1)),()),(a9.2.1,()))).bind λbJ=>(sE (bc (bc a9.1.1 (W 1)) bJ.1.1) x.1.2.1).bind λdW=>(a1 x.2.2.1.2.1 (a9.1.1).1).bind λdD=>(a1 x.2.2.1.2.1 (dW).1).bind λeV=>(La (((),x.1.2.2.1,(bc x.1.2.2.2.1 (W 1)),()),(bJ.2.1,()))).bind λcc=>(c6 56 x.2.2.1.2.2.1 (cD [(dD.1,eV.1,cc.1.1,())])).bind λp2=>some (.inl (((),x.1.2.1,x.1.2.2.1,x.1.2.2.2.1,(),(bc x.1.2.2.2.2.2.1 (W 1)),()),(cc.2.1,(x.2.2.1.1,x.2.2.1.2.1,p2,()),(),(),())))) (some (.inr ((),(x.2.1,x.2.2.1,(),(),(),(),()))))
def AU (x:U adn):Option (U aua):=(h_ (((),(W 6),()),(x.2.1,()))).bind λaq=>(ze ((),())).bind λaB=>(nM aB.1.1 0 (x.1.2.2.1).1).bind λcH=>(c6 16 (L.nil:L (D [.str])) cH).bind λjj=>(a2 K_ (((),x.1.2.2.1,x.1.2.2.2.1,(bc (W 1) aq.1.1),(),(W 0),()),(aq.2.1,(x.1.2.1,jj,L.nil,()),(),(),()))).bind λcL=>(c6 56 cL.2.2.1.2.2.1 (cD [((S ⟨#[]⟩),(S ⟨#[]⟩),L.nil,())])).bind λnB=>some (((cL.2.2.1.1,cL.2.2.1.2.1,nB,()),()),(cL.2.1,()))
def Eo:aY:=⟨[(0,b_),(1,aZ),(2,au),(3,aC ck)],mP⟩
def Ep:aY:=⟨[(0,.agg du)],mP⟩
def gp (ro:L (D [.str]))(i:Nat):dY:=((ro.1[i]?).map λe=>e.1).getD (S ⟨#[]⟩)
def uN (go:dY)(eK ro:L (D [.str])):Nat->Nat->D [.a4 [.int .i64],.int .i64]->Option (List (D ff)×D [.a4 [.int .i64],.int .i64])
 |0,_,d=>some ([],d)
 |n+1,i,d=>(zb (((),eK,()),(d,()))).bind λy=>(uN go eK ro n (i+1) y.2.1).bind λr=>
  some ((gp ro i,gp ro (i+1),cD [(go,y.1.1.1,y.1.1.2.1,a_.w .i64 ((i+1:Nat):Int),())],())::r.1,r.2)
def xj:List (D ff)->List (D ff)
 |[]=>[]
 |[p]=>[(p.1,p.2.1,cD (match p.2.2.1.1 with|[]=>[]|a::l=>(a.1,a.2.1,a.2.2.1,a_.w .i64 0,())::l),())]
 |p::q::l=>p::xj (q::l)
def tK (i_:dY)(ro:L (D [.str])):Nat->Nat->Nat->List (D ff)
 |0,_,_=>[]
 |n+1,i,k=>(gp ro i,gp ro (i+1),cD [(i_,a_.w .i64 0,S ⟨#[]⟩,a_.w .i64 ((k+1:Nat):Int),())],())::tK i_ ro n (i+1) (k+1)
def AV (go i_:dY)(ro:L (D [.str]))(m:Nat)(c:D g4)(xg:List (D ff))(od:Option (D g4)):List (D ff):=
 let Mt:Int->D ff:=λk=>(gp ro 0,gp ro 1,cD [(go,c.1,c.2.1,a_.w .i64 1,()),(i_,a_.w .i64 0,S ⟨#[]⟩,a_.w .i64 k,())],())
 let up:Int->List (D ff):=λk=>match od with
  |some b=>Mt k::xg++[(gp ro (m+1),gp ro 0,cD [(S ⟨#[111,107]⟩,b.1,b.2.1,a_.w .i64 0,())],())]
  |none=>xj (Mt k::xg)
 let k:=(up 0).length
 up k++tK i_ ro m 1 k++[(S ⟨#[]⟩,S ⟨#[]⟩,L.nil,())]
def zf (x:U Eo):Option (U Ep):=cond (f_ (a_.w .i64 (2)) x.1.2.2.1) (cond (f_ x.1.2.2.1 (a_.w .i64 (5))) ((ze ((),())).bind λaq=>(nM aq.1.1 0 (x.1.2.2.1).1).bind λv2=>(c6 16 (L.nil:L (D [.str])) v2).bind λcg=>(zc ((),())).bind λaS=>(h_ (((),(a_.w .i64 (2)),()),(x.2.1,()))).bind λa9=>(a1 aS.1.1 (a9.1.1).1).bind λdb=>(h_ (((),(a_.w .i64 (2)),()),(a9.2.1,()))).bind λcl=>(a1 aS.1.1 ((bc (a_.w .i64 (2)) cl.1.1)).1).bind λeV=>(h_ (((),(a_.w .i64 (2)),()),(cl.2.1,()))).bind λcc=>(uM (((),()),(cc.2.1,()))).bind λbT=>(uN db.1 x.1.2.2.2.1 cg (x.1.2.2.1.1-2).toNat 1 bT.2.1).bind λmG=>cond (bb cc.1.1 (a_.w .i64 (1))) ((uM (((),()),(mG.2,()))).bind λcy=>some (((x.1.2.1,cg,cD (AV db.1 eV.1 cg (x.1.2.2.1.1-2).toNat bT.1.1 mG.1 (some cy.1.1)),()),()),(cy.2.1,()))) (some (((x.1.2.1,cg,cD (AV db.1 eV.1 cg (x.1.2.2.1.1-2).toNat bT.1.1 mG.1 none),()),()),(mG.2,())))) (none)) (none)
def adg:aY:=⟨[(0,b_),(1,aZ),(2,aC ck)],mP⟩
def atS:aY:=⟨[(0,.agg du)],mP⟩
def K6 (x:U adg):Option (U atS):=(h_ (((),(W 4),()),(x.2.1,()))).bind λaq=>cond (bb aq.1.1 (W 0)) ((AU (((),x.1.2.1,(W 2),x.1.2.2.1,()),(aq.2.1,()))).bind λaB=>some ((aB.1.1,()),(aB.2.1,()))) (cond (bb aq.1.1 (W 1)) ((h_ (((),(W 3),()),(aq.2.1,()))).bind λaK=>(zf (((),x.1.2.1,(bc (W 2) aK.1.1),x.1.2.2.1,()),(aK.2.1,()))).bind λaS=>some ((aS.1.1,()),(aS.2.1,()))) (cond (bb aq.1.1 (W 2)) ((AU (((),x.1.2.1,(W 3),x.1.2.2.1,()),(aq.2.1,()))).bind λa9=>some ((a9.1.1,()),(a9.2.1,()))) ((zf (((),x.1.2.1,(W 3),x.1.2.2.1,()),(aq.2.1,()))).bind λbJ=>some ((bJ.1.1,()),(bJ.2.1,())))))
def adi:aY:=⟨[(0,b_),(1,aZ),(2,aC ck)],mP⟩
def atY:aY:=⟨[(0,.agg du)],mP⟩
def Ek (x:U adi):Option (U atY):=(K6 (((),x.1.2.1,x.1.2.2.1,()),(x.2.1,()))).bind λaq=>(B2 ((aq.1.1,()),())).bind λaB=>cond (bb aB.1.2.2.1 (W 0)) (some ((aq.1.1,()),(aq.2.1,()))) ((AU (((),x.1.2.1,(W 2),x.1.2.2.1,()),(aq.2.1,()))).bind λaK=>some ((aK.1.1,()),(aK.2.1,())))
def adl:=aJ [(0,.agg du)]
def at6:=aJ [(0,aC ck)]
def El:aY:=⟨[(1,.cJ du 0),(3,.tok ck 0 []),(4,au)],[.bC ck]⟩
def at3:bG:=[((.exit 0),⟨[(3,.tok ck 1 [])],[.gone,.bC ck]⟩)]
def K9 (x:U El):Option (U El⊕bo at3):=cond (bg x.1.2.2.1 (bf x.1.1.2.1)) ((fE x.1.1.1 (S ⟨#[46]⟩)).bind λv1=>(a1 x.1.1.2.1 (x.1.2.2.1).1).bind λaP=>(fE v1 aP.1).bind λcH=>(c6 16 x.1.2.1 (cD [(cH,())])).bind λjj=>some (.inl ((x.1.1,jj,(bc x.1.2.2.1 (W 1)),()),((),())))) (some (.inr ((x.1.2.1,()),((),(),()))))
def K8 (x:U adl):Option (U at6):=(a2 K9 ((x.1.1,L.nil,(W 0),()),((),()))).bind λa9=>some ((a9.1.1,()),())
def adh:aY:=⟨[(0,b_)],mP⟩
def atV:aY:=⟨[(0,aC du)],mP⟩
def K7 (x:U adh):Option (U atV):=(Ek (((),(S ⟨#[112]⟩),L.nil,()),(x.2.1,()))).bind λaq=>(h_ (((),(W 2),()),(aq.2.1,()))).bind λaB=>cond (bb aB.1.1 (W 1)) ((K8 ((aq.1.1,()),())).bind λaK=>(Ek (((),(S ⟨#[113]⟩),aK.1.1,()),(aB.2.1,()))).bind λaS=>(c6 64 (cD [aq.1.1]) (cD [aS.1.1])).bind λgV=>some ((gV,()),(aS.2.1,()))) (some (((cD [aq.1.1]),()),(aB.2.1,())))
def ade:=aJ [(0,.agg du),(1,aZ)]
def atH:=aJ [(0,aZ)]
def za (x:U ade):Option (U atH):=(fE x.1.1.1 x.1.2.1).bind λv1=>some ((v1,()),())
def ads:=aJ [(0,au)]
def auh:=aJ [(0,.sJ cU [false,false,false,false,false,false,false,true,true,false])]
def nT (x:U ads):Option (U auh):=some (((x.1.1,(S ⟨#[]⟩),(S ⟨#[]⟩),(S ⟨#[]⟩),(S ⟨#[]⟩),(W (-1)),L.nil,L.nil,L.nil,(W (-1)),()),()),())
def aed:aY:=⟨[(0,b_),(1,.sJ cU kD)],m4⟩
def auW:aY:=⟨[(0,au)],m3⟩
def sI (x:U aed):Option (U auW):=(c6 160 x.2.2.2.2.1 (cD [(x.1.2.1.1,x.1.2.1.2.1,x.1.2.1.2.2.1,x.1.2.1.2.2.2.1,x.1.2.1.2.2.2.2.1,x.1.2.1.2.2.2.2.2.1,x.1.2.1.2.2.2.2.2.2.1,x.1.2.1.2.2.2.2.2.2.2.1,L.nil,(W (-1)),())])).bind λdF=>some (((gf (W (dF.1.length:Nat)) (W 1)),()),(((),x.2.1.2.1,x.2.1.2.2.1,x.2.1.2.2.2.1,x.2.1.2.2.2.2.1,(),x.2.1.2.2.2.2.2.2.1,x.2.1.2.2.2.2.2.2.2.1,x.2.1.2.2.2.2.2.2.2.2.1,x.2.1.2.2.2.2.2.2.2.2.2.1,(gf x.2.1.2.2.2.2.2.2.2.2.2.2.1 (W 1)),()),x.2.2.1,(),(),(),dF,()))
def aef:aY:=⟨[(0,b_),(1,.sJ cU kD)],m4⟩
def auY:aY:=⟨[(0,au)],m3⟩
def rO (x:U aef):Option (U auY):=(sI (((),(x.1.2.1.1,x.1.2.1.2.1,x.1.2.1.2.2.1,x.1.2.1.2.2.2.1,x.1.2.1.2.2.2.2.1,x.1.2.1.2.2.2.2.2.1,x.1.2.1.2.2.2.2.2.2.1,x.1.2.1.2.2.2.2.2.2.2.1,L.nil,x.1.2.1.2.2.2.2.2.2.2.2.2.1,()),()),(x.2.1,x.2.2.1,(),x.2.2.2.2.1,()))).bind λaq=>cond (decide (0<=(aq.1.1).1)&&decide ((aq.1.1).1<(aq.2.2.2.2.2.2.1.1.length:Nat))) ((fq aq.2.2.2.2.2.2.1 ((aq.1.1).1).toNat).bind λaP=>some ((aq.1.1,()),(aq.2.1,aq.2.2.1,(),(),(),(ej aq.2.2.2.2.2.2.1 ((aq.1.1).1).toNat (aP.1,aP.2.1,aP.2.2.1,aP.2.2.2.1,aP.2.2.2.2.1,aP.2.2.2.2.2.1,aP.2.2.2.2.2.2.1,aP.2.2.2.2.2.2.2.1,aP.2.2.2.2.2.2.2.2.1,(W (aq.2.2.2.2.2.2.1.1.length:Nat)),())),()))) (none)
def adW:aY:=⟨[(0,b_),(1,bA)],m4⟩
def auC:aY:=⟨[(0,au)],m3⟩
def AX (x:U adW):Option (U auC):=cond (!x.1.2.1) ((nT (((W 9),()),())).bind λaq=>(rO (((),(aq.1.1.1,(S ⟨#[99]⟩),aq.1.1.2.2.1,aq.1.1.2.2.2.1,aq.1.1.2.2.2.2.1,aq.1.1.2.2.2.2.2.1,aq.1.1.2.2.2.2.2.2.1,L.nil,L.nil,aq.1.1.2.2.2.2.2.2.2.2.2.1,()),()),(x.2.1,x.2.2.1,(),x.2.2.2.2.1,()))).bind λaB=>(nT (((W 0),()),())).bind λaK=>(sI (((),(aK.1.1.1,aK.1.1.2.1,aK.1.1.2.2.1,aK.1.1.2.2.2.1,aK.1.1.2.2.2.2.1,aK.1.1.2.2.2.2.2.1,aK.1.1.2.2.2.2.2.2.1,L.nil,L.nil,aK.1.1.2.2.2.2.2.2.2.2.2.1,()),()),(aB.2.1,aB.2.2.1,(),aB.2.2.2.2.2.2.1,()))).bind λaS=>some (((W (x.2.2.2.2.1.1.length:Nat)),()),(aS.2.1,aS.2.2.1,(),(),(),aS.2.2.2.2.2.2.1,()))) ((nT (((W 0),()),())).bind λa9=>(sI (((),(a9.1.1.1,a9.1.1.2.1,a9.1.1.2.2.1,a9.1.1.2.2.2.1,a9.1.1.2.2.2.2.1,a9.1.1.2.2.2.2.2.1,a9.1.1.2.2.2.2.2.2.1,L.nil,L.nil,a9.1.1.2.2.2.2.2.2.2.2.2.1,()),()),(x.2.1,x.2.2.1,(),x.2.2.2.2.1,()))).bind λbJ=>some (((W (x.2.2.2.2.1.1.length:Nat)),()),(bJ.2.1,bJ.2.2.1,(),(),(),bJ.2.2.2.2.2.2.1,())))
def aee:aY:=⟨[(0,b_),(1,.agg eu)],m4⟩
def auX:aY:=⟨[(0,au)],m3⟩
def uP (x:U aee):Option (U auX):=(c6 64 x.2.1.2.2.2.2.1 (cD [x.1.2.1])).bind λdF=>some (((gf (bf dF) (W 1)),()),(((),x.2.1.2.1,x.2.1.2.2.1,x.2.1.2.2.2.1,dF,(),x.2.1.2.2.2.2.2.2.1,x.2.1.2.2.2.2.2.2.2.1,x.2.1.2.2.2.2.2.2.2.2.1,x.2.1.2.2.2.2.2.2.2.2.2.1,x.2.1.2.2.2.2.2.2.2.2.2.2.1,()),x.2.2.1,(),(),(),x.2.2.2.2.1,()))
def T0:aY:=⟨[(0,b_),(1,au)],m4⟩
def ad9:aY:=⟨[(0,au)],m3⟩
def rN (x:U T0):Option (U ad9):=(uP (((),((W 1),(S ⟨#[]⟩),x.1.2.1,(S ⟨#[]⟩),(W (-1)),(W (-1)),()),()),(x.2.1,x.2.2.1,(),x.2.2.2.2.1,()))).bind λaq=>some ((aq.1.1,()),(aq.2.1,aq.2.2.1,(),(),(),aq.2.2.2.2.2.2.1,()))
def ad8:aY:=⟨[(0,b_),(1,aZ)],m4⟩
def auP:aY:=⟨[(0,au)],m3⟩
def qH (x:U ad8):Option (U auP):=(uP (((),((W 0),x.1.2.1,(W 0),(S ⟨#[]⟩),(W (-1)),(W (-1)),()),()),(x.2.1,x.2.2.1,(),x.2.2.2.2.1,()))).bind λaq=>some ((aq.1.1,()),(aq.2.1,aq.2.2.1,(),(),(),aq.2.2.2.2.2.2.1,()))
def adV:aY:=⟨[(0,b_),(1,au),(2,au),(3,au)],m4⟩
def auB:aY:=⟨[(0,au)],m3⟩
def tL (x:U adV):Option (U auB):=(uP (((),(x.1.2.1,(S ⟨#[]⟩),(W 0),(S ⟨#[]⟩),x.1.2.2.1,x.1.2.2.2.1,()),()),(x.2.1,x.2.2.1,(),x.2.2.2.2.1,()))).bind λaq=>some ((aq.1.1,()),(aq.2.1,aq.2.2.1,(),(),(),aq.2.2.2.2.2.2.1,()))
def ad7:aY:=⟨[(0,b_)],m4⟩
def auN:aY:=⟨[(0,au)],m3⟩
def Lk (x:U ad7):Option (U auN):=(qH (((),(S ⟨#[110]⟩),()),(x.2.1,x.2.2.1,(),x.2.2.2.2.1,()))).bind λaq=>(rN (((),(W 1),()),(aq.2.1,aq.2.2.1,(),aq.2.2.2.2.2.2.1,()))).bind λaB=>(tL (((),(W 7),aq.1.1,aB.1.1,()),(aB.2.1,aB.2.2.1,(),aB.2.2.2.2.2.2.1,()))).bind λaK=>some ((aK.1.1,()),(aK.2.1,aK.2.2.1,(),(),(),aK.2.2.2.2.2.2.1,()))
def adM:aY:=⟨[(0,b_)],m4⟩
def aut:aY:=⟨[],m3⟩
def Lf (x:U adM):Option (U aut):=(nT (((W 3),()),())).bind λaq=>(rN (((),(W 0),()),(x.2.1,x.2.2.1,(),x.2.2.2.2.1,()))).bind λaB=>(qH (((),(S ⟨#[110]⟩),()),(aB.2.1,aB.2.2.1,(),aB.2.2.2.2.2.2.1,()))).bind λaK=>(tL (((),(W 12),aB.1.1,aK.1.1,()),(aK.2.1,aK.2.2.1,(),aK.2.2.2.2.2.2.1,()))).bind λaS=>(sI (((),(aq.1.1.1,aq.1.1.2.1,aq.1.1.2.2.1,aq.1.1.2.2.2.1,aq.1.1.2.2.2.2.1,aS.1.1,aq.1.1.2.2.2.2.2.2.1,L.nil,L.nil,aq.1.1.2.2.2.2.2.2.2.2.2.1,()),()),(aS.2.1,aS.2.2.1,(),aS.2.2.2.2.2.2.1,()))).bind λa9=>cond (decide (0<=(a9.1.1).1)&&decide ((a9.1.1).1<(a9.2.2.2.2.2.2.1.1.length:Nat))) ((fq a9.2.2.2.2.2.2.1 ((a9.1.1).1).toNat).bind λdb=>(c6 40 db.2.2.2.2.2.2.2.2.1 (cD [((S ⟨#[]⟩),(S ⟨#[]⟩),(W (a9.2.2.2.2.2.2.1.1.length:Nat)),())])).bind λiV=>cond (decide (0<=(a9.1.1).1)&&decide ((a9.1.1).1<(a9.2.2.2.2.2.2.1.1.length:Nat))) ((fq a9.2.2.2.2.2.2.1 ((a9.1.1).1).toNat).bind λdD=>cond (decide (((a9.1.1).1).toNat=((a9.1.1).1).toNat)) ((nT (((W 6),()),())).bind λbO=>(qH (((),(S ⟨#[99]⟩),()),(a9.2.1,a9.2.2.1,(),(ej a9.2.2.2.2.2.2.1 ((a9.1.1).1).toNat (dD.1,dD.2.1,dD.2.2.1,dD.2.2.2.1,dD.2.2.2.2.1,dD.2.2.2.2.2.1,dD.2.2.2.2.2.2.1,dD.2.2.2.2.2.2.2.1,iV,dD.2.2.2.2.2.2.2.2.2.1,())),()))).bind λcc=>(Lk (((),()),(cc.2.1,cc.2.2.1,(),cc.2.2.2.2.2.2.1,()))).bind λbT=>(sI (((),(bO.1.1.1,bO.1.1.2.1,bO.1.1.2.2.1,bO.1.1.2.2.2.1,a9.2.1.2.2.2.2.2.2.1,bO.1.1.2.2.2.2.2.1,(cD [(cc.1.1,()),(bT.1.1,())]),L.nil,L.nil,bO.1.1.2.2.2.2.2.2.2.2.2.1,()),()),(bT.2.1,bT.2.2.1,(),bT.2.2.2.2.2.2.1,()))).bind λcL=>(AX (((),false,()),(cL.2.1,cL.2.2.1,(),cL.2.2.2.2.2.2.1,()))).bind λcy=>cond (decide (0<=(a9.1.1).1)&&decide ((a9.1.1).1<(cy.2.2.2.2.2.2.1.1.length:Nat))) ((fq cy.2.2.2.2.2.2.1 ((a9.1.1).1).toNat).bind λiu=>(c6 40 iu.2.2.2.2.2.2.2.2.1 (cD [((S ⟨#[]⟩),(S ⟨#[]⟩),cy.1.1,())])).bind λp4=>cond (decide (0<=(a9.1.1).1)&&decide ((a9.1.1).1<(cy.2.2.2.2.2.2.1.1.length:Nat))) ((fq cy.2.2.2.2.2.2.1 ((a9.1.1).1).toNat).bind λhY=>cond (decide (((a9.1.1).1).toNat=((a9.1.1).1).toNat)) (some ((),(cy.2.1,cy.2.2.1,(),(),(),(ej cy.2.2.2.2.2.2.1 ((a9.1.1).1).toNat (hY.1,hY.2.1,hY.2.2.1,hY.2.2.2.1,hY.2.2.2.2.1,hY.2.2.2.2.2.1,hY.2.2.2.2.2.2.1,hY.2.2.2.2.2.2.2.1,p4,hY.2.2.2.2.2.2.2.2.2.1,())),()))) (none)) (none)) (none)) (none)) (none)) (none)
def adY:aY:=⟨[(0,b_)],m4⟩
def auD:aY:=⟨[(0,aZ)],m3⟩
def Es (x:U adY):Option (U auD):=(GA (((bc x.2.1.2.2.2.2.2.2.2.2.2.1 (W 1)),()),())).bind λaq=>(fE (S ⟨#[118]⟩) aq.1.1).bind λv2=>some ((v2,()),(((),x.2.1.2.1,x.2.1.2.2.1,x.2.1.2.2.2.1,x.2.1.2.2.2.2.1,(),x.2.1.2.2.2.2.2.2.1,x.2.1.2.2.2.2.2.2.2.1,x.2.1.2.2.2.2.2.2.2.2.1,(bc x.2.1.2.2.2.2.2.2.2.2.2.1 (W 1)),x.2.1.2.2.2.2.2.2.2.2.2.2.1,()),x.2.2.1,(),(),(),x.2.2.2.2.1,()))
def aeh:aY:=⟨[(0,b_),(1,aZ)],m4⟩
def au7:aY:=⟨[(0,.agg du),(1,aZ)],m3⟩
def Lp:aY:=⟨[(0,b_),(1,aZ),(4,.ptr 4 0),(6,au),(7,au)],[.box [.ptr 1 0,aC du,aZ,aC gI,.tok eu 2 [],.arr 3 cU kD,aZ,aC dZ,au,au,au],.box [aC bp,au],.bC eu,.arr cU kD,.box [aZ,.dm,.dm]]⟩
def au5:bG:=[((.exit 2),⟨[],[.box [.ptr 1 0,aC du,aZ,aC gI,.tok eu 5 [],.arr 6 cU kD,aZ,aC dZ,au,au,au],.box [aC bp,au],.gone,.gone,.box [aZ,.dm,.dm],.bC eu,.arr cU kD]⟩),(.ret,⟨[(5,aZ)],[.box [.ptr 1 0,aC du,aZ,aC gI,.tok eu 5 [],.arr 6 cU kD,aZ,aC dZ,au,au,au],.box [aC bp,au],.gone,.gone,.box [aZ,aC ck,aC ff],.bC eu,.arr cU kD]⟩)]
def Lo (x:U Lp):Option (U Lp⊕bo au5):=(a1 x.2.1.2.1 (x.1.2.2.2.1).1).bind λaE=>cond (bg x.1.2.2.2.2.1 (bf aE.2.1)) ((a1 x.2.1.2.1 (x.1.2.2.2.1).1).bind λaP=>(fE aP.1 (S ⟨#[46]⟩)).bind λcH=>(a1 x.2.1.2.1 (x.1.2.2.2.1).1).bind λcR=>(a1 cR.2.1 (x.1.2.2.2.2.1).1).bind λdO=>(fE cH dO.1).bind λv6=>cond (cz v6 x.1.2.1) ((a1 x.2.1.2.1 (x.1.2.2.2.1).1).bind λfm=>(a1 x.2.1.2.1 (x.1.2.2.2.1).1).bind λdD=>(a1 dD.2.1 (x.1.2.2.2.2.1).1).bind λeV=>some (.inr (.inr ((eV.1,()),(x.2.1,x.2.2.1,(),(),(fm.1,fm.2.1,fm.2.2.1,()),(),x.2.2.2.2.1,()))))) (some (.inl (((),x.1.2.1,(),x.1.2.2.2.1,(bc x.1.2.2.2.2.1 (W 1)),()),(x.2.1,x.2.2.1,(),x.2.2.2.2.1,x.2.2.2.2.2.1,()))))) (some (.inr (.inl ((),(x.2.1,x.2.2.1,(),(),x.2.2.2.2.2.1,(),x.2.2.2.2.1,())))))
def T3:aY:=⟨[(0,b_),(1,aZ),(4,.ptr 4 0),(6,au)],[.box [.ptr 1 0,aC du,aZ,aC gI,.tok eu 2 [],.arr 3 cU kD,aZ,aC dZ,au,au,au],.box [aC bp,au],.bC eu,.arr cU kD,.box [aZ,.dm,.dm]]⟩
def au3:bG:=[((.exit 0),⟨[],[.box [.ptr 1 0,aC du,aZ,aC gI,.tok eu 5 [],.arr 6 cU kD,aZ,aC dZ,au,au,au],.box [aC bp,au],.gone,.gone,.box [aZ,.dm,.dm],.bC eu,.arr cU kD]⟩),(.ret,⟨[(5,aZ)],[.box [.ptr 1 0,aC du,aZ,aC gI,.tok eu 5 [],.arr 6 cU kD,aZ,aC dZ,au,au,au],.box [aC bp,au],.gone,.gone,.box [aZ,aC ck,aC ff],.bC eu,.arr cU kD]⟩)]
def Ln (x:U T3):Option (U T3⊕bo au3):=cond (bg x.1.2.2.2.1 (bf x.2.1.2.1)) ((a2 Lo (((),x.1.2.1,(),x.1.2.2.2.1,(W 0),()),(x.2.1,x.2.2.1,(),x.2.2.2.2.1,x.2.2.2.2.2.1,()))).bind λcc=>Sum.elim (λbT=>some (.inl (((),x.1.2.1,(),(bc x.1.2.2.2.1 (W 1)),()),(bT.2.1,bT.2.2.1,(),bT.2.2.2.2.2.2.2.1,bT.2.2.2.2.2.1,())))) (λcL=>some (.inr (.inr ((cL.1.1,()),(cL.2.1,cL.2.2.1,(),(),cL.2.2.2.2.2.1,(),cL.2.2.2.2.2.2.2.1,()))))) cc) (some (.inr (.inl ((),(x.2.1,x.2.2.1,(),(),x.2.2.2.2.2.1,(),x.2.2.2.2.1,())))))
def Ev (x:U aeh):Option (U au7):=(a2 Ln (((),x.1.2.1,(),(W 0),()),(x.2.1,x.2.2.1,(),x.2.2.2.2.1,((S ⟨#[]⟩),(),(),()),()))).bind λcy=>Sum.elim (λdX=>(a1 dX.2.1.2.1 ((W 0)).1).bind λhY=>(a1 dX.2.1.2.1 ((W 0)).1).bind λk1=>(a1 k1.2.1 ((W 0)).1).bind λk2=>some ((hY,k2.1,()),(dX.2.1,dX.2.2.1,(),(),(),dX.2.2.2.2.2.2.2.1,()))) (λdy=>some (((dy.2.2.2.2.2.1.1,dy.2.2.2.2.2.1.2.1,dy.2.2.2.2.2.1.2.2.1,()),dy.1.1,()),(dy.2.1,dy.2.2.1,(),(),(),dy.2.2.2.2.2.2.2.1,()))) cy
def aeg:aY:=⟨[(0,b_),(1,aZ),(2,.agg g4)],m4⟩
def au0:aY:=⟨[],m3⟩
def Lm (x:U aeg):Option (U au0):=cond (!bb x.1.2.2.1.1 (W 5)) ((h_ (((),(W 3),()),(x.2.2.1,()))).bind λaq=>cond (bb aq.1.1 (W 0)) ((nT (((W 2),()),())).bind λaB=>(qH (((),x.1.2.1,()),(x.2.1,aq.2.1,(),x.2.2.2.2.1,()))).bind λaK=>(rO (((),(aB.1.1.1,aB.1.1.2.1,aB.1.1.2.2.1,aB.1.1.2.2.2.1,aB.1.1.2.2.2.2.1,aK.1.1,aB.1.1.2.2.2.2.2.2.1,L.nil,L.nil,aB.1.1.2.2.2.2.2.2.2.2.2.1,()),()),(aK.2.1,aK.2.2.1,(),aK.2.2.2.2.2.2.1,()))).bind λaS=>some ((),(aS.2.1,aS.2.2.1,(),(),(),aS.2.2.2.2.2.2.1,()))) (some ((),(x.2.1,aq.2.1,(),(),(),x.2.2.2.2.1,())))) ((h_ (((),(W 3),()),(x.2.2.1,()))).bind λa9=>cond (bb a9.1.1 (W 0)) ((nT (((W 9),()),())).bind λbJ=>(rO (((),(bJ.1.1.1,x.1.2.1,bJ.1.1.2.2.1,bJ.1.1.2.2.2.1,bJ.1.1.2.2.2.2.1,bJ.1.1.2.2.2.2.2.1,bJ.1.1.2.2.2.2.2.2.1,L.nil,L.nil,bJ.1.1.2.2.2.2.2.2.2.2.2.1,()),()),(x.2.1,a9.2.1,(),x.2.2.2.2.1,()))).bind λbK=>some ((),(bK.2.1,bK.2.2.1,(),(),(),bK.2.2.2.2.2.2.1,()))) ((Ev (((),x.1.2.2.1.2.1,()),(x.2.1,a9.2.1,(),x.2.2.2.2.1,()))).bind λcl=>(nT (((W 7),()),())).bind λbO=>(za ((cl.1.1,cl.1.2.1,()),())).bind λcc=>(qH (((),x.1.2.1,()),(cl.2.1,cl.2.2.1,(),cl.2.2.2.2.2.2.1,()))).bind λbT=>(h_ (((),(W 3),()),(bT.2.2.1,()))).bind λcL=>(rN (((),cL.1.1,()),(bT.2.1,cL.2.1,(),bT.2.2.2.2.2.2.1,()))).bind λcy=>(rO (((),(bO.1.1.1,bO.1.1.2.1,bO.1.1.2.2.1,bO.1.1.2.2.2.1,cc.1.1,bO.1.1.2.2.2.2.2.1,(cD [(bT.1.1,()),(cy.1.1,())]),L.nil,L.nil,bO.1.1.2.2.2.2.2.2.2.2.2.1,()),()),(cy.2.1,cy.2.2.1,(),cy.2.2.2.2.2.2.1,()))).bind λdX=>some ((),(dX.2.1,dX.2.2.1,(),(),(),dX.2.2.2.2.2.2.1,()))))
def ad_:aY:=⟨[(0,b_),(1,.agg du),(2,aZ)],m4⟩
def auS:aY:=⟨[(0,aZ)],m3⟩
def T1:aY:=⟨[(0,b_),(2,aZ),(4,.cJ du 0),(7,.ptr 4 0),(8,au)],[.box [.ptr 1 0,aC du,aZ,aC gI,.tok eu 2 [],.arr 3 cU kD,aZ,aC dZ,au,au,au],.box [aC bp,au],.bC eu,.arr cU kD,.box [au,aZ,aZ,aZ,aZ,au,aC bp,.tok fR 5 [],.dm,au],.bC fR]⟩
def auR:bG:=[((.exit 0),⟨[],[.box [.ptr 1 0,aC du,aZ,aC gI,.tok eu 6 [],.arr 7 cU kD,aZ,aC dZ,au,au,au],.box [aC bp,au],.gone,.gone,.box [au,aZ,aZ,aZ,aZ,au,aC bp,.tok fR 8 [],.dm,au],.gone,.bC eu,.arr cU kD,.bC fR]⟩)]
def Ll (x:U T1):Option (U T1⊕bo auR):=cond (bg x.1.2.2.2.2.1 (bf x.1.2.2.1.2.1)) ((a1 x.1.2.2.1.2.1 (x.1.2.2.2.2.1).1).bind λbS=>cond (!cz bS.1 x.1.2.1) ((a1 x.1.2.2.1.2.1 (x.1.2.2.2.2.1).1).bind λcR=>(a1 x.1.2.2.1.2.1 (x.1.2.2.2.2.1).1).bind λdO=>(za ((x.1.2.2.1,dO.1,()),())).bind λbJ=>(h_ (((),(W 4),()),(x.2.2.1,()))).bind λbK=>(rN (((),bK.1.1,()),(x.2.1,bK.2.1,(),x.2.2.2.2.1,()))).bind λcl=>(c6 56 x.2.2.2.2.2.1.2.2.2.2.2.2.2.1 (cD [(cR.1,bJ.1.1,(cD [(cl.1.1,())]),())])).bind λj2=>some (.inl (((),x.1.2.1,x.1.2.2.1,(),(bc x.1.2.2.2.2.1 (W 1)),()),(cl.2.1,cl.2.2.1,(),cl.2.2.2.2.2.2.1,(x.2.2.2.2.2.1.1,x.2.2.2.2.2.1.2.1,x.2.2.2.2.2.1.2.2.1,x.2.2.2.2.2.1.2.2.2.1,x.2.2.2.2.2.1.2.2.2.2.1,x.2.2.2.2.2.1.2.2.2.2.2.1,x.2.2.2.2.2.1.2.2.2.2.2.2.1,j2,(),x.2.2.2.2.2.1.2.2.2.2.2.2.2.2.2.1,()),(),())))) (some (.inl (((),x.1.2.1,x.1.2.2.1,(),(bc x.1.2.2.2.2.1 (W 1)),()),(x.2.1,x.2.2.1,(),x.2.2.2.2.1,x.2.2.2.2.2.1,(),()))))) (some (.inr ((),(x.2.1,x.2.2.1,(),(),x.2.2.2.2.2.1,(),(),x.2.2.2.2.1,(),()))))
def Et (x:U ad_):Option (U auS):=(nT (((W 8),()),())).bind λaq=>(Es (((),()),(x.2.1,x.2.2.1,(),x.2.2.2.2.1,()))).bind λaB=>(a2 Ll (((),x.1.2.2.1,x.1.2.1,(),(W 0),()),(aB.2.1,aB.2.2.1,(),aB.2.2.2.2.2.2.1,(aq.1.1.1,aB.1.1,x.1.2.2.1,x.1.2.1.1,aq.1.1.2.2.2.2.1,aq.1.1.2.2.2.2.2.1,aq.1.1.2.2.2.2.2.2.1,L.nil,(),aq.1.1.2.2.2.2.2.2.2.2.2.1,()),(),()))).bind λcc=>(rO (((),(cc.2.2.2.2.2.1.1,cc.2.2.2.2.2.1.2.1,cc.2.2.2.2.2.1.2.2.1,cc.2.2.2.2.2.1.2.2.2.1,cc.2.2.2.2.2.1.2.2.2.2.1,cc.2.2.2.2.2.1.2.2.2.2.2.1,cc.2.2.2.2.2.1.2.2.2.2.2.2.1,cc.2.2.2.2.2.1.2.2.2.2.2.2.2.1,L.nil,cc.2.2.2.2.2.1.2.2.2.2.2.2.2.2.2.1,()),()),(cc.2.1,cc.2.2.1,(),cc.2.2.2.2.2.2.2.2.1,()))).bind λbT=>some ((cc.2.2.2.2.2.1.2.1,()),(bT.2.1,bT.2.2.1,(),(),(),bT.2.2.2.2.2.2.1,()))
def ad1:aY:=⟨[(0,b_),(1,au)],m4⟩
def auF:aY:=⟨[(0,au)],m3⟩
def Lh (x:U ad1):Option (U auF):=cond (bb x.1.2.1 (W 1)) ((h_ (((),(W 5),()),(x.2.2.1,()))).bind λaq=>cond (bb aq.1.1 (W 0)) ((rN (((),(W 12),()),(x.2.1,aq.2.1,(),x.2.2.2.2.1,()))).bind λaB=>(qH (((),(S ⟨#[110]⟩),()),(aB.2.1,aB.2.2.1,(),aB.2.2.2.2.2.2.1,()))).bind λaK=>(tL (((),(W 9),aB.1.1,aK.1.1,()),(aK.2.1,aK.2.2.1,(),aK.2.2.2.2.2.2.1,()))).bind λaS=>some ((aS.1.1,()),(aS.2.1,aS.2.2.1,(),(),(),aS.2.2.2.2.2.2.1,()))) (cond (bb aq.1.1 (W 1)) ((h_ (((),(W 9),()),(aq.2.1,()))).bind λa9=>(rN (((),(gf a9.1.1 (W 3)),()),(x.2.1,a9.2.1,(),x.2.2.2.2.1,()))).bind λbJ=>some ((bJ.1.1,()),(bJ.2.1,bJ.2.2.1,(),(),(),bJ.2.2.2.2.2.2.1,()))) ((qH (((),(S ⟨#[110]⟩),()),(x.2.1,aq.2.1,(),x.2.2.2.2.1,()))).bind λbK=>(h_ (((),(W 5),()),(bK.2.2.1,()))).bind λcl=>(rN (((),cl.1.1,()),(bK.2.1,cl.2.1,(),bK.2.2.2.2.2.2.1,()))).bind λbO=>(tL (((),(W 6),bK.1.1,bO.1.1,()),(bO.2.1,bO.2.2.1,(),bO.2.2.2.2.2.2.1,()))).bind λcc=>some ((cc.1.1,()),(cc.2.1,cc.2.2.1,(),(),(),cc.2.2.2.2.2.2.1,()))))) (cond (bb x.1.2.1 (W 2)) ((qH (((),(S ⟨#[110]⟩),()),(x.2.1,x.2.2.1,(),x.2.2.2.2.1,()))).bind λbT=>(h_ (((),(W 4),()),(bT.2.2.1,()))).bind λcL=>(rN (((),cL.1.1,()),(bT.2.1,cL.2.1,(),bT.2.2.2.2.2.2.1,()))).bind λcy=>(tL (((),(W 12),bT.1.1,cy.1.1,()),(cy.2.1,cy.2.2.1,(),cy.2.2.2.2.2.2.1,()))).bind λdX=>some ((dX.1.1,()),(dX.2.1,dX.2.2.1,(),(),(),dX.2.2.2.2.2.2.1,()))) (cond (bb x.1.2.1 (W 3)) ((h_ (((),(W 9),()),(x.2.2.1,()))).bind λdy=>(GA ((dy.1.1,()),())).bind λeD=>(fE (S ⟨#[116]⟩) eD.1.1).bind λlj=>(uP (((),((W 3),(S ⟨#[]⟩),(W 0),lj,(W (-1)),(W (-1)),()),()),(x.2.1,dy.2.1,(),x.2.2.2.2.1,()))).bind λeY=>(uP (((),((W 3),(S ⟨#[]⟩),(W 0),(S ⟨#[117]⟩),(W (-1)),(W (-1)),()),()),(eY.2.1,eY.2.2.1,(),eY.2.2.2.2.2.2.1,()))).bind λfe=>(tL (((),(W 19),eY.1.1,fe.1.1,()),(fe.2.1,fe.2.2.1,(),fe.2.2.2.2.2.2.1,()))).bind λfM=>some ((fM.1.1,()),(fM.2.1,fM.2.2.1,(),(),(),fM.2.2.2.2.2.2.1,()))) ((uP (((),((W 4),(S ⟨#[]⟩),(W 0),(S ⟨#[]⟩),(W (-1)),(W (-1)),()),()),(x.2.1,x.2.2.1,(),x.2.2.2.2.1,()))).bind λiD=>(qH (((),(S ⟨#[110]⟩),()),(iD.2.1,iD.2.2.1,(),iD.2.2.2.2.2.2.1,()))).bind λfa=>(tL (((),(W 18),iD.1.1,fa.1.1,()),(fa.2.1,fa.2.2.1,(),fa.2.2.2.2.2.2.1,()))).bind λlD=>some ((lD.1.1,()),(lD.2.1,lD.2.2.1,(),(),(),lD.2.2.2.2.2.2.1,())))))
def pc:aY:=⟨[(0,b_),(1,au),(2,au)],m4⟩
def rj:aY:=⟨[],m3⟩
def aec:aY:=⟨[(0,b_),(1,au),(2,au),(3,au)],m4⟩
def auV:aY:=⟨[(0,au)],m3⟩
def AY (rec:U pc->Option (U rj))(x:U aec):Option (U auV):=(a1 x.2.1.2.2.2.2.2.2.2.1 (x.2.1.2.2.2.2.2.2.2.2.1).1).bind λaE=>(a1 aE.2.1 (x.1.2.1).1).bind λaP=>(a1 aP.2.2.1 (x.1.2.2.1).1).bind λbS=>(nT (((W 4),()),())).bind λaS=>cond (bb bS.2.1 (W 0)) ((rO (((),(aS.1.1.1,(S ⟨#[99]⟩),aP.2.1,bS.1,aS.1.1.2.2.2.2.1,aS.1.1.2.2.2.2.2.1,aS.1.1.2.2.2.2.2.2.1,L.nil,L.nil,aS.1.1.2.2.2.2.2.2.2.2.2.1,()),()),(x.2.1,x.2.2.1,(),x.2.2.2.2.1,()))).bind λbO=>(rec (((),bS.2.2.2.1,(bc x.1.2.2.2.1 (W 1)),()),(bO.2.1,bO.2.2.1,(),bO.2.2.2.2.2.2.1,()))).bind λcc=>some (((W (x.2.2.2.2.1.1.length:Nat)),()),(cc.2.1,cc.2.2.1,(),(),(),cc.2.2.2.2.2.2.1,()))) (cond (bb bS.2.1 (W 5)) ((Ev (((),bS.2.2.1,()),(x.2.1,x.2.2.1,(),x.2.2.2.2.1,()))).bind λa9=>(Et (((),a9.1.1,a9.1.2.1,()),(a9.2.1,a9.2.2.1,(),a9.2.2.2.2.2.2.1,()))).bind λbJ=>(qH (((),bJ.1.1,()),(bJ.2.1,bJ.2.2.1,(),bJ.2.2.2.2.2.2.1,()))).bind λbK=>(rO (((),(aS.1.1.1,(S ⟨#[99]⟩),aP.2.1,bS.1,aS.1.1.2.2.2.2.1,bK.1.1,aS.1.1.2.2.2.2.2.2.1,L.nil,L.nil,aS.1.1.2.2.2.2.2.2.2.2.2.1,()),()),(bK.2.1,bK.2.2.1,(),bK.2.2.2.2.2.2.1,()))).bind λbT=>(rec (((),bS.2.2.2.1,(bc x.1.2.2.2.1 (W 1)),()),(bT.2.1,bT.2.2.1,(),bT.2.2.2.2.2.2.1,()))).bind λcL=>some (((W (x.2.2.2.2.1.1.length:Nat)),()),(cL.2.1,cL.2.2.1,(),(),(),cL.2.2.2.2.2.2.1,()))) ((Lh (((),bS.2.1,()),(x.2.1,x.2.2.1,(),x.2.2.2.2.1,()))).bind λcl=>(rO (((),(aS.1.1.1,(S ⟨#[99]⟩),aP.2.1,bS.1,aS.1.1.2.2.2.2.1,cl.1.1,aS.1.1.2.2.2.2.2.2.1,L.nil,L.nil,aS.1.1.2.2.2.2.2.2.2.2.2.1,()),()),(cl.2.1,cl.2.2.1,(),cl.2.2.2.2.2.2.1,()))).bind λcy=>(rec (((),bS.2.2.2.1,(bc x.1.2.2.2.1 (W 1)),()),(cy.2.1,cy.2.2.1,(),cy.2.2.2.2.2.2.1,()))).bind λdX=>some (((W (x.2.2.2.2.1.1.length:Nat)),()),(dX.2.1,dX.2.2.1,(),(),(),dX.2.2.2.2.2.2.1,()))))
def ad5:aY:=⟨[(0,b_),(1,au),(2,au)],m4⟩
def auK:aY:=⟨[],m3⟩
def ad4:aY:=⟨[(0,b_),(6,.cJ fS 0),(9,au),(10,.ptr 4 0)],[.box [.ptr 1 0,aC du,aZ,aC gI,.tok eu 2 [],.arr 3 cU kD,aZ,aC dZ,au,au,au],.box [aC bp,au],.bC eu,.arr cU kD,.box [aZ,aZ,au]]⟩
def ad3:bG:=[(.normal,⟨[],[.box [.ptr 1 0,aC du,aZ,aC gI,.tok eu 5 [],.arr 6 cU kD,aZ,aC dZ,au,au,au],.box [aC bp,au],.gone,.gone,.box [aZ,aZ,au],.bC eu,.arr cU kD]⟩)]
def ad2 (rec:U pc->Option (U rj))(x:U ad4):Option (bo ad3):=(a1 x.1.2.1.2.2.1 (x.1.2.2.1).1).bind λdb=>cond (!bb db.2.1 (W 0)) ((Es (((),()),(x.2.1,x.2.2.1,(),x.2.2.2.2.1,()))).bind λbK=>(a1 x.1.2.1.2.2.1 (x.1.2.2.1).1).bind λdD=>(Lm (((),bK.1.1,(dD.2.1,dD.2.2.1,()),()),(bK.2.1,bK.2.2.1,(),bK.2.2.2.2.2.2.1,()))).bind λbO=>some ((),(bO.2.1,bO.2.2.1,(),(),(x.2.2.2.2.2.1.1,bK.1.1,x.2.2.2.2.2.1.2.2.1,()),(),bO.2.2.2.2.2.2.1,()))) (some ((),(x.2.1,x.2.2.1,(),(),x.2.2.2.2.2.1,(),x.2.2.2.2.1,())))
def TZ:aY:=⟨[(0,b_),(2,au),(6,.cJ fS 0),(8,au),(9,au)],m4⟩
def auI:bG:=[((.exit 0),⟨[],m3⟩)]
def Lj (rec:U pc->Option (U rj))(x:U TZ):Option (U TZ⊕bo auI):=cond (bg x.1.2.2.2.2.1 (bf x.1.2.2.1.2.2.1)) ((a1 x.1.2.2.1.2.2.1 (x.1.2.2.2.2.1).1).bind λdO=>(ad2 rec (((),x.1.2.2.1,x.1.2.2.2.2.1,(),()),(x.2.1,x.2.2.1,(),x.2.2.2.2.1,(dO.1,(S ⟨#[]⟩),(W (x.2.2.2.2.1.1.length:Nat)),()),()))).bind λcc=>(a1 x.1.2.2.1.2.2.1 (x.1.2.2.2.2.1).1).bind λgw=>(rec (((),gw.2.2.2.1,(bc x.1.2.1 (W 1)),()),(cc.2.1,cc.2.2.1,(),cc.2.2.2.2.2.2.2.1,()))).bind λcL=>cond (decide (0<=(x.1.2.2.2.1).1)&&decide ((x.1.2.2.2.1).1<(cL.2.2.2.2.2.2.1.1.length:Nat))) ((fq cL.2.2.2.2.2.2.1 ((x.1.2.2.2.1).1).toNat).bind λkk=>(c6 40 kk.2.2.2.2.2.2.2.2.1 (cD [(cc.2.2.2.2.2.1.1,cc.2.2.2.2.2.1.2.1,cc.2.2.2.2.2.1.2.2.1,())])).bind λtI=>cond (decide (0<=(x.1.2.2.2.1).1)&&decide ((x.1.2.2.2.1).1<(cL.2.2.2.2.2.2.1.1.length:Nat))) ((fq cL.2.2.2.2.2.2.1 ((x.1.2.2.2.1).1).toNat).bind λjY=>cond (decide (((x.1.2.2.2.1).1).toNat=((x.1.2.2.2.1).1).toNat)) (some (.inl (((),x.1.2.1,x.1.2.2.1,x.1.2.2.2.1,(bc x.1.2.2.2.2.1 (W 1)),()),(cL.2.1,cL.2.2.1,(),(ej cL.2.2.2.2.2.2.1 ((x.1.2.2.2.1).1).toNat (jY.1,jY.2.1,jY.2.2.1,jY.2.2.2.1,jY.2.2.2.2.1,jY.2.2.2.2.2.1,jY.2.2.2.2.2.2.1,jY.2.2.2.2.2.2.2.1,tI,jY.2.2.2.2.2.2.2.2.2.1,())),())))) (none)) (none)) (none)) (some (.inr ((),(x.2.1,x.2.2.1,(),(),(),x.2.2.2.2.1,()))))
def Li (rec:U pc->Option (U rj))(x:U ad5):Option (U auK):=(a1 x.2.1.2.2.2.2.2.2.2.1 (x.2.1.2.2.2.2.2.2.2.2.1).1).bind λaE=>(a1 aE.2.1 (x.1.2.1).1).bind λaP=>(nT (((W 5),()),())).bind λaK=>(sI (((),(aK.1.1.1,(S ⟨#[99]⟩),aP.2.1,aK.1.1.2.2.2.1,aK.1.1.2.2.2.2.1,aK.1.1.2.2.2.2.2.1,aK.1.1.2.2.2.2.2.2.1,L.nil,L.nil,aK.1.1.2.2.2.2.2.2.2.2.2.1,()),()),(x.2.1,x.2.2.1,(),x.2.2.2.2.1,()))).bind λaS=>(a2 (Lj rec) (((),x.1.2.2.1,aP,aS.1.1,(W 0),()),(aS.2.1,aS.2.2.1,(),aS.2.2.2.2.2.2.1,()))).bind λeD=>(h_ (((),(W 3),()),(eD.2.2.1,()))).bind λeO=>cond (bb eO.1.1 (W 1)) ((nT (((W 2),()),())).bind λeY=>(uP (((),((W 3),(S ⟨#[]⟩),(W 0),(S ⟨#[108,111,115,116]⟩),(W (-1)),(W (-1)),()),()),(eD.2.1,eO.2.1,(),eD.2.2.2.2.2.2.1,()))).bind λfe=>(rO (((),(eY.1.1.1,eY.1.1.2.1,eY.1.1.2.2.1,eY.1.1.2.2.2.1,eY.1.1.2.2.2.2.1,fe.1.1,eY.1.1.2.2.2.2.2.2.1,L.nil,L.nil,eY.1.1.2.2.2.2.2.2.2.2.2.1,()),()),(fe.2.1,fe.2.2.1,(),fe.2.2.2.2.2.2.1,()))).bind λfM=>(nT (((W 0),()),())).bind λiD=>(sI (((),(iD.1.1.1,iD.1.1.2.1,iD.1.1.2.2.1,iD.1.1.2.2.2.1,iD.1.1.2.2.2.2.1,iD.1.1.2.2.2.2.2.1,iD.1.1.2.2.2.2.2.2.1,L.nil,L.nil,iD.1.1.2.2.2.2.2.2.2.2.2.1,()),()),(fM.2.1,fM.2.2.1,(),fM.2.2.2.2.2.2.1,()))).bind λfa=>cond (decide (0<=(aS.1.1).1)&&decide ((aS.1.1).1<(fa.2.2.2.2.2.2.1.1.length:Nat))) ((fq fa.2.2.2.2.2.2.1 ((aS.1.1).1).toNat).bind λm7=>(c6 40 m7.2.2.2.2.2.2.2.2.1 (cD [((S ⟨#[]⟩),(S ⟨#[]⟩),(W (eD.2.2.2.2.2.2.1.1.length:Nat)),())])).bind λuK=>cond (decide (0<=(aS.1.1).1)&&decide ((aS.1.1).1<(fa.2.2.2.2.2.2.1.1.length:Nat))) ((fq fa.2.2.2.2.2.2.1 ((aS.1.1).1).toNat).bind λl5=>cond (decide (((aS.1.1).1).toNat=((aS.1.1).1).toNat)) (some ((),(fa.2.1,fa.2.2.1,(),(),(),(ej fa.2.2.2.2.2.2.1 ((aS.1.1).1).toNat (l5.1,l5.2.1,l5.2.2.1,l5.2.2.2.1,l5.2.2.2.2.1,l5.2.2.2.2.2.1,l5.2.2.2.2.2.2.1,l5.2.2.2.2.2.2.2.1,uK,l5.2.2.2.2.2.2.2.2.2.1,())),()))) (none)) (none)) (none)) (some ((),(eD.2.1,eO.2.1,(),(),(),eD.2.2.2.2.2.2.1,())))
def adP:aY:=⟨[(0,b_),(1,au),(2,au)],m4⟩
def adO:bG:=[(.normal,⟨[(44,bA)],m3⟩)]
def TX (rec:U pc->Option (U rj))(x:U adP):Option (bo adO):=cond (bb x.1.2.1 (W 0)) (cond (bg (W 0) x.1.2.2.1) (some (((bg (W 0) x.2.1.2.2.2.2.2.2.2.2.2.2.1),()),(x.2.1,x.2.2.1,(),(),(),x.2.2.2.2.1,()))) (some ((false,()),(x.2.1,x.2.2.1,(),(),(),x.2.2.2.2.1,())))) (some ((false,()),(x.2.1,x.2.2.1,(),(),(),x.2.2.2.2.1,())))
def adR:aY:=⟨[(0,b_),(2,au)],m4⟩
def adQ:bG:=[(.normal,⟨[(60,bA)],m3⟩)]
def TY (rec:U pc->Option (U rj))(x:U adR):Option (bo adQ):=cond (bg x.2.1.2.2.2.2.2.2.2.2.2.2.1 (W 1)) (some ((true,()),(x.2.1,x.2.2.1,(),(),(),x.2.2.2.2.1,()))) (some (((bg (W 4) x.1.2.1),()),(x.2.1,x.2.2.1,(),(),(),x.2.2.2.2.1,())))
def adU:aY:=⟨[(0,b_),(6,.cJ fS 0)],m4⟩
def adT:bG:=[(.normal,⟨[(80,bA)],m3⟩)]
def adS (rec:U pc->Option (U rj))(x:U adU):Option (bo adT):=cond (bg (W 1) (bf x.1.2.1.2.2.1)) (some (((bg (W 8) x.2.1.2.2.2.2.2.2.2.2.2.2.1),()),(x.2.1,x.2.2.1,(),(),(),x.2.2.2.2.1,()))) (some ((false,()),(x.2.1,x.2.2.1,(),(),(),x.2.2.2.2.1,())))
def AW (rec:U pc->Option (U rj))(x:U pc):Option (U rj):=(a1 x.2.1.2.2.2.2.2.2.2.1 (x.2.1.2.2.2.2.2.2.2.2.1).1).bind λaE=>(a1 aE.2.1 (x.1.2.1).1).bind λaP=>cond (bb aP.1 (W 0)) ((AX (((),true,()),(x.2.1,x.2.2.1,(),x.2.2.2.2.1,()))).bind λaK=>some ((),(aK.2.1,aK.2.2.1,(),(),(),aK.2.2.2.2.2.2.1,()))) ((TX rec (((),x.1.2.1,x.1.2.2.1,()),(x.2.1,x.2.2.1,(),x.2.2.2.2.1,()))).bind λaS=>cond (aS.1.1) ((Lf (((),()),(aS.2.1,aS.2.2.1,(),aS.2.2.2.2.2.2.1,()))).bind λa9=>some ((),(a9.2.1,a9.2.2.1,(),(),(),a9.2.2.2.2.2.2.1,()))) ((TY rec (((),x.1.2.2.1,()),(aS.2.1,aS.2.2.1,(),aS.2.2.2.2.2.2.1,()))).bind λbJ=>cond (bJ.1.1) ((AX (((),false,()),(bJ.2.1,bJ.2.2.1,(),bJ.2.2.2.2.2.2.1,()))).bind λbK=>some ((),(bK.2.1,bK.2.2.1,(),(),(),bK.2.2.2.2.2.2.1,()))) (cond (bb aP.1 (W 2)) (((Li rec) (((),x.1.2.1,x.1.2.2.1,()),(bJ.2.1,bJ.2.2.1,(),bJ.2.2.2.2.2.2.1,()))).bind λcl=>some ((),(cl.2.1,cl.2.2.1,(),(),(),cl.2.2.2.2.2.2.1,()))) ((adS rec (((),aP,()),(bJ.2.1,bJ.2.2.1,(),bJ.2.2.2.2.2.2.1,()))).bind λbO=>cond (bO.1.1) ((nT (((W 3),()),())).bind λcc=>(h_ (((),(W 3),()),(bO.2.2.1,()))).bind λbT=>(rN (((),bT.1.1,()),(bO.2.1,bT.2.1,(),bO.2.2.2.2.2.2.1,()))).bind λcL=>(qH (((),(S ⟨#[110]⟩),()),(cL.2.1,cL.2.2.1,(),cL.2.2.2.2.2.2.1,()))).bind λcy=>(tL (((),(W 12),cL.1.1,cy.1.1,()),(cy.2.1,cy.2.2.1,(),cy.2.2.2.2.2.2.1,()))).bind λdX=>(sI (((),(cc.1.1.1,cc.1.1.2.1,cc.1.1.2.2.1,cc.1.1.2.2.2.1,cc.1.1.2.2.2.2.1,dX.1.1,cc.1.1.2.2.2.2.2.2.1,L.nil,L.nil,cc.1.1.2.2.2.2.2.2.2.2.2.1,()),()),(dX.2.1,dX.2.2.1,(),dX.2.2.2.2.2.2.1,()))).bind λdy=>(h_ (((),(bf aP.2.2.1),()),(dy.2.2.1,()))).bind λeD=>(h_ (((),(bf aP.2.2.1),()),(eD.2.1,()))).bind λeO=>((AY rec) (((),x.1.2.1,eD.1.1,x.1.2.2.1,()),(dy.2.1,eO.2.1,(),dy.2.2.2.2.2.2.1,()))).bind λeY=>cond (decide (0<=(dy.1.1).1)&&decide ((dy.1.1).1<(eY.2.2.2.2.2.2.1.1.length:Nat))) ((fq eY.2.2.2.2.2.2.1 ((dy.1.1).1).toNat).bind λoh=>(c6 40 oh.2.2.2.2.2.2.2.2.1 (cD [((S ⟨#[]⟩),(S ⟨#[]⟩),eY.1.1,())])).bind λy6=>cond (decide (0<=(dy.1.1).1)&&decide ((dy.1.1).1<(eY.2.2.2.2.2.2.1.1.length:Nat))) ((fq eY.2.2.2.2.2.2.1 ((dy.1.1).1).toNat).bind λnv=>cond (decide (((dy.1.1).1).toNat=((dy.1.1).1).toNat)) (((AY rec) (((),x.1.2.1,eO.1.1,x.1.2.2.1,()),(eY.2.1,eY.2.2.1,(),(ej eY.2.2.2.2.2.2.1 ((dy.1.1).1).toNat (nv.1,nv.2.1,nv.2.2.1,nv.2.2.2.1,nv.2.2.2.2.1,nv.2.2.2.2.2.1,nv.2.2.2.2.2.2.1,nv.2.2.2.2.2.2.2.1,y6,nv.2.2.2.2.2.2.2.2.2.1,())),()))).bind λfa=>cond (decide (0<=(dy.1.1).1)&&decide ((dy.1.1).1<(fa.2.2.2.2.2.2.1.1.length:Nat))) ((fq fa.2.2.2.2.2.2.1 ((dy.1.1).1).toNat).bind λm7=>(c6 40 m7.2.2.2.2.2.2.2.2.1 (cD [((S ⟨#[]⟩),(S ⟨#[]⟩),fa.1.1,())])).bind λuK=>cond (decide (0<=(dy.1.1).1)&&decide ((dy.1.1).1<(fa.2.2.2.2.2.2.1.1.length:Nat))) ((fq fa.2.2.2.2.2.2.1 ((dy.1.1).1).toNat).bind λl5=>cond (decide (((dy.1.1).1).toNat=((dy.1.1).1).toNat)) (some ((),(fa.2.1,fa.2.2.1,(),(),(),(ej fa.2.2.2.2.2.2.1 ((dy.1.1).1).toNat (l5.1,l5.2.1,l5.2.2.1,l5.2.2.2.1,l5.2.2.2.2.1,l5.2.2.2.2.2.1,l5.2.2.2.2.2.2.1,l5.2.2.2.2.2.2.2.1,uK,l5.2.2.2.2.2.2.2.2.2.1,())),()))) (none)) (none)) (none)) (none)) (none)) (none)) ((h_ (((),(bf aP.2.2.1),()),(bO.2.2.1,()))).bind λmW=>((AY rec) (((),x.1.2.1,mW.1.1,x.1.2.2.1,()),(bO.2.1,mW.2.1,(),bO.2.2.2.2.2.2.1,()))).bind λCr=>some ((),(Cr.2.1,Cr.2.2.1,(),(),(),Cr.2.2.2.2.2.2.1,())))))))
def xk:Nat->U pc->Option (U rj)
 |0=>λ_=>none
 |n+1=>AW (xk n)
def TW:U pc->Option (U rj):=xk px
def adF:aY:=⟨[(0,b_),(1,aC du),(2,.agg du),(3,aC dZ),(4,au),(5,aZ)],mP⟩
def aup:aY:=⟨[(0,.agg fx)],mP⟩
def Le (x:U adF):Option (U aup):=(a1 x.1.2.2.1.2.1 (x.1.2.2.2.2.1).1).bind λaE=>(za ((x.1.2.2.1,aE.1,()),())).bind λaB=>(h_ (((),(W 7),()),(x.2.1,()))).bind λaK=>(TW (((),(W 0),(W 0),()),(((),x.1.2.1,aB.1.1,(cD [((S ⟨#[99]⟩),(W 5),x.1.2.2.2.2.2.1,()),((S ⟨#[110]⟩),(W 1),(S ⟨#[]⟩),())]),L.nil,(),aB.1.1,x.1.2.2.2.1,x.1.2.2.2.2.1,(W 0),(bc (W 9) aK.1.1),()),aK.2.1,(),L.nil,()))).bind λaS=>some (((aS.2.1.2.2.1,aS.2.1.2.2.2.1,aS.2.1.2.2.2.2.1,aS.2.2.2.2.2.2.1,()),()),(aS.2.2.1,()))
def adD:aY:=⟨[(0,b_),(1,aC du)],mP⟩
def aum:aY:=⟨[(0,.agg fx)],mP⟩
def adC:aY:=⟨[(6,au),(7,au),(11,b_)],[.box [au,aZ,aZ,aZ,aZ,au,aC bp,.dm,.dm,au]]⟩
def adB:bG:=[(.normal,⟨[],[.box [au,aZ,aZ,aZ,aZ,au,aC bp,.dm,.dm,au]]⟩)]
def adA (x:U adC):Option (bo adB):=cond (bb x.1.2.1 (gf x.1.1 (W 1))) ((nT (((W 6),()),())).bind λcl=>some ((),((cl.1.1.1,cl.1.1.2.1,cl.1.1.2.2.1,cl.1.1.2.2.2.1,cl.1.1.2.2.2.2.1,cl.1.1.2.2.2.2.2.1,cl.1.1.2.2.2.2.2.2.1,(),(),cl.1.1.2.2.2.2.2.2.2.2.2.1,()),()))) (some ((),(x.2.1,())))
def TV:aY:=⟨[(0,b_),(1,aC du),(5,.ptr 1 0),(6,au),(7,au)],[.box [aC bp,au],.box [b_,aC du,aZ,aC gI,.tok eu 2 [],.arr 3 cU kD,aZ,aC dZ,au,au,au],.bC eu,.arr cU kD]⟩
def auk:bG:=[((.exit 0),⟨[],[.box [aC bp,au],.box [b_,aC du,aZ,aC gI,.tok eu 4 [],.arr 5 cU kD,aZ,aC dZ,au,au,au],.gone,.gone,.bC eu,.arr cU kD]⟩)]
def Ld (x:U TV):Option (U TV⊕bo auk):=cond (bg x.1.2.2.2.2.1 x.1.2.2.2.1) ((h_ (((),(bf x.1.2.1),()),(x.2.1,()))).bind λaB=>(a1 x.1.2.1 (aB.1.1).1).bind λbS=>(h_ (((),(bf bS.2.1),()),(aB.2.1,()))).bind λaS=>(a1 bS.2.1 (aS.1.1).1).bind λdO=>(Et (((),bS,dO.1,()),(x.2.2.1,aS.2.1,(),x.2.2.2.2.1,()))).bind λbJ=>(nT (((W 7),()),())).bind λbK=>(adA ((x.1.2.2.2.1,x.1.2.2.2.2.1,(),()),((bK.1.1.1,bK.1.1.2.1,bK.1.1.2.2.1,bK.1.1.2.2.2.1,bK.1.1.2.2.2.2.1,bK.1.1.2.2.2.2.2.1,bK.1.1.2.2.2.2.2.2.1,(),(),bK.1.1.2.2.2.2.2.2.2.2.2.1,()),()))).bind λbO=>(za ((bS,dO.1,()),())).bind λcc=>(qH (((),bJ.1.1,()),(bJ.2.1,bJ.2.2.1,(),bJ.2.2.2.2.2.2.1,()))).bind λbT=>(h_ (((),(W 4),()),(bT.2.2.1,()))).bind λcL=>(rN (((),cL.1.1,()),(bT.2.1,cL.2.1,(),bT.2.2.2.2.2.2.1,()))).bind λcy=>cond (bb x.1.2.2.2.2.1 (gf x.1.2.2.2.1 (W 1))) ((sI (((),(bO.2.1.1,bO.2.1.2.1,bO.2.1.2.2.1,bO.2.1.2.2.2.1,cc.1.1,bO.2.1.2.2.2.2.2.1,(cD [(bT.1.1,()),(cy.1.1,())]),L.nil,L.nil,bO.2.1.2.2.2.2.2.2.2.2.2.1,()),()),(cy.2.1,cy.2.2.1,(),cy.2.2.2.2.2.2.1,()))).bind λdX=>some (.inl (((),x.1.2.1,(),x.1.2.2.2.1,(bc x.1.2.2.2.2.1 (W 1)),()),(dX.2.2.1,dX.2.1,(),dX.2.2.2.2.2.2.1,())))) ((rO (((),(bO.2.1.1,bO.2.1.2.1,bO.2.1.2.2.1,bO.2.1.2.2.2.1,cc.1.1,bO.2.1.2.2.2.2.2.1,(cD [(bT.1.1,()),(cy.1.1,())]),L.nil,L.nil,bO.2.1.2.2.2.2.2.2.2.2.2.1,()),()),(cy.2.1,cy.2.2.1,(),cy.2.2.2.2.2.2.1,()))).bind λdy=>some (.inl (((),x.1.2.1,(),x.1.2.2.2.1,(bc x.1.2.2.2.2.1 (W 1)),()),(dy.2.2.1,dy.2.1,(),dy.2.2.2.2.2.2.1,()))))) (some (.inr ((),((x.2.1.1,x.2.1.2.1,()),x.2.2.1,(),(),(),x.2.2.2.2.1,()))))
def Lc (x:U adD):Option (U aum):=(h_ (((),(W 3),()),(x.2.1,()))).bind λaq=>(a2 Ld (((),x.1.2.1,(),(bc (W 1) aq.1.1),(W 0),()),(aq.2.1,((),x.1.2.1,(S ⟨#[109,97,105,110]⟩),L.nil,L.nil,(),(S ⟨#[]⟩),L.nil,(W 0),(W 0),(W 0),()),(),L.nil,()))).bind λeD=>some (((eD.2.2.1.2.2.1,eD.2.2.1.2.2.2.1,eD.2.2.1.2.2.2.2.1,eD.2.2.2.2.2.2.1,()),()),(eD.2.1,()))
def adf:=aJ [(0,aC bp)]
def atO:=aJ [(0,.agg hP)]
def K5:aY:=⟨[(3,b_),(4,.ptr 1 0),(5,au),(6,aC dZ),(9,au)],[.box [aC bp,au],.box [aC du,.dm,.tok fx 2 []],.bC fx]⟩
def atL:bG:=[((.exit 2),⟨[],[.box [aC bp,au],.box [aC du,.dm,.tok fx 3 []],.gone,.bC fx]⟩)]
def K4 (x:U K5):Option (U K5⊕bo atL):=cond (bg x.1.2.2.2.2.1 (bf x.1.2.2.2.1)) ((a1 x.2.2.1.1 (x.1.2.2.1).1).bind λdO=>(a1 x.1.2.2.2.1 (x.1.2.2.2.2.1).1).bind λdb=>(Le (((),x.2.2.1.1,dO,x.1.2.2.2.1,x.1.2.2.2.2.1,db.1,()),(x.2.1,()))).bind λbK=>(c6 88 x.2.2.1.2.2.1 (cD [bK.1.1])).bind λjK=>some (.inl (((),(),x.1.2.2.1,x.1.2.2.2.1,(bc x.1.2.2.2.2.1 (W 1)),()),(bK.2.1,(x.2.2.1.1,(),jK,()),(),())))) (some (.inr ((),(x.2.1,x.2.2.1,(),(),()))))
def TS:aY:=⟨[(3,b_),(4,.ptr 1 0),(5,au)],[.box [aC bp,au],.box [aC du,.dm,.tok fx 2 []],.bC fx]⟩
def atJ:bG:=[((.exit 0),⟨[],[.box [aC bp,au],.box [aC du,.dm,.tok fx 3 []],.gone,.bC fx]⟩)]
def K3 (x:U TS):Option (U TS⊕bo atJ):=cond (bg x.1.2.2.1 (bf x.2.2.1.1)) ((a1 x.2.2.1.1 (x.1.2.2.1).1).bind λbS=>(B2 ((bS,()),())).bind λaS=>(a2 K4 (((),(),x.1.2.2.1,aS.1.1,(W 0),()),(x.2.1,x.2.2.1,(),()))).bind λbO=>some (.inl (((),(),(bc x.1.2.2.1 (W 1)),()),(bO.2.1,bO.2.2.1,(),())))) (some (.inr ((),(x.2.1,x.2.2.1,(),(),()))))
def K2 (x:U adf):Option (U atO):=(KZ ((x.1.1,()),())).bind λaq=>(K7 (((),()),((aq.2.1.1,aq.2.1.2.1,()),()))).bind λaB=>(a2 K3 (((),(),(W 0),()),(aB.2.1,(aB.1.1,(),L.nil,()),(),()))).bind λcc=>(Lc (((),cc.2.2.1.1,()),(cc.2.1,()))).bind λbT=>(c6 88 cc.2.2.1.2.2.1 (cD [bT.1.1])).bind λtH=>some (((cc.2.2.1.1,L.nil,tH,()),()),())
def atZ:aY:=aJ [(0,aC bp),(1,au),(2,au)]
def at1:aY:=aJ [(0,.agg hP)]
def adk (x:U atZ):Option (U at1):=none
def agQ:=aJ [(0,aC bp),(1,au),(2,au)]
def ayS:=aJ [(0,.agg hP)]
def MA (x:U agQ):Option (U ayS):=cond (bg x.1.2.1 (W 1)) ((K2 ((x.1.1,()),())).bind λaq=>some ((aq.1.1,()),())) ((adk ((x.1.1,x.1.2.1,x.1.2.2.1,()),())).bind λaB=>some ((aB.1.1,()),()))
def agO:=aJ [(0,.agg hP)]
def ayM:=aJ [(0,.agg jD),(1,bA)]
def My (x:U agO):Option (U ayM):=(Ok ((x.1.1,()),())).bind λaq=>some ((aq.1.1,(bb aq.1.2.1 (W 0)),()),())
def agP:=aJ [(0,au),(1,au)]
def ayP:=aJ [(0,au)]
def Mz (x:U agP):Option (U ayP):=cond (bg x.1.2.1 (W 1)) (some (((W 0),()),())) ((sE (ey .u64 x.1.1) (ey .u64 x.1.2.1)).bind λv1=>some (((ey .i64 v1),()),()))
theorem atE:bt 52 KZ:=bF fl [] []
theorem ri:bt 108 h_:=bF fl [] []
theorem adH:bt 57 ze:=bF fl [] []
theorem adx:bt 58 zc:=bF fl [] []
theorem ac_:bt 237 uM:=bF ⟨.nil,[aH ri]⟩ [] []
theorem adu:bt 238 zb:=bF ⟨.nil,[aH ri,aH ac_]⟩ [] []
noncomputable def adr:de:=⟨.nil,[aH adx,aH ri,aH adu]⟩
theorem aub:bV 194 0 Lb:=b5 adr [] []
theorem aue:bt 194 La:=bF adr [bW aub] []
noncomputable def adp:de:=⟨.nil,[aH adH,aH ri,aH aue]⟩
theorem at8:bV 158 0 K_:=b5 adp [] []
theorem ado:bt 158 AU:=bF adp [bW at8] []
end cF
open Go.RowKit
def ja (w:World)(g:Nat)(cs:Array Value)(t:TypeId):Prop:=w.heap[g]?=some (.cells cs t (0,0))
section
variable{w w':World}{g:Nat}{cs:Array Value}{t:TypeId}
theorem ja.lt (h:ja w g cs t):g<w.heap.size:=by
 rcases kz g w.heap.size with aa|aa
 ·exact aa
 ·unfold ja at h;rw[Array.getElem?_eq_none aa] at h;cases h
theorem ja.cell (h:ja w g cs t)(i:Nat):w.cell? ⟨g,i,none⟩=cs[i]?:=cell_of_row w g i cs t (0,0) h
theorem ja.frozen (h:ja w g cs t)(i:Nat):w.frozen? ⟨g,i,none⟩=false:=frozen_of_row w g i cs t h
theorem ja.new (w:World)(cs:Array Value)(t:TypeId):ja (w.alloc (.cells cs t)) w.heap.size cs t:=heap_alloc_new w _
theorem ja.alloc (h:ja w g cs t)(o:Obj):ja (w.alloc o) g cs t:=(Below.heap_alloc w o g h.lt).trans h
theorem ja.IK (h:ja w g cs t)(i:Nat)(u:Value):ja (w.setCell ⟨g,i,none⟩ u) g (cs.setIfInBounds i u) t:=heap_setCell_same w g i cs t u h
theorem wO {a b c:Value}(h:ja w g #[a,b,c] t):w.cell? ⟨g,0,none⟩=some a/\w.cell? ⟨g,1,none⟩=some b/\w.cell? ⟨g,2,none⟩=some c:=⟨h.cell 0,h.cell 1,h.cell 2⟩
theorem Aa {a b c:Value}(h:ja w g #[a,b,c] t):w.frozen? ⟨g,0,none⟩=false/\w.frozen? ⟨g,1,none⟩=false/\w.frozen? ⟨g,2,none⟩=false:=⟨h.frozen 0,h.frozen 1,h.frozen 2⟩
end
end Go.Proofs.YtgmdfchkljaooaaGreat
