/- Typed functions. -/
import Derived.Test.YtgmdfchkljaooaaGreatM04
noncomputable section
namespace Go.Proofs.YtgmdfchkljaooaaGreat
namespace cx
open bC (T)
set_option linter.unusedVariables false
set_option maxRecDepth 100000
def ak1:=aH [(0,a_)]
def aKO:=aH [(0,bR)]
def HK:=aH [(0,a_),(3,au)]
def aKL:bE:=[((.exit 0),aH []),fP [(2,bR)]]
def PD (x:U HK):Option (U HK⊕bq aKL):=cond (bh x.1.2.1 (mO x.1.1)) ((uC x.1.1 (x.1.2.1).1).bind λv1=>cond (a9 v1 (bc.w .u8 46)) ((pF x.1.1 0 (x.1.2.1).1).bind λv2=>(k6 ((v2,()),())).bind λaT=>cond (aT.1.1) ((pF x.1.1 ((bj x.1.2.1 (W 1))).1 x.1.1.1.size).bind λv4=>(k6 ((v4,()),())).bind λa5=>some (.inr (.inr ((a5.1.1,()),())))) (some (.inr (.inr ((false,()),()))))) (some (.inl ((x.1.1,(bj x.1.2.1 (W 1)),()),())))) (some (.inr (.inl ((),()))))
def PC (x:U ak1):Option (U aKO):=(a3 PD ((x.1.1,(W 0),()),())).bind λbK=>Sum.elim (λbL=>(k6 ((x.1.1,()),())).bind λbU=>some ((bU.1.1,()),())) (λcu=>some ((cu.1.1,()),())) bK
def ajW:=aH [(0,.agg ig)]
def aHP:=aH [(0,bR)]
def G6 (x:U ajW):Option (U aHP):=cond (a9 x.1.1.1 (W 5)) ((PC ((x.1.1.2.1,()),())).bind λaz=>some ((az.1.1,()),())) (cond (fN (W 0) x.1.1.1) (cond (bh x.1.1.1 (W 5)) (some (((cB x.1.1.2.1 (S ⟨#[]⟩)),()),())) (some ((false,()),()))) (some ((false,()),())))
def ajS:=aH [(0,aB dR),(1,au)]
def aHs:=aH [(0,bR)]
def GY:=aH [(0,aB dR),(5,au),(6,au)]
def aHq:bE:=[((.exit 2),aH []),fP [(4,bR)]]
def OE (x:U GY):Option (U GY⊕bq aHq):=cond (bh x.1.2.2.1 x.1.2.1) ((aX x.1.1 (x.1.2.2.1).1).bind λfk=>(aX x.1.1 (x.1.2.1).1).bind λdG=>cond (cB fk.1 dG.1) (some (.inr (.inr ((false,()),())))) (some (.inl ((x.1.1,x.1.2.1,(bj x.1.2.2.1 (W 1)),()),())))) (some (.inr (.inl ((),()))))
def GX:=aH [(0,aB dR),(1,au),(5,au)]
def aHn:bE:=[((.exit 0),aH []),fP [(4,bR)]]
def OD (x:U GX):Option (U GX⊕bq aHn):=cond (bh x.1.2.2.1 (ba x.1.1)) ((aX x.1.1 (x.1.2.2.1).1).bind λaD=>(k6 ((aD.1,()),())).bind λaF=>cond (!aF.1.1) (some (.inr (.inr ((false,()),())))) ((aX x.1.1 (x.1.2.2.1).1).bind λbO=>(G6 (((bO.2.1,bO.2.2.1,()),()),())).bind λaY=>cond (!aY.1.1) (some (.inr (.inr ((false,()),())))) ((aX x.1.1 (x.1.2.2.1).1).bind λdP=>cond (bh dP.2.2.2.1 (W 0)) (some (.inr (.inr ((false,()),())))) ((aX x.1.1 (x.1.2.2.1).1).bind λdb=>cond (fN x.1.2.1 db.2.2.2.1) (some (.inr (.inr ((false,()),())))) ((a3 OE ((x.1.1,x.1.2.2.1,(W 0),()),())).bind λbU=>Sum.elim (λcd=>some (.inl ((x.1.1,x.1.2.1,(bj x.1.2.2.1 (W 1)),()),()))) (λbY=>some (.inr (.inr ((bY.1.1,()),())))) bU))))) (some (.inr (.inl ((),()))))
def BT (x:U ajS):Option (U aHs):=(a3 OD ((x.1.1,x.1.2.1,(W 0),()),())).bind λcT=>Sum.elim (λcA=>cond (fN (W 1) (ba x.1.1)) (some (((fN (ba x.1.1) (W 6)),()),())) (some ((false,()),()))) (λep=>some ((ep.1.1,()),())) cT
def aj6:=aH [(0,.agg dE)]
def aIh:=aH [(0,bR)]
def G':=aH [(1,.cH dE 0),(3,au)]
def aIc:bE:=[((.exit 0),aH []),fP [(2,bR)]]
def OT (x:U G'):Option (U G'⊕bq aIc):=cond (bh x.1.2.1 (ba x.1.1.2.1)) ((aX x.1.1.2.1 (x.1.2.1).1).bind λbO=>(k6 ((bO.1,()),())).bind λaY=>cond (!aY.1.1) (some (.inr (.inr ((false,()),())))) (some (.inl ((x.1.1,(bj x.1.2.1 (W 1)),()),())))) (some (.inr (.inl ((),()))))
def Wt:=aH [(5,.cH fi 0)]
def aj5:bE:=[jL [],((.exit 3),aH [])]
def Ws (x:U Wt):Option (bq aj5):=cond (cB x.1.1.1 (S ⟨#[]⟩)) (cond (cB x.1.1.2.1 (S ⟨#[]⟩)) (cond (a9 (ba x.1.1.2.2.1) (W 0)) (some (.inr ((),()))) (some (.inl ((),())))) (some (.inl ((),())))) (some (.inl ((),())))
def Ha:=aH [(1,.cH dE 0),(4,au)]
def aIf:bE:=[((.exit 2),aH []),fP [(2,bR)]]
def OU (x:U Ha):Option (U Ha⊕bq aIf):=cond (bh x.1.2.1 (ba x.1.1.2.2.1)) ((aX x.1.1.2.2.1 (x.1.2.1).1).bind λdG=>(Ws ((dG,()),())).bind λbU=>Sum.elim (λcd=>cond (cB dG.1 dG.2.1) (some (.inr (.inr ((false,()),())))) ((o_ ((x.1.1.2.1,dG.1,()),())).bind λcT=>cond (!cT.1.1) (some (.inr (.inr ((false,()),())))) ((o_ ((x.1.1.2.1,dG.2.1,()),())).bind λcA=>cond (!cA.1.1) (some (.inr (.inr ((false,()),())))) ((BT ((dG.2.2.1,(ba x.1.1.2.2.1),()),())).bind λep=>cond (!ep.1.1) (some (.inr (.inr ((false,()),())))) (some (.inl (((x.1.1.1,x.1.1.2.1,x.1.1.2.2.1,()),(bj x.1.2.1 (W 1)),()),()))))))) (λbY=>some (.inl (((x.1.1.1,x.1.1.2.1,x.1.1.2.2.1,()),(bj x.1.2.1 (W 1)),()),()))) bU) (some (.inr (.inl ((),()))))
def zE (x:U aj6):Option (U aIh):=(k6 ((x.1.1.1,()),())).bind λaz=>cond (!az.1.1) (some ((false,()),())) (cond (bh (ba x.1.1.2.1) (W 2)) (some ((false,()),())) (cond (bh (W 5) (ba x.1.1.2.1)) (some ((false,()),())) ((Gh ((x.1.1.2.1,()),())).bind λaF=>cond (!aF.1.1) (some ((false,()),())) (cond (bh (ba x.1.1.2.2.1) (W 1)) (some ((false,()),())) (cond (bh (W 24) (ba x.1.1.2.2.1)) (some ((false,()),())) ((a3 OT ((x.1.1,(W 0),()),())).bind λa5=>Sum.elim (λbK=>(a3 OU (((x.1.1.1,x.1.1.2.1,x.1.1.2.2.1,()),(W 0),()),())).bind λdF=>Sum.elim (λeK=>some ((true,()),())) (λfg=>some ((fg.1.1,()),())) dF) (λbL=>some ((bL.1.1,()),())) a5))))))
def ak7:=aH [(0,.agg fi),(1,a_)]
def aLk:=aH [(0,bR)]
def HU (x:U ak7):Option (U aLk):=cond (cB x.1.1.1 x.1.2.1) (some ((true,()),())) (some (((cB x.1.1.2.1 x.1.2.1),()),()))
def akU:=aH [(0,.agg dE),(1,a_),(2,aB bp)]
def aKF:=aH [(0,aB bp)]
def WQ:a4:=⟨[(2,aB bp),(7,.arr 0 [.bool] [false]),(9,au)],r6⟩
def akT:bE:=[(.normal,⟨[(48,bR)],r6⟩)]
def WO (x:U WQ):Option (bq akT):=(aX x.1.1 (x.1.2.2.1).1).bind λaQ=>cond (fN (W 0) aQ.1) ((aX x.1.1 (x.1.2.2.1).1).bind λbO=>cond (bh bO.1 (W (x.2.1.1.length:Nat))) ((aX x.1.1 (x.1.2.2.1).1).bind λcP=>cond (decide (0<=(cP.1).1)&&decide ((cP.1).1<(x.2.1.1.length:Nat))) ((eO x.2.1 ((cP.1).1).toNat).bind λdP=>some (((!dP.1),()),(x.2.1,()))) (none)) (some ((false,()),(x.2.1,())))) (some ((false,()),(x.2.1,())))
def HD:a4:=⟨[(2,aB bp),(7,.arr 0 [.bool] [false]),(8,.tok bp 1 []),(9,au)],I0⟩
def aKu:bE:=[((.exit 0),⟨[(8,.tok bp 2 [])],Rd⟩)]
def Px (x:U HD):Option (U HD⊕bq aKu):=cond (bh x.1.2.2.2.1 (ba x.1.1)) ((WO ((x.1.1,(),x.1.2.2.2.1,()),(x.2.1,()))).bind λbK=>cond (bK.1.1) ((aX x.1.1 (x.1.2.2.2.1).1).bind λfk=>cond (decide (0<=(fk.1).1)&&decide ((fk.1).1<(x.2.1.1.length:Nat))) ((eO bK.2.1 ((fk.1).1).toNat).bind λdG=>(aX x.1.1 (x.1.2.2.2.1).1).bind λeS=>(c8 8 x.1.2.2.1 (cD [eS])).bind λnu=>some (.inl ((x.1.1,(),nu,(bj x.1.2.2.2.1 (W 1)),()),((dO bK.2.1 ((fk.1).1).toNat (true,())),(),())))) (none)) (some (.inl ((x.1.1,(),x.1.2.2.1,(bj x.1.2.2.2.1 (W 1)),()),(bK.2.1,(),()))))) (some (.inr ((x.1.2.2.1,()),(x.2.1,(),(),()))))
def HF:a4:=⟨[(1,a_),(7,.arr 0 [.bool] [false]),(8,.tok bp 1 []),(11,.cH fi 0),(12,au)],I0⟩
def aKA:bE:=[((.exit 4),⟨[(8,.tok bp 2 [])],Rd⟩)]
def Pz (x:U HF):Option (U HF⊕bq aKA):=cond (bh x.1.2.2.2.2.1 (ba x.1.2.2.2.1.2.2.1)) ((HU ((x.1.2.2.2.1,x.1.1,()),())).bind λep=>cond (!ep.1.1) ((aX x.1.2.2.2.1.2.2.1 (x.1.2.2.2.2.1).1).bind λiw=>cond (decide (0<=(iw.2.2.2.1).1)&&decide ((iw.2.2.2.1).1<(x.2.1.1.length:Nat))) ((eO x.2.1 ((iw.2.2.2.1).1).toNat).bind λg8=>cond (!g8.1) ((aX x.1.2.2.2.1.2.2.1 (x.1.2.2.2.2.1).1).bind λkA=>cond (decide (0<=(kA.2.2.2.1).1)&&decide ((kA.2.2.2.1).1<(x.2.1.1.length:Nat))) ((eO x.2.1 ((kA.2.2.2.1).1).toNat).bind λkk=>(aX x.1.2.2.2.1.2.2.1 (x.1.2.2.2.2.1).1).bind λoa=>(c8 8 x.1.2.2.1 (cD [(oa.2.2.2.1,())])).bind λy6=>some (.inl ((x.1.1,(),y6,x.1.2.2.2.1,(bj x.1.2.2.2.2.1 (W 1)),()),((dO x.2.1 ((kA.2.2.2.1).1).toNat (true,())),(),())))) (none)) (some (.inl ((x.1.1,(),x.1.2.2.1,x.1.2.2.2.1,(bj x.1.2.2.2.2.1 (W 1)),()),(x.2.1,(),()))))) (none)) (some (.inr ((x.1.2.2.1,()),(x.2.1,(),(),()))))) (some (.inr ((x.1.2.2.1,()),(x.2.1,(),(),()))))
def HE:a4:=⟨[(1,a_),(3,.cH dE 0),(7,.arr 0 [.bool] [false]),(8,.tok bp 1 []),(10,au)],I0⟩
def aKx:bE:=[((.exit 2),⟨[],[.arr [.bool] [false],.gone]⟩)]
def Py (x:U HE):Option (U HE⊕bq aKx):=cond (bh x.1.2.2.2.2.1 (ba x.1.2.2.2.1)) ((aX x.1.2.2.2.1 (x.1.2.2.2.2.1).1).bind λiC=>(aX x.1.2.1.2.2.1 (iC.1).1).bind λkj=>(a3 Pz ((x.1.1,(),x.1.2.2.2.1,kj,(W 0),()),(x.2.1,(),()))).bind λjA=>some (.inl ((x.1.1,x.1.2.1,(),jA.1.1,(bj x.1.2.2.2.2.1 (W 1)),()),(jA.2.1,(),())))) (some (.inr ((),(x.2.1,(),()))))
def HG:a4:=⟨[(7,.arr 0 [.bool] [false]),(13,.tok bp 1 []),(14,au)],I0⟩
def aKD:bE:=[((.exit 6),⟨[(13,.tok bp 2 [])],Rd⟩)]
def PA (x:U HG):Option (U HG⊕bq aKD):=cond (bh x.1.2.2.1 (W (x.2.1.1.length:Nat))) (cond (decide (0<=(x.1.2.2.1).1)&&decide ((x.1.2.2.1).1<(x.2.1.1.length:Nat))) ((eO x.2.1 ((x.1.2.2.1).1).toNat).bind λlv=>cond (lv.1) ((c8 8 x.1.2.1 (cD [(x.1.2.2.1,())])).bind λuF=>some (.inl (((),uF,(bj x.1.2.2.1 (W 1)),()),(x.2.1,(),())))) (some (.inl (((),x.1.2.1,(bj x.1.2.2.1 (W 1)),()),(x.2.1,(),()))))) (none)) (some (.inr ((x.1.2.1,()),(x.2.1,(),(),()))))
def HC (x:U akU):Option (U aKF):=(q9 (α:=D [.bool]) 1 (ba x.1.1.2.2.1) (false,())).bind λdk=>(a3 Px ((x.1.2.2.1,(),L.nil,(W 0),()),(dk,(),()))).bind λbY=>(a3 Py ((x.1.2.1,x.1.1,(),bY.1.1,(W 0),()),(bY.2.1,(),()))).bind λeV=>(a3 PA (((),L.nil,(W 0),()),(eV.2.1,(),()))).bind λkg=>some ((kg.1.1,()),())
def akx:=aH [(0,.agg dE),(1,a_),(2,aB bp)]
def aJN:=aH [(0,aB bp)]
def Hr:a4:=⟨[(1,a_),(2,aB bp),(3,.cH dE 0),(7,.tok bp 0 []),(8,au)],[.bG bp]⟩
def aJL:bE:=[((.exit 0),⟨[(7,.tok bp 1 [])],[.gone,.bG bp]⟩)]
def Pk (x:U Hr):Option (U Hr⊕bq aJL):=cond (bh x.1.2.2.2.2.1 (ba x.1.2.1)) ((aX x.1.2.1 (x.1.2.2.2.2.1).1).bind λaD=>(aX x.1.2.2.1.2.2.1 (aD.1).1).bind λaQ=>(HU ((aQ,x.1.1,()),())).bind λaT=>cond (aT.1.1) ((aX x.1.2.1 (x.1.2.2.2.2.1).1).bind λcP=>(c8 8 x.1.2.2.2.1 (cD [cP])).bind λiD=>some (.inl ((x.1.1,x.1.2.1,x.1.2.2.1,iD,(bj x.1.2.2.2.2.1 (W 1)),()),((),())))) (some (.inl ((x.1.1,x.1.2.1,x.1.2.2.1,x.1.2.2.2.1,(bj x.1.2.2.2.2.1 (W 1)),()),((),()))))) (some (.inr ((x.1.2.2.2.1,()),((),(),()))))
def Hq (x:U akx):Option (U aJN):=(a3 Pk ((x.1.2.1,x.1.2.2.1,x.1.1,L.nil,(W 0),()),((),()))).bind λbK=>some ((bK.1.1,()),())
def akt:=aH [(0,.agg dE),(1,a_),(2,au)]
def aJw:=aH [(0,bR)]
def Pe (x:U akt):Option (U aJw):=(HC ((x.1.1,x.1.2.1,(cD [(x.1.2.2.1,())]),()),())).bind λaz=>(Hq ((x.1.1,x.1.2.1,az.1.1,()),())).bind λaF=>some (((a9 (ba aF.1.1) (W 0)),()),())
def akO:=aH [(0,aB bp),(1,aB bp)]
def aKn:=aH [(0,bR)]
def HA:=aH [(0,aB bp),(1,aB bp),(5,au)]
def aKk:bE:=[((.exit 0),aH []),fP [(4,bR)]]
def Pw (x:U HA):Option (U HA⊕bq aKk):=cond (bh x.1.2.2.1 (ba x.1.1)) ((aX x.1.1 (x.1.2.2.1).1).bind λaD=>(aX x.1.2.1 (x.1.2.2.1).1).bind λaQ=>cond (!a9 aD.1 aQ.1) (some (.inr (.inr ((false,()),())))) (some (.inl ((x.1.1,x.1.2.1,(bj x.1.2.2.1 (W 1)),()),())))) (some (.inr (.inl ((),()))))
def Pv (x:U akO):Option (U aKn):=cond (!a9 (ba x.1.1) (ba x.1.2.1)) (some ((false,()),())) ((a3 Pw ((x.1.1,x.1.2.1,(W 0),()),())).bind λaT=>Sum.elim (λaY=>some ((true,()),())) (λa5=>some ((a5.1.1,()),())) aT)
def ale:a4:=⟨[(0,cC),(1,aB bp)],ui⟩
def aLO:a4:=⟨[(0,au),(1,au)],qN⟩
def H3:a4:=⟨[(0,cC),(6,aB bp),(7,aB bp),(8,au)],ui⟩
def aLJ:bE:=[((.exit 0),⟨[],qN⟩),(.ret,⟨[(4,au),(5,au)],qN⟩)]
def PY (x:U H3):Option (U H3⊕bq aLJ):=cond (bh x.1.2.2.2.1 (ba x.1.2.1)) (cond (bh (W 0) (ba x.1.2.2.1)) ((aX x.1.2.1 (x.1.2.2.2.1).1).bind λbO=>(Pe (((x.2.1.1,x.2.1.2.1,x.2.1.2.2.1,()),x.2.1.2.2.2.1,bO.1,()),())).bind λaY=>cond (aY.1.1) (some (.inr (.inr (((W 0),(W 801),()),(x.2.1,(),(),()))))) (some (.inl (((),x.1.2.1,x.1.2.2.1,(bj x.1.2.2.2.1 (W 1)),()),(x.2.1,(),()))))) (some (.inr (.inl ((),(x.2.1,(),(),())))))) (some (.inr (.inl ((),(x.2.1,(),(),())))))
def H4:a4:=⟨[(0,cC),(7,aB bp),(9,au)],ui⟩
def aLM:bE:=[((.exit 2),⟨[],qN⟩),(.ret,⟨[(4,au),(5,au)],qN⟩)]
def PZ (x:U H4):Option (U H4⊕bq aLM):=cond (bh x.1.2.2.1 (ba x.2.1.2.2.2.2.1)) ((aX x.2.1.2.2.2.2.1 (x.1.2.2.1).1).bind λdG=>(Pv ((dG.1,x.1.2.1,()),())).bind λbU=>cond (bU.1.1) (some (.inr (.inr ((x.1.2.2.1,(W 0),()),(x.2.1,(),(),()))))) (some (.inl (((),x.1.2.1,(bj x.1.2.2.1 (W 1)),()),(x.2.1,(),()))))) (some (.inr (.inl ((),(x.2.1,(),(),())))))
def H2 (x:U ale):Option (U aLO):=(HC (((x.2.1.1,x.2.1.2.1,x.2.1.2.2.1,()),x.2.1.2.2.2.1,x.1.2.1,()),())).bind λaz=>(Hq (((x.2.1.1,x.2.1.2.1,x.2.1.2.2.1,()),x.2.1.2.2.2.1,az.1.1,()),())).bind λaF=>(a3 PY (((),az.1.1,aF.1.1,(W 0),()),(x.2.1,(),()))).bind λa5=>Sum.elim (λbK=>(a3 PZ (((),aF.1.1,(W 0),()),(bK.2.1,(),()))).bind λcd=>Sum.elim (λbY=>cond (a9 (ba bY.2.1.2.2.2.2.1) (W 40)) (some (((W 0),(W 805),()),(bY.2.1,(),(),()))) ((c8 24 bY.2.1.2.2.2.2.1 (cD [(aF.1.1,())])).bind λmz=>some (((eF (ba mz) (W 1)),(W 0),()),((bY.2.1.1,bY.2.1.2.1,bY.2.1.2.2.1,bY.2.1.2.2.2.1,mz,()),(),(),())))) (λcT=>some ((cT.1.1,cT.1.2.1,()),(cT.2.1,(),(),()))) cd) (λbL=>some ((bL.1.1,bL.1.2.1,()),(bL.2.1,(),(),()))) a5
def alb:a4:=⟨[(0,cC),(1,aB bp)],ui⟩
def aLu:a4:=⟨[(0,au),(1,a_),(2,au)],qN⟩
def HX:a4:=⟨[(0,cC),(1,aB bp),(7,au),(8,a_),(9,au)],ui⟩
def aLr:bE:=[((.exit 0),⟨[(7,au),(8,a_)],qN⟩),(.ret,⟨[(4,au),(5,a_),(6,au)],qN⟩)]
def PS (x:U HX):Option (U HX⊕bq aLr):=cond (bh x.1.2.2.2.2.1 (ba x.1.2.1)) ((aX x.1.2.1 (x.1.2.2.2.2.1).1).bind λaD=>(aX x.2.1.2.2.1 (aD.1).1).bind λaQ=>cond (cB aQ.2.1 x.2.1.2.2.2.1) (cond (bh (W 0) x.1.2.2.2.2.1) (cond (!a9 (W 2) x.1.2.2.1) (some (.inr (.inr (((W 0),(S ⟨#[]⟩),(W 802),()),(x.2.1,(),(),()))))) (cond (!cB aQ.1 x.1.2.2.2.1) (some (.inr (.inr (((W 0),(S ⟨#[]⟩),(W 802),()),(x.2.1,(),(),()))))) (some (.inl (((),x.1.2.1,(W 2),aQ.1,(bj x.1.2.2.2.2.1 (W 1)),()),(x.2.1,(),())))))) (some (.inl (((),x.1.2.1,(W 2),aQ.1,(bj x.1.2.2.2.2.1 (W 1)),()),(x.2.1,(),()))))) (cond (bh (W 0) x.1.2.2.2.2.1) (cond (!a9 (W 1) x.1.2.2.1) (some (.inr (.inr (((W 0),(S ⟨#[]⟩),(W 802),()),(x.2.1,(),(),()))))) (cond (!cB aQ.2.1 x.1.2.2.2.1) (some (.inr (.inr (((W 0),(S ⟨#[]⟩),(W 802),()),(x.2.1,(),(),()))))) (some (.inl (((),x.1.2.1,(W 1),aQ.2.1,(bj x.1.2.2.2.2.1 (W 1)),()),(x.2.1,(),())))))) (some (.inl (((),x.1.2.1,(W 1),aQ.2.1,(bj x.1.2.2.2.2.1 (W 1)),()),(x.2.1,(),())))))) (some (.inr (.inl ((x.1.2.2.1,x.1.2.2.2.1,()),(x.2.1,(),(),())))))
def PR (x:U alb):Option (U aLu):=(a3 PS (((),x.1.2.1,(W 0),(S ⟨#[]⟩),(W 0),()),(x.2.1,(),()))).bind λaT=>Sum.elim (λaY=>some ((aY.1.1,aY.1.2.1,(W 0),()),(aY.2.1,(),(),()))) (λa5=>some ((a5.1.1,a5.1.2.1,a5.1.2.2.1,()),(a5.2.1,(),(),()))) aT
def ald:a4:=⟨[(0,cC),(1,aB bp)],ui⟩
def aLG:a4:=⟨[(0,aB cl),(1,bR)],qN⟩
def HZ:=aH [(6,aB cl),(8,aB dR),(9,au)]
def aLA:bE:=[((.exit 2),aH [(6,aB cl)])]
def PV (x:U HZ):Option (U HZ⊕bq aLA):=cond (bh x.1.2.2.1 (ba x.1.2.1)) ((aX x.1.2.1 (x.1.2.2.1).1).bind λbO=>(v9 ((x.1.1,bO.1,()),())).bind λaY=>some (.inl ((aY.1.1,x.1.2.1,(bj x.1.2.2.1 (W 1)),()),()))) (some (.inr ((x.1.1,()),())))
def HY:a4:=⟨[(0,cC),(1,aB bp),(6,aB cl),(7,au)],ui⟩
def aLx:bE:=[((.exit 0),⟨[(6,aB cl)],qN⟩)]
def PU (x:U HY):Option (U HY⊕bq aLx):=cond (bh x.1.2.2.2.1 (ba x.1.2.1)) ((aX x.1.2.1 (x.1.2.2.2.1).1).bind λaD=>(aX x.2.1.2.2.1 (aD.1).1).bind λaQ=>(a3 PV ((x.1.2.2.1,aQ.2.2.1,(W 0),()),())).bind λa5=>some (.inl (((),x.1.2.1,a5.1.1,(bj x.1.2.2.2.1 (W 1)),()),(x.2.1,(),())))) (some (.inr ((x.1.2.2.1,()),(x.2.1,(),(),()))))
def H0:a4:=⟨[(0,cC),(1,aB bp),(6,aB cl),(10,au)],ui⟩
def aLD:bE:=[((.exit 4),⟨[],qN⟩),(.ret,⟨[(4,aB cl),(5,bR)],qN⟩)]
def PW (x:U H0):Option (U H0⊕bq aLD):=cond (bh x.1.2.2.2.1 (ba x.1.2.1)) ((aX x.1.2.1 (x.1.2.2.2.1).1).bind λfk=>(aX x.2.1.2.2.1 (fk.1).1).bind λdG=>cond (!a9 (ba dG.2.2.1) (ba x.1.2.2.1)) (some (.inr (.inr ((x.1.2.2.1,false,()),(x.2.1,(),(),()))))) (some (.inl (((),x.1.2.1,x.1.2.2.1,(bj x.1.2.2.2.1 (W 1)),()),(x.2.1,(),()))))) (some (.inr (.inl ((),(x.2.1,(),(),())))))
def PT (x:U ald):Option (U aLG):=(a3 PU (((),x.1.2.1,L.nil,(W 0),()),(x.2.1,(),()))).bind λbK=>(a3 PW (((),x.1.2.1,bK.1.1,(W 0),()),(bK.2.1,(),()))).bind λbU=>Sum.elim (λcd=>some ((bK.1.1,true,()),(cd.2.1,(),(),()))) (λbY=>some ((bY.1.1,bY.1.2.1,()),(bY.2.1,(),(),()))) bU
def ako:=aH [(0,aB dR),(1,a_)]
def aI_:=aH [(0,au)]
def Hj:=aH [(0,aB dR),(1,a_),(5,au)]
def aI7:bE:=[((.exit 0),aH []),fP [(4,au)]]
def O7 (x:U Hj):Option (U Hj⊕bq aI7):=cond (bh x.1.2.2.1 (ba x.1.1)) ((aX x.1.1 (x.1.2.2.1).1).bind λaD=>cond (cB aD.1 x.1.2.1) (some (.inr (.inr ((x.1.2.2.1,()),())))) (some (.inl ((x.1.1,x.1.2.1,(bj x.1.2.2.1 (W 1)),()),())))) (some (.inr (.inl ((),()))))
def O6 (x:U ako):Option (U aI_):=(a3 O7 ((x.1.1,x.1.2.1,(W 0),()),())).bind λaF=>Sum.elim (λaT=>some (((W (-1)),()),())) (λaY=>some ((aY.1.1,()),())) aF
def ak_:a4:=⟨[(0,cC),(1,aB bp),(2,a_)],ui⟩
def aLp:a4:=⟨[(0,.agg ig),(1,aB bp),(2,bR)],qN⟩
def HW:a4:=⟨[(0,cC),(1,aB bp),(2,a_),(6,.ptr 2 0),(9,.ptr 3 0),(10,.tok bp 4 []),(11,au)],[.box [a_,aB cl,aB fi,a_,.tok [.aR bp] 1 []],.bG [.aR bp],.box [au,a_],.box [au,a_],.bG bp]⟩
def aLm:bE:=[((.exit 0),⟨[(10,.tok bp 5 [])],[.box [a_,aB cl,aB fi,a_,.tok [.aR bp] 6 []],.gone,.box [au,a_],.box [au,a_],.gone,.bG bp,.bG [.aR bp]]⟩),(.ret,⟨[(7,.dt),(8,bR)],[.box [a_,aB cl,aB fi,a_,.tok [.aR bp] 5 []],.gone,.box [au,a_],.box [au,a_],.gone,.bG [.aR bp]]⟩)]
def PQ (x:U HW):Option (U HW⊕bq aLm):=cond (bh x.1.2.2.2.2.2.2.1 (ba x.1.2.1)) ((aX x.1.2.1 (x.1.2.2.2.2.2.2.1).1).bind λaD=>(aX x.2.1.2.2.1 (aD.1).1).bind λaQ=>(O6 ((aQ.2.2.1,x.1.2.2.1,()),())).bind λaT=>cond (bh aT.1.1 (W 0)) (some (.inl (((),x.1.2.1,x.1.2.2.1,(),(),x.1.2.2.2.2.2.1,(bj x.1.2.2.2.2.2.2.1 (W 1)),()),(x.2.1,(),x.2.2.2.1,x.2.2.2.2.1,(),())))) (cond (bh (W 0) (ba x.1.2.2.2.2.2.1)) ((aX aQ.2.2.1 (aT.1.1).1).bind λcP=>cond (!((a9 cP.2.1 x.2.2.2.2.1.1)&&((cB cP.2.2.1 x.2.2.2.2.1.2.1)&&true))) (some (.inr (.inr (((),false,()),(x.2.1,(),x.2.2.2.2.1,x.2.2.2.2.1,(),(),()))))) ((aX aQ.2.2.1 (aT.1.1).1).bind λdP=>(aX aQ.2.2.1 (aT.1.1).1).bind λdb=>(c8 8 x.1.2.2.2.2.2.1 (cD [(db.2.2.2.1,())])).bind λj'=>some (.inl (((),x.1.2.1,x.1.2.2.1,(),(),j',(bj x.1.2.2.2.2.2.2.1 (W 1)),()),(x.2.1,(),x.2.2.2.1,(dP.2.1,dP.2.2.1,()),(),()))))) ((aX aQ.2.2.1 (aT.1.1).1).bind λdG=>(aX aQ.2.2.1 (aT.1.1).1).bind λeS=>(c8 8 x.1.2.2.2.2.2.1 (cD [(eS.2.2.2.1,())])).bind λnu=>some (.inl (((),x.1.2.1,x.1.2.2.1,(),(),nu,(bj x.1.2.2.2.2.2.2.1 (W 1)),()),(x.2.1,(),x.2.2.2.1,(dG.2.1,dG.2.2.1,()),(),())))))) (some (.inr (.inl ((x.1.2.2.2.2.2.1,()),(x.2.1,(),x.2.2.2.1,x.2.2.2.2.1,(),(),(),())))))
def HV (x:U ak_):Option (U aLp):=(a3 PQ (((),x.1.2.1,x.1.2.2.1,(),(),L.nil,(W 0),()),(x.2.1,(),((W 0),(S ⟨#[]⟩),()),((W 0),(S ⟨#[]⟩),()),(),()))).bind λbY=>Sum.elim (λcT=>some (((cT.2.2.2.2.1.1,cT.2.2.2.2.1.2.1,()),cT.1.1,true,()),(cT.2.1,(),(),()))) (λcA=>some (((cA.2.2.2.1.1,cA.2.2.2.1.2.1,()),L.nil,cA.1.2.1,()),(cA.2.1,(),(),()))) bY
def ali:a4:=⟨[(0,cC),(1,aB bp)],ui⟩
def aLX:a4:=⟨[(0,.agg fZ),(1,au)],qN⟩
def WU:a4:=⟨[(4,cC),(6,au),(10,bR)],Rf⟩
def alh:bE:=[(.normal,⟨[],Rf⟩),(.ret,⟨[(5,au)],Rf⟩)]
def WT (x:U WU):Option (bq alh):=cond (a9 x.1.2.1 (W 1)) (cond (!x.1.2.2.1) (some (.inr (((W 803),()),(((W 0),(S ⟨#[]⟩),(),()),())))) (some (.inl ((),(x.2.1,()))))) (some (.inl ((),(x.2.1,()))))
def H5:a4:=⟨[(0,cC),(1,aB bp),(4,.ptr 2 0),(9,aB cl),(11,au)],[.box [a_,aB cl,aB fi,a_,.tok [.aR bp] 1 []],.bG [.aR bp],.box [au,a_,.dt]]⟩
def aLR:bE:=[((.exit 0),⟨[],[.box [a_,aB cl,aB fi,a_,.tok [.aR bp] 3 []],.gone,.box [au,a_,.dt],.bG [.aR bp]]⟩),(.ret,⟨[(5,au)],[.box [a_,aB cl,aB fi,a_,.tok [.aR bp] 3 []],.gone,.box [au,a_,.dt],.bG [.aR bp]]⟩)]
def P1 (x:U H5):Option (U H5⊕bq aLR):=cond (bh x.1.2.2.2.2.1 (ba x.1.2.2.2.1)) ((aX x.1.2.2.2.1 (x.1.2.2.2.2.1).1).bind λdb=>(HV (((),x.1.2.1,db.1,()),(x.2.1,(),()))).bind λbL=>cond (!bL.1.2.2.1) (some (.inr (.inr (((W 804),()),(bL.2.1,(),((W 0),(S ⟨#[]⟩),(),()),(),()))))) (some (.inl (((),x.1.2.1,(),x.1.2.2.2.1,(bj x.1.2.2.2.2.1 (W 1)),()),(bL.2.1,(),x.2.2.2.1,()))))) (some (.inr (.inl ((),(x.2.1,(),x.2.2.2.1,(),())))))
def H6:a4:=⟨[(0,cC),(1,aB bp),(4,.ptr 2 0),(9,aB cl),(15,.ptr 3 0),(16,au)],[.box [a_,aB cl,aB fi,a_,.tok [.aR bp] 1 []],.bG [.aR bp],.box [au,a_,.dt],.box [au,a_,.tok dR 4 []],.bG dR]⟩
def aLU:bE:=[((.exit 2),⟨[],[.box [a_,aB cl,aB fi,a_,.tok [.aR bp] 5 []],.gone,.box [au,a_,.dt],.box [au,a_,.tok dR 6 []],.gone,.bG [.aR bp],.bG dR]⟩),(.ret,⟨[(5,au)],[.box [a_,aB cl,aB fi,a_,.tok [.aR bp] 5 []],.gone,.box [au,a_,.dt],.box [au,a_,.tok dR 6 []],.gone,.bG [.aR bp],.bG dR]⟩)]
def P2 (x:U H6):Option (U H6⊕bq aLU):=cond (bh x.1.2.2.2.2.2.1 (ba x.1.2.2.2.1)) ((aX x.1.2.2.2.1 (x.1.2.2.2.2.2.1).1).bind λgl=>(HV (((),x.1.2.1,gl.1,()),(x.2.1,(),()))).bind λcT=>(H2 (((),cT.1.2.1,()),(cT.2.1,(),()))).bind λcA=>cond (!a9 cA.1.2.1 (W 0)) (some (.inr (.inr ((cA.1.2.1,()),(cA.2.1,(),((W 0),(S ⟨#[]⟩),(),()),x.2.2.2.2.1,(),(),(),()))))) ((aX x.1.2.2.2.1 (x.1.2.2.2.2.2.1).1).bind λgM=>(c8 48 x.2.2.2.2.1.2.2.1 (cD [(gM.1,cT.1.1.1,cT.1.1.2.1,cA.1.1,())])).bind λpU=>some (.inl (((),x.1.2.1,(),x.1.2.2.2.1,(),(bj x.1.2.2.2.2.2.1 (W 1)),()),(cA.2.1,(),x.2.2.2.1,(x.2.2.2.2.1.1,x.2.2.2.2.1.2.1,pU,()),(),()))))) (some (.inr (.inl ((),(x.2.1,(),x.2.2.2.1,x.2.2.2.2.1,(),(),(),())))))
def P0 (x:U ali):Option (U aLX):=cond (a9 (ba x.1.2.1) (W 0)) (some ((((W 0),(S ⟨#[]⟩),L.nil,()),(W 0),()),(x.2.1,(),(),()))) ((PR (((),x.1.2.1,()),(x.2.1,(),()))).bind λaz=>cond (!a9 az.1.2.2.1 (W 0)) (some ((((W 0),(S ⟨#[]⟩),L.nil,()),az.1.2.2.1,()),(az.2.1,(),(),()))) ((PT (((),x.1.2.1,()),(az.2.1,(),()))).bind λaF=>(WT (((),az.1.1,aF.1.2.1,()),(((W 0),(S ⟨#[]⟩),(),()),()))).bind λaT=>Sum.elim (λaY=>cond (bh (W 6) (ba aF.1.1)) (some ((((W 0),(S ⟨#[]⟩),L.nil,()),(W 805),()),(aF.2.1,(),(),()))) ((a3 P1 (((),x.1.2.1,(),aF.1.1,(W 0),()),(aF.2.1,(),aY.2.1,()))).bind λcu=>Sum.elim (λbU=>(a3 P2 (((),x.1.2.1,(),aF.1.1,(),(W 0),()),(bU.2.1,(),bU.2.2.2.1,(az.1.1,az.1.2.1,L.nil,()),(),()))).bind λeK=>Sum.elim (λfg=>some (((fg.2.2.2.2.1.1,fg.2.2.2.2.1.2.1,fg.2.2.2.2.1.2.2.1,()),(W 0),()),(fg.2.1,(),(),()))) (λe_=>some (((e_.2.2.2.1.1,e_.2.2.2.1.2.1,L.nil,()),e_.1.1,()),(e_.2.1,(),(),()))) eK) (λcd=>some (((cd.2.2.2.1.1,cd.2.2.2.1.2.1,L.nil,()),cd.1.1,()),(cd.2.1,(),(),()))) cu)) (λa5=>some (((a5.2.1.1,a5.2.1.2.1,L.nil,()),a5.1.1,()),(aF.2.1,(),(),()))) aT))
def aj7:=aH [(0,.agg dE),(1,a_)]
def aIm:=aH [(0,.agg ek),(1,au)]
def Hb:a4:=⟨[(4,cC),(6,.ptr 1 0),(9,.ptr 3 0),(10,au)],[.box [a_,.dt],.box [a_,aB cl,aB fi,a_,.tok [.aR bp] 2 []],.bG [.aR bp],.box [a_,.tok fZ 4 []],.bG fZ]⟩
def aIj:bE:=[((.exit 0),⟨[],[.box [a_,.dt],.box [a_,aB cl,aB fi,a_,.tok [.aR bp] 5 []],.gone,.box [a_,.tok fZ 6 []],.gone,.bG [.aR bp],.bG fZ]⟩),(.ret,⟨[(5,au)],[.box [a_,.dt],.box [a_,aB cl,aB fi,a_,.tok [.aR bp] 5 []],.gone,.box [a_,.tok fZ 6 []],.gone,.bG [.aR bp],.bG fZ]⟩)]
def OY (x:U Hb):Option (U Hb⊕bq aIj):=cond (bh x.1.2.2.2.1 (ba x.2.2.1.2.2.2.2.1)) ((aX x.2.2.1.2.2.2.2.1 (x.1.2.2.2.1).1).bind λdb=>(P0 (((),db.1,()),(x.2.2.1,(),()))).bind λbL=>cond (!a9 bL.1.2.1 (W 0)) (some (.inr (.inr ((bL.1.2.1,()),(((S ⟨#[]⟩),(),()),bL.2.1,(),x.2.2.2.2.1,(),(),(),()))))) ((c8 48 x.2.2.2.2.1.2.1 (cD [bL.1.1])).bind λj0=>some (.inl (((),(),(),(bj x.1.2.2.2.1 (W 1)),()),(x.2.1,bL.2.1,(),(x.2.2.2.2.1.1,j0,()),(),()))))) (some (.inr (.inl ((),(x.2.1,x.2.2.1,(),x.2.2.2.2.1,(),(),(),())))))
def OX (x:U aj7):Option (U aIm):=(zE ((x.1.1,()),())).bind λaz=>cond (!az.1.1) (some ((((S ⟨#[]⟩),L.nil,()),(W 800),()),())) ((o_ ((x.1.1.2.1,x.1.2.1,()),())).bind λaF=>cond (!aF.1.1) (some ((((S ⟨#[]⟩),L.nil,()),(W 800),()),())) ((H2 (((),(cD [((W 0),())]),()),((x.1.1.1,x.1.1.2.1,x.1.1.2.2.1,x.1.2.1,L.nil,()),(),()))).bind λaT=>cond (!a9 aT.1.2.1 (W 0)) (some ((((S ⟨#[]⟩),L.nil,()),aT.1.2.1,()),())) ((fF x.1.1.1 (S ⟨#[46]⟩)).bind λv4=>(fF v4 x.1.2.1).bind λcV=>(a3 OY (((),(),(),(W 0),()),(((S ⟨#[]⟩),(),()),aT.2.1,(),(cV,L.nil,()),(),()))).bind λbU=>Sum.elim (λcd=>some (((cd.2.2.2.2.1.1,cd.2.2.2.2.1.2.1,()),(W 0),()),())) (λbY=>some (((bY.2.1.1,L.nil,()),bY.1.1,()),())) bU)))
def ajQ:=aH [(0,.agg dE)]
def aHl:=aH [(0,aB ek),(1,au),(2,au)]
def GW:a4:=⟨[(1,.cH dE 0),(5,.tok ek 0 []),(6,au)],[.bG ek]⟩
def aHj:bE:=[((.exit 0),⟨[(5,.tok ek 1 [])],[.gone,.bG ek]⟩),(.ret,⟨[(2,.dt),(3,au),(4,au)],[.gone]⟩)]
def OC (x:U GW):Option (U GW⊕bq aHj):=cond (bh x.1.2.2.1 (ba x.1.1.2.1)) ((aX x.1.1.2.1 (x.1.2.2.1).1).bind λaQ=>(OX ((x.1.1,aQ.1,()),())).bind λaT=>cond (!a9 aT.1.2.1 (W 0)) (some (.inr (.inr (((),x.1.2.2.1,aT.1.2.1,()),((),()))))) ((c8 40 x.1.2.1 (cD [aT.1.1])).bind λjk=>some (.inl ((x.1.1,jk,(bj x.1.2.2.1 (W 1)),()),((),()))))) (some (.inr (.inl ((x.1.2.1,()),((),(),())))))
def BS (x:U ajQ):Option (U aHl):=(zE ((x.1.1,()),())).bind λaz=>cond (!az.1.1) (some ((L.nil,(W 0),(W 800),()),())) ((a3 OC ((x.1.1,L.nil,(W 0),()),((),()))).bind λa5=>Sum.elim (λbK=>some ((bK.1.1,(W 0),(W 0),()),())) (λbL=>some ((L.nil,bL.1.2.1,bL.1.2.2.1,()),())) a5)
def ajZ:=aH [(0,.agg ek)]
def aHT:=aH [(0,bR)]
def G7:=aH [(1,.cH ek 0),(3,au)]
def aHR:bE:=[((.exit 0),aH []),fP [(2,bR)]]
def OM (x:U G7):Option (U G7⊕bq aHR):=cond (bh x.1.2.1 (ba x.1.1.2.1)) ((aX x.1.1.2.1 (x.1.2.1).1).bind λaD=>cond (a9 aD.1 (W 0)) (cond (!cB aD.2.1 (S ⟨#[]⟩)) (some (.inr (.inr ((false,()),())))) (cond (bh (W 0) (ba aD.2.2.1)) (some (.inr (.inr ((false,()),())))) (some (.inl ((x.1.1,(bj x.1.2.1 (W 1)),()),()))))) (cond (a9 aD.1 (W 1)) (cond (a9 aD.1 (W 1)) ((k6 ((aD.2.1,()),())).bind λaF=>cond (!aF.1.1) (some (.inr (.inr ((false,()),())))) ((BT ((aD.2.2.1,(ba x.1.1.2.1),()),())).bind λaT=>cond (!aT.1.1) (some (.inr (.inr ((false,()),())))) (some (.inl ((x.1.1,(bj x.1.2.1 (W 1)),()),()))))) (some (.inr (.inr ((false,()),()))))) (cond (a9 aD.1 (W 2)) ((k6 ((aD.2.1,()),())).bind λaY=>cond (!aY.1.1) (some (.inr (.inr ((false,()),())))) ((BT ((aD.2.2.1,(ba x.1.1.2.1),()),())).bind λa5=>cond (!a5.1.1) (some (.inr (.inr ((false,()),())))) (some (.inl ((x.1.1,(bj x.1.2.1 (W 1)),()),()))))) (some (.inr (.inr ((false,()),()))))))) (some (.inr (.inl ((),()))))
def BV (x:U ajZ):Option (U aHT):=cond (bh (ba x.1.1.2.1) (W 1)) (some ((false,()),())) (cond (bh (W 40) (ba x.1.1.2.1)) (some ((false,()),())) ((a3 OM ((x.1.1,(W 0),()),())).bind λbK=>Sum.elim (λbL=>some ((true,()),())) (λcu=>some ((cu.1.1,()),())) bK))
def akn:=aH [(0,au),(1,au),(2,au)]
def aI5:=aH [(0,.agg sY)]
def rS (x:U akn):Option (U aI5):=some (((x.1.1,x.1.2.1,x.1.2.2.1,()),()),())
def akp:=aH [(0,aB dE),(1,aB ek)]
def aJk:=aH [(0,.agg sY)]
def Hk:a4:=⟨[(0,aB dE),(4,cC),(5,.tok cl 1 []),(6,au)],[.box [au,au,au],.bG cl]⟩
def aJb:bE:=[((.exit 0),⟨[(5,.tok cl 2 [])],[.box [au,au,au],.gone,.bG cl]⟩),(.ret,⟨[],I1⟩)]
def O9 (x:U Hk):Option (U Hk⊕bq aJb):=cond (bh x.1.2.2.2.1 (ba x.1.1)) ((aX x.1.1 (x.1.2.2.2.1).1).bind λbO=>(zE ((bO,()),())).bind λaY=>cond (!aY.1.1) ((rS (((W 900),x.1.2.2.2.1,(W (-1)),()),())).bind λa5=>some (.inr (.inr ((),((a5.1.1.1,a5.1.1.2.1,a5.1.1.2.2.1,()),(),()))))) ((aX x.1.1 (x.1.2.2.2.1).1).bind λdb=>(c8 16 x.1.2.2.1 (cD [(db.1,())])).bind λj'=>some (.inl ((x.1.1,(),j',(bj x.1.2.2.2.1 (W 1)),()),(x.2.1,(),()))))) (some (.inr (.inl ((x.1.2.2.1,()),(x.2.1,(),(),())))))
def Hl:a4:=⟨[(0,aB dE),(1,aB ek),(4,cC),(5,.tok cl 1 []),(7,au)],[.box [au,au,au],.bG cl]⟩
def aJe:bE:=[((.exit 2),⟨[(5,.tok cl 2 [])],[.box [au,au,au],.gone,.bG cl]⟩),(.ret,⟨[],I1⟩)]
def O_ (x:U Hl):Option (U Hl⊕bq aJe):=cond (bh x.1.2.2.2.2.1 (ba x.1.2.1)) ((aX x.1.2.1 (x.1.2.2.2.2.1).1).bind λgl=>(BV ((gl,()),())).bind λcT=>cond (!cT.1.1) ((rS (((W 900),(bj (ba x.1.1) x.1.2.2.2.2.1),(W (-1)),()),())).bind λdF=>some (.inr (.inr ((),((dF.1.1.1,dF.1.1.2.1,dF.1.1.2.2.1,()),(),()))))) ((aX x.1.2.1 (x.1.2.2.2.2.1).1).bind λkj=>(k6 ((kj.1,()),())).bind λep=>cond (!ep.1.1) ((rS (((W 900),(bj (ba x.1.1) x.1.2.2.2.2.1),(W (-1)),()),())).bind λeK=>some (.inr (.inr ((),((eK.1.1.1,eK.1.1.2.1,eK.1.1.2.2.1,()),(),()))))) ((aX x.1.2.1 (x.1.2.2.2.2.1).1).bind λkA=>(c8 16 x.1.2.2.2.1 (cD [(kA.1,())])).bind λabT=>some (.inl ((x.1.1,x.1.2.1,(),abT,(bj x.1.2.2.2.2.1 (W 1)),()),(x.2.1,(),())))))) (some (.inr (.inl ((x.1.2.2.2.1,()),(x.2.1,(),(),())))))
def Hm:a4:=⟨[(4,cC),(5,aB cl),(8,au)],m1⟩
def aJh:bE:=[((.exit 4),⟨[],m1⟩),(.ret,⟨[],m1⟩)]
def O' (x:U Hm):Option (U Hm⊕bq aJh):=cond (bh x.1.2.2.1 (ba x.1.2.1)) ((nG x.1.2.1 0 (x.1.2.2.1).1).bind λamh=>(aX x.1.2.1 (x.1.2.2.1).1).bind λlv=>(o_ ((amh,lv.1,()),())).bind λlJ=>cond (lJ.1.1) ((rS (((W 901),x.1.2.2.1,(W (-1)),()),())).bind λkg=>some (.inr (.inr ((),((kg.1.1.1,kg.1.1.2.1,kg.1.1.2.2.1,()),()))))) (some (.inl (((),x.1.2.1,(bj x.1.2.2.1 (W 1)),()),(x.2.1,()))))) (some (.inr (.inl ((),(x.2.1,())))))
def O8 (x:U akp):Option (U aJk):=cond (bh (W 6) (ba x.1.1)) ((rS (((W 900),(W (-1)),(W (-1)),()),())).bind λaz=>some ((az.1.1,()),())) (cond (bh (W 12) (ba x.1.2.1)) ((rS (((W 900),(W (-1)),(W (-1)),()),())).bind λaF=>some ((aF.1.1,()),())) ((a3 O9 ((x.1.1,(),L.nil,(W 0),()),(((W 0),(W 0),(W 0),()),(),()))).bind λcu=>Sum.elim (λbU=>(a3 O_ ((x.1.1,x.1.2.1,(),bU.1.1,(W 0),()),(bU.2.1,(),()))).bind λfo=>Sum.elim (λfY=>(a3 O' (((),fY.1.1,(W 0),()),(fY.2.1,()))).bind λmS=>Sum.elim (λCf=>some ((((W 0),(W 0),(W 0),()),()),())) (λzK=>some (((zK.2.1.1,zK.2.1.2.1,zK.2.1.2.2.1,()),()),())) mS) (λjA=>some (((jA.2.1.1,jA.2.1.2.1,jA.2.1.2.2.1,()),()),())) fo) (λcd=>some (((cd.2.1.1,cd.2.1.2.1,cd.2.1.2.2.1,()),()),())) cu))
def ak3:=aH [(0,aB dE),(1,aB ek)]
def aK0:=aH [(0,aB cl)]
def HM:a4:=⟨[(0,aB dE),(5,.tok cl 0 []),(6,au),(7,au)],[.bG cl]⟩
def aKU:bE:=[((.exit 2),⟨[(5,.tok cl 1 [])],[.gone,.bG cl]⟩)]
def PG (x:U HM):Option (U HM⊕bq aKU):=(aX x.1.1 (x.1.2.2.1).1).bind λaD=>cond (bh x.1.2.2.2.1 (ba aD.2.1)) ((aX x.1.1 (x.1.2.2.1).1).bind λaQ=>(fF aQ.1 (S ⟨#[46]⟩)).bind λcK=>(aX x.1.1 (x.1.2.2.1).1).bind λcP=>(aX cP.2.1 (x.1.2.2.2.1).1).bind λdP=>(fF cK dP.1).bind λv6=>(c8 16 x.1.2.1 (cD [(v6,())])).bind λj'=>some (.inl ((x.1.1,j',x.1.2.2.1,(bj x.1.2.2.2.1 (W 1)),()),((),())))) (some (.inr ((x.1.2.1,()),((),(),()))))
def HL:a4:=⟨[(0,aB dE),(5,.tok cl 0 []),(6,au)],[.bG cl]⟩
def aKR:bE:=[((.exit 0),⟨[(5,.tok cl 1 [])],[.gone,.bG cl]⟩)]
def PF (x:U HL):Option (U HL⊕bq aKR):=cond (bh x.1.2.2.1 (ba x.1.1)) ((a3 PG ((x.1.1,x.1.2.1,x.1.2.2.1,(W 0),()),((),()))).bind λcu=>some (.inl ((x.1.1,cu.1.1,(bj x.1.2.2.1 (W 1)),()),((),())))) (some (.inr ((x.1.2.1,()),((),(),()))))
def HN:a4:=⟨[(1,aB ek),(5,.tok cl 0 []),(8,au)],[.bG cl]⟩
def aKX:bE:=[((.exit 4),⟨[(5,.tok cl 1 [])],[.gone,.bG cl]⟩)]
def PH (x:U HN):Option (U HN⊕bq aKX):=cond (bh x.1.2.2.1 (ba x.1.1)) ((aX x.1.1 (x.1.2.2.1).1).bind λea=>(c8 16 x.1.2.1 (cD [(ea.1,())])).bind λrJ=>some (.inl ((x.1.1,rJ,(bj x.1.2.2.1 (W 1)),()),((),())))) (some (.inr ((x.1.2.1,()),((),(),()))))
def PE (x:U ak3):Option (U aK0):=(a3 PF ((x.1.1,L.nil,(W 0),()),((),()))).bind λbU=>(a3 PH ((x.1.2.1,bU.1.1,(W 0),()),((),()))).bind λcT=>some ((cT.1.1,()),())
def akI:=aH [(0,.agg dE)]
def aJ9:=aH [(0,aB [.aR dR])]
def Hw:a4:=⟨[(1,.cH dE 0),(3,.tok [.aR dR] 0 []),(4,au)],[.bG [.aR dR]]⟩
def aJ6:bE:=[((.exit 0),⟨[(3,.tok [.aR dR] 1 [])],[.gone,.bG [.aR dR]]⟩)]
def Pr (x:U Hw):Option (U Hw⊕bq aJ6):=cond (bh x.1.2.2.1 (ba x.1.1.2.2.1)) ((aX x.1.1.2.2.1 (x.1.2.2.1).1).bind λaD=>(c8 24 x.1.2.1 (cD [(aD.2.2.1,())])).bind λdg=>some (.inl ((x.1.1,dg,(bj x.1.2.2.1 (W 1)),()),((),())))) (some (.inr ((x.1.2.1,()),((),(),()))))
def Pq (x:U akI):Option (U aJ9):=(a3 Pr ((x.1.1,L.nil,(W 0),()),((),()))).bind λaT=>some ((aT.1.1,()),())
def ak5:=aH [(0,aB [.aR dR]),(1,aB cl)]
def aLj:=aH [(0,au)]
def HT:=aH [(0,aB [.aR dR]),(1,aB cl),(5,au),(6,au)]
def aLg:bE:=[((.exit 2),aH []),fP [(4,au)]]
def PO (x:U HT):Option (U HT⊕bq aLg):=(aX x.1.1 (x.1.2.2.1).1).bind λaD=>cond (bh x.1.2.2.2.1 (ba aD.1)) ((aX x.1.1 (x.1.2.2.1).1).bind λaQ=>(aX aQ.1 (x.1.2.2.2.1).1).bind λbO=>cond (a9 bO.2.1 (W 5)) ((o_ ((x.1.2.1,bO.2.2.1,()),())).bind λaY=>cond (!aY.1.1) (some (.inr (.inr ((x.1.2.2.1,()),())))) (some (.inl ((x.1.1,x.1.2.1,x.1.2.2.1,(bj x.1.2.2.2.1 (W 1)),()),())))) (some (.inl ((x.1.1,x.1.2.1,x.1.2.2.1,(bj x.1.2.2.2.1 (W 1)),()),())))) (some (.inr (.inl ((),()))))
def HS:=aH [(0,aB [.aR dR]),(1,aB cl),(5,au)]
def aLd:bE:=[((.exit 0),aH []),fP [(4,au)]]
def PN (x:U HS):Option (U HS⊕bq aLd):=cond (bh x.1.2.2.1 (ba x.1.1)) ((a3 PO ((x.1.1,x.1.2.1,x.1.2.2.1,(W 0),()),())).bind λa5=>Sum.elim (λbK=>some (.inl ((x.1.1,x.1.2.1,(bj x.1.2.2.1 (W 1)),()),()))) (λbL=>some (.inr (.inr ((bL.1.1,()),())))) a5) (some (.inr (.inl ((),()))))
def HR (x:U ak5):Option (U aLj):=(a3 PN ((x.1.1,x.1.2.1,(W 0),()),())).bind λcu=>Sum.elim (λbU=>some (((W (-1)),()),())) (λcd=>some ((cd.1.1,()),())) cu
def akX:=aH [(0,.agg ek)]
def aKJ:=aH [(0,aB [.aR dR])]
def HJ:a4:=⟨[(1,.cH ek 0),(3,.tok [.aR dR] 0 []),(4,au)],[.bG [.aR dR]]⟩
def aKH:bE:=[((.exit 0),⟨[(3,.tok [.aR dR] 1 [])],[.gone,.bG [.aR dR]]⟩)]
def PB (x:U HJ):Option (U HJ⊕bq aKH):=cond (bh x.1.2.2.1 (ba x.1.1.2.1)) ((aX x.1.1.2.1 (x.1.2.2.1).1).bind λaD=>(c8 24 x.1.2.1 (cD [(aD.2.2.1,())])).bind λdg=>some (.inl ((x.1.1,dg,(bj x.1.2.2.1 (W 1)),()),((),())))) (some (.inr ((x.1.2.1,()),((),(),()))))
def HI (x:U akX):Option (U aKJ):=(a3 PB ((x.1.1,L.nil,(W 0),()),((),()))).bind λaT=>some ((aT.1.1,()),())
def akd:=aH [(0,aB dR)]
def aIQ:a4:=⟨[(0,.arr 0 dR nJ)],[.arr dR nJ]⟩
def Hg:a4:=⟨[(0,aB dR),(3,.arr 0 dR nJ),(4,au),(5,au)],[.arr dR nJ]⟩
def aIO:bE:=[((.exit 2),⟨[(5,au)],[.arr dR nJ]⟩)]
def O2 (x:U Hg):Option (U Hg⊕bq aIO):=
 cond (bh (W 0) x.1.2.2.2.1)
  (cond (decide (0<=((eF x.1.2.2.2.1 (W 1))).1)&&decide (((eF x.1.2.2.2.1 (W 1))).1<(x.2.1.1.length:Nat)))
   ((eO x.2.1 (((eF x.1.2.2.2.1 (W 1))).1).toNat).bind λaD=>
    (aX x.1.1 (x.1.2.2.1).1).bind λaQ=>
    cond (!(ox aD.1 aQ.1||cB aD.1 aQ.1))
     (some (.inl ((x.1.1,(),x.1.2.2.1,(eF x.1.2.2.2.1 (W 1)),()),(x.2.1,()))))
     (some (.inr ((x.1.2.2.2.1,()),(x.2.1,())))))
   (none))
  (some (.inr ((x.1.2.2.2.1,()),(x.2.1,()))))
def Hf:a4:=⟨[(0,aB dR),(3,.arr 0 dR nJ),(4,au)],[.arr dR nJ]⟩
def aIL:bE:=[((.exit 0),⟨[(3,.arr 1 dR nJ)],[.gone,.arr dR nJ]⟩)]
def O1 (x:U Hf):Option (U Hf⊕bq aIL):=cond (bh x.1.2.2.1 (ba x.1.1)) ((a3 O2 ((x.1.1,(),x.1.2.2.1,(W (x.2.1.1.length:Nat)),()),(x.2.1,()))).bind λaT=>cond (decide (0<=(0:Int))&&decide ((0:Int)<=(aT.1.1).1)&&decide ((aT.1.1).1<=(x.2.1.1.length:Nat))) ((c8 48 (L.nil:L (D [.str,.int .i64,.str,.int .i64])) (nf aT.2.1 ((0:Int)).toNat ((aT.1.1).1-(0:Int)).toNat)).bind λiD=>(aX x.1.1 (x.1.2.2.1).1).bind λdb=>(c8 48 iD (cD [db])).bind λj'=>cond (decide (0<=(aT.1.1).1)&&decide ((aT.1.1).1<=(x.2.1.1.length:Int))&&decide ((x.2.1.1.length:Int)<=(x.2.1.1.length:Nat))) ((c8 48 j' (nf aT.2.1 ((aT.1.1).1).toNat ((x.2.1.1.length:Int)-(aT.1.1).1).toNat)).bind λow=>some (.inl ((x.1.1,(),(bj x.1.2.2.1 (W 1)),()),(ow,())))) (none)) (none)) (some (.inr (((),()),((),x.2.1,()))))
def He (x:U akd):Option (U aIQ):=(a3 O1 ((x.1.1,(),(W 0),()),(L.nil,()))).bind λcd=>some (((),()),(cd.2.2.1,()))
def akF:=aH [(0,aB bp),(1,au)]
def aJ4:=aH [(0,au)]
def Hv:=aH [(0,aB bp),(1,au),(5,au)]
def aJ2:bE:=[((.exit 0),aH []),fP [(4,au)]]
def Pp (x:U Hv):Option (U Hv⊕bq aJ2):=cond (bh x.1.2.2.1 (ba x.1.1)) ((aX x.1.1 (x.1.2.2.1).1).bind λaD=>cond (a9 aD.1 x.1.2.1) (some (.inr (.inr ((x.1.2.2.1,()),())))) (some (.inl ((x.1.1,x.1.2.1,(bj x.1.2.2.1 (W 1)),()),())))) (some (.inr (.inl ((),()))))
def Hu (x:U akF):Option (U aJ4):=(a3 Pp ((x.1.1,x.1.2.1,(W 0),()),())).bind λaF=>Sum.elim (λaT=>some (((W (-1)),()),())) (λaY=>some ((aY.1.1,()),())) aF
def akq:=aH [(0,aB bp),(1,au)]
def aJn:=aH [(0,bR)]
def Pb (x:U akq):Option (U aJn):=(Hu ((x.1.1,x.1.2.1,()),())).bind λaz=>some (((fN (W 0) az.1.1),()),())
def akK:=aH [(0,aB [.aR dR])]
def aKg:=aH [(0,aB bp)]
def Hy:a4:=⟨[(3,.tok bp 0 []),(5,.arr 1 dR nJ),(6,au)],[.bG bp,.arr dR nJ]⟩
def aKd:bE:=[((.exit 2),⟨[(3,.tok bp 2 [])],[.gone,.arr dR nJ,.bG bp]⟩)]
def Pu (x:U Hy):Option (U Hy⊕bq aKd):=cond (bh x.1.2.2.1 (W (x.2.2.1.1.length:Nat))) (cond (decide (0<=(x.1.2.2.1).1)&&decide ((x.1.2.2.1).1<(x.2.2.1.1.length:Nat))) ((eO x.2.2.1 ((x.1.2.2.1).1).toNat).bind λcP=>(Pb ((x.1.1,cP.2.2.2.1,()),())).bind λa5=>cond (!a5.1.1) (cond (decide (0<=(x.1.2.2.1).1)&&decide ((x.1.2.2.1).1<(x.2.2.1.1.length:Nat))) ((eO x.2.2.1 ((x.1.2.2.1).1).toNat).bind λdb=>(c8 8 x.1.1 (cD [(db.2.2.2.1,())])).bind λj'=>some (.inl ((j',(),(bj x.1.2.2.1 (W 1)),()),((),x.2.2.1,())))) (none)) (some (.inl ((x.1.1,(),(bj x.1.2.2.1 (W 1)),()),((),x.2.2.1,()))))) (none)) (some (.inr ((x.1.1,()),((),x.2.2.1,(),()))))
def Hx:a4:=⟨[(0,aB [.aR dR]),(3,.tok bp 0 []),(4,au)],[.bG bp]⟩
def aKa:bE:=[((.exit 0),⟨[(3,.tok bp 1 [])],[.gone,.bG bp]⟩)]
def Pt (x:U Hx):Option (U Hx⊕bq aKa):=cond (bh x.1.2.2.1 (ba x.1.2.1)) ((aX x.1.2.1 (x.1.2.2.1).1).bind λaD=>(aX x.1.1 (aD.1).1).bind λaQ=>(He ((aQ.1,()),())).bind λaT=>(a3 Pu ((x.1.2.1,(),(W 0),()),((),aT.2.1,()))).bind λcu=>some (.inl ((x.1.1,cu.1.1,(bj x.1.2.2.1 (W 1)),()),((),())))) (some (.inr ((x.1.2.1,()),((),(),()))))
def Ps (x:U akK):Option (U aKg):=(a3 Pt ((x.1.1,(cD [((W 0),())]),(W 0),()),((),()))).bind λbU=>some ((bU.1.1,()),())
def aj1:=aH [(0,.agg ek)]
def aHV:=aH [(0,aB bp)]
def ON (x:U aj1):Option (U aHV):=(BV ((x.1.1,()),())).bind λaz=>cond (!az.1.1) (some ((L.nil,()),())) ((HI ((x.1.1,()),())).bind λaF=>(Ps ((aF.1.1,()),())).bind λaT=>some ((aT.1.1,()),()))
def aku:=aH [(0,aB dR),(1,aB bp)]
def aJC:=aH [(0,aB dR)]
def Ho:a4:=⟨[(1,aB bp),(5,.arr 0 dR nJ),(6,au)],[.arr dR nJ]⟩
def aJz:bE:=[((.exit 0),⟨[],[.arr dR nJ]⟩)]
def Pg (x:U Ho):Option (U Ho⊕bq aJz):=cond (bh x.1.2.2.1 (W (x.2.1.1.length:Nat))) (cond (decide (0<=(x.1.2.2.1).1)&&decide ((x.1.2.2.1).1<(x.2.1.1.length:Nat))) ((eO x.2.1 ((x.1.2.2.1).1).toNat).bind λaQ=>(Hu ((x.1.1,aQ.2.2.2.1,()),())).bind λaT=>cond (decide (0<=(x.1.2.2.1).1)&&decide ((x.1.2.2.1).1<(x.2.1.1.length:Nat))) ((eO x.2.1 ((x.1.2.2.1).1).toNat).bind λcP=>some (.inl ((x.1.1,(),(bj x.1.2.2.1 (W 1)),()),((dO x.2.1 ((x.1.2.2.1).1).toNat (cP.1,cP.2.1,cP.2.2.1,aT.1.1,())),())))) (none)) (none)) (some (.inr ((),(x.2.1,()))))
def Pf (x:U aku):Option (U aJC):=(He ((x.1.1,()),())).bind λaz=>(a3 Pg ((x.1.2.1,(),(W 0),()),(az.2.1,()))).bind λa5=>some ((a5.2.1,()),())
def aj2:=aH [(0,.agg ek)]
def aH1:=aH [(0,.agg ek)]
def G8:a4:=⟨[(1,.cH ek 0),(3,aB bp),(4,cC),(5,au)],[.box [a_,.tok fZ 1 []],.bG fZ]⟩
def aHY:bE:=[((.exit 0),⟨[],[.box [a_,.tok fZ 2 []],.gone,.bG fZ]⟩)]
def OP (x:U G8):Option (U G8⊕bq aHY):=cond (bh x.1.2.2.2.1 (ba x.1.2.1)) ((aX x.1.2.1 (x.1.2.2.2.1).1).bind λaQ=>(aX x.1.1.2.1 (aQ.1).1).bind λbO=>(Pf ((bO.2.2.1,x.1.2.1,()),())).bind λaY=>(c8 48 x.2.1.2.1 (cD [(bO.1,bO.2.1,aY.1.1,())])).bind λiD=>some (.inl ((x.1.1,x.1.2.1,(),(bj x.1.2.2.2.1 (W 1)),()),((x.2.1.1,iD,()),(),())))) (some (.inr ((),(x.2.1,(),(),()))))
def OO (x:U aj2):Option (U aH1):=(ON ((x.1.1,()),())).bind λaz=>cond (a9 (ba az.1.1) (W 0)) (some ((((S ⟨#[]⟩),L.nil,()),()),())) ((a3 OP ((x.1.1,az.1.1,(),(W 0),()),((x.1.1.1,L.nil,()),(),()))).bind λbK=>some (((bK.2.1.1,bK.2.1.2.1,()),()),()))
def ak4:=aH [(0,aB dE),(1,aB ek)]
def aLa:=aH [(0,aB ek),(1,.agg sY)]
def HO:a4:=⟨[(0,aB dE),(5,cC),(6,.tok ek 1 []),(7,au)],[.box [au,au,au],.bG ek]⟩
def aK3:bE:=[((.exit 0),⟨[(6,.tok ek 2 [])],[.box [au,au,au],.gone,.bG ek]⟩),(.ret,⟨[(4,.dt)],I1⟩)]
def PJ (x:U HO):Option (U HO⊕bq aK3):=cond (bh x.1.2.2.2.1 (ba x.1.1)) ((aX x.1.1 (x.1.2.2.2.1).1).bind λaD=>(BS ((aD,()),())).bind λaF=>cond (!a9 aF.1.2.2.1 (W 0)) ((rS (((W 902),x.1.2.2.2.1,aF.1.2.1,()),())).bind λaT=>some (.inr (.inr (((),()),((aT.1.1.1,aT.1.1.2.1,aT.1.1.2.2.1,()),(),()))))) ((c8 40 x.1.2.2.1 aF.1.1).bind λjk=>some (.inl ((x.1.1,(),jk,(bj x.1.2.2.2.1 (W 1)),()),(x.2.1,(),()))))) (some (.inr (.inl ((x.1.2.2.1,()),(x.2.1,(),(),())))))
def HP:a4:=⟨[(0,aB dE),(5,cC),(11,aB cl),(12,au)],m1⟩
def aK6:bE:=[((.exit 2),⟨[],m1⟩),(.ret,⟨[(4,.dt)],m1⟩)]
def PK (x:U HP):Option (U HP⊕bq aK6):=cond (bh x.1.2.2.2.1 (ba x.1.1)) ((aX x.1.1 (x.1.2.2.2.1).1).bind λeS=>(Pq ((eS,()),())).bind λcd=>(HR ((cd.1.1,x.1.2.2.1,()),())).bind λbY=>cond (fN (W 0) bY.1.1) ((rS (((W 903),x.1.2.2.2.1,bY.1.1,()),())).bind λcT=>some (.inr (.inr (((),()),((cT.1.1.1,cT.1.1.2.1,cT.1.1.2.2.1,()),()))))) (some (.inl ((x.1.1,(),x.1.2.2.1,(bj x.1.2.2.2.1 (W 1)),()),(x.2.1,()))))) (some (.inr (.inl ((),(x.2.1,())))))
def HQ:a4:=⟨[(0,aB dE),(1,aB ek),(5,cC),(6,.tok ek 1 []),(11,aB cl),(14,au)],[.box [au,au,au],.bG ek]⟩
def aK9:bE:=[((.exit 4),⟨[(6,.tok ek 2 [])],[.box [au,au,au],.gone,.bG ek]⟩),(.ret,⟨[(4,.dt)],I1⟩)]
def PL (x:U HQ):Option (U HQ⊕bq aK9):=cond (bh x.1.2.2.2.2.2.1 (ba x.1.2.1)) ((aX x.1.2.1 (x.1.2.2.2.2.2.1).1).bind λg8=>(HI ((g8,()),())).bind λfg=>(HR ((fg.1.1,x.1.2.2.2.2.1,()),())).bind λe_=>cond (fN (W 0) e_.1.1) ((rS (((W 903),(bj (ba x.1.1) x.1.2.2.2.2.2.1),e_.1.1,()),())).bind λfo=>some (.inr (.inr (((),()),((fo.1.1.1,fo.1.1.2.1,fo.1.1.2.2.1,()),(),()))))) ((aX x.1.2.1 (x.1.2.2.2.2.2.1).1).bind λoc=>(OO ((oc,()),())).bind λjA=>(c8 40 x.1.2.2.2.1 (cD [jA.1.1])).bind λabV=>some (.inl ((x.1.1,x.1.2.1,(),abV,x.1.2.2.2.2.1,(bj x.1.2.2.2.2.2.1 (W 1)),()),(x.2.1,(),()))))) (some (.inr (.inl ((x.1.2.2.2.1,()),(x.2.1,(),(),())))))
def PI (x:U ak4):Option (U aLa):=(a3 PJ ((x.1.1,(),L.nil,(W 0),()),(((W 0),(W 0),(W 0),()),(),()))).bind λa5=>Sum.elim (λbK=>(PE ((x.1.1,x.1.2.1,()),())).bind λcu=>(a3 PK ((x.1.1,(),cu.1.1,(W 0),()),(bK.2.1,()))).bind λcA=>Sum.elim (λep=>(a3 PL ((x.1.1,x.1.2.1,(),bK.1.1,cu.1.1,(W 0),()),(ep.2.1,(),()))).bind λlI=>Sum.elim (λlJ=>some ((lJ.1.1,((W 0),(W 0),(W 0),()),()),())) (λkg=>some ((L.nil,(kg.2.1.1,kg.2.1.2.1,kg.2.1.2.2.1,()),()),())) lI) (λdF=>some ((L.nil,(dF.2.1.1,dF.2.1.2.1,dF.2.1.2.2.1,()),()),())) cA) (λbL=>some ((L.nil,(bL.2.1.1,bL.2.1.2.1,bL.2.1.2.2.1,()),()),())) a5
def akE:=aH [(0,aB dE),(1,au)]
def aJZ:=aH [(0,au)]
def Ht:=aH [(0,aB dE),(1,au),(5,au)]
def aJW:bE:=[((.exit 0),aH [(1,au)]),fP [(4,au)]]
def Po (x:U Ht):Option (U Ht⊕bq aJW):=cond (bh x.1.2.2.1 (ba x.1.1)) ((aX x.1.1 (x.1.2.2.1).1).bind λaD=>cond (bh x.1.2.1 (ba aD.2.1)) (some (.inr (.inr ((x.1.2.2.1,()),())))) ((aX x.1.1 (x.1.2.2.1).1).bind λaQ=>some (.inl ((x.1.1,(eF x.1.2.1 (ba aQ.2.1)),(bj x.1.2.2.1 (W 1)),()),())))) (some (.inr (.inl ((x.1.2.1,()),()))))
def Pn (x:U akE):Option (U aJZ):=(a3 Po ((x.1.1,x.1.2.1,(W 0),()),())).bind λaT=>Sum.elim (λaY=>some (((bj (ba x.1.1) aY.1.1),()),())) (λa5=>some ((a5.1.1,()),())) aT
def akw:=aH [(0,.sD ie [true,false,false]),(1,a_),(2,au)]
def aJI:=aH [(0,.sD ie [true,false,false])]
def Hp:a4:=⟨[(1,a_),(3,cC),(7,au)],[.box [.dt,aB cl,aB bp]]⟩
def aJF:bE:=[((.exit 0),⟨[(7,au)],[.box [.dt,aB cl,aB bp]]⟩)]
def Pj (x:U Hp):Option (U Hp⊕bq aJF):=
 cond (bh (W 0) x.1.2.2.1)
  ((aX x.2.1.2.1 ((eF x.1.2.2.1 (W 1))).1).bind λaD=>
   cond (!(ox aD.1 x.1.1||cB aD.1 x.1.1))
    (some (.inl ((x.1.1,(),(eF x.1.2.2.1 (W 1)),()),(x.2.1,()))))
    (some (.inr ((x.1.2.2.1,()),(x.2.1,())))))
  (some (.inr ((x.1.2.2.1,()),(x.2.1,()))))
def Ph (x:U akw):Option (U aJI):=(a3 Pj ((x.1.2.1,(),(ba x.1.1.2.1),()),(((),x.1.1.2.1,x.1.1.2.2.1,()),()))).bind λaF=>(nG aF.2.1.2.1 0 (aF.1.1).1).bind λcK=>(c8 16 (L.nil:L (D [.str])) cK).bind λjk=>(c8 16 jk (cD [(x.1.2.1,())])).bind λiD=>(nG aF.2.1.2.2.1 0 (aF.1.1).1).bind λv6=>(c8 8 (L.nil:L (D [.int .i64])) v6).bind λj'=>(c8 8 j' (cD [(x.1.2.2.1,())])).bind λj0=>(nG aF.2.1.2.1 (aF.1.1).1 aF.2.1.2.1.1.length).bind λe8=>(c8 16 iD e8).bind λnu=>(nG aF.2.1.2.2.1 (aF.1.1).1 aF.2.1.2.2.1.1.length).bind λv11=>(c8 8 j0 v11).bind λvL=>some (((L.nil,nu,vL,()),()),())
def akL:=aH [(0,.agg ie),(1,a_)]
def aKi:=aH [(0,au),(1,bR)]
def Hz (x:U akL):Option (U aKi):=(uU ((x.1.1.2.1,x.1.2.1,()),())).bind λaz=>cond (bh az.1.1 (W 0)) (some (((W 0),false,()),())) (cond (fN (ba x.1.1.2.2.1) az.1.1) (some (((W 0),false,()),())) ((aX x.1.1.2.2.1 (az.1.1).1).bind λaQ=>some ((aQ.1,true,()),())))
def akR:=aH [(0,.agg ie),(1,.agg ig)]
def aKr:=aH [(0,.agg jc),(1,bR)]
def B2 (x:U akR):Option (U aKr):=cond (a9 x.1.2.1.1 (W 5)) ((Hz ((x.1.1,x.1.2.1.2.1,()),())).bind λaz=>cond (!az.1.2.1) (some ((((W 0),(W 0),()),false,()),())) (some ((((W 5),az.1.1,()),true,()),()))) (cond (bh x.1.2.1.1 (W 0)) (some ((((W 0),(W 0),()),false,()),())) (cond (bh (W 5) x.1.2.1.1) (some ((((W 0),(W 0),()),false,()),())) (cond (!cB x.1.2.1.2.1 (S ⟨#[]⟩)) (some ((((W 0),(W 0),()),false,()),())) (some (((x.1.2.1.1,(W 0),()),true,()),())))))
def ajV:=aH [(0,aB dE),(1,aB ek)]
def aHN:=aH [(0,.agg ie),(1,.agg sY)]
def G1:a4:=⟨[(0,aB dE),(4,cC),(5,.ptr 1 0),(7,aB ek),(9,.ptr 2 0),(10,au),(11,au)],Q9⟩
def aHB:bE:=[((.exit 0),⟨[],Q9⟩),(.ret,⟨[],Q9⟩)]
def OI (x:U G1):Option (U G1⊕bq aHB):=cond (bh x.1.2.2.2.2.2.2.1 (ba x.1.2.2.2.1)) ((aX x.1.2.2.2.1 (x.1.2.2.2.2.2.2.1).1).bind λbO=>cond (bh (W 400) (bj x.1.2.2.2.2.2.1 (ba bO.2.1))) ((Pn ((x.1.1,x.1.2.2.2.2.2.2.1,()),())).bind λaY=>(rS (((W 904),aY.1.1,(W (-1)),()),())).bind λa5=>some (.inr (.inr ((),(((),(),(),()),(a5.1.1.1,a5.1.1.2.1,a5.1.1.2.2.1,()),x.2.2.2.1,()))))) ((aX x.1.2.2.2.1 (x.1.2.2.2.2.2.2.1).1).bind λdb=>(Ph (((L.nil,x.2.2.2.1.2.1,x.2.2.2.1.2.2.1,()),db.1,x.1.2.2.2.2.2.1,()),())).bind λbL=>(aX x.1.2.2.2.1 (x.1.2.2.2.2.2.2.1).1).bind λdG=>some (.inl ((x.1.1,(),(),x.1.2.2.2.1,(),(bj x.1.2.2.2.2.2.1 (ba dG.2.1)),(bj x.1.2.2.2.2.2.2.1 (W 1)),()),(((),(),(),()),x.2.2.1,((),bL.1.1.2.1,bL.1.1.2.2.1,()),()))))) (some (.inr (.inl ((),(((),(),(),()),x.2.2.1,x.2.2.2.1,())))))
def G4:a4:=⟨[(9,cC),(10,au),(14,.cH fZ 0),(15,.ptr 2 0),(16,au)],[.box [.tok jS 1 [],aB cl,aB bp],.bG jS,.box [au,a_,.tok lL 3 []],.bG lL]⟩
def aHK:bE:=[((.exit 6),⟨[],[.box [.tok jS 4 [],aB cl,aB bp],.gone,.box [au,a_,.tok lL 5 []],.gone,.bG jS,.bG lL]⟩)]
def OL (x:U G4):Option (U G4⊕bq aHK):=cond (bh x.1.2.2.2.2.1 (ba x.1.2.2.1.2.2.1)) ((aX x.1.2.2.1.2.2.1 (x.1.2.2.2.2.1).1).bind λiw=>(B2 (((x.2.1.1,x.2.1.2.1,x.2.1.2.2.1,()),(iw.2.1,iw.2.2.1,()),()),())).bind λeK=>(aX x.1.2.2.1.2.2.1 (x.1.2.2.2.2.1).1).bind λkA=>(aX x.1.2.2.1.2.2.1 (x.1.2.2.2.2.1).1).bind λkk=>(c8 40 x.2.2.2.1.2.2.1 (cD [(kA.1,eK.1.1.1,eK.1.1.2.1,(bj x.1.2.1 kk.2.2.2.1),())])).bind λabU=>some (.inl (((),x.1.2.1,x.1.2.2.1,(),(bj x.1.2.2.2.2.1 (W 1)),()),(x.2.1,(),(x.2.2.2.1.1,x.2.2.2.1.2.1,abU,()),(),())))) (some (.inr ((),(x.2.1,(),x.2.2.2.1,(),(),(),()))))
def G3:a4:=⟨[(7,aB ek),(9,cC),(10,au),(12,au),(13,au)],[.box [.tok jS 1 [],aB cl,aB bp],.bG jS]⟩
def aHH:bE:=[((.exit 4),⟨[],[.box [.tok jS 2 [],aB cl,aB bp],.gone,.bG jS]⟩)]
def OK (x:U G3):Option (U G3⊕bq aHH):=(aX x.1.1 (x.1.2.2.2.1).1).bind λiC=>cond (bh x.1.2.2.2.2.1 (ba iC.2.1)) ((aX x.1.1 (x.1.2.2.2.1).1).bind λkj=>(aX kj.2.1 (x.1.2.2.2.2.1).1).bind λgM=>(a3 OL (((),x.1.2.2.1,gM,(),(W 0),()),(x.2.1,(),(gM.1,gM.2.1,L.nil,()),(),()))).bind λfY=>(c8 48 fY.2.1.1 (cD [(fY.2.2.2.1.1,fY.2.2.2.1.2.1,fY.2.2.2.1.2.2.1,())])).bind λxc=>some (.inl ((x.1.1,(),x.1.2.2.1,x.1.2.2.2.1,(bj x.1.2.2.2.2.1 (W 1)),()),((xc,fY.2.1.2.1,fY.2.1.2.2.1,()),(),())))) (some (.inr ((),(x.2.1,(),(),()))))
def G2:a4:=⟨[(7,aB ek),(9,cC),(10,au),(12,au)],[.box [.tok jS 1 [],aB cl,aB bp],.bG jS]⟩
def aHE:bE:=[((.exit 2),⟨[],[.box [.tok jS 2 [],aB cl,aB bp],.gone,.bG jS]⟩)]
def OJ (x:U G2):Option (U G2⊕bq aHE):=cond (bh x.1.2.2.2.1 (ba x.1.1)) ((a3 OK ((x.1.1,(),x.1.2.2.1,x.1.2.2.2.1,(W 0),()),(x.2.1,(),()))).bind λeV=>(aX x.1.1 (x.1.2.2.2.1).1).bind λlv=>some (.inl ((x.1.1,(),(bj x.1.2.2.1 (ba lv.2.1)),(bj x.1.2.2.2.1 (W 1)),()),(eV.2.1,(),())))) (some (.inr ((),(x.2.1,(),(),()))))
def OH (x:U ajV):Option (U aHN):=(O8 ((x.1.1,x.1.2.1,()),())).bind λaz=>cond (!a9 az.1.1.1 (W 0)) (some (((L.nil,L.nil,L.nil,()),az.1.1,()),())) ((PI ((x.1.1,x.1.2.1,()),())).bind λaF=>cond (!a9 aF.1.2.1.1 (W 0)) (some (((L.nil,L.nil,L.nil,()),aF.1.2.1,()),())) ((a3 OI ((x.1.1,(),(),aF.1.1,(),(W 0),(W 0),()),(((),(),(),()),((W 0),(W 0),(W 0),()),((),L.nil,L.nil,()),()))).bind λbU=>Sum.elim (λcd=>(a3 OJ ((aF.1.1,(),(W 0),(W 0),()),((L.nil,cd.2.2.2.1.2.1,cd.2.2.2.1.2.2.1,()),(),()))).bind λlJ=>some (((lJ.2.1.1,lJ.2.1.2.1,lJ.2.1.2.2.1,()),((W 0),(W 0),(W 0),()),()),())) (λbY=>some (((L.nil,L.nil,L.nil,()),(bY.2.2.1.1,bY.2.2.1.2.1,bY.2.2.1.2.2.1,()),()),())) bU))
def akP:=aH [(0,.agg jc),(1,au)]
def aKq:=aH [(0,bR)]
def HB (x:U akP):Option (U aKq):=cond (a9 x.1.1.1 (W 5)) (cond (fN (W 0) x.1.1.2.1) (some (((bh x.1.1.2.1 x.1.2.1),()),())) (some ((false,()),()))) (cond (fN (W 0) x.1.1.1) (cond (bh x.1.1.1 (W 5)) (some (((a9 x.1.1.2.1 (W 0)),()),())) (some ((false,()),()))) (some ((false,()),())))
def akC:=aH [(0,.agg jS),(1,au)]
def aJT:=aH [(0,bR)]
def WL:=aH [(2,.cH jS 0)]
def akB:=[jL [],fP [(4,bR)]]
def WK (x:U WL):Option (bq akB):=cond (!a9 x.1.1.1 (W 1)) (cond (!a9 x.1.1.1 (W 2)) (some (.inr ((false,()),()))) ((k6 ((x.1.1.2.1,()),())).bind λaz=>cond (!az.1.1) (some (.inr ((false,()),()))) (cond (bh (ba x.1.1.2.2.1) (W 1)) (some (.inr ((false,()),()))) (cond (bh (W 6) (ba x.1.1.2.2.1)) (some (.inr ((false,()),()))) (some (.inl ((),()))))))) ((k6 ((x.1.1.2.1,()),())).bind λaF=>cond (!aF.1.1) (some (.inr ((false,()),()))) (cond (bh (ba x.1.1.2.2.1) (W 1)) (some (.inr ((false,()),()))) (cond (bh (W 6) (ba x.1.1.2.2.1)) (some (.inr ((false,()),()))) (some (.inl ((),()))))))
def Hs:=aH [(1,au),(2,.cH jS 0),(5,au)]
def aJQ:bE:=[((.exit 0),aH []),fP [(4,bR)]]
def Pm (x:U Hs):Option (U Hs⊕bq aJQ):=cond (bh x.1.2.2.1 (ba x.1.2.1.2.2.1)) ((aX x.1.2.1.2.2.1 (x.1.2.2.1).1).bind λdb=>(k6 ((db.1,()),())).bind λbL=>cond (!bL.1.1) (some (.inr (.inr ((false,()),())))) (cond (bh (W 0) x.1.2.2.1) ((aX x.1.2.1.2.2.1 ((eF x.1.2.2.1 (W 1))).1).bind λdG=>cond (!ox dG.1 db.1) (some (.inr (.inr ((false,()),())))) (cond (bh db.2.2.2.1 (W 0)) (some (.inr (.inr ((false,()),())))) (cond (fN x.1.1 db.2.2.2.1) (some (.inr (.inr ((false,()),())))) ((HB (((db.2.1,db.2.2.1,()),x.1.1,()),())).bind λbU=>cond (!bU.1.1) (some (.inr (.inr ((false,()),())))) (some (.inl ((x.1.1,x.1.2.1,(bj x.1.2.2.1 (W 1)),()),()))))))) (cond (bh db.2.2.2.1 (W 0)) (some (.inr (.inr ((false,()),())))) (cond (fN x.1.1 db.2.2.2.1) (some (.inr (.inr ((false,()),())))) ((HB (((db.2.1,db.2.2.1,()),x.1.1,()),())).bind λcd=>cond (!cd.1.1) (some (.inr (.inr ((false,()),())))) (some (.inl ((x.1.1,x.1.2.1,(bj x.1.2.2.1 (W 1)),()),())))))))) (some (.inr (.inl ((),()))))
def Pl (x:U akC):Option (U aJT):=cond (a9 x.1.1.1 (W 0)) (cond (cB x.1.1.2.1 (S ⟨#[]⟩)) (some (((a9 (ba x.1.1.2.2.1) (W 0)),()),())) (some ((false,()),()))) ((WK ((x.1.1,()),())).bind λaT=>Sum.elim (λaY=>(a3 Pm ((x.1.2.1,x.1.1,(W 0),()),())).bind λbY=>Sum.elim (λcT=>some ((true,()),())) (λcA=>some ((cA.1.1,()),())) bY) (λa5=>some ((a5.1.1,()),())) aT)
def ajU:=aH [(0,.agg ie)]
def aHz:=aH [(0,bR)]
def GZ:=aH [(1,.cH ie 0),(3,au)]
def aHu:bE:=[((.exit 0),aH []),fP [(2,bR)]]
def OF (x:U GZ):Option (U GZ⊕bq aHu):=cond (bh x.1.2.1 (ba x.1.1.2.1)) (cond (bh (W 0) x.1.2.1) ((aX x.1.1.2.1 ((eF x.1.2.1 (W 1))).1).bind λaD=>(aX x.1.1.2.1 (x.1.2.1).1).bind λaQ=>cond (!ox aD.1 aQ.1) (some (.inr (.inr ((false,()),())))) ((aX x.1.1.2.2.1 (x.1.2.1).1).bind λbO=>cond (bh bO.1 (W 0)) (some (.inr (.inr ((false,()),())))) ((aX x.1.1.2.2.1 (x.1.2.1).1).bind λcP=>cond (fN (ba x.1.1.1) cP.1) (some (.inr (.inr ((false,()),())))) (some (.inl ((x.1.1,(bj x.1.2.1 (W 1)),()),())))))) ((aX x.1.1.2.2.1 (x.1.2.1).1).bind λdP=>cond (bh dP.1 (W 0)) (some (.inr (.inr ((false,()),())))) ((aX x.1.1.2.2.1 (x.1.2.1).1).bind λdb=>cond (fN (ba x.1.1.1) db.1) (some (.inr (.inr ((false,()),())))) (some (.inl ((x.1.1,(bj x.1.2.1 (W 1)),()),())))))) (some (.inr (.inl ((),()))))
def G0:=aH [(1,.cH ie 0),(4,au)]
def aHx:bE:=[((.exit 2),aH []),fP [(2,bR)]]
def OG (x:U G0):Option (U G0⊕bq aHx):=cond (bh x.1.2.1 (ba x.1.1.1)) ((aX x.1.1.1 (x.1.2.1).1).bind λea=>(Pl ((ea,(ba x.1.1.1),()),())).bind λbY=>cond (!bY.1.1) (some (.inr (.inr ((false,()),())))) (some (.inl ((x.1.1,(bj x.1.2.1 (W 1)),()),())))) (some (.inr (.inl ((),()))))
def BU (x:U ajU):Option (U aHz):=cond (bh (W 400) (ba x.1.1.1)) (some ((false,()),())) (cond (!a9 (ba x.1.1.2.1) (ba x.1.1.2.2.1)) (some ((false,()),())) ((a3 OF ((x.1.1,(W 0),()),())).bind λbL=>Sum.elim (λcu=>(a3 OG ((x.1.1,(W 0),()),())).bind λcT=>Sum.elim (λcA=>some ((true,()),())) (λep=>some ((ep.1.1,()),())) cT) (λbU=>some ((bU.1.1,()),())) bL))
def akc:=aH [(0,.agg ie),(1,.agg ig)]
def aIJ:=aH [(0,.agg jc),(1,bR)]
def BZ (x:U akc):Option (U aIJ):=cond (a9 x.1.2.1.1 (W 5)) ((BU ((x.1.1,()),())).bind λaz=>cond (!az.1.1) (some ((((W 0),(W 0),()),false,()),())) ((B2 ((x.1.1,x.1.2.1,()),())).bind λaF=>some ((aF.1.1,aF.1.2.1,()),()))) ((B2 ((x.1.1,x.1.2.1,()),())).bind λaT=>some ((aT.1.1,aT.1.2.1,()),()))
def akl:=aH [(0,.agg jS),(1,a_)]
def aI4:=aH [(0,au)]
def Hi:=aH [(1,a_),(2,.cH jS 0),(5,au)]
def aI1:bE:=[((.exit 0),aH []),fP [(4,au)]]
def O5 (x:U Hi):Option (U Hi⊕bq aI1):=cond (bh x.1.2.2.1 (ba x.1.2.1.2.2.1)) ((aX x.1.2.1.2.2.1 (x.1.2.2.1).1).bind λaD=>cond (cB aD.1 x.1.1) (some (.inr (.inr ((x.1.2.2.1,()),())))) (some (.inl ((x.1.1,x.1.2.1,(bj x.1.2.2.1 (W 1)),()),())))) (some (.inr (.inl ((),()))))
def B1 (x:U akl):Option (U aI4):=(a3 O5 ((x.1.2.1,x.1.1,(W 0),()),())).bind λaF=>Sum.elim (λaT=>some (((W (-1)),()),())) (λaY=>some ((aY.1.1,()),())) aF
def akj:=aH [(0,.agg ie),(1,au),(2,au)]
def aIY:=aH [(0,aB jc),(1,bR)]
def WE:a4:=⟨[(8,.cH jS 0),(9,.cH jS 0),(10,cC),(11,.ptr 1 0)],[.box [au,a_,aB lL],.box [au,a_,aB lL]]⟩
def akh:bE:=[(.normal,⟨[],[.box [au,a_,aB lL],.box [au,a_,aB lL]]⟩)]
def WD (x:U WE):Option (bq akh):=cond (a9 x.1.1.1 (W 2)) (some ((),((x.1.1.1,x.1.1.2.1,x.1.1.2.2.1,()),(x.1.2.1.1,x.1.2.1.2.1,x.1.2.1.2.2.1,()),()))) (some ((),(x.2.1,x.2.2.1,())))
def WH:a4:=⟨[(8,.cH jS 0),(12,.tok jc 0 []),(14,.cH lL 0),(15,.cH lL 0)],[.bG jc]⟩
def aki:bE:=[(.normal,⟨[(12,.tok jc 1 [])],Rg⟩)]
def WG (x:U WH):Option (bq aki):=cond (a9 x.1.2.2.1.2.1 (W 5)) (cond (a9 x.1.1.1 (W 1)) ((c8 16 x.1.2.1 (cD [(x.1.2.2.2.1.2.2.1,x.1.2.2.1.2.2.1,())])).bind λvL=>some ((vL,()),((),(),()))) (some ((x.1.2.1,()),((),(),())))) (some ((x.1.2.1,()),((),(),())))
def Hh:a4:=⟨[(8,.cH jS 0),(9,.cH jS 0),(10,cC),(11,.ptr 1 0),(12,.tok jc 2 []),(13,au)],[.box [au,a_,aB lL],.box [au,a_,aB lL],.bG jc]⟩
def aIV:bE:=[((.exit 0),⟨[(12,.tok jc 3 [])],[.box [au,a_,aB lL],.box [au,a_,aB lL],.gone,.bG jc]⟩),(.ret,⟨[(6,.dt),(7,bR)],[.box [au,a_,aB lL],.box [au,a_,aB lL],.gone]⟩)]
def O4 (x:U Hh):Option (U Hh⊕bq aIV):=cond (bh x.1.2.2.2.2.2.1 (ba x.2.1.2.2.1)) ((aX x.2.1.2.2.1 (x.1.2.2.2.2.2.1).1).bind λcP=>(B1 (((x.2.2.1.1,x.2.2.1.2.1,x.2.2.1.2.2.1,()),cP.1,()),())).bind λa5=>cond (bh a5.1.1 (W 0)) (some (.inr (.inr (((),false,()),((x.2.1.1,x.2.1.2.1,x.2.1.2.2.1,()),x.2.2.1,(),()))))) ((aX x.2.1.2.2.1 (x.1.2.2.2.2.2.1).1).bind λdb=>(B1 ((x.1.1,db.1,()),())).bind λbL=>(aX x.1.1.2.2.1 (bL.1.1).1).bind λdG=>(aX x.2.1.2.2.1 (x.1.2.2.2.2.2.1).1).bind λeS=>(B1 ((x.1.2.1,eS.1,()),())).bind λcd=>(aX x.1.2.1.2.2.1 (cd.1.1).1).bind λgl=>cond (!a9 dG.2.1 gl.2.1) (some (.inr (.inr (((),false,()),((x.2.1.1,x.2.1.2.1,x.2.1.2.2.1,()),x.2.2.1,(),()))))) ((WG ((x.1.1,x.1.2.2.2.2.1,dG,gl,()),((),()))).bind λcA=>cond (a9 dG.2.1 (W 5)) (cond (a9 x.1.1.1 (W 2)) ((c8 16 cA.1.1 (cD [(dG.2.2.1,gl.2.2.1,())])).bind λtC=>(c8 16 tC (cD [(dG.2.2.2.1,gl.2.2.2.1,())])).bind λpU=>some (.inl ((x.1.1,x.1.2.1,(),(),pU,(bj x.1.2.2.2.2.2.1 (W 1)),()),((x.2.1.1,x.2.1.2.1,x.2.1.2.2.1,()),x.2.2.1,(),())))) ((c8 16 cA.1.1 (cD [(dG.2.2.2.1,gl.2.2.2.1,())])).bind λS3=>some (.inl ((x.1.1,x.1.2.1,(),(),S3,(bj x.1.2.2.2.2.2.1 (W 1)),()),((x.2.1.1,x.2.1.2.1,x.2.1.2.2.1,()),x.2.2.1,(),()))))) ((c8 16 cA.1.1 (cD [(dG.2.2.2.1,gl.2.2.2.1,())])).bind λS4=>some (.inl ((x.1.1,x.1.2.1,(),(),S4,(bj x.1.2.2.2.2.2.1 (W 1)),()),((x.2.1.1,x.2.1.2.1,x.2.1.2.2.1,()),x.2.2.1,(),()))))))) (some (.inr (.inl ((x.1.2.2.2.2.1,()),((x.2.1.1,x.2.1.2.1,x.2.1.2.2.1,()),x.2.2.1,(),(),())))))
def O3 (x:U akj):Option (U aIY):=(aX x.1.1.1 (x.1.2.1).1).bind λaD=>(aX x.1.1.1 (x.1.2.2.1).1).bind λaQ=>cond (!a9 aD.1 aQ.1) (some ((L.nil,false,()),())) (cond (!cB aD.2.1 aQ.2.1) (some ((L.nil,false,()),())) ((WD ((aD,aQ,(),(),()),((aQ.1,aQ.2.1,aQ.2.2.1,()),(aD.1,aD.2.1,aD.2.2.1,()),()))).bind λaT=>(a3 O4 ((aD,aQ,(),(),L.nil,(W 0),()),(aT.2.1,aT.2.2.1,(),()))).bind λe_=>Sum.elim (λfo=>some ((fo.1.1,true,()),())) (λfY=>some ((L.nil,fY.1.2.1,()),())) e_))
def akr:=aH [(0,aB jc),(1,.agg jc)]
def aJt:=aH [(0,bR)]
def Hn:=aH [(0,aB jc),(3,.cH jc 0),(5,au)]
def aJq:bE:=[((.exit 0),aH []),fP [(4,bR)]]
def Pd (x:U Hn):Option (U Hn⊕bq aJq):=cond (bh x.1.2.2.1 (ba x.1.1)) ((aX x.1.1 (x.1.2.2.1).1).bind λaD=>cond ((a9 aD.1 x.1.2.1.1)&&((a9 aD.2.1 x.1.2.1.2.1)&&true)) (some (.inr (.inr ((true,()),())))) (some (.inl ((x.1.1,x.1.2.1,(bj x.1.2.2.1 (W 1)),()),())))) (some (.inr (.inl ((),()))))
def Pc (x:U akr):Option (U aJt):=(a3 Pd ((x.1.1,x.1.2.1,(W 0),()),())).bind λaF=>Sum.elim (λaT=>some ((false,()),())) (λaY=>some ((aY.1.1,()),())) aF
def aj4:=aH [(0,.agg ie),(1,au),(2,au)]
def aH_:=aH [(0,aB jc),(1,bR)]
def G_:a4:=⟨[(8,.tok jc 0 []),(10,aB jc),(12,au)],[.bG jc]⟩
def aH7:bE:=[((.exit 2),⟨[(8,.tok jc 1 [])],Rg⟩)]
def OS (x:U G_):Option (U G_⊕bq aH7):=cond (bh x.1.2.2.1 (ba x.1.2.1)) ((aX x.1.2.1 (x.1.2.2.1).1).bind λdP=>(Pc ((x.1.1,dP,()),())).bind λbK=>cond (!bK.1.1) ((aX x.1.2.1 (x.1.2.2.1).1).bind λfk=>(c8 16 x.1.1 (cD [fk])).bind λj0=>some (.inl ((j0,x.1.2.1,(bj x.1.2.2.1 (W 1)),()),((),())))) (some (.inl ((x.1.1,x.1.2.1,(bj x.1.2.2.1 (W 1)),()),((),()))))) (some (.inr ((x.1.1,()),((),(),()))))
def G9:a4:=⟨[(3,.cH ie 0),(8,.tok jc 0 []),(9,au)],[.bG jc]⟩
def aH4:bE:=[((.exit 0),⟨[(8,.tok jc 1 [])],Rg⟩),(.ret,⟨[(6,.dt),(7,bR)],[.gone]⟩)]
def OR (x:U G9):Option (U G9⊕bq aH4):=cond (bh x.1.2.2.1 (ba x.1.2.1)) ((aX x.1.2.1 (x.1.2.2.1).1).bind λaQ=>(aX x.1.2.1 (x.1.2.2.1).1).bind λbO=>(O3 ((x.1.1,aQ.1,bO.2.1,()),())).bind λaY=>cond (!aY.1.2.1) (some (.inr (.inr (((),false,()),((),()))))) ((a3 OS ((x.1.2.1,aY.1.1,(W 0),()),((),()))).bind λbU=>some (.inl ((x.1.1,bU.1.1,(bj x.1.2.2.1 (W 1)),()),((),()))))) (some (.inr (.inl ((x.1.2.1,()),((),(),())))))
def OQ (x:U aj4):Option (U aH_):=(BU ((x.1.1,()),())).bind λaz=>cond (!az.1.1) (some ((L.nil,false,()),())) (cond (bh x.1.2.1 (W 0)) (some ((L.nil,false,()),())) (cond (fN (ba x.1.1.1) x.1.2.1) (some ((L.nil,false,()),())) (cond (bh x.1.2.2.1 (W 0)) (some ((L.nil,false,()),())) (cond (fN (ba x.1.1.1) x.1.2.2.1) (some ((L.nil,false,()),())) ((a3 OR ((x.1.1,(cD [(x.1.2.1,x.1.2.2.1,())]),(W 0),()),((),()))).bind λcd=>Sum.elim (λbY=>some ((bY.1.1,true,()),())) (λcT=>some ((L.nil,cT.1.2.1,()),())) cd)))))
def akg:=aH [(0,.agg ie),(1,au),(2,au)]
def aIR:=aH [(0,bR)]
def B0 (x:U akg):Option (U aIR):=(OQ ((x.1.1,x.1.2.1,x.1.2.2.1,()),())).bind λaz=>some ((az.1.2.1,()),())
def aj9:=aH [(0,.agg ie),(1,a_)]
def aIp:=aH [(0,au),(1,bR)]
def Hc (x:U aj9):Option (U aIp):=(BU ((x.1.1,()),())).bind λaz=>cond (!az.1.1) (some (((W 0),false,()),())) ((Hz ((x.1.1,x.1.2.1,()),())).bind λaF=>some ((aF.1.1,aF.1.2.1,()),()))
def aIz:=aH [(0,aB cl),(1,aB cl)]
def aIB:=aH [(0,bR)]
def Ww:=aH [(0,aB cl),(1,aB cl),(5,au)]
def aIy:bE:=[((.exit 0),aH []),fP [(4,bR)]]
def BX (x:U Ww):Option (U Ww⊕bq aIy):=cond (bh x.1.2.2.1 (ba x.1.1)) ((aX x.1.1 (x.1.2.2.1).1).bind λaD=>(aX x.1.2.1 (x.1.2.2.1).1).bind λaQ=>cond (!cB aD.1 aQ.1) (some (.inr (.inr ((false,()),())))) (some (.inl ((x.1.1,x.1.2.1,(bj x.1.2.2.1 (W 1)),()),())))) (some (.inr (.inl ((),()))))
def OZ (x:U aIz):Option (U aIB):=cond (!a9 (ba x.1.1) (ba x.1.2.1)) (some ((false,()),())) ((a3 BX ((x.1.1,x.1.2.1,(W 0),()),())).bind λaT=>Sum.elim (λaY=>some ((true,()),())) (λa5=>some ((a5.1.1,()),())) aT)
def aIt:=aH [(0,aB dR),(1,aB dR)]
def aIu:=aH [(0,bR)]
def Wv:=aH [(0,aB dR),(1,aB dR),(5,au)]
def aIs:bE:=[((.exit 0),aH []),fP [(4,bR)]]
def BW (x:U Wv):Option (U Wv⊕bq aIs):=cond (bh x.1.2.2.1 (ba x.1.1)) ((aX x.1.1 (x.1.2.2.1).1).bind λaD=>(aX x.1.2.1 (x.1.2.2.1).1).bind λaQ=>cond (!((cB aD.1 aQ.1)&&((a9 aD.2.1 aQ.2.1)&&((cB aD.2.2.1 aQ.2.2.1)&&((a9 aD.2.2.2.1 aQ.2.2.2.1)&&true))))) (some (.inr (.inr ((false,()),())))) (some (.inl ((x.1.1,x.1.2.1,(bj x.1.2.2.1 (W 1)),()),())))) (some (.inr (.inl ((),()))))
def Hd (x:U aIt):Option (U aIu):=cond (!a9 (ba x.1.1) (ba x.1.2.1)) (some ((false,()),())) ((a3 BW ((x.1.1,x.1.2.1,(W 0),()),())).bind λaT=>Sum.elim (λaY=>some ((true,()),())) (λa5=>some ((a5.1.1,()),())) aT)
def aIG:=aH [(0,aB fZ),(1,aB fZ)]
def aII:=aH [(0,bR)]
def Wx:=aH [(0,aB fZ),(1,aB fZ),(5,au)]
def aIF:bE:=[((.exit 0),aH []),fP [(4,bR)]]
def BY (x:U Wx):Option (U Wx⊕bq aIF):=cond (bh x.1.2.2.1 (ba x.1.1)) ((aX x.1.1 (x.1.2.2.1).1).bind λaD=>(aX x.1.2.1 (x.1.2.2.1).1).bind λaQ=>cond (!a9 aD.1 aQ.1) (some (.inr (.inr ((false,()),())))) ((aX x.1.1 (x.1.2.2.1).1).bind λbO=>(aX x.1.2.1 (x.1.2.2.1).1).bind λcP=>cond (!cB bO.2.1 cP.2.1) (some (.inr (.inr ((false,()),())))) ((aX x.1.1 (x.1.2.2.1).1).bind λdP=>(aX x.1.2.1 (x.1.2.2.1).1).bind λdb=>(Hd ((dP.2.2.1,db.2.2.1,()),())).bind λbL=>cond (!bL.1.1) (some (.inr (.inr ((false,()),())))) (some (.inl ((x.1.1,x.1.2.1,(bj x.1.2.2.1 (W 1)),()),())))))) (some (.inr (.inl ((),()))))
def O0 (x:U aIG):Option (U aII):=cond (!a9 (ba x.1.1) (ba x.1.2.1)) (some ((false,()),())) ((a3 BY ((x.1.1,x.1.2.1,(W 0),()),())).bind λcu=>Sum.elim (λbU=>some ((true,()),())) (λcd=>some ((cd.1.1,()),())) cu)
noncomputable def ak2:dn:=⟨.nil,[aI sG]⟩
theorem aKK:bZ 239 0 PD:=b9 ak2 [] []
theorem aKN:bw 239 PC:=bD ak2 [b8 aKK] []
theorem ajX:bw 198 G6:=bD ⟨(put .nil 1 .bW),[aI aKN]⟩ [] []
noncomputable def Wk:dn:=⟨.nil,[aI sG,aI ajX]⟩
theorem aHp:bZ 161 1 OE:=b9 Wk [] []
theorem aHm:bZ 161 0 OD:=b9 Wk [b8 aHp] []
theorem ajT:bw 161 BT:=bD Wk [b8 aHm] []
noncomputable def Wu:dn:=⟨(put (put .nil 1 .bW) 5 .bW),[aI v7,aI sG,aI aie,aI ajT]⟩
theorem aIb:bZ 110 0 OT:=b9 Wu [] []
theorem aIe:bZ 110 1 OU:=b9 Wu [] [.c 11 Wt aj5]
theorem OV:bw 110 zE:=bD Wu [b8 aIb,b8 aIe] []
theorem ak8:bw 240 HU:=bD ⟨(put .nil 2 .bW),[]⟩ [] []
noncomputable def HH:dn:=⟨(put (put (put .nil 3 .bW) 11 .bW) 18 (.arr [false])),[aI ak8]⟩
theorem aKt:bZ 199 0 Px:=b9 HH [] [.c 9 WQ akT]
theorem aKz:bZ 199 2 Pz:=b9 HH [] []
theorem aKw:bZ 199 1 Py:=b9 HH [b8 aKz] []
theorem aKC:bZ 199 3 PA:=b9 HH [] []
theorem akV:bw 199 HC:=bD HH [b8 aKt,b8 aKw,b8 aKC] []
noncomputable def akz:dn:=⟨(put .nil 3 .bW),[aI ak8]⟩
theorem aJK:bZ 200 0 Pk:=b9 akz [] []
theorem aky:bw 200 Hq:=bD akz [b8 aJK] []
theorem aJv:bw 201 Pe:=bD ⟨(put .nil 3 .bW),[aI akV,aI aky]⟩ [] []
theorem aKj:bZ 202 0 Pw:=b9 fj [] []
theorem aKm:bw 202 Pv:=bD fj [b8 aKj] []
noncomputable def WS:dn:=⟨.nil,[aI akV,aI aky,aI aJv,aI aKm]⟩
theorem aLI:bZ 162 0 PY:=b9 WS [] []
theorem aLL:bZ 162 1 PZ:=b9 WS [] []
theorem alf:bw 162 H2:=bD WS [b8 aLI,b8 aLL] []
noncomputable def alc:dn:=⟨(put .nil 10 .bW),[]⟩
theorem aLq:bZ 203 0 PS:=b9 alc [] []
theorem aLt:bw 203 PR:=bD alc [b8 aLq] []
noncomputable def PX:dn:=⟨.nil,[aI Vg]⟩
theorem aLz:bZ 204 1 PV:=b9 PX [] []
theorem aLw:bZ 204 0 PU:=b9 PX [b8 aLz] []
theorem aLC:bZ 204 2 PW:=b9 PX [] []
theorem aLF:bw 204 PT:=bD PX [b8 aLw,b8 aLC] []
theorem aI6:bZ 241 0 O7:=b9 fj [] []
theorem aI9:bw 241 O6:=bD fj [b8 aI6] []
noncomputable def ak':dn:=⟨.nil,[aI aI9]⟩
theorem aLl:bZ 205 0 PQ:=b9 ak' [] []
theorem aLo:bw 205 HV:=bD ak' [b8 aLl] []
noncomputable def WV:dn:=⟨(put (put .nil 12 .bW) 17 .bW),[aI alf,aI aLt,aI aLF,aI aLo]⟩
theorem aLQ:bZ 163 0 P1:=b9 WV [] []
theorem aLT:bZ 163 1 P2:=b9 WV [] []
theorem aLW:bw 163 P0:=bD WV [b8 aLQ,b8 aLT] [.c 23 WU alh]
noncomputable def aj8:dn:=⟨(put (put .nil 2 .bW) 11 .bW),[aI v7,aI OV,aI alf,aI aLW]⟩
theorem aIi:bZ 111 0 OY:=b9 aj8 [] []
theorem aIl:bw 111 OX:=bD aj8 [b8 aIi] []
noncomputable def ajR:dn:=⟨(put (put .nil 1 .bW) 7 .bW),[aI OV,aI aIl]⟩
theorem aHi:bZ 54 0 OC:=b9 ajR [] []
theorem Wi:bw 54 BS:=bD ajR [b8 aHi] []
noncomputable def aj0:dn:=⟨(put (put .nil 1 .bW) 4 .bW),[aI sG,aI ajT]⟩
theorem aHQ:bZ 175 0 OM:=b9 aj0 [] []
theorem Wp:bw 175 BV:=bD aj0 [b8 aHQ] []
theorem WJ:bw 182 rS:=bD fj [] []
noncomputable def Pa:dn:=⟨.nil,[aI v7,aI OV,aI sG,aI Wp,aI WJ]⟩
theorem aJa:bZ 180 0 O9:=b9 Pa [] []
theorem aJd:bZ 180 1 O_:=b9 Pa [] []
theorem aJg:bZ 180 2 O':=b9 Pa [] []
theorem aJj:bw 180 O8:=bD Pa [b8 aJa,b8 aJd,b8 aJg] []
theorem aKT:bZ 221 1 PG:=b9 fj [] []
theorem aKQ:bZ 221 0 PF:=b9 fj [b8 aKT] []
theorem aKW:bZ 221 2 PH:=b9 fj [] []
theorem aKZ:bw 221 PE:=bD fj [b8 aKQ,b8 aKW] []
noncomputable def akJ:dn:=⟨(put .nil 1 .bW),[]⟩
theorem aJ5:bZ 223 0 Pr:=b9 akJ [] []
theorem aJ8:bw 223 Pq:=bD akJ [b8 aJ5] []
noncomputable def WR:dn:=⟨(put .nil 7 .bW),[aI v7]⟩
theorem aLf:bZ 222 1 PO:=b9 WR [] []
theorem aLc:bZ 222 0 PN:=b9 WR [b8 aLf] []
theorem aLi:bw 222 HR:=bD WR [b8 aLc] []
noncomputable def akZ:dn:=⟨(put .nil 1 .bW),[]⟩
theorem aKG:bZ 224 0 PB:=b9 akZ [] []
theorem akY:bw 224 HI:=bD akZ [b8 aKG] []
noncomputable def WA:dn:=⟨(put (put (put .nil 36 (.arr nJ)) 43 (.arr nJ)) 48 (.arr nJ)),[]⟩
theorem aIN:bZ 260 1 O2:=b9 WA [] []
theorem aIK:bZ 260 0 O1:=b9 WA [b8 aIN] []
theorem ake:bw 260 He:=bD WA [b8 aIK] []
theorem aJ1:bZ 261 0 Pp:=b9 fj [] []
theorem akG:bw 261 Hu:=bD fj [b8 aJ1] []
theorem aJm:bw 265 Pb:=bD ⟨.nil,[aI akG]⟩ [] []
noncomputable def WM:dn:=⟨(put .nil 7 .tok),[aI ake,aI aJm]⟩
theorem aKc:bZ 259 1 Pu:=b9 WM [] []
theorem aJ':bZ 259 0 Pt:=b9 WM [b8 aKc] []
theorem aKf:bw 259 Ps:=bD WM [b8 aJ'] []
theorem aHU:bw 246 ON:=bD ⟨(put .nil 1 .bW),[aI Wp,aI akY,aI aKf]⟩ [] []
noncomputable def akv:dn:=⟨.nil,[aI ake,aI akG]⟩
theorem aJy:bZ 247 0 Pg:=b9 akv [] []
theorem aJB:bw 247 Pf:=bD akv [b8 aJy] []
noncomputable def aj3:dn:=⟨(put (put .nil 1 .bW) 6 .bW),[aI aHU,aI aJB]⟩
theorem aHX:bZ 225 0 OP:=b9 aj3 [] []
theorem aH0:bw 225 OO:=bD aj3 [b8 aHX] []
noncomputable def PM:dn:=⟨.nil,[aI Wi,aI WJ,aI aKZ,aI aLi,aI aJ8,aI akY,aI aH0]⟩
theorem aK2:bZ 181 0 PJ:=b9 PM [] []
theorem aK5:bZ 181 1 PK:=b9 PM [] []
theorem aK8:bZ 181 2 PL:=b9 PM [] []
theorem aK':bw 181 PI:=bD PM [b8 aK2,b8 aK5,b8 aK8] []
theorem aJV:bZ 183 0 Po:=b9 fj [] []
theorem aJY:bw 183 Pn:=bD fj [b8 aJV] []
theorem aJE:bZ 184 0 Pj:=b9 fj [] []
theorem aJH:bw 184 Ph:=bD fj [b8 aJE] []
theorem akM:bw 226 Hz:=bD ⟨(put .nil 2 .bW),[aI Gk]⟩ [] []
theorem akS:bw 185 B2:=bD ⟨(put (put .nil 2 .bW) 3 .bW),[aI akM]⟩ [] []
noncomputable def G5:dn:=⟨(put (put (put (put .nil 6 .bW) 8 .bW) 14 .bW) 17 .bW),[aI aJj,aI aK',aI WJ,aI aJY,aI aJH,aI akS]⟩
theorem aHA:bZ 145 0 OI:=b9 G5 [] []
theorem aHJ:bZ 145 3 OL:=b9 G5 [] []
theorem aHG:bZ 145 2 OK:=b9 G5 [b8 aHJ] []
theorem aHD:bZ 145 1 OJ:=b9 G5 [b8 aHG] []
theorem aHM:bw 145 OH:=bD G5 [b8 aHA,b8 aHD] []
theorem aKp:bw 262 HB:=bD ⟨(put .nil 2 .bW),[]⟩ [] []
noncomputable def akD:dn:=⟨(put (put .nil 2 .bW) 6 .bW),[aI sG,aI aKp]⟩
theorem aJP:bZ 248 0 Pm:=b9 akD [] []
theorem aJS:bw 248 Pl:=bD akD [b8 aJP] [.c 11 WL akB]
noncomputable def Wn:dn:=⟨(put .nil 1 .bW),[aI aJS]⟩
theorem aHt:bZ 227 0 OF:=b9 Wn [] []
theorem aHw:bZ 227 1 OG:=b9 Wn [] []
theorem Wm:bw 227 BU:=bD Wn [b8 aHt,b8 aHw] []
theorem Wy:bw 186 BZ:=bD ⟨(put (put .nil 2 .bW) 3 .bW),[aI akS,aI Wm]⟩ [] []
noncomputable def akm:dn:=⟨(put .nil 2 .bW),[]⟩
theorem aI0:bZ 272 0 O5:=b9 akm [] []
theorem aI3:bw 272 B1:=bD akm [b8 aI0] []
noncomputable def akk:dn:=⟨(put (put (put (put (put .nil 3 .bW) 8 .bW) 9 .bW) 14 .bW) 15 .bW),[aI aI3]⟩
theorem aIU:bZ 268 0 O4:=b9 akk [] [.c 27 WH aki]
theorem aIX:bw 268 O3:=bD akk [b8 aIU] [.c 15 WE akh]
noncomputable def aks:dn:=⟨(put .nil 3 .bW),[]⟩
theorem aJp:bZ 269 0 Pd:=b9 aks [] []
theorem aJs:bw 269 Pc:=bD aks [b8 aJp] []
noncomputable def Wr:dn:=⟨(put (put .nil 3 .bW) 41 .tok),[aI Wm,aI aIX,aI aJs]⟩
theorem aH6:bZ 264 1 OS:=b9 Wr [] []
theorem aH3:bZ 264 0 OR:=b9 Wr [b8 aH6] []
theorem aH9:bw 264 OQ:=bD Wr [b8 aH3] []
theorem WB:bw 254 B0:=bD ⟨(put .nil 3 .bW),[aI aH9]⟩ [] []
theorem aIo:bw 255 Hc:=bD ⟨(put .nil 2 .bW),[aI akM,aI Wm]⟩ [] []
theorem aIx:bZ 91 0 BX:=b9 fj [] []
theorem aIA:bw 91 OZ:=bD fj [b8 aIx] []
theorem aIr:bZ 92 0 BW:=b9 fj [] []
theorem aka:bw 92 Hd:=bD fj [b8 aIr] []
noncomputable def akb:dn:=⟨.nil,[aI aka]⟩
theorem aIE:bZ 93 0 BY:=b9 akb [] []
theorem aIH:bw 93 O0:=bD akb [b8 aIE] []
def ahk:=aH [(0,au),(1,au),(2,au)]
def aAj:=aH [(0,.agg sY)]
def na (x:U ahk):Option (U aAj):=some (((x.1.1,x.1.2.1,x.1.2.2.1,()),()),())
def aht:=aH [(0,.agg fq)]
def aAz:=aH [(0,bR)]
def FJ:=aH [(1,.cH fq 0),(3,au)]
def aAw:bE:=[((.exit 0),aH []),fP [(2,bR)]]
def MO (x:U FJ):Option (U FJ⊕bq aAw):=cond (bh x.1.2.1 (ba x.1.1.2.1)) ((aX x.1.1.2.1 (x.1.2.1).1).bind λaQ=>(k6 ((aQ.1,()),())).bind λaT=>cond (!aT.1.1) (some (.inr (.inr ((false,()),())))) ((aX x.1.1.2.1 (x.1.2.1).1).bind λcP=>(G6 (((cP.2.1,cP.2.2.1,()),()),())).bind λa5=>cond (!a5.1.1) (some (.inr (.inr ((false,()),())))) (some (.inl ((x.1.1,(bj x.1.2.1 (W 1)),()),()))))) (some (.inr (.inl ((),()))))
def MN (x:U aht):Option (U aAz):=(k6 ((x.1.1.1,()),())).bind λaz=>cond (!az.1.1) (some ((false,()),())) (cond (bh (W 6) (ba x.1.1.2.1)) (some ((false,()),())) (cond (bh (ba x.1.1.2.2.2.1) (W 1)) (some ((false,()),())) (cond (bh (W 80) (ba x.1.1.2.2.2.1)) (some ((false,()),())) (cond (bh (W 160) (ba x.1.1.2.2.1)) (some ((false,()),())) ((a3 MO ((x.1.1,(W 0),()),())).bind λbK=>Sum.elim (λbL=>some ((true,()),())) (λcu=>some ((cu.1.1,()),())) bK)))))
def agD:=aH [(0,.agg hY),(1,a_)]
def ay2:=aH [(0,au)]
def Fi:=aH [(1,a_),(2,.cH hY 0),(5,au)]
def ay0:bE:=[((.exit 0),aH []),fP [(4,au)]]
def Mr (x:U Fi):Option (U Fi⊕bq ay0):=cond (bh x.1.2.2.1 (ba x.1.2.1.2.2.1)) ((aX x.1.2.1.2.2.1 (x.1.2.2.1).1).bind λaD=>cond (cB aD.1 x.1.1) (some (.inr (.inr ((x.1.2.2.1,()),())))) (some (.inl ((x.1.1,x.1.2.1,(bj x.1.2.2.1 (W 1)),()),())))) (some (.inr (.inl ((),()))))
def vY (x:U agD):Option (U ay2):=(a3 Mr ((x.1.2.1,x.1.1,(W 0),()),())).bind λaF=>Sum.elim (λaT=>some (((W (-1)),()),())) (λaY=>some ((aY.1.1,()),())) aF
def ahW:=aH [(0,.agg fq)]
def aCg:=aH [(0,bR)]
def F7:=aH [(1,.cH fq 0),(3,au),(4,au)]
def aCd:bE:=[((.exit 2),aH []),fP [(2,bR)]]
def No (x:U F7):Option (U F7⊕bq aCd):=cond (bh x.1.2.2.1 x.1.2.1) ((aX x.1.1.2.1 (x.1.2.2.1).1).bind λaD=>(aX x.1.1.2.1 (x.1.2.1).1).bind λaQ=>cond (cB aD.1 aQ.1) (some (.inr (.inr ((true,()),())))) (some (.inl ((x.1.1,x.1.2.1,(bj x.1.2.2.1 (W 1)),()),())))) (some (.inr (.inl ((),()))))
def F6:=aH [(1,.cH fq 0),(3,au)]
def aCa:bE:=[((.exit 0),aH []),fP [(2,bR)]]
def Nn (x:U F6):Option (U F6⊕bq aCa):=cond (bh x.1.2.1 (ba x.1.1.2.1)) ((a3 No ((x.1.1,x.1.2.1,(W 0),()),())).bind λaT=>Sum.elim (λaY=>some (.inl ((x.1.1,(bj x.1.2.1 (W 1)),()),()))) (λa5=>some (.inr (.inr ((a5.1.1,()),())))) aT) (some (.inr (.inl ((),()))))
def Nm (x:U ahW):Option (U aCg):=(a3 Nn ((x.1.1,(W 0),()),())).bind λbK=>Sum.elim (λbL=>some ((false,()),())) (λcu=>some ((cu.1.1,()),())) bK
def ahh:=aH [(0,au)]
def aAi:=aH [(0,bR)]
def FE (x:U ahh):Option (U aAi):=cond (a9 x.1.1 (W 0)) (cond (a9 x.1.1 (W 0)) (some ((true,()),())) (some ((false,()),()))) (cond (a9 x.1.1 (W 3)) (cond (a9 x.1.1 (W 3)) (some ((true,()),())) (some ((false,()),()))) (cond (a9 x.1.1 (W 5)) (cond (a9 x.1.1 (W 5)) (some ((true,()),())) (some ((false,()),()))) (cond (a9 x.1.1 (W 6)) (cond (a9 x.1.1 (W 6)) (some ((true,()),())) (some ((false,()),()))) (cond (a9 x.1.1 (W 10)) (some ((true,()),())) (some ((false,()),()))))))
def agF:=aH [(0,.agg cS)]
def ay6:=aH [(0,aB bp)]
def Fl:a4:=⟨[(1,.cH cS 0),(3,.tok bp 0 []),(4,au)],[.bG bp]⟩
def ay4:bE:=[((.exit 0),⟨[(3,.tok bp 1 [])],[.gone,.bG bp]⟩)]
def Ms (x:U Fl):Option (U Fl⊕bq ay4):=cond (bh x.1.2.2.1 (ba x.1.1.2.2.2.2.2.2.2.2.1)) ((aX x.1.1.2.2.2.2.2.2.2.2.1 (x.1.2.2.1).1).bind λaD=>(c8 8 x.1.2.1 (cD [(aD.2.2.1,())])).bind λdg=>some (.inl ((x.1.1,dg,(bj x.1.2.2.1 (W 1)),()),((),())))) (some (.inr ((x.1.2.1,()),((),(),()))))
def vZ (x:U agF):Option (U ay6):=(a3 Ms ((x.1.1,L.nil,(W 0),()),((),()))).bind λaT=>(FE ((x.1.1.1,()),())).bind λaY=>cond (!aY.1.1) ((c8 8 aT.1.1 (cD [(x.1.1.2.2.2.2.2.2.2.2.2.1,())])).bind λiD=>some ((iD,()),())) (some ((aT.1.1,()),()))
def ahC:=aH [(0,.agg fq)]
def aBb:=aH [(0,aB bp)]
def FR:a4:=⟨[(3,.arr 0 bp [false]),(4,au)],[.arr bp [false]]⟩
def aA5:bE:=[((.exit 0),⟨[],[.arr bp [false]]⟩)]
def MY (x:U FR):Option (U FR⊕bq aA5):=cond (bh x.1.2.1 (W (x.2.1.1.length:Nat))) (cond (decide (0<=(x.1.2.1).1)&&decide ((x.1.2.1).1<(x.2.1.1.length:Nat))) ((eO x.2.1 ((x.1.2.1).1).toNat).bind λaQ=>some (.inl (((),(bj x.1.2.1 (W 1)),()),((dO x.2.1 ((x.1.2.1).1).toNat ((W (-2)),())),())))) (none)) (some (.inr ((),(x.2.1,()))))
def FU:a4:=⟨[(3,.arr 0 bp [false]),(5,.arr 1 bp [false]),(6,au),(7,aB bp),(8,au)],IZ⟩
def aA':bE:=[((.exit 4),⟨[],IZ⟩)]
def M0 (x:U FU):Option (U FU⊕bq aA'):=cond (bh x.1.2.2.2.2.1 (ba x.1.2.2.2.1)) ((aX x.1.2.2.2.1 (x.1.2.2.2.2.1).1).bind λdG=>cond (fN dG.1 x.1.2.2.1) (some (.inl (((),(),x.1.2.2.1,x.1.2.2.2.1,(bj x.1.2.2.2.2.1 (W 1)),()),(x.2.1,x.2.2.1,())))) ((aX x.1.2.2.2.1 (x.1.2.2.2.2.1).1).bind λeS=>cond (fN (W (x.2.1.1.length:Nat)) eS.1) (some (.inl (((),(),x.1.2.2.1,x.1.2.2.2.1,(bj x.1.2.2.2.2.1 (W 1)),()),(x.2.1,x.2.2.1,())))) ((aX x.1.2.2.2.1 (x.1.2.2.2.2.1).1).bind λea=>cond (decide (0<=(ea.1).1)&&decide ((ea.1).1<(x.2.2.1.1.length:Nat))) ((eO x.2.2.1 ((ea.1).1).toNat).bind λgl=>cond (decide (0<=(ea.1).1)&&decide ((ea.1).1<(x.2.2.1.1.length:Nat))) ((eO x.2.2.1 ((ea.1).1).toNat).bind λiC=>(aX x.1.2.2.2.1 (x.1.2.2.2.2.1).1).bind λkj=>cond (decide (0<=(kj.1).1)&&decide ((kj.1).1<(x.2.1.1.length:Nat))) ((eO x.2.1 ((kj.1).1).toNat).bind λgM=>(aX x.1.2.2.2.1 (x.1.2.2.2.2.1).1).bind λiw=>cond (decide (0<=(iw.1).1)&&decide ((iw.1).1<(x.2.2.1.1.length:Nat))) ((eO (dO x.2.2.1 ((ea.1).1).toNat ((bj gl.1 (W 1)),())) ((iw.1).1).toNat).bind λg8=>cond (bh (W 1) g8.1) ((aX x.1.2.2.2.1 (x.1.2.2.2.2.1).1).bind λkA=>cond (decide (0<=(kA.1).1)&&decide ((kA.1).1<(x.2.1.1.length:Nat))) ((eO (dO x.2.1 ((kj.1).1).toNat (x.1.2.2.1,())) ((kA.1).1).toNat).bind λkk=>some (.inl (((),(),x.1.2.2.1,x.1.2.2.2.1,(bj x.1.2.2.2.2.1 (W 1)),()),((dO (dO x.2.1 ((kj.1).1).toNat (x.1.2.2.1,())) ((kA.1).1).toNat ((W (-2)),())),(dO x.2.2.1 ((ea.1).1).toNat ((bj gl.1 (W 1)),())),())))) (none)) (some (.inl (((),(),x.1.2.2.1,x.1.2.2.2.1,(bj x.1.2.2.2.2.1 (W 1)),()),((dO x.2.1 ((kj.1).1).toNat (x.1.2.2.1,())),(dO x.2.2.1 ((ea.1).1).toNat ((bj gl.1 (W 1)),())),()))))) (none)) (none)) (none)) (none)))) (some (.inr ((),(x.2.1,x.2.2.1,()))))
def FT:a4:=⟨[(1,.cH fq 0),(3,.arr 0 bp [false]),(5,.arr 1 bp [false]),(6,au)],IZ⟩
def aA8:bE:=[((.exit 2),⟨[],IZ⟩)]
def MZ (x:U FT):Option (U FT⊕bq aA8):=cond (bh x.1.2.2.2.1 (ba x.1.1.2.2.2.1)) ((aX x.1.1.2.2.2.1 (x.1.2.2.2.1).1).bind λdb=>(vZ ((db,()),())).bind λbL=>(a3 M0 (((),(),x.1.2.2.2.1,bL.1.1,(W 0),()),(x.2.1,x.2.2.1,()))).bind λfo=>some (.inl ((x.1.1,(),(),(bj x.1.2.2.2.1 (W 1)),()),(fo.2.1,fo.2.2.1,())))) (some (.inr ((),(x.2.1,x.2.2.1,()))))
def tM (x:U ahC):Option (U aBb):=(q9 (α:=D [.int .i64]) 8 (ba x.1.1.2.2.2.1) ((W 0),())).bind λdk=>(a3 MY (((),(W 0),()),(dk,()))).bind λaT=>cond (decide (0<=((W 0)).1)&&decide (((W 0)).1<(dk.1.length:Nat))) ((eO aT.2.1 (((W 0)).1).toNat).bind λcP=>(q9 (α:=D [.int .i64]) 8 (ba x.1.1.2.2.2.1) ((W 0),())).bind λiD=>(a3 MZ ((x.1.1,(),(),(W 0),()),((dO aT.2.1 (((W 0)).1).toNat ((W (-1)),())),iD,()))).bind λfY=>some ((fY.2.1,()),())) (none)
def ahQ:=aH [(0,a_),(1,bR)]
def aBZ:=aH [(0,bR)]
def zB (x:U ahQ):Option (U aBZ):=cond (x.1.2.1) ((k6 ((x.1.1,()),())).bind λaz=>some ((az.1.1,()),())) (some (((cB x.1.1 (S ⟨#[]⟩)),()),()))
def ahZ:=aH [(0,.agg cS)]
def aCr:=aH [(0,bR)]
def U5:=aH [(1,.cH cS 0)]
def ahX:=[jL [],fP [(2,bR)]]
def U4 (x:U U5):Option (bq ahX):=cond (!a9 x.1.1.1 (W 3)) (cond (!a9 x.1.1.1 (W 5)) (some (.inr (((a9 (ba x.1.1.2.2.2.2.2.2.2.2.1) (W 0)),()),()))) (some (.inl ((),())))) (some (.inl ((),())))
def U7:=aH [(4,.cH mW 0)]
def ahY:=[jL [],fP [(2,bR)]]
def U6 (x:U U7):Option (bq ahY):=cond (cB x.1.1.1 (S ⟨#[]⟩)) (cond (!cB x.1.1.2.1 (S ⟨#[]⟩)) (some (.inr ((false,()),()))) (cond (!cB x.1.1.1 (S ⟨#[]⟩)) ((k6 ((x.1.1.1,()),())).bind λbU=>cond (!bU.1.1) (some (.inr ((false,()),()))) (cond (!cB x.1.1.2.1 (S ⟨#[]⟩)) ((k6 ((x.1.1.2.1,()),())).bind λcd=>cond (!cd.1.1) (some (.inr ((false,()),()))) (some (.inl ((),())))) (some (.inl ((),()))))) (cond (!cB x.1.1.2.1 (S ⟨#[]⟩)) ((k6 ((x.1.1.2.1,()),())).bind λbY=>cond (!bY.1.1) (some (.inr ((false,()),()))) (some (.inl ((),())))) (some (.inl ((),())))))) (cond (!cB x.1.1.1 (S ⟨#[]⟩)) ((k6 ((x.1.1.1,()),())).bind λcT=>cond (!cT.1.1) (some (.inr ((false,()),()))) (cond (!cB x.1.1.2.1 (S ⟨#[]⟩)) ((k6 ((x.1.1.2.1,()),())).bind λcA=>cond (!cA.1.1) (some (.inr ((false,()),()))) (some (.inl ((),())))) (some (.inl ((),()))))) (cond (!cB x.1.1.2.1 (S ⟨#[]⟩)) ((k6 ((x.1.1.2.1,()),())).bind λep=>cond (!ep.1.1) (some (.inr ((false,()),()))) (some (.inl ((),())))) (some (.inl ((),())))))
def F_:=aH [(1,.cH cS 0),(3,au),(4,.cH mW 0),(5,au)]
def aCo:bE:=[((.exit 2),aH []),fP [(2,bR)]]
def Nq (x:U F_):Option (U F_⊕bq aCo):=cond (bh x.1.2.2.2.1 x.1.2.1) ((aX x.1.1.2.2.2.2.2.2.2.2.1 (x.1.2.2.2.1).1).bind λkk=>cond (cB kk.1 x.1.2.2.1.1) (some (.inr (.inr ((false,()),())))) (some (.inl ((x.1.1,x.1.2.1,x.1.2.2.1,(bj x.1.2.2.2.1 (W 1)),()),())))) (some (.inr (.inl ((),()))))
def F9:=aH [(1,.cH cS 0),(3,au)]
def aCl:bE:=[((.exit 0),aH []),fP [(2,bR)]]
def Np (x:U F9):Option (U F9⊕bq aCl):=cond (bh x.1.2.1 (ba x.1.1.2.2.2.2.2.2.2.2.1)) ((aX x.1.1.2.2.2.2.2.2.2.2.1 (x.1.2.1).1).bind λdG=>(U6 ((dG,()),())).bind λdF=>Sum.elim (λeK=>(a3 Nq ((x.1.1,x.1.2.1,dG,(W 0),()),())).bind λfo=>Sum.elim (λfY=>some (.inl ((x.1.1,(bj x.1.2.1 (W 1)),()),()))) (λjA=>some (.inr (.inr ((jA.1.1,()),())))) fo) (λfg=>some (.inr (.inr ((fg.1.1,()),())))) dF) (some (.inr (.inl ((),()))))
def F8 (x:U ahZ):Option (U aCr):=(U4 ((x.1.1,()),())).bind λaz=>Sum.elim (λaF=>cond (a9 x.1.1.1 (W 3)) (cond (a9 (ba x.1.1.2.2.2.2.2.2.2.2.1) (W 2)) ((aX x.1.1.2.2.2.2.2.2.2.2.1 ((W 0)).1).bind λcP=>cond (cB cP.1 (S ⟨#[]⟩)) ((aX x.1.1.2.2.2.2.2.2.2.2.1 ((W 0)).1).bind λdP=>cond (cB dP.2.1 (S ⟨#[]⟩)) ((aX x.1.1.2.2.2.2.2.2.2.2.1 ((W 1)).1).bind λdb=>cond (cB db.1 (S ⟨#[]⟩)) ((aX x.1.1.2.2.2.2.2.2.2.2.1 ((W 1)).1).bind λfk=>some (((cB fk.2.1 (S ⟨#[]⟩)),()),())) (some ((false,()),()))) (some ((false,()),()))) (some ((false,()),()))) (some ((false,()),()))) ((a3 Np ((x.1.1,(W 0),()),())).bind λeV=>Sum.elim (λlI=>cond (fN (W 1) (ba x.1.1.2.2.2.2.2.2.2.2.1)) (some (((fN (ba x.1.1.2.2.2.2.2.2.2.2.1) (W 7)),()),())) (some ((false,()),()))) (λlJ=>some ((lJ.1.1,()),())) eV)) (λaT=>some ((aT.1.1,()),())) az
def ag9:=aH [(0,.agg cS)]
def az3:=aH [(0,bR)]
def Fz:=aH [(1,.cH cS 0),(3,au)]
def az0:bE:=[((.exit 0),aH []),fP [(2,bR)]]
def ME (x:U Fz):Option (U Fz⊕bq az0):=cond (bh x.1.2.1 (ba x.1.1.2.2.2.2.2.2.2.1)) ((aX x.1.1.2.2.2.2.2.2.2.1 (x.1.2.1).1).bind λaD=>(k6 ((aD.1,()),())).bind λaF=>cond (!aF.1.1) (some (.inr (.inr ((false,()),())))) ((k6 ((aD.2.1,()),())).bind λaT=>cond (!aT.1.1) (some (.inr (.inr ((false,()),())))) (cond (bh (W 6) (ba aD.2.2.1)) (some (.inr (.inr ((false,()),())))) (some (.inl ((x.1.1,(bj x.1.2.1 (W 1)),()),())))))) (some (.inr (.inl ((),()))))
def Fy (x:U ag9):Option (U az3):=cond (!a9 x.1.1.1 (W 8)) (some (((a9 (ba x.1.1.2.2.2.2.2.2.2.1) (W 0)),()),())) ((a3 ME ((x.1.1,(W 0),()),())).bind λaY=>Sum.elim (λa5=>cond (fN (W 1) (ba x.1.1.2.2.2.2.2.2.2.1)) (some (((fN (ba x.1.1.2.2.2.2.2.2.2.1) (W 4)),()),())) (some ((false,()),()))) (λbK=>some ((bK.1.1,()),())) aY)
def agV:=aH [(0,.agg cS)]
def azz:=aH [(0,bR)]
def Uw:=aH [(1,.cH cS 0)]
def agQ:=[jL [(3,bR)]]
def Uv (x:U Uw):Option (bq agQ):=cond (a9 x.1.1.1 (W 1)) (some ((true,()),())) (cond (a9 x.1.1.1 (W 4)) (some ((true,()),())) (cond (a9 x.1.1.1 (W 5)) (some ((true,()),())) (cond (a9 x.1.1.1 (W 8)) (some ((true,()),())) (some (((a9 x.1.1.1 (W 9)),()),())))))
def Uy:=aH [(1,.cH cS 0)]
def agR:=[jL [(4,bR)]]
def Ux (x:U Uy):Option (bq agR):=cond (a9 x.1.1.1 (W 4)) (some ((true,()),())) (cond (a9 x.1.1.1 (W 5)) (some ((true,()),())) (some (((a9 x.1.1.1 (W 8)),()),())))
def UA:=aH [(1,.cH cS 0)]
def agS:=[jL [(5,bR)]]
def Uz (x:U UA):Option (bq agS):=cond (a9 x.1.1.1 (W 4)) (some ((true,()),())) (some (((a9 x.1.1.1 (W 8)),()),()))
def UC:=aH [(1,.cH cS 0)]
def agT:=[jL [(6,bR)]]
def UB (x:U UC):Option (bq agT):=cond (a9 x.1.1.1 (W 6)) (some ((true,()),())) (some (((a9 x.1.1.1 (W 7)),()),()))
def UE:=aH [(1,.cH cS 0),(6,bR)]
def agU:=[jL [],fP [(2,bR)]]
def UD (x:U UE):Option (bq agU):=cond (bh (W 6) (ba x.1.1.2.2.2.2.2.2.1)) (some (.inr ((false,()),()))) (cond (!x.1.2.1) (cond (bh (W 0) (ba x.1.1.2.2.2.2.2.2.1)) (some (.inr ((false,()),()))) ((F8 ((x.1.1,()),())).bind λbU=>cond (!bU.1.1) (some (.inr ((false,()),()))) ((Fy ((x.1.1,()),())).bind λcd=>cond (!cd.1.1) (some (.inr ((false,()),()))) (some (.inl ((),())))))) ((F8 ((x.1.1,()),())).bind λbY=>cond (!bY.1.1) (some (.inr ((false,()),()))) ((Fy ((x.1.1,()),())).bind λcT=>cond (!cT.1.1) (some (.inr ((false,()),()))) (some (.inl ((),()))))))
def Mx (x:U agV):Option (U azz):=cond (bh x.1.1.1 (W 0)) (some ((false,()),())) (cond (bh (W 10) x.1.1.1) (some ((false,()),())) ((Uv ((x.1.1,()),())).bind λaz=>(Ux ((x.1.1,()),())).bind λaF=>(Uz ((x.1.1,()),())).bind λaT=>(UB ((x.1.1,()),())).bind λaY=>(zB ((x.1.1.2.1,az.1.1,()),())).bind λa5=>cond (!a5.1.1) (some ((false,()),())) ((zB ((x.1.1.2.2.1,aF.1.1,()),())).bind λbK=>cond (!bK.1.1) (some ((false,()),())) ((zB ((x.1.1.2.2.2.1,aT.1.1,()),())).bind λbL=>cond (!bL.1.1) (some ((false,()),())) ((zB ((x.1.1.2.2.2.2.1,aY.1.1,()),())).bind λcu=>cond (!cu.1.1) (some ((false,()),())) ((UD ((x.1.1,aY.1.1,()),())).bind λcA=>Sum.elim (λep=>(FE ((x.1.1.1,()),())).bind λeK=>cond (eK.1.1) (cond (!a9 x.1.1.2.2.2.2.2.2.2.2.2.1 (W (-1))) (some ((false,()),())) (cond (a9 x.1.1.1 (W 1)) (cond (a9 x.1.1.1 (W 1)) (some ((true,()),())) (some (((a9 x.1.1.2.2.2.2.2.1 (W (-1))),()),()))) (cond (a9 x.1.1.1 (W 2)) (cond (a9 x.1.1.1 (W 2)) (some ((true,()),())) (some (((a9 x.1.1.2.2.2.2.2.1 (W (-1))),()),()))) (cond (a9 x.1.1.1 (W 3)) (cond (a9 x.1.1.1 (W 3)) (some ((true,()),())) (some (((a9 x.1.1.2.2.2.2.2.1 (W (-1))),()),()))) (cond (a9 x.1.1.1 (W 4)) (some ((true,()),())) (some (((a9 x.1.1.2.2.2.2.2.1 (W (-1))),()),()))))))) (cond (a9 x.1.1.1 (W 1)) (cond (a9 x.1.1.1 (W 1)) (some ((true,()),())) (some (((a9 x.1.1.2.2.2.2.2.1 (W (-1))),()),()))) (cond (a9 x.1.1.1 (W 2)) (cond (a9 x.1.1.1 (W 2)) (some ((true,()),())) (some (((a9 x.1.1.2.2.2.2.2.1 (W (-1))),()),()))) (cond (a9 x.1.1.1 (W 3)) (cond (a9 x.1.1.1 (W 3)) (some ((true,()),())) (some (((a9 x.1.1.2.2.2.2.2.1 (W (-1))),()),()))) (cond (a9 x.1.1.1 (W 4)) (some ((true,()),())) (some (((a9 x.1.1.2.2.2.2.2.1 (W (-1))),()),()))))))) (λdF=>some ((dF.1.1,()),())) cA))))))
def ahS:=aH [(0,.agg fq),(1,aB bp),(2,au)]
def aB8:=aH [(0,bR)]
def F3:=aH [(2,au),(3,.cH fq 0),(7,aB bp),(8,au)]
def aB2:bE:=[((.exit 0),aH []),fP [(6,bR)]]
def Nk (x:U F3):Option (U F3⊕bq aB2):=cond (bh x.1.2.2.2.1 (ba x.1.2.2.1)) ((aX x.1.2.2.1 (x.1.2.2.2.1).1).bind λbO=>cond (fN bO.1 x.1.1) (some (.inr (.inr ((false,()),())))) ((aX x.1.2.2.1 (x.1.2.2.2.1).1).bind λcP=>cond (fN (ba x.1.2.1.2.2.2.1) cP.1) (some (.inr (.inr ((false,()),())))) (some (.inl ((x.1.1,x.1.2.1,x.1.2.2.1,(bj x.1.2.2.2.1 (W 1)),()),()))))) (some (.inr (.inl ((),()))))
def U1:=aH [(1,aB bp),(2,au)]
def ahR:=[jL [],fP [(6,bR)]]
def U0 (x:U U1):Option (bq ahR):=cond (bh (W 0) x.1.2.1) ((aX x.1.1 (x.1.2.1).1).bind λdG=>cond (bh dG.1 (W 0)) (some (.inr ((false,()),()))) (some (.inl ((),())))) (some (.inl ((),())))
def F4:=aH [(1,aB bp),(3,.cH fq 0),(9,au),(10,au)]
def aB5:bE:=[((.exit 2),aH [(9,au)])]
def Nl (x:U F4):Option (U F4⊕bq aB5):=cond (fN (W 0) x.1.2.2.2.1) ((aX x.1.2.1.2.2.2.1 (x.1.2.2.2.1).1).bind λiC=>cond (a9 iC.1 (W 3)) ((aX x.1.1 (x.1.2.2.2.1).1).bind λgM=>some (.inl ((x.1.1,x.1.2.1,(bj x.1.2.2.1 (W 1)),gM.1,()),()))) ((aX x.1.2.1.2.2.2.1 (x.1.2.2.2.1).1).bind λkj=>cond (a9 kj.1 (W 5)) ((aX x.1.1 (x.1.2.2.2.1).1).bind λiw=>some (.inl ((x.1.1,x.1.2.1,(bj x.1.2.2.1 (W 1)),iw.1,()),()))) ((aX x.1.1 (x.1.2.2.2.1).1).bind λg8=>some (.inl ((x.1.1,x.1.2.1,x.1.2.2.1,g8.1,()),()))))) (some (.inr ((x.1.2.2.1,()),())))
def Nj (x:U ahS):Option (U aB8):=(aX x.1.1.2.2.2.1 (x.1.2.2.1).1).bind λaD=>(vZ ((aD,()),())).bind λaF=>(a3 Nk ((x.1.2.2.1,x.1.1,aF.1.1,(W 0),()),())).bind λa5=>Sum.elim (λbK=>(U0 ((x.1.2.1,x.1.2.2.1,()),())).bind λbU=>Sum.elim (λcd=>(a3 Nl ((x.1.2.1,x.1.1,(W 0),x.1.2.2.1,()),())).bind λfg=>some (((fN fg.1.1 (W 24)),()),())) (λbY=>some ((bY.1.1,()),())) bU) (λbL=>some ((bL.1.1,()),())) a5
def ahI:=aH [(0,.agg cS)]
def aBq:=aH [(0,bR)]
def M7 (x:U ahI):Option (U aBq):=cond (a9 x.1.1.1 (W 1)) (cond (a9 x.1.1.1 (W 1)) (some (((!a9 x.1.1.2.2.2.2.2.1 (W (-1))),()),())) (some ((true,()),()))) (cond (a9 x.1.1.1 (W 2)) (cond (a9 x.1.1.1 (W 2)) (some (((!a9 x.1.1.2.2.2.2.2.1 (W (-1))),()),())) (some ((true,()),()))) (cond (a9 x.1.1.1 (W 3)) (some (((!a9 x.1.1.2.2.2.2.2.1 (W (-1))),()),())) (some ((true,()),()))))
def agK:=aH [(0,.agg cS)]
def azf:=aH [(0,aB bp)]
def Us:a4:=⟨[(1,.cH cS 0),(3,.tok bp 0 [])],[.bG bp]⟩
def agJ:bE:=[(.normal,⟨[(3,.tok bp 1 [])],[.gone,.bG bp]⟩)]
def Ur (x:U Us):Option (bq agJ):=cond (!a9 x.1.1.2.2.2.2.2.1 (W (-1))) ((c8 8 x.1.2.1 (cD [(x.1.1.2.2.2.2.2.1,())])).bind λdk=>some ((dk,()),((),(),()))) (some ((x.1.2.1,()),((),(),())))
def Fp:a4:=⟨[(1,.cH cS 0),(3,.tok bp 0 []),(4,au)],[.bG bp]⟩
def azd:bE:=[((.exit 0),⟨[(3,.tok bp 1 [])],[.gone,.bG bp]⟩)]
def Mv (x:U Fp):Option (U Fp⊕bq azd):=cond (bh x.1.2.2.1 (ba x.1.1.2.2.2.2.2.2.2.1)) ((aX x.1.1.2.2.2.2.2.2.2.1 (x.1.2.2.1).1).bind λcP=>(c8 8 x.1.2.1 cP.2.2.1).bind λiD=>some (.inl ((x.1.1,iD,(bj x.1.2.2.1 (W 1)),()),((),())))) (some (.inr ((x.1.2.1,()),((),(),()))))
def Fo (x:U agK):Option (U azf):=(Ur ((x.1.1,L.nil,()),((),()))).bind λaF=>(c8 8 aF.1.1 x.1.1.2.2.2.2.2.2.1).bind λbT=>(a3 Mv ((x.1.1,bT,(W 0),()),((),()))).bind λbK=>some ((bK.1.1,()),())
def ahP:a4:=⟨[(0,.agg fq),(1,au),(2,.arr 0 [.bool] [false])],r6⟩
def aBW:a4:=⟨[(0,bR)],r6⟩
def F2:a4:=⟨[(2,.arr 0 [.bool] [false]),(9,aB [.bool]),(11,au)],r6⟩
def aBT:bE:=[((.exit 2),⟨[],r6⟩),(.ret,⟨[(6,bR)],r6⟩)]
def Nh (x:U F2):Option (U F2⊕bq aBT):=cond (bh x.1.2.2.1 (ba x.1.2.1)) ((aX x.1.2.1 (x.1.2.2.1).1).bind λdP=>cond (dP.1) (cond (decide (0<=(x.1.2.2.1).1)&&decide ((x.1.2.2.1).1<(x.2.1.1.length:Nat))) ((eO x.2.1 ((x.1.2.2.1).1).toNat).bind λdb=>cond (db.1) (some (.inr (.inr ((false,()),(x.2.1,()))))) (cond (decide (0<=(x.1.2.2.1).1)&&decide ((x.1.2.2.1).1<(x.2.1.1.length:Nat))) ((eO x.2.1 ((x.1.2.2.1).1).toNat).bind λfk=>cond (fk.1) (cond (decide (0<=(x.1.2.2.1).1)&&decide ((x.1.2.2.1).1<(x.2.1.1.length:Nat))) ((eO x.2.1 ((x.1.2.2.1).1).toNat).bind λdG=>some (.inl (((),x.1.2.1,(bj x.1.2.2.1 (W 1)),()),((dO x.2.1 ((x.1.2.2.1).1).toNat (true,())),())))) (none)) ((aX x.1.2.1 (x.1.2.2.1).1).bind λeS=>cond (decide (0<=(x.1.2.2.1).1)&&decide ((x.1.2.2.1).1<(x.2.1.1.length:Nat))) ((eO x.2.1 ((x.1.2.2.1).1).toNat).bind λea=>some (.inl (((),x.1.2.1,(bj x.1.2.2.1 (W 1)),()),((dO x.2.1 ((x.1.2.2.1).1).toNat eS),())))) (none))) (none))) (none)) (cond (decide (0<=(x.1.2.2.1).1)&&decide ((x.1.2.2.1).1<(x.2.1.1.length:Nat))) ((eO x.2.1 ((x.1.2.2.1).1).toNat).bind λgl=>cond (gl.1) (cond (decide (0<=(x.1.2.2.1).1)&&decide ((x.1.2.2.1).1<(x.2.1.1.length:Nat))) ((eO x.2.1 ((x.1.2.2.1).1).toNat).bind λiC=>some (.inl (((),x.1.2.1,(bj x.1.2.2.1 (W 1)),()),((dO x.2.1 ((x.1.2.2.1).1).toNat (true,())),())))) (none)) ((aX x.1.2.1 (x.1.2.2.1).1).bind λkj=>cond (decide (0<=(x.1.2.2.1).1)&&decide ((x.1.2.2.1).1<(x.2.1.1.length:Nat))) ((eO x.2.1 ((x.1.2.2.1).1).toNat).bind λgM=>some (.inl (((),x.1.2.1,(bj x.1.2.2.1 (W 1)),()),((dO x.2.1 ((x.1.2.2.1).1).toNat kj),())))) (none))) (none))) (some (.inr (.inl ((),(x.2.1,())))))
def F1:a4:=⟨[(2,.arr 0 [.bool] [false]),(3,.cH fq 0),(7,aB bp),(8,au)],r6⟩
def aBQ:bE:=[((.exit 0),⟨[],r6⟩),(.ret,⟨[(6,bR)],r6⟩)]
def Ng (x:U F1):Option (U F1⊕bq aBQ):=cond (bh x.1.2.2.2.1 (ba x.1.2.2.1)) ((aX x.1.2.2.1 (x.1.2.2.2.1).1).bind λbO=>(Gm ((x.1.2.1.2.2.1,bO.1,()),())).bind λaY=>cond (!aY.1.2.1) (some (.inr (.inr ((false,()),(x.2.1,()))))) ((a3 Nh (((),aY.1.1,(W 0),()),(x.2.1,()))).bind λdF=>Sum.elim (λeK=>some (.inl (((),x.1.2.1,x.1.2.2.1,(bj x.1.2.2.2.1 (W 1)),()),(eK.2.1,())))) (λfg=>some (.inr (.inr ((fg.1.1,()),(fg.2.1,()))))) dF)) (some (.inr (.inl ((),(x.2.1,())))))
def Nf (x:U ahP):Option (U aBW):=(aX x.1.1.2.2.2.1 (x.1.2.1).1).bind λaD=>(Fo ((aD,()),())).bind λaF=>(a3 Ng (((),x.1.1,aF.1.1,(W 0),()),(x.2.1,()))).bind λe_=>Sum.elim (λfo=>some ((true,()),(fo.2.1,()))) (λfY=>some ((fY.1.1,()),(fY.2.1,()))) e_
def ahM:=aH [(0,.agg hY),(1,au)]
def aBM:=aH [(0,.agg sY)]
def F0:a4:=⟨[(1,au),(4,cC),(5,.cH fq 0),(6,aB bp),(7,.arr 1 [.bool] [false]),(8,au)],Rc⟩
def aBJ:bE:=[((.exit 0),⟨[],Rc⟩),(.ret,⟨[],Rc⟩)]
def Nd (x:U F0):Option (U F0⊕bq aBJ):=cond (bh x.1.2.2.2.2.2.1 (ba x.1.2.2.1.2.2.2.1)) ((aX x.1.2.2.1.2.2.2.1 (x.1.2.2.2.2.2.1).1).bind λea=>(Mx ((ea,()),())).bind λbY=>cond (!bY.1.1) ((na (((W 1500),x.1.1,x.1.2.2.2.2.2.1,()),())).bind λcT=>some (.inr (.inr ((),((cT.1.1.1,cT.1.1.2.1,cT.1.1.2.2.1,()),x.2.2.1,()))))) ((Nj ((x.1.2.2.1,x.1.2.2.2.1,x.1.2.2.2.2.2.1,()),())).bind λcA=>cond (!cA.1.1) ((na (((W 1502),x.1.1,x.1.2.2.2.2.2.1,()),())).bind λep=>some (.inr (.inr ((),((ep.1.1.1,ep.1.1.2.1,ep.1.1.2.2.1,()),x.2.2.1,()))))) ((aX x.1.2.2.1.2.2.2.1 (x.1.2.2.2.2.2.1).1).bind λiw=>(M7 ((iw,()),())).bind λeK=>cond (!eK.1.1) ((na (((W 1503),x.1.1,x.1.2.2.2.2.2.1,()),())).bind λe_=>some (.inr (.inr ((),((e_.1.1.1,e_.1.1.2.1,e_.1.1.2.2.1,()),x.2.2.1,()))))) ((Nf ((x.1.2.2.1,x.1.2.2.2.2.2.1,(),()),(x.2.2.1,()))).bind λfg=>cond (!fg.1.1) ((na (((W 1503),x.1.1,x.1.2.2.2.2.2.1,()),())).bind λfo=>some (.inr (.inr ((),((fo.1.1.1,fo.1.1.2.1,fo.1.1.2.2.1,()),fg.2.1,()))))) (some (.inl ((x.1.1,(),x.1.2.2.1,x.1.2.2.2.1,(),(bj x.1.2.2.2.2.2.1 (W 1)),()),(x.2.1,fg.2.1,())))))))) (some (.inr (.inl ((),(x.2.1,x.2.2.1,())))))
def Nc (x:U ahM):Option (U aBM):=(aX x.1.1.2.2.1 (x.1.2.1).1).bind λaD=>(MN ((aD,()),())).bind λaF=>cond (!aF.1.1) ((na (((W 1500),x.1.2.1,(W (-1)),()),())).bind λaT=>some ((aT.1.1,()),())) ((vY ((x.1.1,aD.1,()),())).bind λaY=>cond (bh aY.1.1 x.1.2.1) ((na (((W 1501),x.1.2.1,(W (-1)),()),())).bind λbK=>some ((bK.1.1,()),())) ((Nm ((aD,()),())).bind λa5=>cond (a5.1.1) ((na (((W 1501),x.1.2.1,(W (-1)),()),())).bind λbL=>some ((bL.1.1,()),())) ((tM ((aD,()),())).bind λcu=>(q9 (α:=D [.bool]) 1 (ba aD.2.2.1) (false,())).bind λow=>(a3 Nd ((x.1.2.1,(),aD,cu.1.1,(),(W 0),()),(((W 0),(W 0),(W 0),()),ow,()))).bind λfY=>Sum.elim (λjA=>some ((((W 0),(W 0),(W 0),()),()),())) (λeV=>some (((eV.2.1.1,eV.2.1.2.1,eV.2.1.2.2.1,()),()),())) fY)))
def agz:=aH [(0,.agg fq),(1,aB bp),(2,au)]
def ayt:=aH [(0,aB cl)]
def E8:=aH [(3,.cH fq 0),(7,aB cl),(8,au)]
def ayk:bE:=[((.exit 0),aH [(7,aB cl)])]
def Md (x:U E8):Option (U E8⊕bq ayk):=cond (bh x.1.2.2.1 (ba x.1.1.2.1)) ((aX x.1.1.2.1 (x.1.2.2.1).1).bind λaD=>(v9 ((x.1.2.1,aD.1,()),())).bind λaF=>some (.inl ((x.1.1,aF.1.1,(bj x.1.2.2.1 (W 1)),()),()))) (some (.inr ((x.1.2.1,()),())))
def Uq:=aH [(7,aB cl),(10,.cH cS 0)]
def agy:=[jL [(7,aB cl)]]
def Up (x:U Uq):Option (bq agy):=cond (a9 x.1.2.1.1 (W 1)) ((v9 ((x.1.1,x.1.2.1.2.1,()),())).bind λbK=>some ((bK.1.1,()),())) (cond (a9 x.1.2.1.1 (W 8)) ((v9 ((x.1.1,x.1.2.1.2.1,()),())).bind λbL=>some ((bL.1.1,()),())) (some ((x.1.1,()),())))
def E_:=aH [(7,aB cl),(9,au),(10,.cH cS 0),(11,au)]
def ayq:bE:=[((.exit 4),aH [(7,aB cl)])]
def Mf (x:U E_):Option (U E_⊕bq ayq):=cond (a9 x.1.2.2.1.1 (W 5)) (cond (bh x.1.2.2.2.1 (ba x.1.2.2.1.2.2.2.2.2.2.2.2.1)) ((aX x.1.2.2.1.2.2.2.2.2.2.2.2.1 (x.1.2.2.2.1).1).bind λeS=>cond (a9 eS.2.2.1 x.1.2.1) ((aX x.1.2.2.1.2.2.2.2.2.2.2.2.1 (x.1.2.2.2.1).1).bind λea=>cond (!cB ea.2.1 (S ⟨#[]⟩)) ((aX x.1.2.2.1.2.2.2.2.2.2.2.2.1 (x.1.2.2.2.1).1).bind λgl=>(v9 ((x.1.1,gl.2.1,()),())).bind λcT=>some (.inl ((cT.1.1,x.1.2.1,x.1.2.2.1,(bj x.1.2.2.2.1 (W 1)),()),()))) (some (.inl ((x.1.1,x.1.2.1,x.1.2.2.1,(bj x.1.2.2.2.1 (W 1)),()),())))) (some (.inl ((x.1.1,x.1.2.1,x.1.2.2.1,(bj x.1.2.2.2.1 (W 1)),()),())))) (some (.inr ((x.1.1,()),())))) (some (.inr ((x.1.1,()),())))
def E9:=aH [(1,aB bp),(3,.cH fq 0),(7,aB cl),(9,au)]
def ayn:bE:=[((.exit 2),aH [(7,aB cl)])]
def Me (x:U E9):Option (U E9⊕bq ayn):=cond (bh (W 0) x.1.2.2.2.1) ((aX x.1.1 (x.1.2.2.2.1).1).bind λcP=>(aX x.1.2.1.2.2.2.1 (cP.1).1).bind λdP=>(Up ((x.1.2.2.1,dP,()),())).bind λcu=>(a3 Mf ((cu.1.1,x.1.2.2.2.1,dP,(W 0),()),())).bind λcA=>(aX x.1.1 (x.1.2.2.2.1).1).bind λgM=>some (.inl ((x.1.1,(x.1.2.1.1,x.1.2.1.2.1,x.1.2.1.2.2.1,x.1.2.1.2.2.2.1,()),cA.1.1,gM.1,()),()))) (some (.inr ((x.1.2.2.1,()),())))
def Mc (x:U agz):Option (U ayt):=(a3 Md ((x.1.1,L.nil,(W 0),()),())).bind λaT=>(a3 Me ((x.1.2.1,x.1.1,aT.1.1,x.1.2.2.1,()),())).bind λdF=>some ((dF.1.1,()),())
def agX:=aH [(0,.agg fq),(1,au)]
def azI:=aH [(0,aB cl)]
def UG:=aH [(5,.cH cS 0),(6,.dt)]
def agW:=[jL [(6,aB cl)]]
def UF (x:U UG):Option (bq agW):=cond (a9 x.1.1.1 (W 4)) (some (((cD [(x.1.1.2.1,())]),()),())) (cond (a9 x.1.1.1 (W 5)) (some (((cD [(x.1.1.2.1,())]),()),())) (cond (a9 x.1.1.1 (W 9)) (some (((cD [(x.1.1.2.1,())]),()),())) (some ((L.nil,()),()))))
def Fu:=aH [(6,aB cl),(9,aB cl),(10,au)]
def azG:bE:=[((.exit 2),aH [(6,aB cl)])]
def Mz (x:U Fu):Option (U Fu⊕bq azG):=cond (bh x.1.2.2.1 (ba x.1.2.1)) ((aX x.1.2.1 (x.1.2.2.1).1).bind λdb=>(v9 ((x.1.1,db.1,()),())).bind λbL=>some (.inl ((bL.1.1,x.1.2.1,(bj x.1.2.2.1 (W 1)),()),()))) (some (.inr ((x.1.1,()),())))
def Ft:=aH [(2,.cH fq 0),(6,aB cl),(7,aB bp),(8,au)]
def azD:bE:=[((.exit 0),aH [(6,aB cl)])]
def My (x:U Ft):Option (U Ft⊕bq azD):=cond (bh x.1.2.2.2.1 (ba x.1.2.2.1)) ((aX x.1.2.2.1 (x.1.2.2.2.1).1).bind λcP=>(NC ((x.1.1.2.2.1,cP.1,()),())).bind λa5=>(a3 Mz ((x.1.2.1,a5.1.1,(W 0),()),())).bind λcu=>some (.inl ((x.1.1,cu.1.1,x.1.2.2.1,(bj x.1.2.2.2.1 (W 1)),()),()))) (some (.inr ((x.1.2.1,()),())))
def Fs (x:U agX):Option (U azI):=(aX x.1.1.2.2.2.1 (x.1.2.1).1).bind λaD=>(UF ((aD,(),()),())).bind λaF=>(Fo ((aD,()),())).bind λaT=>(a3 My ((x.1.1,aF.1.1,aT.1.1,(W 0),()),())).bind λbU=>some ((bU.1.1,()),())
def ag6:=aH [(0,.agg cS)]
def azV:=aH [(0,aB cl)]
def UJ:a4:=⟨[(1,.cH cS 0),(3,.tok cl 0 [])],[.bG cl]⟩
def ag5:bE:=[(.normal,⟨[(3,.tok cl 1 [])],[.gone,.bG cl]⟩)]
def UI (x:U UJ):Option (bq ag5):=cond (a9 x.1.1.1 (W 1)) ((c8 16 x.1.2.1 (cD [(x.1.1.2.1,())])).bind λdk=>some ((dk,()),((),(),()))) (cond (a9 x.1.1.1 (W 8)) ((c8 16 x.1.2.1 (cD [(x.1.1.2.1,())])).bind λdg=>some ((dg,()),((),(),()))) (some ((x.1.2.1,()),((),(),()))))
def Fx:a4:=⟨[(1,.cH cS 0),(3,.tok cl 0 []),(4,au)],[.bG cl]⟩
def azS:bE:=[((.exit 0),⟨[(3,.tok cl 1 [])],[.gone,.bG cl]⟩)]
def MD (x:U Fx):Option (U Fx⊕bq azS):=cond (bh x.1.2.2.1 (ba x.1.1.2.2.2.2.2.2.2.2.1)) ((aX x.1.1.2.2.2.2.2.2.2.2.1 (x.1.2.2.1).1).bind λcP=>cond (!cB cP.2.1 (S ⟨#[]⟩)) ((aX x.1.1.2.2.2.2.2.2.2.2.1 (x.1.2.2.1).1).bind λdP=>(c8 16 x.1.2.1 (cD [(dP.2.1,())])).bind λmN=>some (.inl ((x.1.1,mN,(bj x.1.2.2.1 (W 1)),()),((),())))) (some (.inl ((x.1.1,x.1.2.1,(bj x.1.2.2.1 (W 1)),()),((),()))))) (some (.inr ((x.1.2.1,()),((),(),()))))
def MC (x:U ag6):Option (U azV):=(UI ((x.1.1,L.nil,()),((),()))).bind λaT=>(a3 MD ((x.1.1,aT.1.1,(W 0),()),((),()))).bind λbL=>some ((bL.1.1,()),())
def ag8:=aH [(0,.agg hY),(1,a_),(2,au),(3,au)]
def azY:=aH [(0,bR)]
def Bj (x:U ag8):Option (U azY):=(vY ((x.1.1,x.1.2.1,()),())).bind λaz=>cond (fN (W 0) az.1.1) ((aX x.1.1.2.2.1 (az.1.1).1).bind λaQ=>some (((a9 (ba aQ.2.1) (bj x.1.2.2.1 x.1.2.2.2.1)),()),())) (some ((false,()),()))
def agH:=aH [(0,.agg hY),(1,a_)]
def ay':=aH [(0,au)]
def Fm:=aH [(1,a_),(2,.cH hY 0),(5,au)]
def ay8:bE:=[((.exit 0),aH []),fP [(4,au)]]
def Mu (x:U Fm):Option (U Fm⊕bq ay8):=cond (bh x.1.2.2.1 (ba x.1.2.1.1)) ((aX x.1.2.1.1 (x.1.2.2.1).1).bind λaD=>cond (cB aD.1 x.1.1) (some (.inr (.inr ((x.1.2.2.1,()),())))) (some (.inl ((x.1.1,x.1.2.1,(bj x.1.2.2.1 (W 1)),()),())))) (some (.inr (.inl ((),()))))
def Mt (x:U agH):Option (U ay'):=(a3 Mu ((x.1.2.1,x.1.1,(W 0),()),())).bind λaF=>Sum.elim (λaT=>some (((W (-1)),()),())) (λaY=>some ((aY.1.1,()),())) aF
def ahB:=aH [(0,.agg hY),(1,.agg cS)]
def aA2:=aH [(0,bR)]
def FP:a4:=⟨[(3,.cH cS 0),(7,.tok cl 0 []),(8,au)],[.bG cl]⟩
def aAW:bE:=[((.exit 0),⟨[(7,.tok cl 1 [])],[.gone,.bG cl]⟩)]
def MW (x:U FP):Option (U FP⊕bq aAW):=cond (bh x.1.2.2.1 (ba x.1.1.2.2.2.2.2.2.2.1)) ((aX x.1.1.2.2.2.2.2.2.2.1 (x.1.2.2.1).1).bind λbO=>(c8 16 x.1.2.1 (cD [(bO.1,())])).bind λjk=>some (.inl ((x.1.1,jk,(bj x.1.2.2.1 (W 1)),()),((),())))) (some (.inr ((x.1.2.1,()),((),(),()))))
def FQ:=aH [(6,aB cl),(7,aB cl),(9,au)]
def aAZ:bE:=[((.exit 2),aH []),fP [(4,bR)]]
def MX (x:U FQ):Option (U FQ⊕bq aAZ):=cond (bh x.1.2.2.1 (ba x.1.2.1)) ((aX x.1.2.1 (x.1.2.2.1).1).bind λfk=>(o_ ((x.1.1,fk.1,()),())).bind λcu=>cond (!cu.1.1) (some (.inr (.inr ((false,()),())))) (some (.inl ((x.1.1,x.1.2.1,(bj x.1.2.2.1 (W 1)),()),())))) (some (.inr (.inl ((),()))))
def MV (x:U ahB):Option (U aA2):=(Mt ((x.1.1,x.1.2.1.2.2.2.1,()),())).bind λaz=>cond (bh az.1.1 (W 0)) (some ((false,()),())) ((aX x.1.1.1 (az.1.1).1).bind λaQ=>(a3 MW ((x.1.2.1,(cD [(x.1.2.1.2.2.1,())]),(W 0),()),((),()))).bind λa5=>cond (!a9 (ba a5.1.1) (ba aQ.2.1)) (some ((false,()),())) ((Gh ((a5.1.1,()),())).bind λbK=>cond (!bK.1.1) (some ((false,()),())) ((a3 MX ((aQ.2.1,a5.1.1,(W 0),()),())).bind λbU=>Sum.elim (λcd=>some ((true,()),())) (λbY=>some ((bY.1.1,()),())) bU)))
def ahL:=aH [(0,.agg hY),(1,.agg fq),(2,aB bp),(3,au)]
def aBG:=aH [(0,au)]
def FX:=aH [(10,aB cl),(11,aB cl),(12,au)]
def aBx:bE:=[((.exit 0),aH []),fP [(8,au)]]
def M_ (x:U FX):Option (U FX⊕bq aBx):=cond (bh x.1.2.2.1 (ba x.1.2.1)) ((aX x.1.2.1 (x.1.2.2.1).1).bind λcP=>(o_ ((x.1.1,cP.1,()),())).bind λa5=>cond (!a5.1.1) (some (.inr (.inr (((W 1505),()),())))) (some (.inl ((x.1.1,x.1.2.1,(bj x.1.2.2.1 (W 1)),()),())))) (some (.inr (.inl ((),()))))
def FY:=aH [(10,aB cl),(11,aB cl),(13,au)]
def aBA:bE:=[((.exit 2),aH []),fP [(8,au)]]
def M' (x:U FY):Option (U FY⊕bq aBA):=cond (bh x.1.2.2.1 (ba x.1.2.1)) ((aX x.1.2.1 (x.1.2.2.1).1).bind λea=>(o_ ((x.1.1,ea.1,()),())).bind λbY=>cond (bY.1.1) (some (.inr (.inr (((W 1506),()),())))) (some (.inl ((x.1.1,x.1.2.1,(bj x.1.2.2.1 (W 1)),()),())))) (some (.inr (.inl ((),()))))
def UW:=aH [(4,.cH hY 0),(9,.cH cS 0)]
def ahK:=[jL [],fP [(8,au)]]
def UU (x:U UW):Option (bq ahK):=cond (a9 x.1.2.1.1 (W 6)) ((Bj ((x.1.1,x.1.2.1.2.2.2.2.1,(ba x.1.2.1.2.2.2.2.2.2.1),(W 0),()),())).bind λdF=>cond (!dF.1.1) (some (.inr (((W 1507),()),()))) (some (.inl ((),())))) (cond (a9 x.1.2.1.1 (W 7)) ((Bj ((x.1.1,x.1.2.1.2.2.2.2.1,(ba x.1.2.1.2.2.2.2.2.2.1),(W 0),()),())).bind λeK=>cond (!eK.1.1) (some (.inr (((W 1507),()),()))) (some (.inl ((),())))) (some (.inl ((),()))))
def FZ:=aH [(4,.cH hY 0),(9,.cH cS 0),(14,au)]
def aBD:bE:=[((.exit 4),aH []),fP [(8,au)]]
def Na (x:U FZ):Option (U FZ⊕bq aBD):=cond (bh x.1.2.2.1 (ba x.1.2.1.2.2.2.2.2.2.2.1)) ((aX x.1.2.1.2.2.2.2.2.2.2.1 (x.1.2.2.1).1).bind λoc=>(aX x.1.2.1.2.2.2.2.2.2.2.1 (x.1.2.2.1).1).bind λnm=>(Bj ((x.1.1,oc.2.1,(ba nm.2.2.1),(W 1),()),())).bind λeV=>cond (!eV.1.1) (some (.inr (.inr (((W 1507),()),())))) (some (.inl ((x.1.1,x.1.2.1,(bj x.1.2.2.1 (W 1)),()),())))) (some (.inr (.inl ((),()))))
def M9 (x:U ahL):Option (U aBG):=(aX x.1.2.1.2.2.2.1 (x.1.2.2.2.1).1).bind λaD=>(Mc ((x.1.2.1,x.1.2.2.1,x.1.2.2.2.1,()),())).bind λaF=>(Fs ((x.1.2.1,x.1.2.2.2.1,()),())).bind λaT=>(a3 M_ ((aF.1.1,aT.1.1,(W 0),()),())).bind λbK=>Sum.elim (λbL=>(MC ((aD,()),())).bind λbU=>(a3 M' ((aF.1.1,bU.1.1,(W 0),()),())).bind λcT=>Sum.elim (λcA=>(UU ((x.1.1,aD,()),())).bind λfg=>Sum.elim (λe_=>(a3 Na ((x.1.1,aD,(W 0),()),())).bind λlI=>Sum.elim (λlJ=>cond (a9 aD.1 (W 8)) ((MV ((x.1.1,aD,()),())).bind λmS=>cond (!mS.1.1) (some (((W 1508),()),())) (some (((W 0),()),()))) (some (((W 0),()),()))) (λkg=>some ((kg.1.1,()),())) lI) (λfo=>some ((fo.1.1,()),())) fg) (λep=>some ((ep.1.1,()),())) cT) (λcu=>some ((cu.1.1,()),())) bK
def agA:=aH [(0,.agg hY)]
def ayL:=aH [(0,.agg sY)]
def Fa:a4:=⟨[(1,.cH hY 0),(2,cC),(3,au)],m1⟩
def ayw:bE:=[((.exit 0),⟨[],m1⟩),(.ret,⟨[],m1⟩)]
def Mi (x:U Fa):Option (U Fa⊕bq ayw):=cond (bh x.1.2.2.1 (ba x.1.1.1)) ((aX x.1.1.1 (x.1.2.2.1).1).bind λcP=>(zE ((cP,()),())).bind λa5=>cond (!a5.1.1) ((na (((W 1500),(W (-1)),(W (-1)),()),())).bind λbK=>some (.inr (.inr ((),((bK.1.1.1,bK.1.1.2.1,bK.1.1.2.2.1,()),()))))) (some (.inl ((x.1.1,(),(bj x.1.2.2.1 (W 1)),()),(x.2.1,()))))) (some (.inr (.inl ((),(x.2.1,())))))
def Fb:a4:=⟨[(1,.cH hY 0),(2,cC),(4,au)],m1⟩
def ayz:bE:=[((.exit 2),⟨[],m1⟩),(.ret,⟨[],m1⟩)]
def Mj (x:U Fb):Option (U Fb⊕bq ayz):=cond (bh x.1.2.2.1 (ba x.1.1.2.1)) ((aX x.1.1.2.1 (x.1.2.2.1).1).bind λea=>(BV ((ea,()),())).bind λbY=>cond (!bY.1.1) ((na (((W 1500),(W (-1)),(W (-1)),()),())).bind λep=>some (.inr (.inr ((),((ep.1.1.1,ep.1.1.2.1,ep.1.1.2.2.1,()),()))))) ((aX x.1.1.2.1 (x.1.2.2.1).1).bind λiC=>(k6 ((iC.1,()),())).bind λcA=>cond (!cA.1.1) ((na (((W 1500),(W (-1)),(W (-1)),()),())).bind λdF=>some (.inr (.inr ((),((dF.1.1.1,dF.1.1.2.1,dF.1.1.2.2.1,()),()))))) (some (.inl ((x.1.1,(),(bj x.1.2.2.1 (W 1)),()),(x.2.1,())))))) (some (.inr (.inl ((),(x.2.1,())))))
def Fc:a4:=⟨[(1,.cH hY 0),(2,cC),(5,au)],m1⟩
def ayC:bE:=[((.exit 4),⟨[],m1⟩),(.ret,⟨[],m1⟩)]
def Mk (x:U Fc):Option (U Fc⊕bq ayC):=cond (bh x.1.2.2.1 (ba x.1.1.2.2.1)) ((Nc ((x.1.1,x.1.2.2.1,()),())).bind λfo=>cond (!a9 fo.1.1.1 (W 0)) (some (.inr (.inr ((),((fo.1.1.1,fo.1.1.2.1,fo.1.1.2.2.1,()),()))))) (some (.inl ((x.1.1,(),(bj x.1.2.2.1 (W 1)),()),(x.2.1,()))))) (some (.inr (.inl ((),(x.2.1,())))))
def Ff:a4:=⟨[(1,.cH hY 0),(2,cC),(8,au),(9,aB bp),(10,au)],m1⟩
def ayI:bE:=[((.exit 8),⟨[],m1⟩),(.ret,⟨[],m1⟩)]
def Mm (x:U Ff):Option (U Ff⊕bq ayI):=(aX x.1.1.2.2.1 (x.1.2.2.1).1).bind λJd=>cond (bh x.1.2.2.2.2.1 (ba Jd.2.2.2.1)) ((aX x.1.1.2.2.1 (x.1.2.2.1).1).bind λCY=>(M9 ((x.1.1,CY,x.1.2.2.2.1,x.1.2.2.2.2.1,()),())).bind λXA=>cond (!a9 XA.1.1 (W 0)) ((na ((XA.1.1,x.1.2.2.1,x.1.2.2.2.2.1,()),())).bind λtP=>some (.inr (.inr ((),((tP.1.1.1,tP.1.1.2.1,tP.1.1.2.2.1,()),()))))) (some (.inl ((x.1.1,(),x.1.2.2.1,x.1.2.2.2.1,(bj x.1.2.2.2.2.1 (W 1)),()),(x.2.1,()))))) (some (.inr (.inl ((),(x.2.1,())))))
def Fe:a4:=⟨[(1,.cH hY 0),(2,cC),(8,au)],m1⟩
def ayF:bE:=[((.exit 6),⟨[],m1⟩),(.ret,⟨[],m1⟩)]
def Ml (x:U Fe):Option (U Fe⊕bq ayF):=cond (bh x.1.2.2.1 (ba x.1.1.2.2.1)) ((aX x.1.1.2.2.1 (x.1.2.2.1).1).bind λAg=>(tM ((Ag,()),())).bind λzK=>(a3 Mm ((x.1.1,(),x.1.2.2.1,zK.1.1,(W 0),()),(x.2.1,()))).bind λCg=>Sum.elim (λzL=>some (.inl ((x.1.1,(),(bj x.1.2.2.1 (W 1)),()),(zL.2.1,())))) (λCh=>some (.inr (.inr ((),(Ch.2.1,()))))) Cg) (some (.inr (.inl ((),(x.2.1,())))))
def Mh (x:U agA):Option (U ayL):=cond (bh (W 6) (ba x.1.1.1)) ((na (((W 1500),(W (-1)),(W (-1)),()),())).bind λaz=>some ((az.1.1,()),())) (cond (bh (W 12) (ba x.1.1.2.1)) ((na (((W 1500),(W (-1)),(W (-1)),()),())).bind λaF=>some ((aF.1.1,()),())) (cond (bh (W 24) (ba x.1.1.2.2.1)) ((na (((W 1500),(W (-1)),(W (-1)),()),())).bind λaT=>some ((aT.1.1,()),())) ((a3 Mi ((x.1.1,(),(W 0),()),(((W 0),(W 0),(W 0),()),()))).bind λbL=>Sum.elim (λcu=>(a3 Mj ((x.1.1,(),(W 0),()),(cu.2.1,()))).bind λeK=>Sum.elim (λfg=>(a3 Mk ((x.1.1,(),(W 0),()),(fg.2.1,()))).bind λfY=>Sum.elim (λjA=>(vY ((x.1.1,(S ⟨#[109,97,105,110]⟩),()),())).bind λlI=>cond (bh lI.1.1 (W 0)) ((na (((W 1504),(W (-1)),(W (-1)),()),())).bind λkg=>some ((kg.1.1,()),())) ((aX x.1.1.2.2.1 (lI.1.1).1).bind λAf=>cond (bh (W 0) (ba Af.2.1)) ((na (((W 1504),(W (-1)),(W (-1)),()),())).bind λmS=>some ((mS.1.1,()),())) ((a3 Ml ((x.1.1,(),(W 0),()),(jA.2.1,()))).bind λamy=>Sum.elim (λIo=>some ((((W 0),(W 0),(W 0),()),()),())) (λQC=>some (((QC.2.1.1,QC.2.1.2.1,QC.2.1.2.2.1,()),()),())) amy))) (λeV=>some (((eV.2.1.1,eV.2.1.2.1,eV.2.1.2.2.1,()),()),())) fY) (λe_=>some (((e_.2.1.1,e_.2.1.2.1,e_.2.1.2.2.1,()),()),())) eK) (λbU=>some (((bU.2.1.1,bU.2.1.2.1,bU.2.1.2.2.1,()),()),())) bL)))
def ah3:=aH [(0,aB c_),(1,a_)]
def aCz:=aH [(0,aB c_)]
def Gb:a4:=⟨[(0,aB c_),(1,a_),(5,.tok c_ 0 []),(6,au)],[.bG c_]⟩
def aCx:bE:=[((.exit 0),⟨[(5,.tok c_ 1 [])],[.gone,.bG c_]⟩)]
def Ns (x:U Gb):Option (U Gb⊕bq aCx):=cond (bh x.1.2.2.2.1 (ba x.1.1)) ((aX x.1.1 (x.1.2.2.2.1).1).bind λaD=>cond (!cB aD.1 x.1.2.1) ((aX x.1.1 (x.1.2.2.2.1).1).bind λaQ=>(c8 32 x.1.2.2.1 (cD [aQ])).bind λbT=>some (.inl ((x.1.1,x.1.2.1,bT,(bj x.1.2.2.2.1 (W 1)),()),((),())))) (some (.inl ((x.1.1,x.1.2.1,x.1.2.2.1,(bj x.1.2.2.2.1 (W 1)),()),((),()))))) (some (.inr ((x.1.2.2.1,()),((),(),()))))
def xp (x:U ah3):Option (U aCz):=(a3 Ns ((x.1.1,x.1.2.1,L.nil,(W 0),()),((),()))).bind λaY=>some ((aY.1.1,()),())
def ah1:=aH [(0,aB c_),(1,a_),(2,.agg jc)]
def aCv:=aH [(0,aB c_)]
def F':=aH [(1,a_),(7,aB c_),(8,au)]
def aCt:bE:=[((.exit 0),aH [(8,au)])]
def Nr (x:U F'):Option (U F'⊕bq aCt):=cond (bh x.1.2.2.1 (ba x.1.2.1)) ((aX x.1.2.1 (x.1.2.2.1).1).bind λaQ=>cond (ox aQ.1 x.1.1) (some (.inl ((x.1.1,x.1.2.1,(bj x.1.2.2.1 (W 1)),()),()))) (some (.inr ((x.1.2.2.1,()),())))) (some (.inr ((x.1.2.2.1,()),())))
def v5 (x:U ah1):Option (U aCv):=(xp ((x.1.1,x.1.2.1,()),())).bind λaz=>(a3 Nr ((x.1.2.1,az.1.1,(W 0),()),())).bind λaT=>(nG az.1.1 0 (aT.1.1).1).bind λv4=>(c8 32 (L.nil:L (D [.str,.int .i64,.int .i64])) v4).bind λiD=>(c8 32 iD (cD [(x.1.2.1,x.1.2.2.1.1,x.1.2.2.1.2.1,())])).bind λmN=>(nG az.1.1 (aT.1.1).1 az.1.1.1.length).bind λdU=>(c8 32 mN dU).bind λj0=>some ((j0,()),())
def ag1:=aH [(0,.agg ie),(1,.agg fq)]
def azP:=aH [(0,aB c_),(1,bR)]
def Fw:=aH [(2,.cH ie 0),(3,.cH fq 0),(6,aB c_),(7,au)]
def azN:bE:=[((.exit 0),aH [(6,aB c_)]),fP [(4,.dt),(5,bR)]]
def MB (x:U Fw):Option (U Fw⊕bq azN):=cond (bh x.1.2.2.2.1 (ba x.1.2.1.2.1)) ((aX x.1.2.1.2.1 (x.1.2.2.2.1).1).bind λaD=>(BZ ((x.1.1,(aD.2.1,aD.2.2.1,()),()),())).bind λaF=>cond (!aF.1.2.1) (some (.inr (.inr (((),false,()),())))) ((aX x.1.2.1.2.1 (x.1.2.2.2.1).1).bind λbO=>(v5 ((x.1.2.2.1,bO.1,aF.1.1,()),())).bind λaY=>some (.inl ((x.1.1,x.1.2.1,aY.1.1,(bj x.1.2.2.2.1 (W 1)),()),())))) (some (.inr (.inl ((x.1.2.2.1,()),()))))
def Fv (x:U ag1):Option (U azP):=(a3 MB ((x.1.1,x.1.2.1,L.nil,(W 0),()),())).bind λa5=>Sum.elim (λbK=>some ((bK.1.1,true,()),())) (λbL=>some ((L.nil,bL.1.2.1,()),())) a5
def ahw:=aH [(0,.agg ie),(1,aB c_)]
def aAO:=aH [(0,bR)]
def FN:=aH [(1,aB c_),(2,.cH ie 0),(5,au)]
def aAL:bE:=[((.exit 0),aH []),fP [(4,bR)]]
def MS (x:U FN):Option (U FN⊕bq aAL):=cond (bh x.1.2.2.1 (ba x.1.1)) ((aX x.1.1 (x.1.2.2.1).1).bind λaD=>cond (a9 aD.2.1 (W 5)) ((aX x.1.1 (x.1.2.2.1).1).bind λaQ=>(aX x.1.2.1.1 (aQ.2.2.1).1).bind λbO=>cond (!a9 bO.1 (W 0)) (some (.inr (.inr ((false,()),())))) (some (.inl ((x.1.1,x.1.2.1,(bj x.1.2.2.1 (W 1)),()),())))) (some (.inl ((x.1.1,x.1.2.1,(bj x.1.2.2.1 (W 1)),()),())))) (some (.inr (.inl ((),()))))
def FM (x:U ahw):Option (U aAO):=(a3 MS ((x.1.2.1,x.1.1,(W 0),()),())).bind λaY=>Sum.elim (λa5=>some ((true,()),())) (λbK=>some ((bK.1.1,()),())) aY
def ahp:=aH [(0,aB c_),(1,a_)]
def aAs:=aH [(0,.agg jc),(1,bR)]
def FH:a4:=⟨[(0,aB c_),(1,a_),(4,cC),(6,au)],[.box [au,au]]⟩
def aAp:bE:=[((.exit 0),⟨[],[.box [au,au]]⟩),(.ret,⟨[(5,bR)],[.box [au,au]]⟩)]
def MM (x:U FH):Option (U FH⊕bq aAp):=cond (bh x.1.2.2.2.1 (ba x.1.1)) ((aX x.1.1 (x.1.2.2.2.1).1).bind λaD=>cond (cB aD.1 x.1.2.1) ((aX x.1.1 (x.1.2.2.2.1).1).bind λaQ=>some (.inr (.inr ((true,()),((aQ.2.1,aQ.2.2.1,()),()))))) (some (.inl ((x.1.1,x.1.2.1,(),(bj x.1.2.2.2.1 (W 1)),()),(x.2.1,()))))) (some (.inr (.inl ((),(x.2.1,())))))
def ML (x:U ahp):Option (U aAs):=(a3 MM ((x.1.1,x.1.2.1,(),(W 0),()),(((W 0),(W 0),()),()))).bind λaT=>Sum.elim (λaY=>some ((((W 0),(W 0),()),false,()),())) (λa5=>some (((a5.2.1.1,a5.2.1.2.1,()),a5.1.1,()),())) aT
def ahg:=aH [(0,aB c_),(1,a_)]
def aAh:=aH [(0,au),(1,bR)]
def Bl (x:U ahg):Option (U aAh):=(ML ((x.1.1,x.1.2.1,()),())).bind λaz=>cond (az.1.2.1) (some ((az.1.1.2.1,(a9 az.1.1.1 (W 5)),()),())) (some ((az.1.1.2.1,false,()),()))
def ahT:=aH [(0,.agg ie),(1,.agg cS),(2,aB c_),(3,au)]
def aB_:=aH [(0,.agg jS),(1,au)]
def F5 (x:U ahT):Option (U aB_):=(Bl ((x.1.2.2.1,x.1.2.1.2.1,()),())).bind λaz=>cond (!az.1.2.1) (some ((((W 0),(S ⟨#[]⟩),L.nil,()),(W 1800),()),())) ((aX x.1.1.1 (az.1.1).1).bind λaQ=>cond (!a9 aQ.1 x.1.2.2.2.1) (some ((((W 0),(S ⟨#[]⟩),L.nil,()),(W 1801),()),())) (cond (!cB aQ.2.1 x.1.2.1.2.2.1) (some ((((W 0),(S ⟨#[]⟩),L.nil,()),(W 1801),()),())) (some ((aQ,(W 0),()),()))))
def ahd:=aH [(0,.agg jS),(1,a_)]
def aAg:=aH [(0,.agg lL),(1,bR)]
def FD:a4:=⟨[(1,a_),(2,.cH jS 0),(4,cC),(6,au)],Re⟩
def aAe:bE:=[((.exit 0),⟨[],Re⟩),(.ret,⟨[(5,bR)],Re⟩)]
def MI (x:U FD):Option (U FD⊕bq aAe):=cond (bh x.1.2.2.2.1 (ba x.1.2.1.2.2.1)) ((aX x.1.2.1.2.2.1 (x.1.2.2.2.1).1).bind λaD=>cond (cB aD.1 x.1.1) ((aX x.1.2.1.2.2.1 (x.1.2.2.2.1).1).bind λaQ=>some (.inr (.inr ((true,()),((aQ.1,aQ.2.1,aQ.2.2.1,aQ.2.2.2.1,()),()))))) (some (.inl ((x.1.1,x.1.2.1,(),(bj x.1.2.2.2.1 (W 1)),()),(x.2.1,()))))) (some (.inr (.inl ((),(x.2.1,())))))
def Bk (x:U ahd):Option (U aAg):=(a3 MI ((x.1.2.1,x.1.1,(),(W 0),()),(((S ⟨#[]⟩),(W 0),(W 0),(W 0),()),()))).bind λaT=>Sum.elim (λaY=>some ((((S ⟨#[]⟩),(W 0),(W 0),(W 0),()),false,()),())) (λa5=>some (((a5.2.1.1,a5.2.1.2.1,a5.2.1.2.2.1,a5.2.1.2.2.2.1,()),a5.1.1,()),())) aT
def ahv:=aH [(0,.agg ie),(1,.agg cS),(2,aB c_)]
def aAI:=aH [(0,aB [.aR c_]),(1,au)]
def FK:=aH [(4,.cH cS 0),(8,.cH jS 0),(10,au),(11,au)]
def aAC:bE:=[((.exit 0),aH [(10,au)]),fP [(6,.dt),(7,au)]]
def MQ (x:U FK):Option (U FK⊕bq aAC):=cond (bh x.1.2.2.2.1 (ba x.1.1.2.2.2.2.2.2.2.2.1)) ((aX x.1.1.2.2.2.2.2.2.2.2.1 (x.1.2.2.2.1).1).bind λaQ=>cond (cB aQ.1 (S ⟨#[]⟩)) (some (.inl ((x.1.1,x.1.2.1,x.1.2.2.1,(bj x.1.2.2.2.1 (W 1)),()),()))) ((aX x.1.1.2.2.2.2.2.2.2.2.1 (x.1.2.2.2.1).1).bind λbO=>(Bk ((x.1.2.1,bO.1,()),())).bind λaY=>cond (!aY.1.2.1) (some (.inr (.inr (((),(W 1802),()),())))) (some (.inl ((x.1.1,x.1.2.1,(bj x.1.2.2.1 (W 1)),(bj x.1.2.2.2.1 (W 1)),()),()))))) (some (.inr (.inl ((x.1.2.2.1,()),()))))
def FL:a4:=⟨[(2,aB c_),(4,.cH cS 0),(8,.cH jS 0),(14,.tok [.aR c_] 0 []),(15,au)],[.bG [.aR c_]]⟩
def aAF:bE:=[((.exit 2),⟨[(14,.tok [.aR c_] 1 [])],[.gone,.bG [.aR c_]]⟩),(.ret,⟨[(6,.dt),(7,au)],[.gone]⟩)]
def MR (x:U FL):Option (U FL⊕bq aAF):=cond (bh x.1.2.2.2.2.1 (ba x.1.2.1.2.2.2.2.2.2.2.2.1)) ((aX x.1.2.1.2.2.2.2.2.2.2.2.1 (x.1.2.2.2.2.1).1).bind λdG=>cond (cB dG.1 (S ⟨#[]⟩)) ((xp ((x.1.1,x.1.2.1.2.1,()),())).bind λbU=>(c8 24 x.1.2.2.2.1 (cD [(bU.1.1,())])).bind λnu=>some (.inl ((x.1.1,x.1.2.1,x.1.2.2.1,nu,(bj x.1.2.2.2.2.1 (W 1)),()),((),())))) ((Bk ((x.1.2.2.1,dG.1,()),())).bind λbY=>cond (!((cB dG.2.1 (S ⟨#[]⟩))==(a9 bY.1.1.2.1 (W 0)))) (some (.inr (.inr (((),(W 1803),()),((),()))))) ((v5 ((x.1.1,x.1.2.1.2.1,((W 5),bY.1.1.2.2.2.1,()),()),())).bind λcT=>cond (!cB dG.2.1 (S ⟨#[]⟩)) ((v5 ((cT.1.1,dG.2.1,(bY.1.1.2.1,bY.1.1.2.2.1,()),()),())).bind λcA=>(c8 24 x.1.2.2.2.1 (cD [(cA.1.1,())])).bind λtC=>some (.inl ((x.1.1,x.1.2.1,x.1.2.2.1,tC,(bj x.1.2.2.2.2.1 (W 1)),()),((),())))) ((c8 24 x.1.2.2.2.1 (cD [(cT.1.1,())])).bind λpU=>some (.inl ((x.1.1,x.1.2.1,x.1.2.2.1,pU,(bj x.1.2.2.2.2.1 (W 1)),()),((),()))))))) (some (.inr (.inl ((x.1.2.2.2.1,()),((),(),())))))
def MP (x:U ahv):Option (U aAI):=(F5 ((x.1.1,x.1.2.1,x.1.2.2.1,(W 2),()),())).bind λaz=>cond (!a9 az.1.2.1 (W 0)) (some ((L.nil,az.1.2.1,()),())) ((a3 MQ (((x.1.2.1.1,x.1.2.1.2.1,x.1.2.1.2.2.1,x.1.2.1.2.2.2.1,x.1.2.1.2.2.2.2.1,x.1.2.1.2.2.2.2.2.1,x.1.2.1.2.2.2.2.2.2.1,x.1.2.1.2.2.2.2.2.2.2.1,x.1.2.1.2.2.2.2.2.2.2.2.1,x.1.2.1.2.2.2.2.2.2.2.2.2.1,()),az.1.1,(W 0),(W 0),()),())).bind λa5=>Sum.elim (λbK=>cond (!a9 bK.1.1 (ba az.1.1.2.2.1)) (some ((L.nil,(W 1802),()),())) ((a3 MR ((x.1.2.2.1,x.1.2.1,az.1.1,L.nil,(W 0),()),((),()))).bind λeK=>Sum.elim (λfg=>some ((fg.1.1,(W 0),()),())) (λe_=>some ((L.nil,e_.1.2.1,()),())) eK)) (λbL=>some ((L.nil,bL.1.2.1,()),())) a5)
def ahO:=aH [(0,.agg fq),(1,au),(2,aB c_)]
def aBO:=aH [(0,au)]
def Bm (x:U ahO):Option (U aBO):=(Nv ((x.1.1.2.2.1,x.1.2.1,x.1.2.2.1,()),())).bind λaz=>cond (!a9 az.1.2.1 (W 0)) (some (((W (-1)),()),())) (some ((az.1.1,()),()))
def ahb:=aH [(0,au)]
def aAc:=aH [(0,bR)]
def FC (x:U ahb):Option (U aAc):=cond (fN (W 0) x.1.1) (some (((bh x.1.1 (W 5)),()),())) (some ((false,()),()))
def ahG:=aH [(0,.agg fq),(1,.agg cS),(2,aB c_)]
def aBe:=aH [(0,aB c_),(1,au)]
def US:=aH [(4,.cH cS 0),(8,au)]
def ahF:=[jL [(14,bR)]]
def UR (x:U US):Option (bq ahF):=cond (a9 x.1.1.1 (W 1)) ((FC ((x.1.2.1,()),())).bind λaF=>some ((aF.1.1,()),())) (some ((false,()),()))
def M3 (x:U ahG):Option (U aBe):=(Bm ((x.1.1,x.1.2.1.2.2.2.2.2.1,x.1.2.2.1,()),())).bind λaz=>(UR ((x.1.2.1,az.1.1,()),())).bind λaT=>cond (aT.1.1) ((v5 ((x.1.2.2.1,x.1.2.1.2.1,(az.1.1,(W 0),()),()),())).bind λaY=>some ((aY.1.1,(W 0),()),())) (cond (a9 x.1.2.1.1 (W 2)) ((FC ((az.1.1,()),())).bind λa5=>cond (a5.1.1) (cond (!a9 az.1.1 (W 0)) (cond (!a9 az.1.1 (W 0)) (some ((x.1.2.2.1,(W 0),()),())) (some ((L.nil,(W 1804),()),()))) (cond (a9 x.1.2.1.1 (W 3)) (cond (a9 az.1.1 (W 2)) (some ((x.1.2.2.1,(W 0),()),())) (some ((L.nil,(W 1804),()),()))) (some ((L.nil,(W 1804),()),())))) (cond (a9 x.1.2.1.1 (W 3)) (cond (a9 az.1.1 (W 2)) (some ((x.1.2.2.1,(W 0),()),())) (some ((L.nil,(W 1804),()),()))) (some ((L.nil,(W 1804),()),())))) (cond (a9 x.1.2.1.1 (W 3)) (cond (a9 az.1.1 (W 2)) (some ((x.1.2.2.1,(W 0),()),())) (some ((L.nil,(W 1804),()),()))) (some ((L.nil,(W 1804),()),()))))
def ahq:=aH [(0,.agg fq),(1,au),(2,aB c_)]
def aAu:=aH [(0,a_),(1,au),(2,bR)]
def FI (x:U ahq):Option (U aAu):=(aX x.1.1.2.2.1 (x.1.2.1).1).bind λaD=>cond (!a9 aD.1 (W 0)) (some (((S ⟨#[]⟩),(W 0),false,()),())) ((Bl ((x.1.2.2.1,aD.2.1,()),())).bind λaF=>some ((aD.2.1,aF.1.1,aF.1.2.1,()),()))
def ahJ:=aH [(0,.agg ie),(1,.agg fq),(2,.agg cS),(3,aB c_)]
def aBt:=aH [(0,aB c_),(1,au)]
def M8 (x:U ahJ):Option (U aBt):=(F5 ((x.1.1,x.1.2.2.1,x.1.2.2.2.1,(W 1),()),())).bind λaz=>cond (!a9 az.1.2.1 (W 0)) (some ((L.nil,az.1.2.1,()),())) ((Bk ((az.1.1,x.1.2.2.1.2.2.2.1,()),())).bind λaF=>cond (!aF.1.2.1) (some ((L.nil,(W 1802),()),())) ((v5 ((x.1.2.2.2.1,x.1.2.2.1.2.1,((W 5),aF.1.1.2.2.2.1,()),()),())).bind λaT=>cond (a9 aF.1.1.2.1 (W 0)) (cond (!a9 x.1.2.2.1.2.2.2.2.2.1 (W (-1))) (some ((L.nil,(W 1803),()),())) (some ((aT.1.1,(W 0),()),()))) (cond (a9 x.1.2.2.1.2.2.2.2.2.1 (W (-1))) (some ((L.nil,(W 1803),()),())) (cond (a9 aF.1.1.2.1 (W 5)) ((FI ((x.1.2.1,x.1.2.2.1.2.2.2.2.2.1,x.1.2.2.2.1,()),())).bind λaY=>cond (!aY.1.2.2.1) (some ((L.nil,(W 1803),()),())) (cond (cB aY.1.1 x.1.2.2.1.2.1) (some ((L.nil,(W 1803),()),())) ((B0 ((x.1.1,aY.1.2.1,aF.1.1.2.2.1,()),())).bind λa5=>cond (!a5.1.1) (some ((L.nil,(W 1803),()),())) ((xp ((aT.1.1,aY.1.1,()),())).bind λbK=>some ((bK.1.1,(W 0),()),()))))) ((Bm ((x.1.2.1,x.1.2.2.1.2.2.2.2.2.1,x.1.2.2.2.1,()),())).bind λbL=>cond (!a9 bL.1.1 aF.1.1.2.1) (some ((L.nil,(W 1803),()),())) (some ((aT.1.1,(W 0),()),())))))))
def ahl:=aH [(0,.agg ie),(1,.agg fq),(2,aB gH),(3,aB bp),(4,aB c_)]
def aAn:=aH [(0,aB c_),(1,au)]
def FG:=aH [(2,aB gH),(3,aB bp),(5,.cH ie 0),(6,.cH fq 0),(12,aB c_),(13,au)]
def aAl:bE:=[((.exit 0),aH [(12,aB c_)]),fP [(10,.dt),(11,au)]]
def MK (x:U FG):Option (U FG⊕bq aAl):=cond (bh x.1.2.2.2.2.2.1 (ba x.1.2.1)) ((aX x.1.1 (x.1.2.2.2.2.2.1).1).bind λaD=>(BZ ((x.1.2.2.1,(aD.2.1,aD.2.2.1,()),()),())).bind λaF=>cond (!a9 aF.1.1.1 (W 5)) ((aX x.1.2.1 (x.1.2.2.2.2.2.1).1).bind λbO=>(Bm ((x.1.2.2.2.1,bO.1,x.1.2.2.2.2.1,()),())).bind λaY=>cond (!a9 aY.1.1 aF.1.1.1) (some (.inr (.inr (((),(W 1805),()),())))) (some (.inl ((x.1.1,x.1.2.1,x.1.2.2.1,x.1.2.2.2.1,x.1.2.2.2.2.1,(bj x.1.2.2.2.2.2.1 (W 1)),()),())))) ((aX x.1.2.1 (x.1.2.2.2.2.2.1).1).bind λdP=>(FI ((x.1.2.2.2.1,dP.1,x.1.2.2.2.2.1,()),())).bind λbK=>cond (!bK.1.2.2.1) (some (.inr (.inr (((),(W 1800),()),())))) ((B0 ((x.1.2.2.1,bK.1.2.1,aF.1.1.2.1,()),())).bind λbL=>cond (!bL.1.1) (some (.inr (.inr (((),(W 1805),()),())))) ((xp ((x.1.2.2.2.2.1,bK.1.1,()),())).bind λcu=>some (.inl ((x.1.1,x.1.2.1,x.1.2.2.1,x.1.2.2.2.1,cu.1.1,(bj x.1.2.2.2.2.2.1 (W 1)),()),())))))) (some (.inr (.inl ((x.1.2.2.2.2.1,()),()))))
def FF (x:U ahl):Option (U aAn):=(a3 MK ((x.1.2.2.1,x.1.2.2.2.1,x.1.1,x.1.2.1,x.1.2.2.2.2.1,(W 0),()),())).bind λbU=>Sum.elim (λcd=>some ((cd.1.1,(W 0),()),())) (λbY=>some ((L.nil,bY.1.2.1,()),())) bU
def ahz:=aH [(0,.agg hY),(1,.agg ie),(2,.agg fq),(3,.agg cS),(4,aB c_)]
def aAT:=aH [(0,aB c_),(1,au)]
def FO:=aH [(5,.cH hY 0),(6,.cH ie 0),(7,.cH fq 0),(8,.cH cS 0),(12,aB c_),(13,au)]
def aAQ:bE:=[((.exit 0),aH [(12,aB c_)]),fP [(10,.dt),(11,au)]]
def MU (x:U FO):Option (U FO⊕bq aAQ):=cond (bh x.1.2.2.2.2.2.1 (ba x.1.2.2.2.1.2.2.2.2.2.2.2.1)) ((aX x.1.2.2.2.1.2.2.2.2.2.2.2.1 (x.1.2.2.2.2.2.1).1).bind λaD=>(vY ((x.1.1,aD.2.1,()),())).bind λaF=>(aX x.1.1.2.2.1 (aF.1.1).1).bind λbO=>(aX bO.2.1 ((W 0)).1).bind λcP=>(BZ ((x.1.2.1,(cP.2.1,cP.2.2.1,()),()),())).bind λa5=>(fF x.1.2.2.2.1.2.2.2.1 (S ⟨#[46]⟩)).bind λv6=>(aX x.1.2.2.2.1.2.2.2.2.2.2.2.1 (x.1.2.2.2.2.2.1).1).bind λfk=>(fF v6 fk.1).bind λdz=>(Hc ((x.1.2.1,dz,()),())).bind λbU=>cond (!a9 a5.1.1.1 (W 5)) (some (.inr (.inr (((),(W 1806),()),())))) ((B0 ((x.1.2.1,bU.1.1,a5.1.1.2.1,()),())).bind λcd=>cond (!cd.1.1) (some (.inr (.inr (((),(W 1806),()),())))) ((nG bO.2.1 ((W 1)).1 bO.2.1.1.length).bind λv11=>(aX x.1.2.2.2.1.2.2.2.2.2.2.2.1 (x.1.2.2.2.2.2.1).1).bind λiC=>(FF ((x.1.2.1,x.1.2.2.1,v11,iC.2.2.1,x.1.2.2.2.2.1,()),())).bind λcA=>cond (!a9 cA.1.2.1 (W 0)) (some (.inr (.inr (((),cA.1.2.1,()),())))) (some (.inl ((x.1.1,x.1.2.1,x.1.2.2.1,x.1.2.2.2.1,cA.1.1,(bj x.1.2.2.2.2.2.1 (W 1)),()),())))))) (some (.inr (.inl ((x.1.2.2.2.2.1,()),()))))
def MT (x:U ahz):Option (U aAT):=(a3 MU ((x.1.1,x.1.2.1,x.1.2.2.1,x.1.2.2.2.1,x.1.2.2.2.2.1,(W 0),()),())).bind λep=>Sum.elim (λdF=>(fF x.1.2.2.2.1.2.2.2.1 (S ⟨#[46]⟩)).bind λjy=>(fF jy x.1.2.2.2.1.2.2.1).bind λxC=>(Hc ((x.1.2.1,xC,()),())).bind λfo=>(v5 ((dF.1.1,x.1.2.2.2.1.2.1,((W 5),fo.1.1,()),()),())).bind λfY=>some ((fY.1.1,(W 0),()),())) (λeK=>some ((L.nil,eK.1.2.1,()),())) ep
def agx:=aH [(0,.agg hY),(1,.agg ie),(2,.agg fq),(3,.agg cS),(4,aB c_)]
def ayg:=aH [(0,aB [.aR c_]),(1,au)]
def Um:=aH [(17,au)]
def agv:=[jL [(34,bR)]]
def Ul (x:U Um):Option (bq agv):=cond (a9 x.1.1 (W 1)) (some (((a9 x.1.1 (W 1)),()),())) (cond (a9 x.1.1 (W 2)) (some (((a9 x.1.1 (W 2)),()),())) (some (((a9 x.1.1 (W 3)),()),())))
def Uo:=aH [(17,au)]
def agw:=[jL [(55,bR)]]
def Un (x:U Uo):Option (bq agw):=cond (a9 x.1.1 (W 6)) (some (((a9 x.1.1 (W 6)),()),())) (some (((a9 x.1.1 (W 7)),()),()))
def Uk:=aH [(4,aB c_),(5,.cH hY 0),(6,.cH ie 0),(7,.cH fq 0),(8,.cH cS 0),(12,.dt),(13,au)]
def agu:=[jL [(12,aB c_),(13,au)],fP [(10,aB [.aR c_]),(11,au)]]
def Uj (x:U Uk):Option (bq agu):=cond (a9 x.1.2.2.2.2.1.1 (W 0)) ((FM ((x.1.2.2.1,x.1.1,()),())).bind λaz=>cond (!az.1.1) (some (.inr ((L.nil,(W 1807),()),()))) (some (.inr ((L.nil,(W 0),()),())))) (cond (a9 x.1.2.2.2.2.1.1 (W 10)) (some (.inr ((L.nil,(W 0),()),()))) (cond (a9 x.1.2.2.2.2.1.1 (W 5)) ((MP ((x.1.2.2.1,x.1.2.2.2.2.1,x.1.1,()),())).bind λaF=>some (.inr ((aF.1.1,aF.1.2.1,()),()))) ((Ul ((x.1.2.2.2.2.1.1,()),())).bind λaT=>cond (aT.1.1) ((M3 ((x.1.2.2.2.1,x.1.2.2.2.2.1,x.1.1,()),())).bind λaY=>some (.inl ((aY.1.1,aY.1.2.1,()),()))) (cond (a9 x.1.2.2.2.2.1.1 (W 4)) ((M8 ((x.1.2.2.1,x.1.2.2.2.1,x.1.2.2.2.2.1,x.1.1,()),())).bind λa5=>some (.inl ((a5.1.1,a5.1.2.1,()),()))) ((Un ((x.1.2.2.2.2.1.1,()),())).bind λbK=>cond (bK.1.1) ((vY ((x.1.2.1,x.1.2.2.2.2.1.2.2.2.2.1,()),())).bind λbL=>(aX x.1.2.1.2.2.1 (bL.1.1).1).bind λdG=>(FF ((x.1.2.2.1,x.1.2.2.2.1,dG.2.1,x.1.2.2.2.2.1.2.2.2.2.2.2.1,x.1.1,()),())).bind λbU=>cond (a9 bU.1.2.1 (W 0)) (cond (a9 x.1.2.2.2.2.1.1 (W 6)) ((FM ((x.1.2.2.1,bU.1.1,()),())).bind λcd=>cond (!cd.1.1) (some (.inr ((L.nil,(W 1807),()),()))) (some (.inr ((L.nil,(W 0),()),())))) (some (.inl ((bU.1.1,bU.1.2.1,()),())))) (some (.inl ((bU.1.1,bU.1.2.1,()),())))) (cond (a9 x.1.2.2.2.2.1.1 (W 8)) ((MT ((x.1.2.1,x.1.2.2.1,x.1.2.2.2.1,x.1.2.2.2.2.1,x.1.1,()),())).bind λbY=>some (.inl ((bY.1.1,bY.1.2.1,()),()))) (cond (a9 x.1.2.2.2.2.1.1 (W 9)) ((Bl ((x.1.1,x.1.2.2.2.2.1.2.1,()),())).bind λcT=>cond (!cT.1.2.1) (some (.inr ((L.nil,(W 1800),()),()))) ((xp ((x.1.1,x.1.2.2.2.2.1.2.1,()),())).bind λcA=>some (.inl ((cA.1.1,x.1.2.2.2.2.2.2.1,()),())))) (some (.inl ((L.nil,x.1.2.2.2.2.2.2.1,()),()))))))))))
def Mb (x:U agx):Option (U ayg):=(Uj ((x.1.2.2.2.2.1,x.1.1,(x.1.2.1.1,x.1.2.1.2.1,x.1.2.1.2.2.1,()),(x.1.2.2.1.1,x.1.2.2.1.2.1,x.1.2.2.1.2.2.1,x.1.2.2.1.2.2.2.1,()),(x.1.2.2.2.1.1,x.1.2.2.2.1.2.1,x.1.2.2.2.1.2.2.1,x.1.2.2.2.1.2.2.2.1,x.1.2.2.2.1.2.2.2.2.1,x.1.2.2.2.1.2.2.2.2.2.1,x.1.2.2.2.1.2.2.2.2.2.2.1,x.1.2.2.2.1.2.2.2.2.2.2.2.1,x.1.2.2.2.1.2.2.2.2.2.2.2.2.1,x.1.2.2.2.1.2.2.2.2.2.2.2.2.2.1,()),(),(W 0),()),())).bind λep=>Sum.elim (λdF=>cond (!a9 dF.1.2.1 (W 0)) (some ((L.nil,dF.1.2.1,()),())) (cond (a9 x.1.2.2.2.1.1 (W 3)) (some (((cD [(dF.1.1,()),(dF.1.1,())]),(W 0),()),())) (some (((cD [(dF.1.1,())]),(W 0),()),())))) (λeK=>some ((eK.1.1,eK.1.2.1,()),())) ep
def ahH:=aH [(0,.agg hY),(1,.agg ie),(2,au)]
def aBn:=aH [(0,aB fR),(1,.agg sY)]
def FW:a4:=⟨[(9,.arr 0 fR [false,false]),(13,aB [.aR c_]),(15,aB bp),(16,au)],[.arr fR [false,false]]⟩
def aBk:bE:=[((.exit 2),⟨[],[.arr fR [false,false]]⟩)]
def M6 (x:U FW):Option (U FW⊕bq aBk):=cond (bh x.1.2.2.2.1 (ba x.1.2.2.1)) ((aX x.1.2.2.1 (x.1.2.2.2.1).1).bind λgl=>(aX x.1.2.1 (x.1.2.2.2.1).1).bind λiC=>(c8 32 (L.nil:L (D [.str,.int .i64,.int .i64])) iC.1).bind λmz=>cond (decide (0<=(gl.1).1)&&decide ((gl.1).1<(x.2.1.1.length:Nat))) ((eO x.2.1 ((gl.1).1).toNat).bind λgM=>some (.inl (((),x.1.2.1,x.1.2.2.1,(bj x.1.2.2.2.1 (W 1)),()),((dO x.2.1 ((gl.1).1).toNat (true,mz,())),())))) (none)) (some (.inr ((),(x.2.1,()))))
def FV:a4:=⟨[(2,au),(3,.cH hY 0),(4,.cH ie 0),(7,cC),(8,.cH fq 0),(9,.arr 1 fR [false,false]),(12,au)],Ra⟩
def aBh:bE:=[((.exit 0),⟨[],Ra⟩),(.ret,⟨[(6,.dt)],Ra⟩)]
def M5 (x:U FV):Option (U FV⊕bq aBh):=cond (bh x.1.2.2.2.2.2.2.1 (ba x.1.2.2.2.2.1.2.2.2.1)) ((aX x.1.2.2.2.2.1.2.2.2.1 (x.1.2.2.2.2.2.2.1).1).bind λdP=>cond (decide (0<=(x.1.2.2.2.2.2.2.1).1)&&decide ((x.1.2.2.2.2.2.2.1).1<(x.2.2.1.1.length:Nat))) ((eO x.2.2.1 ((x.1.2.2.2.2.2.2.1).1).toNat).bind λdb=>(Mb ((x.1.2.1,x.1.2.2.1,x.1.2.2.2.2.1,dP,db.2.1,()),())).bind λbL=>cond (!a9 bL.1.2.1 (W 0)) ((na ((bL.1.2.1,x.1.1,x.1.2.2.2.2.2.2.1,()),())).bind λcu=>some (.inr (.inr (((),()),((cu.1.1.1,cu.1.1.2.1,cu.1.1.2.2.1,()),x.2.2.1,()))))) ((aX x.1.2.2.2.2.1.2.2.2.1 (x.1.2.2.2.2.2.2.1).1).bind λeS=>(vZ ((eS,()),())).bind λcd=>(a3 M6 (((),bL.1.1,cd.1.1,(W 0),()),(x.2.2.1,()))).bind λdF=>some (.inl ((x.1.1,x.1.2.1,x.1.2.2.1,(),x.1.2.2.2.2.1,(),(bj x.1.2.2.2.2.2.2.1 (W 1)),()),((x.2.1.1,x.2.1.2.1,x.2.1.2.2.1,()),dF.2.1,()))))) (none)) (some (.inr (.inl ((),((x.2.1.1,x.2.1.2.1,x.2.1.2.2.1,()),x.2.2.1,())))))
def M4 (x:U ahH):Option (U aBn):=(aX x.1.1.2.2.1 (x.1.2.2.1).1).bind λaD=>(q9 (α:=D [.bool,.aR [.str,.int .i64,.int .i64]]) 32 (ba aD.2.2.2.1) (false,L.nil,())).bind λdg=>(Fv ((x.1.2.1,aD,()),())).bind λaT=>cond (decide (0<=((W 0)).1)&&decide (((W 0)).1<(dg.1.length:Nat))) ((eO dg (((W 0)).1).toNat).bind λcP=>(a3 M5 ((x.1.2.2.1,x.1.1,(x.1.2.1.1,x.1.2.1.2.1,x.1.2.1.2.2.1,()),(),aD,(),(W 0),()),(((W 0),(W 0),(W 0),()),(dO dg (((W 0)).1).toNat (true,aT.1.1,())),()))).bind λeK=>Sum.elim (λfg=>some ((fg.2.2.1,((W 0),(W 0),(W 0),()),()),())) (λe_=>some ((L.nil,(e_.2.1.1,e_.2.1.2.1,e_.2.1.2.2.1,()),()),())) eK) (none)
def aha:=aH [(0,.agg hY)]
def az':=aH [(0,.agg ie),(1,aB [.aR fR]),(2,.agg sY)]
def FA:a4:=⟨[(1,.cH hY 0),(2,cC),(4,.ptr 1 0),(6,.cH ie 0),(8,au)],Rb⟩
def az5:bE:=[((.exit 0),⟨[],Rb⟩),(.ret,⟨[(3,.dt)],Rb⟩)]
def MG (x:U FA):Option (U FA⊕bq az5):=cond (bh x.1.2.2.2.2.1 (ba x.1.1.2.2.1)) ((aX x.1.1.2.2.1 (x.1.2.2.2.2.1).1).bind λbO=>(Fv ((x.1.2.2.2.1,bO,()),())).bind λaY=>cond (!aY.1.2.1) ((na (((W 1805),x.1.2.2.2.2.1,(W (-1)),()),())).bind λa5=>some (.inr (.inr (((),()),(((),(),(),()),(a5.1.1.1,a5.1.1.2.1,a5.1.1.2.2.1,()),()))))) (some (.inl ((x.1.1,(),(),x.1.2.2.2.1,(bj x.1.2.2.2.2.1 (W 1)),()),(((),(),(),()),x.2.2.1,()))))) (some (.inr (.inl ((),(((),(),(),()),x.2.2.1,())))))
def FB:a4:=⟨[(1,.cH hY 0),(2,cC),(4,.ptr 1 0),(6,.cH ie 0),(11,.tok [.aR fR] 2 []),(12,au)],[.box [.dt,.dt,.dt],.box [au,au,au],.bG [.aR fR]]⟩
def az8:bE:=[((.exit 2),⟨[(11,.tok [.aR fR] 3 [])],[.box [.dt,.dt,.dt],.box [au,au,au],.gone,.bG [.aR fR]]⟩),(.ret,⟨[(3,.dt)],[.box [.dt,.dt,.dt],.box [au,au,au],.gone]⟩)]
def MH (x:U FB):Option (U FB⊕bq az8):=cond (bh x.1.2.2.2.2.2.1 (ba x.1.1.2.2.1)) ((M4 ((x.1.1,x.1.2.2.2.1,x.1.2.2.2.2.2.1,()),())).bind λbU=>cond (!a9 bU.1.2.1.1 (W 0)) (some (.inr (.inr (((),()),(((),(),(),()),(bU.1.2.1.1,bU.1.2.1.2.1,bU.1.2.1.2.2.1,()),(),()))))) ((c8 24 x.1.2.2.2.2.1 (cD [(bU.1.1,())])).bind λnu=>some (.inl ((x.1.1,(),(),x.1.2.2.2.1,nu,(bj x.1.2.2.2.2.2.1 (W 1)),()),(((),(),(),()),x.2.2.1,(),()))))) (some (.inr (.inl ((x.1.2.2.2.2.1,()),(((),(),(),()),x.2.2.1,(),(),())))))
def MF (x:U aha):Option (U az'):=(Mh ((x.1.1,()),())).bind λaz=>cond (!a9 az.1.1.1 (W 0)) (some (((L.nil,L.nil,L.nil,()),L.nil,az.1.1,()),())) ((OH ((x.1.1.1,x.1.1.2.1,()),())).bind λaF=>cond (!a9 aF.1.2.1.1 (W 0)) (some (((L.nil,L.nil,L.nil,()),L.nil,aF.1.2.1,()),())) ((a3 MG ((x.1.1,(),(),aF.1.1,(W 0),()),(((),(),(),()),((W 0),(W 0),(W 0),()),()))).bind λbK=>Sum.elim (λbL=>(a3 MH ((x.1.1,(),(),aF.1.1,L.nil,(W 0),()),(((),(),(),()),bL.2.2.1,(),()))).bind λbY=>Sum.elim (λcT=>some ((aF.1.1,cT.1.1,((W 0),(W 0),(W 0),()),()),())) (λcA=>some (((L.nil,L.nil,L.nil,()),L.nil,(cA.2.2.1.1,cA.2.2.1.2.1,cA.2.2.1.2.2.1,()),()),())) bY) (λcu=>some (((L.nil,L.nil,L.nil,()),L.nil,(cu.2.2.1.1,cu.2.2.1.2.1,cu.2.2.1.2.2.1,()),()),())) bK))
def ag0:=aH [(0,.agg hY)]
def azK:=aH [(0,aB [.aR fR]),(1,.agg sY)]
def MA (x:U ag0):Option (U azK):=(MF ((x.1.1,()),())).bind λaz=>some ((az.1.2.1,az.1.2.2.1,()),())
def agC:=aH [(0,.agg dE)]
def ayX:=aH [(0,.agg dE)]
def Fh:a4:=⟨[(1,cC),(3,.tok fi 2 []),(4,au)],[.box [a_,.tok cl 1 [],aB fi],.bG cl,.bG fi]⟩
def ayU:bE:=[((.exit 0),⟨[(3,.tok fi 3 [])],[.box [a_,.tok cl 4 [],aB fi],.gone,.gone,.bG fi,.bG cl]⟩)]
def Mq (x:U Fh):Option (U Fh⊕bq ayU):=cond (bh x.1.2.2.1 (ba x.2.1.2.2.1)) ((aX x.2.1.2.2.1 (x.1.2.2.1).1).bind λaQ=>(c8 48 (L.nil:L (D [.str,.int .i64,.str,.int .i64])) aQ.2.2.1).bind λbT=>(c8 56 x.1.2.1 (cD [(aQ.1,aQ.2.1,bT,())])).bind λjk=>some (.inl (((),jk,(bj x.1.2.2.1 (W 1)),()),(x.2.1,(),(),())))) (some (.inr ((x.1.2.1,()),(x.2.1,(),(),(),(),()))))
def Mp (x:U agC):Option (U ayX):=(c8 16 (L.nil:L (D [.str])) x.1.1.2.1).bind λdk=>(a3 Mq (((),L.nil,(W 0),()),((x.1.1.1,dk,x.1.1.2.2.1,()),(),(),()))).bind λa5=>some (((a5.2.1.1,a5.2.1.2.1,a5.1.1,()),()),())
def agB:=aH [(0,.agg ek)]
def ayR:=aH [(0,.agg ek)]
def Fg:a4:=⟨[(1,cC),(3,.tok fZ 1 []),(4,au)],[.box [a_,aB fZ],.bG fZ]⟩
def ayO:bE:=[((.exit 0),⟨[(3,.tok fZ 2 [])],[.box [a_,aB fZ],.gone,.bG fZ]⟩)]
def Mo (x:U Fg):Option (U Fg⊕bq ayO):=cond (bh x.1.2.2.1 (ba x.2.1.2.1)) ((aX x.2.1.2.1 (x.1.2.2.1).1).bind λaD=>(c8 48 (L.nil:L (D [.str,.int .i64,.str,.int .i64])) aD.2.2.1).bind λdg=>(c8 48 x.1.2.1 (cD [(aD.1,aD.2.1,dg,())])).bind λbT=>some (.inl (((),bT,(bj x.1.2.2.1 (W 1)),()),(x.2.1,(),())))) (some (.inr ((x.1.2.1,()),(x.2.1,(),(),()))))
def Mn (x:U agB):Option (U ayR):=(a3 Mo (((),L.nil,(W 0),()),((x.1.1.1,x.1.1.2.1,()),(),()))).bind λaY=>some (((aY.2.1.1,aY.1.1,()),()),())
def azq:=aH [(0,.agg dE),(1,.agg dE)]
def azs:=aH [(0,bR)]
def Uu:=aH [(2,.cH dE 0),(3,.cH dE 0),(5,au)]
def azp:bE:=[((.exit 0),aH []),fP [(4,bR)]]
def Bi (x:U Uu):Option (U Uu⊕bq azp):=cond (bh x.1.2.2.1 (ba x.1.1.2.2.1)) ((aX x.1.1.2.2.1 (x.1.2.2.1).1).bind λaQ=>(aX x.1.2.1.2.2.1 (x.1.2.2.1).1).bind λbO=>cond (!cB aQ.1 bO.1) (some (.inr (.inr ((false,()),())))) ((aX x.1.1.2.2.1 (x.1.2.2.1).1).bind λcP=>(aX x.1.2.1.2.2.1 (x.1.2.2.1).1).bind λdP=>cond (!cB cP.2.1 dP.2.1) (some (.inr (.inr ((false,()),())))) ((aX x.1.1.2.2.1 (x.1.2.2.1).1).bind λdb=>(aX x.1.2.1.2.2.1 (x.1.2.2.1).1).bind λfk=>(Hd ((db.2.2.1,fk.2.2.1,()),())).bind λcu=>cond (!cu.1.1) (some (.inr (.inr ((false,()),())))) (some (.inl ((x.1.1,x.1.2.1,(bj x.1.2.2.1 (W 1)),()),())))))) (some (.inr (.inl ((),()))))
def Mw (x:U azq):Option (U azs):=cond (!cB x.1.1.1 x.1.2.1.1) (some ((false,()),())) ((OZ ((x.1.1.2.1,x.1.2.1.2.1,()),())).bind λaz=>cond (!az.1.1) (some ((false,()),())) (cond (!a9 (ba x.1.1.2.2.1) (ba x.1.2.1.2.2.1)) (some ((false,()),())) ((a3 Bi ((x.1.1,x.1.2.1,(W 0),()),())).bind λbU=>Sum.elim (λcd=>some ((true,()),())) (λbY=>some ((bY.1.1,()),())) bU)))
def azj:=aH [(0,aB bp),(1,aB bp)]
def azl:=aH [(0,bR)]
def Ut:=aH [(0,aB bp),(1,aB bp),(5,au)]
def azi:bE:=[((.exit 0),aH []),fP [(4,bR)]]
def Bh (x:U Ut):Option (U Ut⊕bq azi):=cond (bh x.1.2.2.1 (ba x.1.1)) ((aX x.1.1 (x.1.2.2.1).1).bind λaD=>(aX x.1.2.1 (x.1.2.2.1).1).bind λaQ=>cond (!a9 aD.1 aQ.1) (some (.inr (.inr ((false,()),())))) (some (.inl ((x.1.1,x.1.2.1,(bj x.1.2.2.1 (W 1)),()),())))) (some (.inr (.inl ((),()))))
def Fq (x:U azj):Option (U azl):=cond (!a9 (ba x.1.1) (ba x.1.2.1)) (some ((false,()),())) ((a3 Bh ((x.1.1,x.1.2.1,(W 0),()),())).bind λaT=>Sum.elim (λaY=>some ((true,()),())) (λa5=>some ((a5.1.1,()),())) aT)
theorem MJ:bw 147 na:=bD fj [] []
noncomputable def ahu:dn:=⟨(put .nil 1 .bW),[aI sG,aI ajX]⟩
theorem aAv:bZ 211 0 MO:=b9 ahu [] []
theorem aAy:bw 211 MN:=bD ahu [b8 aAv] []
noncomputable def agE:dn:=⟨(put .nil 2 .bW),[]⟩
theorem ayZ:bZ 177 0 Mr:=b9 agE [] []
theorem Fj:bw 177 vY:=bD agE [b8 ayZ] []
noncomputable def U3:dn:=⟨(put .nil 1 .bW),[]⟩
theorem aCc:bZ 212 1 No:=b9 U3 [] []
theorem aB':bZ 212 0 Nn:=b9 U3 [b8 aCc] []
theorem aCf:bw 212 Nm:=bD U3 [b8 aB'] []
theorem ahi:bw 152 FE:=bD fj [] []
noncomputable def agG:dn:=⟨(put .nil 1 .bW),[aI ahi]⟩
theorem ay3:bZ 101 0 Ms:=b9 agG [] []
theorem Bf:bw 101 vZ:=bD agG [b8 ay3] []
noncomputable def M1:dn:=⟨(put (put (put .nil 1 .bW) 12 (.arr [false])) 27 (.arr [false])),[aI Bf]⟩
theorem aA4:bZ 178 0 MY:=b9 M1 [] []
theorem aA_:bZ 178 2 M0:=b9 M1 [] []
theorem aA7:bZ 178 1 MZ:=b9 M1 [b8 aA_] []
theorem ahD:bw 178 tM:=bD M1 [b8 aA4,b8 aA7] []
theorem aBY:bw 242 zB:=bD ⟨.nil,[aI sG]⟩ [] []
noncomputable def U8:dn:=⟨(put (put .nil 1 .bW) 4 .bW),[aI sG]⟩
theorem aCn:bZ 243 1 Nq:=b9 U8 [] []
theorem aCk:bZ 243 0 Np:=b9 U8 [b8 aCn] [.c 11 U7 ahY]
theorem aCq:bw 243 F8:=bD U8 [b8 aCk] [.c 3 U5 ahX]
noncomputable def ag_:dn:=⟨(put (put .nil 1 .bW) 4 .bW),[aI sG]⟩
theorem azZ:bZ 244 0 ME:=b9 ag_ [] []
theorem az2:bw 244 Fy:=bD ag_ [b8 azZ] []
theorem azy:bw 213 Mx:=bD ⟨(put .nil 1 .bW),[aI ahi,aI aBY,aI aCq,aI az2]⟩ [] [.c 11 Uw agQ,.c 13 Uy agR,.c 15 UA agS,.c 17 UC agT,.c 27 UE agU]
noncomputable def U2:dn:=⟨(put .nil 3 .bW),[aI Bf]⟩
theorem aB1:bZ 214 0 Nk:=b9 U2 [] []
theorem aB4:bZ 214 1 Nl:=b9 U2 [] []
theorem aB7:bw 214 Nj:=bD U2 [b8 aB1,b8 aB4] [.c 10 U1 ahR]
theorem aBp:bw 215 M7:=bD ⟨(put .nil 1 .bW),[]⟩ [] []
noncomputable def agM:dn:=⟨(put .nil 1 .bW),[]⟩
theorem azc:bZ 149 0 Mv:=b9 agM [] []
theorem agL:bw 149 Fo:=bD agM [b8 azc] [.c 5 Us agJ]
noncomputable def UZ:dn:=⟨(put .nil 3 .bW),[aI agL,aI ain]⟩
theorem aBS:bZ 216 1 Nh:=b9 UZ [] []
theorem aBP:bZ 216 0 Ng:=b9 UZ [b8 aBS] []
theorem aBV:bw 216 Nf:=bD UZ [b8 aBP] []
noncomputable def ahN:dn:=⟨(put (put (put .nil 2 .bW) 5 .bW) 36 (.arr [false])),[aI MJ,aI Fj,aI ahD,aI aAy,aI aCf,aI azy,aI aB7,aI aBp,aI aBV]⟩
theorem aBI:bZ 176 0 Nd:=b9 ahN [] []
theorem aBL:bw 176 Nc:=bD ahN [b8 aBI] []
noncomputable def Mg:dn:=⟨(put (put .nil 3 .bW) 10 .bW),[aI Vg]⟩
theorem ayj:bZ 217 0 Md:=b9 Mg [] []
theorem ayp:bZ 217 2 Mf:=b9 Mg [] []
theorem aym:bZ 217 1 Me:=b9 Mg [b8 ayp] [.c 11 Uq agy]
theorem ays:bw 217 Mc:=bD Mg [b8 ayj,b8 aym] []
noncomputable def UH:dn:=⟨(put (put .nil 2 .bW) 5 .bW),[aI agL,aI aDc,aI Vg]⟩
theorem azF:bZ 100 1 Mz:=b9 UH [] []
theorem azC:bZ 100 0 My:=b9 UH [b8 azF] []
theorem agY:bw 100 Fs:=bD UH [b8 azC] [.c 7 UG agW]
noncomputable def ag7:dn:=⟨(put .nil 1 .bW),[]⟩
theorem azR:bZ 218 0 MD:=b9 ag7 [] []
theorem azU:bw 218 MC:=bD ag7 [b8 azR] [.c 5 UJ ag5]
theorem azX:bw 219 Bj:=bD ⟨(put .nil 4 .bW),[aI Fj]⟩ [] []
noncomputable def agI:dn:=⟨(put .nil 2 .bW),[]⟩
theorem ay7:bZ 245 0 Mu:=b9 agI [] []
theorem ay_:bw 245 Mt:=bD agI [b8 ay7] []
noncomputable def UQ:dn:=⟨(put (put (put .nil 2 .bW) 3 .bW) 24 .tok),[aI v7,aI aie,aI ay_]⟩
theorem aAV:bZ 220 0 MW:=b9 UQ [] []
theorem aAY:bZ 220 1 MX:=b9 UQ [] []
theorem aA1:bw 220 MV:=bD UQ [b8 aAV,b8 aAY] []
noncomputable def Nb:dn:=⟨(put (put (put .nil 4 .bW) 5 .bW) 9 .bW),[aI agY,aI v7,aI ays,aI azU,aI azX,aI aA1]⟩
theorem aBw:bZ 179 0 M_:=b9 Nb [] []
theorem aBz:bZ 179 1 M':=b9 Nb [] []
theorem aBC:bZ 179 2 Na:=b9 Nb [] []
theorem aBF:bw 179 M9:=bD Nb [b8 aBw,b8 aBz,b8 aBC] [.c 21 UW ahK]
noncomputable def Be:dn:=⟨(put (put .nil 1 .bW) 6 .bW),[aI OV,aI MJ,aI sG,aI Wp,aI aBL,aI Fj,aI ahD,aI aBF]⟩
theorem ayv:bZ 144 0 Mi:=b9 Be [] []
theorem ayy:bZ 144 1 Mj:=b9 Be [] []
theorem ayB:bZ 144 2 Mk:=b9 Be [] []
theorem ayH:bZ 144 4 Mm:=b9 Be [] []
theorem ayE:bZ 144 3 Ml:=b9 Be [b8 ayH] []
theorem ayK:bw 144 Mh:=bD Be [b8 ayv,b8 ayy,b8 ayB,b8 ayE] []
theorem aCw:bZ 228 0 Ns:=b9 fj [] []
theorem Gc:bw 228 xp:=bD fj [b8 aCw] []
noncomputable def ah2:dn:=⟨(put .nil 5 .bW),[aI Gc]⟩
theorem aCs:bZ 187 0 Nr:=b9 ah2 [] []
theorem Ga:bw 187 v5:=bD ah2 [b8 aCs] []
noncomputable def ag3:dn:=⟨(put (put (put .nil 2 .bW) 3 .bW) 8 .bW),[aI Wy,aI Ga]⟩
theorem azM:bZ 146 0 MB:=b9 ag3 [] []
theorem ag2:bw 146 Fv:=bD ag3 [b8 azM] []
noncomputable def ahx:dn:=⟨(put .nil 2 .bW),[]⟩
theorem aAK:bZ 229 0 MS:=b9 ahx [] []
theorem aAN:bw 229 FM:=bD ahx [b8 aAK] []
theorem aAo:bZ 256 0 MM:=b9 fj [] []
theorem aAr:bw 256 ML:=bD fj [b8 aAo] []
theorem UN:bw 235 Bl:=bD ⟨(put .nil 6 .bW),[aI aAr]⟩ [] []
theorem ahU:bw 249 F5:=bD ⟨(put (put (put .nil 4 .bW) 5 .bW) 12 .bW),[aI UN]⟩ [] []
noncomputable def ahf:dn:=⟨(put .nil 2 .bW),[]⟩
theorem aAd:bZ 250 0 MI:=b9 ahf [] []
theorem ahe:bw 250 Bk:=bD ahf [b8 aAd] []
noncomputable def UP:dn:=⟨(put (put (put (put (put (put .nil 3 .bW) 4 .bW) 8 .bW) 12 .bW) 16 .bW) 17 .bW),[aI Ga,aI Gc,aI ahU,aI ahe]⟩
theorem aAB:bZ 230 0 MQ:=b9 UP [] []
theorem aAE:bZ 230 1 MR:=b9 UP [] []
theorem aAH:bw 230 MP:=bD UP [b8 aAB,b8 aAE] []
theorem UX:bw 251 Bm:=bD ⟨(put .nil 3 .bW),[aI aCL]⟩ [] []
theorem aAb:bw 252 FC:=bD fj [] []
theorem aBd:bw 231 M3:=bD ⟨(put (put .nil 3 .bW) 4 .bW),[aI Ga,aI UX,aI aAb]⟩ [] [.c 7 US ahF]
theorem ahr:bw 253 FI:=bD ⟨(put (put .nil 3 .bW) 9 .bW),[aI UN]⟩ [] []
theorem aBs:bw 232 M8:=bD ⟨(put (put (put (put (put .nil 4 .bW) 5 .bW) 6 .bW) 10 .bW) 12 .bW),[aI Ga,aI Gc,aI ahU,aI ahe,aI UX,aI ahr,aI WB]⟩ [] []
noncomputable def ahn:dn:=⟨(put (put (put .nil 5 .bW) 6 .bW) 14 .bW),[aI Wy,aI Gc,aI UX,aI ahr,aI WB]⟩
theorem aAk:bZ 233 0 MK:=b9 ahn [] []
theorem ahm:bw 233 FF:=bD ahn [b8 aAk] []
noncomputable def ahA:dn:=⟨(put (put (put (put (put .nil 5 .bW) 6 .bW) 7 .bW) 8 .bW) 15 .bW),[aI Fj,aI Wy,aI Ga,aI ahm,aI WB,aI aIo]⟩
theorem aAP:bZ 234 0 MU:=b9 ahA [] []
theorem aAS:bw 234 MT:=bD ahA [b8 aAP] []
theorem ayf:bw 188 Mb:=bD ⟨(put (put (put (put .nil 5 .bW) 6 .bW) 7 .bW) 8 .bW),[aI Fj,aI Gc,aI aAN,aI aAH,aI aBd,aI aBs,aI ahm,aI aAS,aI UN]⟩ [] [.c 7 Uk agu,.c 37 Um agv,.c 53 Uo agw]
noncomputable def UT:dn:=⟨(put (put (put (put .nil 3 .bW) 4 .bW) 8 .bW) 25 (.arr [false,false])),[aI Bf,aI ag2,aI MJ,aI ayf]⟩
theorem aBj:bZ 148 1 M6:=b9 UT [] []
theorem aBg:bZ 148 0 M5:=b9 UT [b8 aBj] []
theorem aBm:bw 148 M4:=bD UT [b8 aBg] []
noncomputable def UL:dn:=⟨(put (put (put (put (put .nil 1 .bW) 5 .bW) 6 .bW) 7 .bW) 14 .bW),[aI ayK,aI aHM,aI ag2,aI MJ,aI aBm]⟩
theorem az4:bZ 99 0 MG:=b9 UL [] []
theorem az7:bZ 99 1 MH:=b9 UL [] []
theorem az_:bw 99 MF:=bD UL [b8 az4,b8 az7] []
theorem azJ:bw 46 MA:=bD ⟨(put (put (put .nil 1 .bW) 4 .bW) 6 .bW),[aI az_]⟩ [] []
theorem ayT:bZ 47 0 Mq:=b9 fj [] []
theorem ayW:bw 47 Mp:=bD fj [b8 ayT] []
theorem ayN:bZ 48 0 Mo:=b9 fj [] []
theorem ayQ:bw 48 Mn:=bD fj [b8 ayN] []
noncomputable def agP:dn:=⟨(put (put .nil 2 .bW) 3 .bW),[aI aIA,aI aka]⟩
theorem azo:bZ 42 0 Bi:=b9 agP [] []
theorem azr:bw 42 Mw:=bD agP [b8 azo] []
theorem azh:bZ 172 0 Bh:=b9 fj [] []
theorem azk:bw 172 Fq:=bD fj [b8 azh] []
end cx
end Go.Proofs.YtgmdfchkljaooaaGreat
