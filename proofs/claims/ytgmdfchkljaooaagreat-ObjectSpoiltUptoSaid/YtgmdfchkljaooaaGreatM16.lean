/- The typed functions come to something (printed by gen/twokrun.py). -/
import Derived.Laws.BitsAllLaws
import Derived.Test.YtgmdfchkljaooaaGreatM01
import Derived.Test.YtgmdfchkljaooaaGreatM09
import Derived.Test.YtgmdfchkljaooaaGreatM11
import Derived.Test.YtgmdfchkljaooaaGreatM15
noncomputable section
namespace Go.Proofs.YtgmdfchkljaooaaGreat
namespace cB
set_option linter.unusedVariables false
set_option linter.unusedSimpArgs false
set_option maxRecDepth 100000
structure tw (aIk:List (D ck)) (st:List (D bz)) (vs:List (D eP)) (g6:List (D [.aH [.str]])) (rg ze:List (D [.aH [.int .i64]])):Prop where
  Zl:vs.length=st.length
  li:g6.length=st.length
  IS:rg.length=st.length
  IL:ze.length=st.length
  ah7:∀(j:Nat) (i:D [.aH [.str]]),g6[j]? =some i->i.1.1.length<=ea rg j
  own:∀(j:Nat) (s:D bz) (i:D [.aH [.str]]),st[j]? =some s->g6[j]? =some i->s.1.1=4\/s.1.1=5\/s.1.1=9->jR i.1.1 s.2.1
  ch:∀(j:Nat) (v:D eP) (i:D [.aH [.str]]) (k:Nat) (e:D c_),vs[j]? =some v->g6[j]? =some i->v.2.1.1[k]? =some e->e.2.1.1=5->jR i.1.1 e.1
  iw:∀(j:Nat) (s:D bz),st[j]? =some s->ea ze j=(fF s).length
  aip:∀(j:Nat) (s:D bz),st[j]? =some s->n_ s/\A7 aIk s/\(s.1.1=1\/s.1.1=2\/s.1.1=3->s.2.2.2.2.2.1.1≠-1)
def OJ (c:D fV):Prop:=c.1.1.size<=12/\c.2.1.1.size<=12/\c.2.2.1.1.length<=6
theorem Fg:∀x:U af9,(tw x.2.1.2.2.1.1 x.2.1.2.2.2.1.1 x.2.1.2.2.2.2.1.1 x.2.1.2.2.2.2.2.1.1 x.2.1.2.2.2.2.2.2.1.1 x.2.1.2.2.2.2.2.2.2.1.1/\(0<=x.1.2.1.1/\x.1.2.1.1<x.2.1.2.2.2.1.1.length)/\sv x.2.1.2.2.1.1 (x.1.2.2.1,())/\x.2.1.2.2.1.1.length<=160/\x.2.2.1.1.length<=900000)->aL (wD x) (λy=>y.2.1=x.2.1/\hO x.2.2.1.1 y.2.2.2.1.1 160):=by
 intro x aD;unfold wD;obtain⟨aa,⟨ae,az⟩,a9,cE,dm⟩:=aD;have li:=aa.li;have IS:=aa.IS;refine bk λaE cL=> ?_;refine bk λaX df=> ?_;have cF:=s0 df;have cm:=aa.ah7 _ _ cL;refine af (aCs _ ⟨⟨⟨160,a9.2.2,by show 0+160<=1000000;decide⟩,by dsimp only;omega⟩,cE⟩) λa1 cq=> ?_;dsimp only at cq;have dy:hO [] a1.1.1.1 160:=by
  by_cases ay:a1.1.2.1=true;exact cq.1 ay 160 a9.2.2;rw[cq.2 (by simpa using ay)];exact hO.refl
 have e8:=dy.len;simp only[dw] at e8;refine af (dv ab) λkx ox=> ?_;exact an (by(dsimp only)<;>(refine⟨rfl, ?_⟩;obtain⟨t,t1,t2,t3⟩:=dy;rw[List.nil_append] at t1;exact⟨t,by rw[ox.1,t1],t2,t3⟩))
theorem aCR:∀x:U Fu,((True)/\((0<=x.1.2.2.2.1.1)/\(x.1.2.2.2.1.1<=((x.1.1.1.length:Nat):Int))))->aL (a_ MB x) (Sum.elim (λy=>True) (λy=>∃(j:Nat) (e:D c_),x.1.1.1[j]? =some e/\e.1=x.1.2.1/\y.2.1.1=e.2.1/\y.1.1=true)):=by
 rintro x ⟨aq,aj⟩;exact cJ (λz:U Fu=>∃v6,z=((x.1.1,x.1.2.1,(),v6,()),(x.2.1,()))/\((0<=v6.1)/\(v6.1<=((x.1.1.1.length:Nat):Int)))) (λz:U Fu=>(((x.1.1.1.length:Nat):Int)-z.1.2.2.2.1.1).toNat) (λz ax=>by
  obtain⟨v6,rfl,aD⟩:=ax;unfold MB;dsimp only
  have jZ:=L.b x.1.1;apply ah<;>intro aC<;>simp only[av] at aC;refine bk λaE cL=> ?_;apply ah<;>intro aT<;>simp only[av] at aT;refine bk λaX df=> ?_;rw[cL] at df;cases df;exact ba ⟨_,_,cL,aT,rfl,rfl⟩;exact bG ⟨⟨_,rfl,dA⟩,dR⟩;exact ba cw) x ⟨_,rfl,aj⟩
theorem aCU:∀x:U agp,(True)->aL (MA x) (λy=>y.1.2.1=true->∃(j:Nat) (e:D c_),x.1.1.1[j]? =some e/\e.1=x.1.2.1/\y.1.1.1=e.2.1):=by
 intro x aD;unfold MA;refine af (aCR _ (by(dsimp only)<;>(and_intros<;>(intros)<;>first|exact aY|(simp only[aI,b5] at*<;>omega)))) λa1 cq=> ?_;dsimp only at cq;refine dZ cq (λa2 c9=> ?_) (λbf cU=> ?_);exact an nofun
 exact an (by(dsimp only)<;>(intro ay;(obtain⟨j,e,cm,cF,dy,_⟩:=cU;exact⟨j,e,cm,cF,dy⟩)))
theorem Ax:∀x:U af',(tw x.2.1.2.2.1.1 x.2.1.2.2.2.1.1 x.2.1.2.2.2.2.1.1 x.2.1.2.2.2.2.2.1.1 x.2.1.2.2.2.2.2.2.1.1 x.2.1.2.2.2.2.2.2.2.1.1/\(0<=x.1.2.1.1/\x.1.2.1.1<x.2.1.2.2.2.1.1.length)/\∀i:D [.aH [.str]],x.2.1.2.2.2.2.2.1.1[x.1.2.1.1.toNat]? =some i->jR i.1.1 x.1.2.2.1)->aL (vr x) (λy=>y.2.1=x.2.1/\y.2.2.2.1=x.2.2.1):=by
 intro x aD;unfold vr;obtain⟨aa,⟨ae,az⟩,a9⟩:=aD;have li:=aa.li;have IS:=aa.IS;refine bk λaE cL=> ?_;have cm:=s0 cL;refine bk λaX df=> ?_;have cF:=aa.ah7 _ _ df;have dy:=a9 _ df;refine af (LU _ aY) λa1 cq=> ?_;dsimp only at cq;obtain⟨eL,fw,gS,_⟩:=cq;have lW:=gS dy;refine bk λcM fA=> ?_;exact an ⟨rfl,rfl⟩
theorem af4:∀x:U af2,(tw x.2.1.2.2.1.1 x.2.1.2.2.2.1.1 x.2.1.2.2.2.2.1.1 x.2.1.2.2.2.2.2.1.1 x.2.1.2.2.2.2.2.2.1.1 x.2.1.2.2.2.2.2.2.2.1.1/\(0<=x.1.2.1.1/\x.1.2.1.1<x.2.1.2.2.2.1.1.length)/\0<=x.1.2.2.1.1/\x.1.2.2.1.1<x.2.1.2.2.1.1.length)->aL (Fe x) (λy=>y.2.1=x.2.1/\y.2.2.2.1=x.2.2.1):=by
 intro x aD;unfold Fe;obtain⟨aa,⟨ae,az⟩,a9,cE⟩:=aD;have Zl:=aa.Zl;refine bk λaE cL=> ?_;refine bk λaX df=> ?_;refine af (aCU _ aY) λa1 cq=> ?_;dsimp only at cq;apply ah<;>intro aC<;>simp only[av] at aC;exact an ⟨rfl,rfl⟩;apply ah<;>intro aT<;>simp only[av] at aT;exact an ⟨rfl,rfl⟩;apply ah<;>intro bJ<;>simp only[av] at bJ;exact an ⟨rfl,rfl⟩;refine af (Ax _ ⟨aa,⟨ae,az⟩,λi aj=>(by obtain⟨j,e,cm,cF,dy⟩:=cq (by assumption);rw[<-cF];exact aa.ch _ _ _ _ _ df aj cm (by rw[<-dy];simp only[aI] at*;omega))⟩) λa2 c9=> ?_;dsimp only at c9;exact an c9
theorem aBQ:∀x:U Ff,((tw x.2.1.2.2.1.1 x.2.1.2.2.2.1.1 x.2.1.2.2.2.2.1.1 x.2.1.2.2.2.2.2.1.1 x.2.1.2.2.2.2.2.2.1.1 x.2.1.2.2.2.2.2.2.2.1.1/\(0<=x.1.2.1.1/\x.1.2.1.1<x.2.1.2.2.2.1.1.length)/\aK (sv x.2.1.2.2.1.1) x.1.2.2.1.1/\x.2.1.2.2.1.1.length<=160/\x.1.2.2.1.1.length<=6/\x.2.2.1.1.length<=890000/\x.1.2.2.2.1.1.length=0/\x.1.2.2.2.2.1.1=0)/\((0<=x.1.2.2.2.2.1.1)/\(x.1.2.2.2.2.1.1<=((x.1.2.2.1.1.length:Nat):Int))/\(x.2.1=x.2.1/\hO x.2.2.1.1 x.2.2.1.1 (160*x.1.2.2.2.2.1.1.toNat)/\(x.1.2.2.2.1.1.length:Int)=x.1.2.2.2.2.1.1)))->aL (a_ Mh x) (λy=>y.2.1=x.2.1/\hO x.2.2.1.1 y.2.2.2.2.2.1.1 960/\y.1.1.1.length=x.1.2.2.1.1.length):=by
 rintro x ⟨aq,aj⟩;exact cJ (λz:U Ff=>∃dN,∃dj,∃cH,∃cR,z=(((),x.1.2.1,x.1.2.2.1,dN,dj,()),(cH,cR,(),()))/\((0<=dj.1)/\(dj.1<=((x.1.2.2.1.1.length:Nat):Int))/\(cH=x.2.1/\hO x.2.2.1.1 cR.1 (160*dj.1.toNat)/\(dN.1.length:Int)=dj.1))) (λz:U Ff=>(((x.1.2.2.1.1.length:Nat):Int)-z.1.2.2.2.2.1.1).toNat) (λz ax=>by
  obtain⟨dN,dj,cH,cR,rfl,aD⟩:=ax;unfold Mh;dsimp only
  obtain⟨bo,cO,bD,cz,fY⟩:=aD;obtain⟨cN,dq,eJ,iD,lu,my,rG,w6⟩:=aq;subst bD;have hM:=cz.len;have zI:=L.b x.1.2.2.1;apply ah<;>intro aC<;>simp only[av] at aC;refine bk λaE cL=> ?_;have dE:=eJ _ _ cL;refine af (af4 _ (by(dsimp only)<;>(exact⟨cN,dq,dE.1,dE.2.1⟩))) λaG cn=> ?_;dsimp only at cn;obtain⟨eL,fw⟩:=cn;rw[eL,fw];apply ah<;>intro aT<;>simp only[av] at aT;refine bk λbL eT=> ?_;rw[cL] at eT;cases eT;refine af (Fg _ (by(dsimp only)<;>(exact⟨cN,dq,dE,iD,ab⟩))) λa2 c9=> ?_;dsimp only at c9;obtain⟨gS,lW⟩:=c9;refine af (dv k2) λgv kU=> ?_;exact bG ⟨⟨_,_,_,_,rfl,(by(have aA:=dK dj bo ab;have bH:(dj.1+1).toNat=dj.1.toNat+1:=ab;rw[aA,bH];(exact⟨ab,ab,gS,(cz.trans lW).mono ab,by rw[kU.2];simp only[b5];omega⟩)))⟩,(by(dsimp only)<;>(have aA:=dK dj bo ab;rw[aA];omega))⟩;refine af (dv k2) λmE v5=> ?_;exact bG ⟨⟨_,_,_,_,rfl,(by(have aA:=dK dj bo ab;have bH:(dj.1+1).toNat=dj.1.toNat+1:=ab;rw[aA,bH];(exact⟨ab,ab,rfl,cz.mono ab,by rw[v5.2];simp only[b5];omega⟩)))⟩,(by(dsimp only)<;>(have aA:=dK dj bo ab;rw[aA];omega))⟩;exact ba (by(dsimp only[Sum.elim])<;>(exact⟨rfl,cz.mono ab,ab⟩))) x ⟨_,_,_,_,rfl,aj⟩
theorem Tt:∀x:U af5,(tw x.2.1.2.2.1.1 x.2.1.2.2.2.1.1 x.2.1.2.2.2.2.1.1 x.2.1.2.2.2.2.2.1.1 x.2.1.2.2.2.2.2.2.1.1 x.2.1.2.2.2.2.2.2.2.1.1/\(0<=x.1.2.1.1/\x.1.2.1.1<x.2.1.2.2.2.1.1.length)/\aK (sv x.2.1.2.2.1.1) x.1.2.2.1.1/\x.2.1.2.2.1.1.length<=160/\x.1.2.2.1.1.length<=6/\x.2.2.1.1.length<=890000)->aL (Av x) (λy=>y.2.1=x.2.1/\hO x.2.2.1.1 y.2.2.2.1.1 960/\y.1.1.1.length=x.1.2.2.1.1.length):=by
 intro x aD;unfold Av;obtain⟨aa,ae,az,a9,cE,dm⟩:=aD;refine af (aBQ _ (by(dsimp only)<;>(exact⟨⟨aa,ae,az,a9,cE,dm,rfl,rfl⟩,bp,by have i0:(W 0).1=0:=rfl;rw[i0];omega,rfl,hO.refl,rfl⟩))) λbU en=> ?_;dsimp only at en;exact an (by(dsimp only)<;>(exact en))
theorem aBI:∀x:U Fc,((tw x.2.1.2.2.1.1 x.2.1.2.2.2.1.1 x.2.1.2.2.2.2.1.1 x.2.1.2.2.2.2.2.1.1 x.2.1.2.2.2.2.2.2.1.1 x.2.1.2.2.2.2.2.2.2.1.1/\(0<=x.1.2.1.1/\x.1.2.1.1<x.2.1.2.2.2.1.1.length)/\n_ x.1.2.2.1/\A7 x.2.1.2.2.1.1 x.1.2.2.1/\x.2.1.2.2.1.1.length<=160/\x.2.2.1.1.length<=880000/\x.2.2.2.1.2.2.2.2.2.2.2.2.1.1=[]/\x.1.2.2.2.2.1.1=0)/\((0<=x.1.2.2.2.2.1.1)/\(x.1.2.2.2.2.1.1<=((x.1.2.2.1.2.2.2.2.2.2.2.1.1.length:Nat):Int))/\(x.2.1=x.2.1/\hO x.2.2.1.1 x.2.2.1.1 (960*x.1.2.2.2.2.1.1.toNat)/\(x.2.2.2.1.2.2.2.2.2.2.2.2.1.1.length:Int)=x.1.2.2.2.2.1.1/\aK OJ x.2.2.2.1.2.2.2.2.2.2.2.2.1.1)))->aL (a_ Mg x) (λy=>y.2.1=x.2.1/\hO x.2.2.1.1 y.2.2.2.2.2.1.1 3840/\y.2.2.2.1.2.2.2.2.2.2.2.2.1.1.length<=4/\aK OJ y.2.2.2.1.2.2.2.2.2.2.2.2.1.1/\y.2.2.2.1.2.2.2.2.1=x.2.2.2.1.2.2.2.2.1/\y.2.2.2.1.2.2.2.2.2.1=x.2.2.2.1.2.2.2.2.2.1):=by
 rintro x ⟨aq,aj⟩;exact cJ (λz:U Fc=>∃v10,∃cH,∃cR,∃Hj,z=(((),x.1.2.1,x.1.2.2.1,(),v10,()),(cH,cR,(x.2.2.2.1.1,x.2.2.2.1.2.1,x.2.2.2.1.2.2.1,x.2.2.2.1.2.2.2.1,x.2.2.2.1.2.2.2.2.1,x.2.2.2.1.2.2.2.2.2.1,(),(),Hj,()),(),()))/\((0<=v10.1)/\(v10.1<=((x.1.2.2.1.2.2.2.2.2.2.2.1.1.length:Nat):Int))/\(cH=x.2.1/\hO x.2.2.1.1 cR.1 (960*v10.1.toNat)/\(Hj.1.length:Int)=v10.1/\aK OJ Hj.1))) (λz:U Fc=>(((x.1.2.2.1.2.2.2.2.2.2.2.1.1.length:Nat):Int)-z.1.2.2.2.2.1.1).toNat) (λz ax=>by
  obtain⟨v10,cH,cR,Hj,rfl,aD⟩:=ax;unfold Mg;dsimp only
  obtain⟨bo,cO,bD,cz,fY,hM⟩:=aD;obtain⟨cN,dq,eJ,iD,lu,my,rG,w6⟩:=aq;subst bD;have lT:=cz.len;have ei:=eJ.iD;have aJP:=L.b x.1.2.2.1.2.2.2.2.2.2.2.1;apply ah<;>intro aC<;>simp only[av] at aC;refine bk λkp lC=> ?_;have dE:=eJ.cs _ _ lC;have dc:=eJ.cp _ _ lC;have gT:=iD.c _ _ lC;refine bk λkq o7=> ?_;rw[lC] at o7;cases o7;refine bk λpU qZ=> ?_;rw[lC] at qZ;cases qZ;refine af (Tt _ (by(dsimp only)<;>(exact⟨cN,dq,gT,lu,dE.2,ab⟩))) λga kI=> ?_;dsimp only at kI;obtain⟨eL,fw,gS⟩:=kI;refine af (dv k2) λwk xI=> ?_;exact bG ⟨⟨_,_,_,_,rfl,(by(have aA:=dK v10 bo ab;have bH:(v10.1+1).toNat=v10.1.toNat+1:=ab;rw[aA,bH];exact⟨ab,ab,eL,(cz.trans fw).mono ab,by rw[xI.2];simp only[b5];omega,by rw[xI.1,fT (by simp)];exact hM.append (aK.one ⟨dE.1,dc,by rw[gS];exact dE.2⟩)⟩))⟩,(by(dsimp only)<;>(have aA:=dK v10 bo ab;rw[aA];omega))⟩;exact ba (by(dsimp only[Sum.elim])<;>(exact⟨rfl,cz.mono ab,ab,hM,rfl,rfl⟩))) x ⟨_,_,_,_,rfl,aj⟩
theorem aBL:∀x:U af0,(tw x.2.1.2.2.1.1 x.2.1.2.2.2.1.1 x.2.1.2.2.2.2.1.1 x.2.1.2.2.2.2.2.1.1 x.2.1.2.2.2.2.2.2.1.1 x.2.1.2.2.2.2.2.2.2.1.1/\(0<=x.1.2.1.1/\x.1.2.1.1<x.2.1.2.2.2.1.1.length)/\x.2.1.2.2.1.1.length<=160/\x.2.2.1.1.length<=880000)->aL (Mf x) (λy=>y.2.1=x.2.1/\hO x.2.2.1.1 y.2.2.2.1.1 3999/\k0 0 y.1.1/\y.1.1.2.2.2.2.2.2.2.1=L.nil):=by
 intro x aD;unfold Mf;obtain⟨aa,ae,az,a9⟩:=aD;obtain⟨cE,dm⟩:=ae;have li:=aa.li;have IL:=aa.IL;refine bk λaE cL=> ?_;obtain⟨dz,bS,e7⟩:=aa.aip _ _ cL;have p7:=dz.p7;have bq:=dz.bq;apply ah<;>intro aC<;>simp only[av] at aC;exact an (by(dsimp only)<;>(exact⟨rfl,hO.refl,k0.plain fQ fQ,rfl⟩));apply ah<;>intro aT<;>simp only[av] at aT;exact an (by(dsimp only)<;>(exact⟨rfl,hO.refl,k0.plain fQ fQ,rfl⟩));apply ah<;>intro bJ<;>simp only[av] at bJ;refine af (Fg _ (by(dsimp only)<;>(exact⟨aa,⟨cE,dm⟩,bS.t (e7 ab),az,ab⟩))) λaG cn=> ?_;dsimp only at cn;obtain⟨eL,fw⟩:=cn;rw[eL];refine bk λbL eT=> ?_;have dy:=aa.iw _ _ cL;rw[s0 eT,Rr dz ab ab ab ab ab] at dy;refine af (eG (by(have i0:(W 0).1=0:=rfl;rw[i0];omega))) λcM fA=> ?_;exact an (by(dsimp only)<;>(exact⟨rfl,fw.mono ab,k0.plain fQ fQ,rfl⟩));apply ah<;>intro c7<;>simp only[av] at c7;refine af (Fg _ (by(dsimp only)<;>(exact⟨aa,⟨cE,dm⟩,bS.t (e7 ab),az,ab⟩))) λbf cU=> ?_;dsimp only at cU;obtain⟨eL,fw⟩:=cU;exact an (by(dsimp only)<;>(exact⟨eL,fw.mono ab,k0.plain fQ fQ,rfl⟩));apply ah<;>intro dM<;>simp only[av] at dM;refine af (Fg _ (by(dsimp only)<;>(exact⟨aa,⟨cE,dm⟩,bS.t (e7 ab),az,ab⟩))) λbO dB=> ?_;dsimp only at dB;obtain⟨eL,fw⟩:=dB;exact an (by(dsimp only)<;>(exact⟨eL,fw.mono ab,k0.plain fQ fQ,rfl⟩));apply ah<;>intro fH<;>simp only[av] at fH;apply ah<;>intro gF<;>simp only[av] at gF;refine af (af4 _ (by(dsimp only)<;>(exact⟨aa,⟨cE,dm⟩,(bS.t ab).1,(bS.t ab).2.1⟩))) λbU en=> ?_;dsimp only at en;obtain⟨eL,fw⟩:=en;rw[eL,fw];apply ah<;>intro iy<;>simp only[av] at iy;refine af (Fg _ (by(dsimp only)<;>(exact⟨aa,⟨cE,dm⟩,bS.t ab,az,ab⟩))) λcD eY=> ?_;dsimp only at eY;obtain⟨gS,lW⟩:=eY;rw[gS];refine af (Ax _ (by(dsimp only)<;>(exact⟨aa,⟨cE,dm⟩,λi aj=>aa.own _ _ _ cL aj ab⟩))) λbV dV=> ?_;dsimp only at dV;obtain⟨jC,m4⟩:=dV;rw[jC,m4];exact an (by(dsimp only)<;>(exact⟨rfl,lW.mono ab,k0.plain (ij dz.peer bp) (ij dz.label bp),rfl⟩));refine af (Ax _ (by(dsimp only)<;>(exact⟨aa,⟨cE,dm⟩,λi aj=>aa.own _ _ _ cL aj ab⟩))) λcu eZ=> ?_;dsimp only at eZ;obtain⟨jC,m4⟩:=eZ;rw[jC,m4];exact an (by(dsimp only)<;>(exact⟨rfl,hO.refl,k0.plain (ij dz.peer bp) (ij dz.label bp),rfl⟩));refine af (Ax _ (by(dsimp only)<;>(exact⟨aa,⟨cE,dm⟩,λi aj=>aa.own _ _ _ cL aj ab⟩))) λb6 eU=> ?_;dsimp only at eU;obtain⟨jC,m4⟩:=eU;rw[jC,m4];exact an (by(dsimp only)<;>(exact⟨rfl,hO.refl,k0.plain (ij dz.peer bp) (ij dz.label bp),rfl⟩));apply ah<;>intro kG<;>simp only[av] at kG;refine af (Ax _ (by(dsimp only)<;>(exact⟨aa,⟨cE,dm⟩,λi aj=>aa.own _ _ _ cL aj ab⟩))) λcS eV=> ?_;dsimp only at eV;obtain⟨jC,m4⟩:=eV;rw[jC,m4];exact an (by(dsimp only)<;>(exact⟨rfl,hO.refl,k0.plain (ij dz.peer bp) fQ,rfl⟩));apply ah<;>intro m1<;>simp only[av] at m1;refine af (Tt _ (by(dsimp only)<;>(exact⟨aa,⟨cE,dm⟩,bS.a,az,dz.args,ab⟩))) λcG fm=> ?_;dsimp only at fm;obtain⟨jC,m4,DF⟩:=fm;rw[jC];exact an (by(dsimp only)<;>(exact⟨rfl,m4.mono ab,⟨ij dz.Aa bp,fQ,by rw[DF];exact dz.args,Nat.zero_le _,aK.nil,Nat.zero_le _,aK.nil⟩,rfl⟩));apply ah<;>intro ou<;>simp only[av] at ou;refine af (Tt _ (by(dsimp only)<;>(exact⟨aa,⟨cE,dm⟩,bS.a,az,dz.args,ab⟩))) λev ji=> ?_;dsimp only at ji;obtain⟨jC,m4,DF⟩:=ji;rw[jC];exact an (by(dsimp only)<;>(exact⟨rfl,m4.mono ab,⟨ij dz.Aa bp,fQ,by rw[DF];exact dz.args,Nat.zero_le _,aK.nil,Nat.zero_le _,aK.nil⟩,rfl⟩));apply ah<;>intro qY<;>simp only[av] at qY;refine bk λjx ow=> ?_;have dy:=aa.iw _ _ cL;rw[s0 ow,Rr dz ab ab ab ab ab] at dy;refine af (eG (by(have i0:(W 0).1=0:=rfl;rw[i0];omega))) λik jX=> ?_;refine af (aBI _ (by(dsimp only)<;>(exact⟨⟨aa,⟨cE,dm⟩,dz,bS,az,a9,rfl,rfl⟩,bp,by have i0:(W 0).1=0:=rfl;rw[i0];omega,rfl,hO.refl,rfl,aK.nil⟩))) λe9 m2=> ?_;dsimp only at m2;obtain⟨eL,fw,gS,lW,jC,m4⟩:=m2;rw[eL];exact an (by(dsimp only)<;>(exact⟨rfl,fw.mono ab,⟨by rw[jC];exact ij dz.label bp,by rw[m4];exact ij dz.peer bp,Nat.zero_le _,Nat.zero_le _,aK.nil,gS,lW⟩,rfl⟩));refine af (Ax _ (by(dsimp only)<;>(exact⟨aa,⟨cE,dm⟩,λi aj=>aa.own _ _ _ cL aj ab⟩))) λmn rZ=> ?_;dsimp only at rZ;obtain⟨jC,m4⟩:=rZ;rw[jC,m4];exact an (by(dsimp only)<;>(exact⟨rfl,hO.refl,k0.plain fQ fQ,rfl⟩))
def OU (st:List (D bz)) (w:Nat->Nat):Prop:=(∀a,w a<=80)/\∀(a:Nat) (s:D bz),st[a]? =some s->1+((fF s).map λe=>w e.1.1.toNat).sum<=w a
theorem n7.wt {q up} (h:n7 q up):∃w,OU q.2.2.2.1.1 w:=by
 have zB:∀(a i c:Nat) (s:D bz),q.2.2.2.1.1[a]? =some s->((fF s).map λe=>e.1.1.toNat)[i]? =some c->a<c/\c<q.2.2.2.1.1.length/\oT q.2.2.2.1.1 a i c:=λa i c s aU aq=>by
  rw[List.getElem?_map] at aq;cases he:(fF s)[i]? with
  |none=>rw[he] at aq;cases aq
  |some e=>
   rw[he] at aq;have aq:some e.1.1.toNat=some c:=aq;cases aq;have:=(h.ss a s aU).dY i e he;exact⟨ab,ab,s,e,aU,he,ab,ab⟩
 obtain⟨w,hw,aU⟩:=weight (n:=q.2.2.2.1.1.length) (ch:=λa=>match q.2.2.2.1.1[a]? with|some s=>(fF s).map λe=>e.1.1.toNat|none=>[]) (ρ:=id) (λa c aq=>by
  dsimp only at aq;split at aq;rename_i s aU;obtain⟨i,aj⟩:=List.getElem?_of_mem aq;exact(zB a i c s aU aj).1;cases aq) (λa b i j c aa ae=>by
  dsimp only at aa ae;split at aa;rename_i s aU;split at ae;rename_i ep pc;obtain⟨gW,fU,jo⟩:=zB a i c s aU aa;obtain⟨_,_,mm⟩:=zB b j c ep pc ae;obtain⟨v,jD,kj⟩:=(h.ss c _ (e_ fU)).up ab;exact h.Kl.u c v jD kj _ _ _ _ jo mm;simp at ae;simp at aa)
 refine⟨w,λa=>ij (hw a) h.s2,λa s Yo=> ?_⟩;have:=aU a (ed.1 Yo).1;rw[Yo] at this;dsimp only at this;rw[List.map_map] at this;exact this
def wr (w:Nat->Nat) (s:D bz) (i:Nat):Nat:=(((fF s).drop i).map λe=>w e.1.1.toNat).sum
theorem aIF {w s i} {e:D [.int .i64]} (h:(fF s)[i]? =some e):wr w s i=w e.1.1.toNat+wr w s (i+1):=by
 have bK:=(ed.1 h).1;unfold wr;rw[List.drop_eq_getElem_cons bK,(ed.1 h).2];rfl
theorem Oc {α:Type} {c t:List α} {a b:α} {n:Nat} (h:n=c.length):(c++a::t).set n b=c++b::t:=by
 subst h;rw[List.set_append_right _ _ (Nat.le_refl _),Nat.sub_self];rfl
theorem PR {α:Type} {c t:List α} {a:α} {n:Nat} (h:n=c.length):(c++a::t)[n]? =some a:=by
 subst h;rw[l8 (Nat.le_refl _),Nat.sub_self];rfl
theorem XO {n c:Nat} (h:n=c+1) (ai:c<=1000000):(gf (W (n:Nat)) (W 1)).1=c:=by simp only[aI];omega
def G3 (w:Nat->Nat) (n:Nat) (x:U ur):Prop:=tw x.2.1.2.2.1.1 x.2.1.2.2.2.1.1 x.2.1.2.2.2.2.1.1 x.2.1.2.2.2.2.2.1.1 x.2.1.2.2.2.2.2.2.1.1 x.2.1.2.2.2.2.2.2.2.1.1/\(0<=x.1.2.1.1/\x.1.2.1.1<x.2.1.2.2.2.1.1.length)/\x.2.1.2.2.1.1.length<=160/\x.2.1.2.2.2.1.1.length<=x.1.2.1.1+n/\(∀(j:Nat) (s:D bz),x.2.1.2.2.2.1.1[j]? =some s->aK (λe:D [.int .i64]=>(j:Int)<e.1.1/\e.1.1<x.2.1.2.2.2.1.1.length) (fF s))/\OU x.2.1.2.2.2.1.1 w/\x.2.2.1.1.length+4000*w x.1.2.1.1.toNat<=400000
theorem aBB (w:Nat->Nat):∀(n:Nat) (x:U ur),G3 w n x->aL (wC n x) (λy=>y.2.1=x.2.1/\hO x.2.2.1.1 y.2.2.2.1.1 (4000*w x.1.2.1.1.toNat)):=by
 intro n;induction n with
 |zero=>
  intro x fE;obtain⟨_,aa,_,ae,_⟩:=fE;omega
 |succ n b_=>
  intro x fE;obtain⟨gQ,⟨bl,bK⟩,bH,aA,bZ,rN,aq⟩:=fE;show aL (Mi (wC n) x) _;unfold Mi;refine af (eG ⟨bl,bK⟩) λaE cL=> ?_;obtain⟨dz,bS,e7⟩:=gQ.aip _ _ cL;have hw:=rN.2 _ _ cL;have mK:=dz.mK;have aqG:=Rq aE;refine af (aBL _ ⟨gQ,⟨bl,bK⟩,bH,by dsimp only;omega⟩) λaG cn=> ?_;obtain⟨eL,fw,gS,lW⟩:=cn;have jC:=fw.len;refine af (dv (by simp only[b5];dsimp only at jC;omega)) λcf k9=> ?_;obtain⟨Y9,Y_⟩:=k9;rw[fT (by simp)] at Y9;simp only[b5] at Y_;refine af (Ak _ (by dsimp only;omega)) λa2 c9=> ?_;dsimp only at c9;have amd:(gf (W (cf.1.length:Nat)) (W 1)).1=aG.2.2.2.1.1.length:=XO Y_ (by dsimp only at jC;omega);refine af (cJ (h:=Mj (wC n)) (R:=λy=>y.2.1=x.2.1/\∃ins t,y.2.2.2.2.1.1=aG.2.2.2.1.1++ins::t/\k0 8 ins/\aK vA t/\t.length<=4000*wr w aE 0)
   (λz=>z.1.2.1=x.1.2.1/\z.2.1=x.2.1/\z.1.2.2.2.1.1=aG.2.2.2.1.1.length/\z.1.2.2.2.2.1=a2.1.1/\0<=z.1.2.2.2.2.2.1.1/\z.1.2.2.2.2.2.1.1<=(fF aE).length/\z.2.2.2.1=aE/\∃ins t,z.2.2.1.1=aG.2.2.2.1.1++ins::t/\k0 z.1.2.2.2.2.2.1.1.toNat ins/\aK vA t/\t.length+4000*wr w aE z.1.2.2.2.2.2.1.1.toNat<=4000*wr w aE 0)
   (λz=>((fF aE).length-z.1.2.2.2.2.2.1.1:Int).toNat) (λz ax=> ?_) _ ⟨rfl,eL,amd,rfl,(by show 0<=(W 0).1;decide),by have i0:(W 0).1=0:=rfl;rw[i0];omega,rfl,_,[],Y9,by refine⟨gS.s,gS.t,gS.a,Nat.zero_le _,aK.nil,gS.h,gS.aU⟩,aK.nil,by have i0:(W 0).1=0:=rfl;rw[i0];simp⟩) (λkA p5=> ?_)
  obtain⟨ey,fq,gC,gi,mM,kB,qi,ins,t,iB,j4,G1,aKR⟩:=ax;unfold Mj;have yt:=congrArg (λl=>l.1.length) gi;dsimp only at yt;rw[c9] at yt;have aj':=congrArg List.length iB;rw[bY,gO] at aj';have fin:∀(IB:D eF) (dY:D [.int .i64]) (Pc:L (D eF)),z.1.2.2.2.2.1.1[z.1.2.2.2.2.2.1.1.toNat]? =some dY->z.1.2.2.2.2.2.1.1<(fF aE).length->k0 (z.1.2.2.2.2.2.1.1.toNat+1) IB->Pc.1=aG.2.2.2.1.1++IB::t->
   aL ((wC n (((),dY.1,()),(z.2.1,Pc,()))).bind λy=>some (.inl (((),z.1.2.1,(),z.1.2.2.2.1,z.1.2.2.2.2.1,(bg z.1.2.2.2.2.2.1 (W (1))),()),(y.2.1,y.2.2.2.1,z.2.2.2.1,())))) (Sum.elim (λgB:U Tw=>(gB.1.2.1=x.1.2.1/\gB.2.1=x.2.1/\gB.1.2.2.2.1.1=(aG.2.2.2.1.1.length:Nat)/\gB.1.2.2.2.2.1=a2.1.1/\0<=gB.1.2.2.2.2.2.1.1/\gB.1.2.2.2.2.2.1.1<=((fF aE).length:Nat)/\gB.2.2.2.1=aE/\∃ins t,gB.2.2.1.1=aG.2.2.2.1.1++ins::t/\k0 gB.1.2.2.2.2.2.1.1.toNat ins/\aK vA t/\t.length+4000*wr w aE gB.1.2.2.2.2.2.1.1.toNat<=4000*wr w aE 0)/\((fF aE).length-gB.1.2.2.2.2.2.1.1:Int).toNat<((fF aE).length-z.1.2.2.2.2.2.1.1:Int).toNat) (λy:bA af7=>y.2.1=x.2.1/\∃ins t,y.2.2.2.2.1.1=aG.2.2.2.1.1++ins::t/\k0 8 ins/\aK vA t/\t.length<=4000*wr w aE 0)):=λIB dY Pc lS aj ami Xw=>by
   rw[gi,c9] at lS;have aJ:=bZ _ _ cL _ _ lS;have Yx:=aIF (w:=w) lS;have H7:=congrArg List.length Xw;rw[bY,gO] at H7;have sS:=dK z.1.2.2.2.2.2.1 mM ab;have Yq:(z.1.2.2.2.2.2.1.1+1).toNat=z.1.2.2.2.2.2.1.1.toNat+1:=ab;have anm:wr w aE 0=((fF aE).map λe=>w e.1.1.toNat).sum:=rfl;dsimp only at jC;refine af (b_ _ ?_) λy bT=> ?_;unfold G3;dsimp only
   rw[fq];exact⟨gQ,⟨ab,aJ.2⟩,bH,ab,bZ,rN,ab⟩;obtain⟨cm,u,cF,dy,e8⟩:=bT;refine bG ⟨⟨ey,cm.trans fq,gC,gi, ?_, ?_,qi,IB,t++u, ?_, ?_,G1.append dy, ?_⟩, ?_⟩;dsimp only;rw[sS];omega;dsimp only;rw[sS];omega;rw[cF];dsimp only;rw[Xw];simp;dsimp only;rw[sS,Yq];exact ami;dsimp only at e8⊢;rw[sS,Yq,bY];omega;dsimp only;rw[sS];omega
  apply ah<;>intro aC;simp only[cc,aI] at aC;rw[yt] at aC;have lQ:(decide (0<=z.1.2.2.2.1.1)&&decide (z.1.2.2.2.1.1<(z.2.2.1.1.length:Nat)))=true:=by simp only[cc,decide_eq_true_eq];omega
  have zD:z.2.2.1.1[z.1.2.2.2.1.1.toNat]? =some ins:=by rw[iB];exact PR ab
  have Qa:z.1.2.2.2.1.1.toNat<z.2.2.1.1.length:=ab;apply ah<;>intro aT;simp only[cc,aI] at aT;rw[qi] at aT;refine ah (λ_=> ?_) (λq=>by rw[lQ] at q;cases q);refine af (ld Qa) λdX gj=> ?_;rw[zD] at gj;cases gj;have aKf:=Jv aT;refine af (eG (by rw[qi];omega)) λdh gl=> ?_;rw[qi] at gl;have amx:=dz.wl _ _ gl;have IL:=gQ.IL;refine af (eG (by rw[fq,ey];omega)) λfD jO=> ?_;rw[fq,ey] at jO;have uU:=gQ.iw _ _ cL;rw[s0 jO] at uU;refine bk λdG h_=> ?_;have aKT:=j4.w;refine af (dv (by simp only[b5];omega)) λnU u0=> ?_;refine ah (λ_=> ?_) (λq=>by rw[lQ] at q;cases q);refine af (ld Qa) λee lB=> ?_;rw[zD] at lB;cases lB;refine ah (λ_=> ?_) (λq=>by simp at q);apply ah<;>intro q;simp only[cc,aI] at q;rw[qi] at q;omega;refine af (eG (by rw[yt];omega)) λik jX=> ?_;have Un:∀v,(ec z.2.2.1 z.1.2.2.2.1.1.toNat v).1=aG.2.2.2.1.1++v::t:=λv=>by show(z.2.2.1.1.set _ _)=_;rw[iB];exact Oc ab
  have pE:k0 (z.1.2.2.2.2.2.1.1.toNat+1) (ins.1,ins.2.1,ins.2.2.1,ins.2.2.2.1,ins.2.2.2.2.1,ins.2.2.2.2.2.1,ins.2.2.2.2.2.2.1,nU,ins.2.2.2.2.2.2.2.2.1,()):=by
   refine⟨j4.s,j4.t,j4.a, ?_, ?_,j4.h,j4.aU⟩;show nU.1.length<=_;rw[u0.2];simp only[b5];omega;show aK _ nU.1;rw[u0.1,fT (by simp)];exact j4.wl.append (aK.one amx)
  exact fin _ ik _ jX aC pE (Un _);apply ah<;>intro bJ;apply ah<;>intro c7;refine ah (λ_=> ?_) (λq=>by rw[lQ] at q;cases q);refine af (ld Qa) λkq o7=> ?_;rw[zD] at o7;cases o7;refine af (eG (by rw[yt];omega)) λpU qZ=> ?_;have Un:∀v,(ec z.2.2.1 z.1.2.2.2.1.1.toNat v).1=aG.2.2.2.1.1++v::t:=λv=>by show(z.2.2.1.1.set _ _)=_;rw[iB];exact Oc ab
  have pE:∀b,k0 (z.1.2.2.2.2.2.1.1.toNat+1) (ins.1,b,ins.2.2.1,ins.2.2.2.1,ins.2.2.2.2.1,ins.2.2.2.2.2.1,ins.2.2.2.2.2.2.1,ins.2.2.2.2.2.2.2.1,ins.2.2.2.2.2.2.2.2.1,()):=λb=>⟨j4.s,j4.t,j4.a,Nat.le_succ_of_le j4.w,j4.wl,j4.h,j4.aU⟩;exact fin _ pU _ qZ aC (pE _) (Un _);refine af (eG (by rw[yt];omega)) λmW uX=> ?_;exact fin ins mW _ uX aC (j4.mono (Nat.le_succ _)) iB;refine af (eG (by rw[yt];omega)) λmz q2=> ?_;exact fin ins mz _ q2 aC (j4.mono (Nat.le_succ _)) iB;exact ba ⟨fq,ins,t,iB,j4.mono ab,G1,ab⟩;obtain⟨cm,ins,t,cF,dy,e8,ki⟩:=p5;refine an ⟨cm, ?_⟩;have anm:wr w aE 0=((fF aE).map λe=>w e.1.1.toNat).sum:=rfl;refine(fw.trans ⟨ins::t,cF, ?_, ?_⟩).mono (m:=4000*w x.1.2.1.1.toNat) (n:=3999+(1+4000*wr w aE 0)) ab;exactλj e he=>by
   cases j with
   |zero=>cases he;exact dy
   |succ j=>exact e8 j e he
  rw[gO];omega
theorem aBX (w:Nat->Nat):∀x:U ur,G3 w 80 x->aL (Tu x) (λy=>y.2.1=x.2.1/\hO x.2.2.1.1 y.2.2.2.1.1 (4000*w x.1.2.1.1.toNat)):=λx h=>
 aBB w oP x ⟨h.1,h.2.1,h.2.2.1,by have:=h.2.2.2.1;unfold oP;omega,h.2.2.2.2⟩
theorem rv.at {vs st out} {j:Nat} {v s i} (h:rv vs st out (-1)) (aM:vs[j]? =some v) (aU:st[j]? =some s) (aj:out[j]? =some i):m8 v.2.1.1 (fF s) out v.2.1.1.length i.1.1:=h j v s i ab aM aU aj
theorem aoC {p b q vs up j' g6} (fE:uF p q up) (m0:qp b q.2.2.2.1.1 j' q.2.2.2.1.1.length vs) (qu:rv vs q.2.2.2.1.1 g6 (-1)) (a3:g6.length=q.2.2.2.1.1.length):y2 q.2.2.2.1.1 g6:=by
 have xK:=m0.l;have s2:=fE.g.s2;have get:∀(j:Nat) (i:D [.aH [.str]]),g6[j]? =some i->∃v s,vs[j]? =some v/\q.2.2.2.1.1[j]? =some s/\m8 v.2.1.1 (fF s) g6 v.2.1.1.length i.1.1:=λj i aj=>by
  have au:=(ed.1 aj).1;have aa:=e_ (l:=vs) (i:=j) ab;have ae:=e_ (l:=q.2.2.2.1.1) (i:=j) ab;exact⟨_,_,aa,ae,qu.at aa ae aj⟩
 refine⟨a3,λj i aj=> ?_,λa s k dY r0 gV n aU aA amf zE jY=> ?_,λj i aj=> ?_⟩;obtain⟨v,s,aa,ae,az⟩:=get j i aj;have:=(m0.t j v aa).2;have:=(ed.1 aa).1;have:=az.l;dsimp only
 omega;obtain⟨v,ep,aa,ae,az⟩:=get _ gV zE;obtain⟨aIu,Um,aF,aQ,bn⟩:=get a r0 amf;rw[aU] at aQ;cases aQ;have aJ:=(fE.g.ss _ _ aU).dY _ _ aA;have aV:oT q.2.2.2.1.1 a k (dY.1.1.toNat:Nat):=⟨s,dY,aU,aA,ab,ab⟩;rcases m0.v _ v aa ab with r|⟨cY,cj,s1,jy,gW,fU,jo,mm,vt⟩;obtain⟨iY,e',m6,_⟩:=az.s n jY;rw[r] at m6;simp at m6;obtain⟨u,jD,kj⟩:=(fE.g.ss _ _ ae).up ab;obtain⟨rfl,rfl⟩:=fE.g.Kl.u _ u jD kj _ _ _ _ aV jo;rw[aU] at fU;cases fU;rw[aF] at mm;cases mm;obtain⟨iY,e',m6,eM⟩:=az.s n jY;have Yp:y3 aIu.2.1.1 e'.1\/e'.1=rE s k:=vt.s iY e' m6;rw[eM] at Yp;rcases Yp with gh|gh;obtain⟨bE,aX,si,nA⟩:=gh;refine .inr ?_;rw[<-nA];exact bn.x bE aX (by have:=(ed.1 si).1;omega) si ⟨k,dY,gV,aA,zE,by rw[nA];exact jY⟩;exact .inl gh;obtain⟨v,s,aa,ae,az⟩:=get j i aj;by_cases au:j=0;exact .inl au;rcases m0.v j v aa ab with r|⟨cY,cj,s1,jy,gW,fU,jo,mm,vt⟩;refine .inr (.inr ?_);have fR:=az.l;rw[show v.2.1.1.length=0 by rw[r];rfl] at fR;exact Nat.le_zero.1 (Int.ofNat_le.1 fR);exact .inr (.inl ⟨cY,cj,jo⟩)
theorem aoB {b vs j' g6} {q:D fb} {n:Int} (m0:qp b q.2.2.2.1.1 j' n vs) (qu:rv vs q.2.2.2.1.1 g6 (-1)) (a3:g6.length=q.2.2.2.1.1.length) (bw:aK (λe:D c_=>∃(j:Nat) (r:D dJ),q.2.1.1[j]? =some r/\r.1=e.1) j'):∀i0:D [.aH [.str]],g6[0]? =some i0->∀(k:Nat) (e:D [.str]),i0.1.1[k]? =some e->∃(m:Nat) (p:D dJ),q.2.1.1[m]? =some p/\p.1=e.1:=λi0 aj k e he=>by
 have xK:=m0.l;have au:=(ed.1 aj).1;have aa:=e_ (l:=vs) (i:=0) ab;have ae:=e_ (l:=q.2.2.2.1.1) (i:=0) ab;obtain⟨j,e',aF,aQ⟩:=(qu.at aa ae aj).s e.1 ⟨k,he⟩;rw[m0.z _ aa] at aF;rw[<-aQ];exact bw j e' aF
theorem aoz {p b q vs up j' g6} {rg ze:List (D [.aH [.int .i64]])} (fE:uF p q up) (m0:qp b q.2.2.2.1.1 j' q.2.2.2.1.1.length vs) (qu:rv vs q.2.2.2.1.1 g6 (-1)) (a3:g6.length=q.2.2.2.1.1.length) (aJ:rg.length=q.2.2.2.1.1.length) (ai:ze.length=q.2.2.2.1.1.length)
 (am_:∀(j:Nat) (i:D [.aH [.str]]),g6[j]? =some i->i.1.1.length<=ea rg j) (uU:∀(j:Nat) (s:D bz),q.2.2.2.1.1[j]? =some s->ea ze j=(fF s).length):tw q.2.2.1.1 q.2.2.2.1.1 vs g6 rg ze:=by
 have xK:=m0.l;refine⟨xK,a3,aJ,ai,am_,λj s i aU aj aP=> ?_,λj v i k e aM aj he cE=> ?_,uU,λj s aU=>⟨(fE.g.ss j s aU).b,(fE.g.ss j s aU).t,(fE.g.ss j s aU).r⟩⟩;have au:=(ed.1 aU).1;have aa:=e_ (l:=vs) (i:=j) ab;obtain⟨k,e,aF,aQ,bn⟩:=m0.o j _ s ab aa aU aP;rw[<-aQ];exact(qu.at aa aU aj).c k e (by have:=(ed.1 aF).1;omega) aF bn;have au:=(ed.1 aM).1;have ae:=e_ (l:=q.2.2.2.1.1) (i:=j) ab;exact(qu.at aM ae aj).c k e (by have:=(ed.1 he).1;omega) he cE
structure G' (c:D mR):Prop where
  n:c.1.1.size<=12
  p:c.2.1.1.length<=6
  RV:aK (λe:D jG=>e.2.1.1.size<=25) c.2.1.1
  k:c.2.2.2.1.1.length<=800
  ia:aK vA c.2.2.2.1.1
structure OM (m:D qS):Prop where
  p:m.1.1.length<=6
  b8:aK lr m.1.1
  l:m.2.1.1.length=0
  q:m.2.2.1.1.length<=24
  Kv:aK G' m.2.2.1.1
theorem aoy {w:Nat->Nat} {x:U ur} {p b q vs up j'} (gQ:tw x.2.1.2.2.1.1 x.2.1.2.2.2.1.1 x.2.1.2.2.2.2.1.1 x.2.1.2.2.2.2.2.1.1 x.2.1.2.2.2.2.2.2.1.1 x.2.1.2.2.2.2.2.2.2.1.1) (fE:uF p q up) (m0:qp b q.2.2.2.1.1 j' q.2.2.2.1.1.length vs) (bl:x.1.2.1.1=0) (aU:x.2.1.2.2.2.1=q.2.2.2.1) (bH:x.2.1.2.2.1=q.2.2.1) (aq:x.2.2.1.1=[]) (hw:OU q.2.2.2.1.1 w):G3 w 80 x:=by
 have s1:=fE.g.s1;have s2:=fE.g.s2;have aIB:=hw.1 0;refine⟨gQ,⟨ab,by rw[aU];omega⟩,by rw[bH];exact fE.g.t,by rw[aU];omega,λj s au=> ?_,by rw[aU];exact hw, ?_⟩;rw[aU] at au⊢;exact(fE.g.ss j s au).dY;rw[aq,bl];show 0+4000*w 0<=400000;omega
theorem aBo:∀x:U E8,((x.1.1.1.1.length<=6/\aK lr x.1.1.1.1)/\((0<=x.1.2.2.1.1)/\(x.1.2.2.1.1<=((x.1.1.1.1.length:Nat):Int))/\(x.2.1.1.1=x.1.1.1.1.take x.1.2.2.1.1.toNat)))->aL (a_ Ma x) (λy=>y.2.1.1.1=x.1.1.1.1):=by
 rintro x ⟨aq,aj⟩;exact cJ (λz:U E8=>∃dN,∃w4,z=((x.1.1,(),dN,()),((w4,(),(),()),(),()))/\((0<=dN.1)/\(dN.1<=((x.1.1.1.1.length:Nat):Int))/\(w4.1=x.1.1.1.1.take dN.1.toNat))) (λz:U E8=>(((x.1.1.1.1.length:Nat):Int)-z.1.2.2.1.1).toNat) (λz ax=>by
  obtain⟨dN,w4,rfl,aD⟩:=ax;unfold Ma;dsimp only
  obtain⟨bo,cO,bD⟩:=aD;have cz:=congrArg List.length bD;rw[List.length_take] at cz;have xJ:=L.b x.1.1.1;apply ah<;>intro aC<;>simp only[av] at aC;refine bk λaX df=> ?_;have dc:=aq.2 _ _ df;refine af (av8 _ dc) λa1 cq=> ?_;dsimp only at cq;refine af (dv k2) λkx ox=> ?_;exact bG ⟨⟨_,_,rfl,(by(have aA:=dK dN bo ab;refine⟨ab,ab, ?_⟩;rw[aA,GU bo df,ox.1,fT (by simp),bD,cq]))⟩,(by(dsimp only)<;>(have aA:=dK dN bo ab;rw[aA];omega))⟩;exact ba (by(dsimp only[Sum.elim])<;>(rw[bD];exact GS ab))) x ⟨_,_,rfl,aj⟩
theorem aBr:∀x:U E9,((x.1.1.2.1.1.length=0)/\((0<=x.1.2.2.1.1)/\(x.1.2.2.1.1<=((x.1.1.2.1.1.length:Nat):Int))/\(x.2.1.2.1.1.length=0/\x.1.2.2.1.1=0)))->aL (a_ Mb x) (λy=>y.2.1.1=x.2.1.1/\y.2.1.2.1.1.length=0):=by
 rintro x ⟨aq,aj⟩;exact cJ (λz:U E9=>∃dj,∃oX,z=((x.1.1,(),dj,()),((x.2.1.1,oX,(),()),(),(),()))/\((0<=dj.1)/\(dj.1<=((x.1.1.2.1.1.length:Nat):Int))/\(oX.1.length=0/\dj.1=0))) (λz:U E9=>(((x.1.1.2.1.1.length:Nat):Int)-z.1.2.2.1.1).toNat) (λz ax=>by
  obtain⟨dj,oX,rfl,aD⟩:=ax;unfold Mb;dsimp only
  obtain⟨bo,cO,bD,cz⟩:=aD;have o_:=L.b x.1.1.2.1;apply ah<;>intro aC<;>simp only[av] at aC;refine af (eG (by(exfalso;omega))) λdh gl=> ?_;refine af (av2 _ (by(dsimp only)<;>(exfalso;omega))) λbU en=> ?_;refine af (dv (by(exfalso;omega))) λjA oy=> ?_;exact bG ⟨⟨_,_,rfl,(by(exfalso;omega))⟩,(by(dsimp only)<;>(exfalso;omega))⟩;exact ba ⟨rfl,bD⟩) x ⟨_,_,rfl,aj⟩
theorem aBl:∀x:U Ts,(True)->aL (Tr x) (λy=>(y.1.1=false->x.2.2.1.1.length<=800)/\y.2.1.2.2.2.2.2.2.2.2.1=x.2.2.1):=by
 intro x aD;unfold Tr;apply ah<;>intro aC<;>simp only[av] at aC;exact an ⟨λq=>(by cases q),rfl⟩;exact an ⟨λq=>(by have ai:=L.b x.2.2.1;simp only[cc,aI] at q;omega),rfl⟩
theorem aBk:∀x:U Tq,(True)->aL (Tp x) (Sum.elim (λy=>x.2.2.2.1.1.length<=800/\y.2.2.1.2.2.2.2.2.2.2.2.1=x.2.2.2.1) (λy=>y.1.1.1≠0)):=by
 intro x aD;unfold Tp;refine af (aBl _ aY) λeN gm=> ?_;dsimp only at gm;apply ah<;>intro aC<;>simp only[av] at aC;exact an pN;exact an ⟨gm.1 aC,gm.2⟩
theorem aBx:∀x:U Fa,((x.1.1.2.1.1.length<=6/\aK (λr:D dJ=>r.2.2.1.1.size<=25) x.1.1.2.1.1/\x.1.2.2.1.1=0/\x.2.1.2.1.1=[])/\((0<=x.1.2.2.1.1)/\(x.1.2.2.1.1<=((x.1.1.2.1.1.length:Nat):Int))/\((x.2.1.2.1.1.length:Int)=x.1.2.2.1.1/\aK (λe:D jG=>e.2.1.1.size<=25) x.2.1.2.1.1)))->aL (a_ Md x) (λy=>y.2.1.1=x.2.1.1/\y.2.1.2.2.2.1=x.2.1.2.2.2.1/\y.2.1.2.1.1.length<=6/\aK (λe:D jG=>e.2.1.1.size<=25) y.2.1.2.1.1):=by
 rintro x ⟨aq,aj⟩;exact cJ (λz:U Fa=>∃kL,∃oX,z=((x.1.1,(),kL,()),((x.2.1.1,oX,x.2.1.2.2.1,x.2.1.2.2.2.1,()),(),()))/\((0<=kL.1)/\(kL.1<=((x.1.1.2.1.1.length:Nat):Int))/\((oX.1.length:Int)=kL.1/\aK (λe:D jG=>e.2.1.1.size<=25) oX.1))) (λz:U Fa=>(((x.1.1.2.1.1.length:Nat):Int)-z.1.2.2.1.1).toNat) (λz ax=>by
  obtain⟨kL,oX,rfl,aD⟩:=ax;unfold Md;dsimp only
  obtain⟨bo,cO,bD,cz⟩:=aD;obtain⟨cN,dq,eJ,iD⟩:=aq;have o_:=L.b x.1.1.2.1;apply ah<;>intro aC<;>simp only[av] at aC;refine bk λpV tO=> ?_;have ajy:=dq _ _ tO;refine af (dv k2) λwk xI=> ?_;exact bG ⟨⟨_,_,rfl,(by(have aA:=dK kL bo ab;rw[aA];exact⟨ab,ab,by rw[xI.2];simp only[b5];omega,by rw[xI.1,fT (by simp)];exact cz.append (aK.one ajy)⟩))⟩,(by(dsimp only)<;>(have aA:=dK kL bo ab;rw[aA];omega))⟩;exact ba (by(dsimp only[Sum.elim])<;>(exact⟨rfl,rfl,ab,cz⟩))) x ⟨_,_,rfl,aj⟩
theorem aBu:∀x:U E_,((wO x.1.1/\x.1.2.2.1.1.length=x.1.1.2.2.1.1.length/\(∃b,∀(j:Nat) (e:D [.aH eP]),x.1.2.2.1.1[j]? =some e->∀q,x.1.1.2.2.1.1[j]? =some q->wX x.1.1 b q e.1.1)/\x.1.2.2.2.2.1.1=0/\x.2.2.1.2.2.1.1=[])/\((0<=x.1.2.2.2.2.1.1)/\(x.1.2.2.2.2.1.1<=((x.1.1.2.2.1.1.length:Nat):Int))/\((x.2.2.1.2.2.1.1.length:Int)=x.1.2.2.2.2.1.1/\aK G' x.2.2.1.2.2.1.1)))->aL (a_ Mc x) (Sum.elim (λy=>y.2.2.1.1=x.2.2.1.1/\y.2.2.1.2.1=x.2.2.1.2.1/\y.2.2.1.2.2.1.1.length<=24/\aK G' y.2.2.1.2.2.1.1) (λy=>y.1.1.1≠0)):=by
 rintro x ⟨aq,aj⟩;exact cJ (λz:U E_=>∃fx,∃vK,z=(((x.1.1.1,x.1.1.2.1,x.1.1.2.2.1,()),(),x.1.2.2.1,(),fx,()),(((),(),(),()),(x.2.2.1.1,x.2.2.1.2.1,vK,()),(),(),(),()))/\((0<=fx.1)/\(fx.1<=((x.1.1.2.2.1.1.length:Nat):Int))/\((vK.1.length:Int)=fx.1/\aK G' vK.1))) (λz:U E_=>(((x.1.1.2.2.1.1.length:Nat):Int)-z.1.2.2.2.2.1.1).toNat) (λz ax=>by
  obtain⟨fx,vK,rfl,aD⟩:=ax;unfold Mc;dsimp only
  obtain⟨bo,cO,bD,cz⟩:=aD;obtain⟨cN,dq,⟨b,eJ⟩,iD,lu⟩:=aq;have cm:=cN.cm;have qz:=L.b x.1.1.2.2.1;apply ah<;>intro aC<;>simp only[av] at aC;refine bk λee lB=> ?_;refine bk λgk mB=> ?_;obtain⟨up,j',fE,m0,amX⟩:=eJ _ _ mB _ lB;have xK:=m0.l;have s1:=fE.g.s1;have s2:=fE.g.s2;refine af (aCc _ (by(dsimp only)<;>(exact⟨⟨_,fE.g⟩,xK,λj e he=>(by have aa:=(m0.t j e he).2;have ae:=(ed.1 he).1;dsimp only;omega)⟩))) λcS eV=> ?_;dsimp only at eV;obtain⟨i1,i2⟩:=eV;have alI:=aoC fE m0 i2 i1;refine af (aCO _ (by(dsimp only)<;>(exact⟨⟨_,fE.g⟩,alI,aoB m0 i2 i1 amX⟩))) λcG fm=> ?_;dsimp only at fm;obtain⟨gW,fU,jo,mm⟩:=fm;refine bk λiX mi=> ?_;rw[mB] at mi;cases mi;have gQ:=aoz fE m0 i2 i1 gW fU jo mm;obtain⟨w,hw⟩:=fE.g.wt;have aIB:=hw.1 0;refine af (aBX (w) _ (by(exact aoy gQ fE m0 rfl rfl rfl rfl hw))) λdD gR=> ?_;dsimp only at gR;obtain⟨cR,fg⟩:=gR;refine af (aBk _ aY) λfo iA=> ?_;dsimp only at iA;refine dZ iA (λe4 kv=> ?_) (λfI jP=> ?_);obtain⟨gn,dg⟩:=kv;refine af (aBx _ (by(dsimp only)<;>(exact⟨⟨fE.g.p,fE.g.RV,rfl,rfl⟩,bp,by have i0:(W 0).1=0:=rfl;rw[i0];omega,rfl,aK.nil⟩))) λe9 m2=> ?_;dsimp only at m2;obtain⟨kW,p_,Rf,aqF⟩:=m2;obtain⟨t,t1,t2,t3⟩:=fg;refine af (dv k2) λY7 X4=> ?_;exact bG ⟨⟨_,_,rfl,(by(have aA:=dK fx bo ab;rw[aA];refine⟨ab,ab,by rw[X4.2];simp only[b5];omega, ?_⟩;rw[X4.1,fT (by simp)];refine cz.append (aK.one ⟨?_,Rf,aqF, ?_, ?_⟩);(rw[kW];exact fE.g.fp);(rw[p_];dsimp only;rw[dg];exact gn);(rw[p_];dsimp only;rw[dg,t1];exact aK.nil.append t2)))⟩,(by(dsimp only)<;>(have aA:=dK fx bo ab;rw[aA];omega))⟩;exact ba (by(dsimp only[Sum.elim])<;>(exact jP));exact ba (by(dsimp only[Sum.elim])<;>(exact⟨rfl,rfl,ab,cz⟩))) x ⟨_,_,rfl,aj⟩
theorem aBA:∀x:U afY,(tH x.1.1/\x.1.1.2.1.1.length=0)->aL (L' x) (λy=>y.1.2.1.1=0->OM y.1.1):=by
 intro x aD;unfold L';refine af (awK _ (by(dsimp only)<;>(exact aD.1))) λaB cd=> ?_;dsimp only at cd;apply ah<;>intro aC<;>simp only[av] at aC;exact an (by(dsimp only)<;>(intro ay;(simp only[aI] at ay;exfalso;omega)));obtain⟨f1,f2,b,f3⟩:=cd aC;refine af (aBo _ (by(dsimp only)<;>(exact⟨⟨f1.eL,f1.b8⟩,bp,by have i0:(W 0).1=0:=rfl;rw[i0];omega,rfl⟩))) λbf cU=> ?_;dsimp only at cU;refine af (aBr _ (by(dsimp only)<;>(exact⟨aD.2,bp,by have i0:(W 0).1=0:=rfl;rw[i0];omega,rfl,rfl⟩))) λbV dV=> ?_;dsimp only at dV;obtain⟨aF,aQ⟩:=dV;refine af (aBu _ (by(dsimp only)<;>(exact⟨⟨f1,f2,⟨b,f3⟩,rfl,rfl⟩,bp,by have i0:(W 0).1=0:=rfl;rw[i0];omega,rfl,aK.nil⟩))) λmL q7=> ?_;dsimp only at q7;refine dZ q7 (λkA p5=> ?_) (λnZ pf=> ?_);exact an (by(dsimp only)<;>(intro ay;(obtain⟨bq,bE,c8,ei⟩:=p5;have ey:kA.2.2.1.1.1=x.1.1.1.1:=(by rw[bq];dsimp only;rw[aF];exact cU);refine⟨by dsimp only;rw[ey];exact f1.eL,by dsimp only;rw[ey];exact f1.b8,by dsimp only;rw[bE];exact aQ,c8,ei⟩)));exact an (by(dsimp only)<;>(intro ay;(exfalso;exact absurd ay pf)))
def gN (d:D [.aH [.int .i64],.int .i64]):Prop:=0<=d.2.1.1/\d.1.1.length<=1000000000
theorem Jm {a b:Int} (bW:0<=a) (ai:0<b):0<=Int.tmod a b/\Int.tmod a b<b:=⟨Int.tmod_nonneg _ bW,Int.tmod_lt_of_pos _ ai⟩
theorem jk:∀x:U Zx,gN x.2.1->aL (g7 x) (λy=>gN y.2.1/\0<=y.1.1.1/\(1<=x.1.2.1.1->y.1.1.1<x.1.2.1.1)):=by
 intro x aD;obtain⟨aa,ae⟩:=aD;unfold g7;have cR:=aO.sC x.1.2.1;have fg:=aO.sC x.2.1.2.1;apply ah<;>intro aC;simp only[cc,aI] at aC;exact an ⟨⟨aa,ae⟩,by show 0<=(W 0).1;decide,λq=>by omega⟩;simp only[cc,aI] at aC;apply ah<;>intro aT;have i0:(W 0).1=0:=rfl;exact an ⟨⟨aa,ae⟩,by dsimp only;rw[i0];omega,λq=>by dsimp only;rw[i0];omega⟩;simp only[cc,aI] at aT;refine af (eG (by simp only[aI];omega)) λaE cL=> ?_;have hJ:=aO.sC aE.1;have aA:(fk .u64 x.1.2.1).1=x.1.2.1.1:=by simp only[aI];omega
 have he:0<=(fk .u64 aE.1).1:=by simp only[aI];omega
 refine af (x4 (by rw[aA];omega)) λv2 sW=> ?_;have hm:=Jm he (b:=(fk .u64 x.1.2.1).1) (by rw[aA];omega);rw[aA] at hm sW;have aM:(fk .i64 v2).1=Int.tmod (fk .u64 aE.1).1 x.1.2.1.1:=by rw[r2,sW,th,wrap64];omega
 refine an ⟨⟨by dsimp only;simp only[aI];omega,ae⟩,by dsimp only;rw[aM];exact hm.1,λq=>by dsimp only;rw[aM];exact hm.2⟩
def oU (p:D cV):Prop:=p.1.1.size<=12/\2<=p.2.1.1.length/\p.2.1.1.length<=5/\aK (λr:D [.str]=>r.1.1.size<=12) p.2.1.1
def wY (b8:List (D cV)):Prop:=1<=b8.length/\b8.length<=2/\aK oU b8
theorem Z5 (go:ew) (eE ro:L (D [.str])):∀(n i:Nat) (d:D [.aH [.int .i64],.int .i64]),gN d->(∀d,gN d->aL (yd (((),eE,()),(d,()))) (λy=>gN y.2.1))->aL (ua go eE ro n i d) (λr=>gN r.2)
 |0,i,d,h,_=>an h
 |n+1,i,d,h,aq=>by
  refine af (aq d h) λy bT=> ?_;refine af (Z5 go eE ro n (i+1) y.2.1 bT aq) λr aJ=> ?_;exact an aJ
theorem aoS:∀x:U Zy,(x.1.1.1.length<=1000000000)->aL (IV x) (λy=>gN y.2.1):=by
 intro x aD;unfold IV;have g_:(L.nil:L (D [.int .i64])).1.length=0:=rfl;refine af (dv ab) λdC kf=> ?_;exact an ⟨(by show 0<=(W 0).1;decide),by have:=kf.2;dsimp only;omega⟩
theorem Z4:∀x:U Z1,(True)->aL (yf x) (λy=>y.1.1.1.length=5/\aK (λr:D [.str]=>r.1.1.size<=12) y.1.1.1):=by
 intro x aD;unfold yf;exact an (by(dsimp only)<;>(rw[fT (by simp)];refine⟨rfl, ?_⟩;intro j e he;match j,he with|0,he=>(cases he;decide)|1,he=>(cases he;decide)|2,he=>(cases he;decide)|3,he=>(cases he;decide)|4,he=>(cases he;decide)|j+5,he=>cases he))
theorem ZU:∀x:U ZR,(True)->aL (ye x) (λy=>y.1.1.1.length=4):=by
 intro x aD;unfold ye;exact an (by(dsimp only)<;>(rw[fT (by simp)];rfl))
theorem IU:∀x:U Zu,(gN x.2.1)->aL (t_ x) (λy=>gN y.2.1):=by
 intro x aD;unfold t_;refine af (jk _ aD) λaB cd=> ?_;dsimp only at cd;obtain⟨eL,fw,gS⟩:=cd;have lW:=gS bp;have i6:(W 6).1=6:=rfl;refine af (eG (by(rw[fT (by simp)];simp only[gO,dw];omega))) λaX df=> ?_;exact an eL
theorem ZQ:∀x:U ZO,(gN x.2.1)->aL (yd x) (λy=>gN y.2.1):=by
 intro x aD;unfold yd;have lR:=L.b x.1.2.1;apply ah<;>intro aC<;>simp only[av] at aC;refine af (jk _ aD) λaB cd=> ?_;dsimp only at cd;obtain⟨eL,fw,gS⟩:=cd;apply ah<;>intro aT<;>simp only[av] at aT;refine af (jk _ eL) λaG cn=> ?_;dsimp only at cn;obtain⟨cm,cF,dy⟩:=cn;have e8:aG.1.1.1<x.1.2.1.1.length:=dy (by show(1:Int)<=(x.1.2.1.1.length:Int);omega);refine bk λbL eT=> ?_;exact an cm;refine af (IU _ eL) λa2 c9=> ?_;dsimp only at c9;exact an c9;refine af (IU _ aD) λbf cU=> ?_;dsimp only at cU;exact an cU
theorem aps:∀x:U CL,((gN x.2.1/\0<=x.1.2.2.2.2.1.1/\x.1.2.2.2.2.1.1<=10/\0<=x.1.2.2.2.2.2.1.1/\x.1.2.2.2.2.2.1.1<=10/\x.1.2.2.2.1.1=[]/\x.1.2.2.2.2.2.2.1.1=0)/\((0<=x.1.2.2.2.2.2.2.1.1)/\(x.1.2.2.2.2.2.2.1.1<=x.1.2.2.2.2.1.1)/\(gN x.2.1/\(x.1.2.2.2.1.1.length:Int)=x.1.2.2.2.2.2.2.1.1)))->aL (a_ I8 x) (λy=>gN y.2.1):=by
 rintro x ⟨aq,aj⟩;exact cJ (λz:U CL=>∃dN,∃v10,∃cH,z=(((),x.1.2.1,x.1.2.2.1,dN,x.1.2.2.2.2.1,x.1.2.2.2.2.2.1,v10,()),(cH,(),()))/\((0<=v10.1)/\(v10.1<=x.1.2.2.2.2.1.1)/\(gN cH/\(dN.1.length:Int)=v10.1))) (λz:U CL=>(x.1.2.2.2.2.1.1-z.1.2.2.2.2.2.2.1.1).toNat) (λz ax=>by
  obtain⟨dN,v10,cH,rfl,aD⟩:=ax;unfold I8;dsimp only
  obtain⟨bo,cO,bD,cz⟩:=aD;obtain⟨cN,dq,eJ,iD,lu,my,rG⟩:=aq;have i4:(W 4).1=4:=rfl;have aU:(bg x.1.2.2.2.2.2.1 v10).1=x.1.2.2.2.2.2.1.1+v10.1:=by simp only[aI];omega
  apply ah<;>intro aC<;>simp only[av] at aC;refine af (ZU _ aY) λa1 cq=> ?_;dsimp only at cq;refine af (x4 (by(rw[i4];decide))) λv4 pe=> ?_;have hm:=Jm (a:=(bg x.1.2.2.2.2.2.1 v10).1) (b:=4) ab ab;rw[i4,wrap64] at pe;refine af (eG (by(rw[cq];omega))) λdX gj=> ?_;refine af (ZQ _ bD) λbO dB=> ?_;dsimp only at dB;refine af (jk _ dB) λbU en=> ?_;dsimp only at en;obtain⟨cm,cF,dy⟩:=en;refine af (dv k2) λjA oy=> ?_;exact bG ⟨⟨_,_,_,rfl,(by(have aA:=dK v10 bo ab;rw[aA];exact⟨ab,ab,cm,by rw[oy.2];simp only[b5];omega⟩))⟩,(by(dsimp only)<;>(have aA:=dK v10 bo ab;rw[aA];omega))⟩;exact ba bD) x ⟨_,_,_,rfl,aj⟩
theorem apv:∀x:U ZL,(gN x.2.1)->aL (I7 x) (λy=>gN y.2.1):=by
 intro x aD;unfold I7;refine af (jk _ aD) λaB cd=> ?_;dsimp only at cd;obtain⟨eL,fw,gS⟩:=cd;have lW:=gS bp;have i3:(W 3).1=3:=rfl;refine af (jk _ eL) λaG cn=> ?_;dsimp only at cn;obtain⟨cm,cF,dy⟩:=cn;have e8:=dy bp;have i4:(W 4).1=4:=rfl;have i0:(W 0).1=0:=rfl;refine af (aps _ (by(dsimp only)<;>(refine⟨⟨cm, ?_, ?_,cF,ab,rfl,rfl⟩,bp, ?_,cm,bp⟩<;>simp only[aI]<;>omega))) λbV dV=> ?_;dsimp only at dV;exact an dV
theorem apn:∀x:U CK,((gN x.2.1/\2<=x.1.2.1.1/\x.1.2.1.1<=5/\(x.2.2.1.2.1.1.length:Int)=x.1.2.1.1/\x.1.2.2.2.1.1<=10/\0<=x.1.2.2.2.1.1/\x.2.2.1.2.2.1.1=[]/\x.1.2.2.2.2.2.1.1=0)/\((0<=x.1.2.2.2.2.2.1.1)/\(x.1.2.2.2.2.2.1.1<=x.1.2.2.2.1.1)/\(gN x.2.1/\(x.2.2.1.2.2.1.1.length:Int)=x.1.2.2.2.2.2.1.1)))->aL (a_ I6 x) (λy=>gN y.2.1/\y.2.2.1.1=x.2.2.1.1/\y.2.2.1.2.1=x.2.2.1.2.1/\y.2.2.1.2.2.1.1.length<=10):=by
 rintro x ⟨aq,aj⟩;exact cJ (λz:U CK=>∃v11,∃cH,∃vK,z=(((),x.1.2.1,x.1.2.2.1,x.1.2.2.2.1,(),v11,()),(cH,(x.2.2.1.1,x.2.2.1.2.1,vK,()),(),(),()))/\((0<=v11.1)/\(v11.1<=x.1.2.2.2.1.1)/\(gN cH/\(vK.1.length:Int)=v11.1))) (λz:U CK=>(x.1.2.2.2.1.1-z.1.2.2.2.2.2.1.1).toNat) (λz ax=>by
  obtain⟨v11,cH,vK,rfl,aD⟩:=ax;unfold I6;dsimp only
  obtain⟨bo,cO,bD,cz⟩:=aD;obtain⟨cN,dq,eJ,iD,lu,my,rG,w6⟩:=aq;apply ah<;>intro aC<;>simp only[av] at aC;refine af (jk _ fW) λbf cU=> ?_;dsimp only at cU;obtain⟨eL,fw,gS⟩:=cU;have lW:=gS ab;have Qh:(gf x.1.2.1 (W 1)).1=x.1.2.1.1-1:=by simp only[aI];omega
  refine af (jk _ fW) λbO dB=> ?_;dsimp only at dB;obtain⟨cm,cF,dy⟩:=dB;have e8:=dy (by rw[Qh];omega);rw[Qh] at e8;have aU:(bg (bg bf.1.1 (W 1)) bO.1.1).1=bf.1.1.1+1+bO.1.1.1:=by simp only[aI];omega
  refine af (x4 ab) λdN xS=> ?_;have hm:=Jm (a:=(bg (bg bf.1.1 (W 1)) bO.1.1).1) (b:=x.1.2.1.1) ab ab;rw[wrap64] at xS;refine bk λdG h_=> ?_;refine bk λeK kr=> ?_;refine af (apv _ fW) λcu eZ=> ?_;dsimp only at eZ;refine af (dv k2) λq_ B9=> ?_;exact bG ⟨⟨_,_,_,rfl,(by(have aA:=dK v11 bo ab;rw[aA];exact⟨ab,ab,eZ,by rw[B9.2];simp only[b5];omega⟩))⟩,(by(dsimp only)<;>(have aA:=dK v11 bo ab;rw[aA];omega))⟩;exact ba (by(dsimp only[Sum.elim])<;>(exact⟨bD,rfl,rfl,ab⟩))) x ⟨_,_,_,rfl,aj⟩
theorem Q4:∀x:U ZI,(gN x.2.1/\2<=x.1.2.2.1.1/\x.1.2.2.1.1<=5/\x.1.2.1.1.size<=12)->aL (zZ x) (λy=>gN y.2.1/\oU y.1.1):=by
 intro x aD;unfold zZ;obtain⟨aa,ae,az,a9⟩:=aD;have g_:(L.nil:L (D [.str])).1.length=0:=rfl;refine af (jk _ aa) λaB cd=> ?_;dsimp only at cd;obtain⟨eL,fw,gS⟩:=cd;have lW:=gS bp;have i6:(W 6).1=6:=rfl;refine af (Z4 _ aY) λaG cn=> ?_;dsimp only at cn;obtain⟨gW,fU⟩:=cn;refine af (pT ab) λcZ zN=> ?_;obtain⟨cN,dq⟩:=zN;refine af (dv ab) λkx ox=> ?_;obtain⟨d1,d2⟩:=ox;refine af (apn _ (by(dsimp only)<;>(refine⟨⟨eL,ae,az, ?_, ?_, ?_,rfl,rfl⟩,bp, ?_,eL,bp⟩<;>(first|simp only[aI]|skip)<;>omega))) λcS eV=> ?_;dsimp only at eV;obtain⟨gn,dg,fi,r5⟩:=eV;refine af (dv k2) λm3 Ca=> ?_;exact an (by(dsimp only)<;>(refine⟨gn, ?_, ?_, ?_, ?_⟩<;>(dsimp only)<;>first|(rw[dg];exact a9)|(rw[fi];(skip);omega)|(rw[fi];(skip);rw[d1,cN];exact aK.nil.append fU.drop.take)))
theorem Z6:∀x:U CM,(gN x.2.1/\2<=x.1.2.2.1.1/\x.1.2.2.1.1<=5/\x.1.2.1.1.size<=12)->aL (yg x) (λy=>gN y.2.1/\oU y.1.1):=by
 intro x aD;obtain⟨aa,ae,az,a9⟩:=aD;have i2:(aO.w .i64 2).1=2:=rfl;have i5:(aO.w .i64 5).1=5:=rfl;have g_:(L.nil:L (D [.str])).1.length=0:=rfl;unfold yg;refine ah (λ_=> ?_) (λai=>by simp only[cc] at ai;omega);refine ah (λ_=> ?_) (λai=>by simp only[cc] at ai;omega);refine af (Z4 _ aY) λaB cd=> ?_;obtain⟨gW,fU⟩:=cd;refine af (pT (by rw[gW];omega)) λv2 sW=> ?_;obtain⟨cN,dq⟩:=sW;refine af (dv ab) λcf k9=> ?_;obtain⟨d1,d2⟩:=k9;refine af (ZU _ aY) λa2 c9=> ?_;have jM:oU (x.1.2.1,cf,L.nil,()):=⟨a9,by dsimp only;omega,by dsimp only;omega,by dsimp only;rw[d1,cN];exact aK.nil.append (fU.drop.take)⟩;have jM:∀z,oU (x.1.2.1,cf,z,()):=λz=>jM;refine af (jk _ aa) λbf cU=> ?_;obtain⟨eL,fw,gS⟩:=cU;have gS:=gS (by show 1<=(aO.w .i64 2).1;decide);dsimp only at gS;rw[i2] at gS;refine af (eG (by rw[c9];omega)) λdh gl=> ?_;refine af (jk _ eL) λcD eY=> ?_;obtain⟨cm,cF,dy⟩:=eY;have dy:=dy (by show 1<=(aO.w .i64 2).1;decide);dsimp only at dy;rw[i2] at dy;refine af (eG (by rw[c9];simp only[aI];omega)) λeK kr=> ?_;refine af (jk _ cm) λcu eZ=> ?_;refine af (IU _ eZ.1) λb6 eU=> ?_;refine af (Z5 _ _ _ _ _ _ eU (λd bb=>ZQ _ bb)) λlZ Yl=> ?_;apply ah<;>intro _;refine af (IU _ Yl) λcG fm=> ?_;exact an ⟨fm,jM _⟩;exact an ⟨Yl,jM _⟩
theorem ao6:∀x:U ZB,(gN x.2.1/\x.1.2.1.1.size<=12)->aL (I2 x) (λy=>gN y.2.1/\oU y.1.1):=by
 intro x aD;unfold I2;refine af (jk _ (by(dsimp only)<;>(exact aD.1))) λaB cd=> ?_;dsimp only at cd;obtain⟨eL,fw,gS⟩:=cd;have i2:(W 2).1=2:=rfl;have i3:(W 3).1=3:=rfl;apply ah<;>intro aC<;>simp only[av] at aC;refine af (Q4 _ (by(dsimp only)<;>(exact⟨eL,bp,bp,aD.2⟩))) λaG cn=> ?_;dsimp only at cn;exact an (by(dsimp only)<;>(exact cn));apply ah<;>intro aT<;>simp only[av] at aT;refine af (jk _ (by(dsimp only)<;>(exact eL))) λa1 cq=> ?_;dsimp only at cq;obtain⟨cm,cF,dy⟩:=cq;have e8:=dy bp;have aU:(bg (W 2) a1.1.1).1=2+a1.1.1.1:=by simp only[aI];omega
 refine af (Z6 _ (by(dsimp only)<;>(exact⟨cm,ab,ab,aD.2⟩))) λa2 c9=> ?_;dsimp only at c9;exact an (by(dsimp only)<;>(exact c9));apply ah<;>intro bJ<;>simp only[av] at bJ;refine af (Q4 _ (by(dsimp only)<;>(exact⟨eL,bp,bp,aD.2⟩))) λbf cU=> ?_;dsimp only at cU;exact an (by(dsimp only)<;>(exact cU));refine af (Z6 _ (by(dsimp only)<;>(exact⟨eL,bp,bp,aD.2⟩))) λbO dB=> ?_;dsimp only at dB;exact an (by(dsimp only)<;>(exact dB))
theorem ZE:∀x:U ZD,(gN x.2.1/\x.1.2.1.1.size<=12)->aL (CI x) (λy=>gN y.2.1/\oU y.1.1):=by
 intro x aD;unfold CI;refine af (ao6 _ (by(dsimp only)<;>(exact aD))) λaB cd=> ?_;dsimp only at cd;refine af (TG _ aY) λaG cn=> ?_;dsimp only at cn;apply ah<;>intro aC<;>simp only[av] at aC;exact an (by(dsimp only)<;>(exact cd));refine af (Q4 _ (by(dsimp only)<;>(exact⟨cd.1,bp,bp,aD.2⟩))) λa1 cq=> ?_;dsimp only at cq;exact an (by(dsimp only)<;>(exact cq))
theorem aph:∀x:U CJ,((oU x.1.1/\x.1.2.1.1=[]/\x.1.2.2.1.1=0)/\((0<=x.1.2.2.1.1)/\(x.1.2.2.1.1<=((x.1.1.2.1.1.length:Nat):Int))/\((x.1.2.1.1.length:Int)=x.1.2.2.1.1)))->aL (a_ I5 x) (λy=>True):=by
 rintro x ⟨aq,aj⟩;exact cJ (λz:U CJ=>∃cZ,∃v4,z=((x.1.1,cZ,v4,()),((),()))/\((0<=v4.1)/\(v4.1<=((x.1.1.2.1.1.length:Nat):Int))/\((cZ.1.length:Int)=v4.1))) (λz:U CJ=>(((x.1.1.2.1.1.length:Nat):Int)-z.1.2.2.1.1).toNat) (λz ax=>by
  obtain⟨cZ,v4,rfl,aD⟩:=ax;unfold I5;dsimp only
  obtain⟨bo,cO,bD⟩:=aD;obtain⟨⟨cN,dq,eJ,iD⟩,lu,my⟩:=aq;have ax:(S ⟨#[46]⟩).1.size=1:=rfl;have o_:=L.b x.1.1.2.1;apply ah<;>intro aC<;>simp only[av] at aC;refine af (oh ab) λv1 rY=> ?_;refine bk λaX df=> ?_;have dc:=iD _ _ df;refine af (oh ab) λcZ zN=> ?_;refine af (dv k2) λkx ox=> ?_;exact bG ⟨⟨_,_,rfl,(by(have aA:=dK v4 bo ab;rw[aA];exact⟨ab,ab,by rw[ox.2];simp only[b5];omega⟩))⟩,(by(dsimp only)<;>(have aA:=dK v4 bo ab;rw[aA];omega))⟩;exact ba cw) x ⟨_,_,rfl,aj⟩
theorem apk:∀x:U ZG,(oU x.1.1)->aL (I4 x) (λy=>True):=by
 intro x aD;unfold I4;refine af (aph _ (by(dsimp only)<;>(exact⟨⟨aD,rfl,rfl⟩,bp,by have i0:(W 0).1=0:=rfl;rw[i0];omega,bp⟩))) λbf cU=> ?_;exact an aY
theorem ao_:∀x:U ZC,(gN x.2.1)->aL (I3 x) (λy=>gN y.2.1/\wY y.1.1.1):=by
 intro x aD;unfold I3;refine af (ZE _ (by(dsimp only)<;>(exact⟨aD,bp⟩))) λaB cd=> ?_;dsimp only at cd;refine af (jk _ (by(dsimp only)<;>(exact cd.1))) λaG cn=> ?_;dsimp only at cn;obtain⟨eL,fw,gS⟩:=cn;apply ah<;>intro aC<;>simp only[av] at aC;refine af (apk _ (by(dsimp only)<;>(exact cd.2))) λa1 cq=> ?_;refine af (ZE _ (by(dsimp only)<;>(exact⟨eL,bp⟩))) λa2 c9=> ?_;dsimp only at c9;refine af (dv (by(simp only[b5];decide))) λgv kU=> ?_;have dX:gv.1=[aB.1.1,a2.1.1]:=by rw[kU.1,fT (by simp),fT (by simp)];rfl
 exact an (by(dsimp only)<;>(exact⟨c9.1,by rw[dX];exact⟨by simp,by simp,λj e he=>(by match j,he with|0,he=>(cases he;exact cd.2)|1,he=>(cases he;exact c9.2)|j+2,he=>cases he)⟩⟩));exact an (by(dsimp only)<;>(exact⟨eL,by rw[fT (by simp)];exact⟨by simp,by simp,aK.one cd.2⟩⟩))
theorem IX:∀x:U Zz,(x.1.1.1.1.size<=12/\x.1.2.1.1.size<=12)->aL (yc x) (λy=>y.1.1.1.size<=24):=by
 intro x aD;unfold yc;refine af (oh ab) λv1 rY=> ?_;exact an fW
theorem pq:∀x:U ZN,(True)->aL (np x) (λy=>y.1.1=(x.1.1,S ⟨#[]⟩,S ⟨#[]⟩,S ⟨#[]⟩,S ⟨#[]⟩,W (-1),L.nil,L.nil,L.nil,W (-1),())):=by
 intro x aD;unfold np;exact an (by(dsimp only)<;>(rfl))
abbrev uH:Type:=nC Q_.blocks
abbrev ajv:Type:=nC aas.blocks
def gY (y:ajv):uH:=(y.1,y.2.1,(),y.2.2.2.2.2.1,())
def nI (s:D bz):Prop:=s.2.2.2.2.2.2.2.2.1.1.length<=20
structure kC (w:uH) (n:Nat):Prop where
  d:gN w.2.1
  b8:wY w.1.2.1.1
  t:w.1.2.2.2.2.1.1.length+n<=1000000
  s:w.2.2.2.1.1.length+n<=1000000
  jJ:0<=w.1.2.2.2.2.2.2.2.2.2.1.1
  kW:w.1.2.2.2.2.2.2.2.2.2.1.1+n<=1000000
structure eX (w v:uH) (k:Nat):Prop where
  d:gN v.2.1
  b8:v.1.2.1=w.1.2.1
  ty:v.1.2.2.2.2.2.2.2.1=w.1.2.2.2.2.2.2.2.1
  ro:v.1.2.2.2.2.2.2.2.2.1=w.1.2.2.2.2.2.2.2.2.1
  fp:v.1.2.2.1=w.1.2.2.1
  yB:v.1.2.2.2.1=w.1.2.2.2.1
  t:v.1.2.2.2.2.1.1.length<=w.1.2.2.2.2.1.1.length+k
  jJ:w.1.2.2.2.2.2.2.2.2.2.1.1<=v.1.2.2.2.2.2.2.2.2.2.1.1
  kW:v.1.2.2.2.2.2.2.2.2.2.1.1<=w.1.2.2.2.2.2.2.2.2.2.1.1+k
  s:∃t,v.2.2.2.1.1=w.2.2.2.1.1++t/\aK nI t/\t.length<=k
theorem kC.mono {w n m} (h:kC w n) (hm:m<=n):kC w m:=⟨h.d,h.b8,by have:=h.t;omega,by have:=h.s;omega,h.jJ,by have:=h.kW;omega⟩
theorem eX.len {w v k} (h:eX w v k):v.2.2.2.1.1.length<=w.2.2.2.1.1.length+k:=by
 obtain⟨t,t1,_,t2⟩:=h.s;rw[t1,bY];omega
theorem kC.go {w v n m k} (h:kC w n) (g:eX w v k) (hm:m+k<=n):kC v m:=
 ⟨g.d,by rw[g.b8];exact h.b8,by have:=h.t;have:=g.t;omega,by have:=h.s;have:=g.len;omega,by have:=h.jJ;have:=g.jJ;omega,by have:=h.kW;have:=g.kW;omega⟩
theorem eX.trans {w v u k m} (h:eX w v k) (g:eX v u m):eX w u (k+m):=by
 obtain⟨t,t1,t2,t3⟩:=h.s;obtain⟨t',jD,kj,On⟩:=g.s;exact⟨g.d,g.b8.trans h.b8,g.ty.trans h.ty,g.ro.trans h.ro,g.fp.trans h.fp,g.yB.trans h.yB,by have:=h.t;have:=g.t;omega,by have:=h.jJ;have:=g.jJ;omega,by have:=h.kW;have:=g.kW;omega,t++t',by rw[jD,t1,dF],t2.append kj,by rw[bY];omega⟩
theorem eX.mono {w v k m} (h:eX w v k) (hm:k<=m):eX w v m:=by
 obtain⟨t,t1,t2,t3⟩:=h.s;exact⟨h.d,h.b8,h.ty,h.ro,h.fp,h.yB,by have:=h.t;omega,h.jJ,by have:=h.kW;omega,t,t1,t2,ab⟩
theorem eX.refl {w} (h:gN w.2.1):eX w w 0:=⟨h,rfl,rfl,rfl,rfl,rfl,Nat.le_refl _,Int.le_refl _,ab,[],by simp,aK.nil,Nat.le_refl _⟩
theorem eX.o3 {w v:uH} {k d} (h:eX w v k) (bb:gN d):eX w (v.1,d,(),v.2.2.2.1,()) k:=⟨bb,h.b8,h.ty,h.ro,h.fp,h.yB,h.t,h.jJ,h.kW,h.s⟩
theorem kC.o3 {w:uH} {n d} (h:kC w n) (bb:gN d):kC (w.1,d,(),w.2.2.2.1,()) n:=⟨bb,h.b8,h.t,h.s,h.jJ,h.kW⟩
theorem eX.kZ {w v:uH} {k:Nat} {ss:L (D bz)} {t:List (D bz)} (h:eX w v k) (aU:ss.1=w.2.2.2.1.1++t) (bH:aK nI t) (a3:t.length<=k):eX w (v.1,v.2.1,(),ss,()) k:=⟨h.d,h.b8,h.ty,h.ro,h.fp,h.yB,h.t,h.jJ,h.kW,t,aU,bH,a3⟩
theorem va:∀x:U aay,kC x.2 1->aL (r7 x) (λy=>eX x.2 (gY y.2) 1/\y.1.1.1=(x.2.2.2.2.1.1.length:Nat)/\∃a:D bz,y.2.2.2.2.2.2.1.1=x.2.2.2.2.1.1++[a]/\a.2.2.2.2.2.2.2.2.1.1.length=0):=by
 intro x h;unfold r7;have aU:x.2.2.2.2.1.1.length+1<=1000000:=h.s;refine af (dv (by simp only[b5];omega)) λdC kf=> ?_;obtain⟨dE,dc⟩:=kf;rw[fT (by simp)] at dE;simp only[b5] at dc;have aj:(gf (W (dC.1.length:Nat)) (W 1)).1=(x.2.2.2.2.1.1.length:Nat):=XO dc ab;exact an ⟨⟨h.d,rfl,rfl,rfl,rfl,rfl,Nat.le_succ _,Int.le_refl _,by show x.2.1.2.2.2.2.2.2.2.2.2.1.1<=x.2.1.2.2.2.2.2.2.2.2.2.1.1+(1:Nat);omega,_,dE,aK.one (by show(0:Nat)<=20;decide),Nat.le_refl _⟩,aj,_,dE,rfl⟩
theorem ud:∀x:U aaA,kC x.2 1->aL (rb x) (λy=>eX x.2 (gY y.2) 1):=by
 intro x h;unfold rb;refine af (va _ h) λaB cd=> ?_;obtain⟨g,aj,a,bW,hw⟩:=cd;dsimp only at aj bW;have a3:=congrArg List.length bW;rw[bY,List.length_singleton] at a3;have lQ:(decide (0<=(aB.1.1).1)&&decide ((aB.1.1).1<(aB.2.2.2.2.2.2.1.1.length:Nat)))=true:=by simp only[cc,decide_eq_true_eq];omega
 refine ah (λ_=> ?_) (λq=>by rw[lQ] at q;cases q);refine hY λaX df=> ?_;have bZ:aB.2.2.2.2.2.2.1.1[aB.1.1.1.toNat]? =some a:=by rw[bW];exact PR ab
 rw[bZ] at df;cases df;refine an (g.kZ (t:=[_]) (by show(aB.2.2.2.2.2.2.1.1.set _ _)=_;rw[bW];exact Oc ab) (aK.one ?_) (Nat.le_refl _));show a.2.2.2.2.2.2.2.2.1.1.length<=20;omega
theorem CO:∀x:U aaf,kC x.2 2->aL (z2 x) (λy=>eX x.2 (gY y.2) 2):=by
 intro x h;unfold z2;apply ah<;>intro _;refine af (pq _ aY) λaB cd=> ?_;refine af (ud _ (h.mono bp)) λaG cn=> ?_;refine af (pq _ aY) λa1 cq=> ?_;refine af (va _ (h.go cn bp)) λa2 c9=> ?_;exact an (cn.trans c9.1);refine af (pq _ aY) λbf cU=> ?_;refine af (va _ (h.mono bp)) λbO dB=> ?_;exact an (dB.1.mono bp)
theorem ym:∀x:U aaz,kC x.2 1->aL (uc x) (λy=>eX x.2 (gY y.2) 1):=by
 intro x h;unfold uc;have aU:x.2.1.2.2.2.2.1.1.length+1<=1000000:=h.t;refine af (dv (by simp only[b5];omega)) λdC kf=> ?_;obtain⟨dE,dc⟩:=kf;simp only[b5] at dc;exact an ⟨h.d,rfl,rfl,rfl,rfl,rfl,by show dC.1.length<=x.2.1.2.2.2.2.1.1.length+1;omega,Int.le_refl _,by show x.2.1.2.2.2.2.2.2.2.2.2.1.1<=x.2.1.2.2.2.2.2.2.2.2.2.1.1+(1:Nat);omega,[],by simp[gY],aK.nil,Nat.zero_le _⟩
theorem ub:∀x:U Q_,kC x.2 1->aL (ra x) (λy=>eX x.2 (gY y.2) 1):=by
 intro x h;unfold ra;exact af (ym _ h) (λaB cd=>an cd)
theorem r6:∀x:U aar,kC x.2 1->aL (p9 x) (λy=>eX x.2 (gY y.2) 1):=by
 intro x h;unfold p9;exact af (ym _ h) (λaB cd=>an cd)
theorem wv:∀x:U aae,kC x.2 1->aL (s4 x) (λy=>eX x.2 (gY y.2) 1):=by
 intro x h;unfold s4;exact af (ym _ h) (λaB cd=>an cd)
theorem aqb:∀x:U aaq,kC x.2 3->aL (Jg x) (λy=>eX x.2 (gY y.2) 3):=by
 intro x h;unfold Jg;refine af (r6 _ (h.mono bp)) λaB aa=> ?_;have eL:=h.go (m:=2) aa bp;refine af (ub _ (eL.mono bp)) λaG ae=> ?_;have fw:=eL.go (m:=1) ae bp;refine af (wv _ fw) λa1 az=> ?_;exact an ((aa.trans ae).trans az)
theorem aaj:∀x:U aah,kC x.2 1->aL (CP x) (λy=>eX x.2 (gY y.2) 1):=by
 intro x h;unfold CP;have bl:0<=x.2.1.2.2.2.2.2.2.2.2.2.1.1:=h.jJ;have aa:x.2.1.2.2.2.2.2.2.2.2.2.1.1+(1:Nat)<=1000000:=h.kW;have aA:=dK x.2.1.2.2.2.2.2.2.2.2.2.1 bl ab;refine af (ae_ _ aY) λaB cd=> ?_;have ey:(S ⟨#[118]⟩).1.size=1:=rfl;refine af (oh (by dsimp only at cd;omega)) λv2 _=> ?_;exact an ⟨h.d,rfl,rfl,rfl,rfl,rfl,Nat.le_succ _,by show x.2.1.2.2.2.2.2.2.2.2.2.1.1<=(bg x.2.1.2.2.2.2.2.2.2.2.2.1 (W 1)).1;omega,by show(bg x.2.1.2.2.2.2.2.2.2.2.2.1 (W 1)).1<=x.2.1.2.2.2.2.2.2.2.2.2.1.1+(1:Nat);omega,[],by simp[gY],aK.nil,Nat.zero_le _⟩
theorem Af {s:List (D bz)} {a:D bz} {t:List (D bz)} {ss:L (D bz)} (aU:ss.1=s++a::t) {i:aO .i64} (aj:i.1=(s.length:Nat)):
 (decide (0<=i.1)&&decide (i.1<(ss.1.length:Nat)))=true/\i.1.toNat<ss.1.length/\ss.1[i.1.toNat]? =some a/\∀b,(ec ss i.1.toNat b).1=s++b::t:=by
 have a3:=congrArg List.length aU;rw[bY,gO] at a3;refine⟨by simp only[cc,decide_eq_true_eq];omega,ab,by rw[aU];exact PR ab,λb=> ?_⟩;show(ss.1.set _ _)=_;rw[aU];exact Oc ab
theorem aK.cons {α:Type} {P:α->Prop} {a:α} {l:List α} (h:P a) (a3:aK P l):aK P (a::l):=λj e he=>by
 cases j with
 |zero=>cases he;exact h
 |succ j=>exact a3 j e he
theorem nI.put {a:D bz} {w:D [.str,.str,.int .i64]} {l:L (D mu)} {n:Nat} (h:a.2.2.2.2.2.2.2.2.1.1.length<=n) (a3:l.1=a.2.2.2.2.2.2.2.2.1.1++(cx [w]).1):l.1.length<=n+1:=by
 rw[a3,bY,fT (by simp)];simp;exact h
theorem aiu {v w s t:List (D bz)} {a:D bz} (h:v=w++t) (hw:w=s++[a]):v=s++a::t:=by rw[h,hw,dF];rfl
theorem Z8:∀x:U Z7,kC x.2 16->aL (Jb x) (λy=>eX x.2 (gY y.2) 16):=by
 intro x h;unfold Jb;refine af (pq _ aY) λaB _=> ?_;refine af (ub _ (h.mono bp)) λaG ae=> ?_;refine af (r6 _ (h.go ae bp)) λa1 az=> ?_;have bn:=ae.trans az;refine af (wv _ (h.go bn bp)) λa2 a9=> ?_;have cy:=bn.trans a9;have lW:=h.go (m:=13) cy bp;refine af (va _ (lW.mono bp)) λbf cU=> ?_;obtain⟨cE,aj,a,bW,hw⟩:=cU;obtain⟨cm,cF,dy,e8⟩:=Af bW aj;refine ah (λ_=> ?_) (λq=>by rw[cm] at q;cases q);refine af (ld cF) λdh gl=> ?_;rw[dy] at gl;cases gl;refine af (dv (by simp only[b5];omega)) λj1 qy=> ?_;refine ah (λ_=> ?_) (λq=>by rw[cm] at q;cases q);refine af (ld cF) λdG h_=> ?_;rw[dy] at h_;cases h_;refine ah (λ_=> ?_) (λq=>by simp at q);have mK:=nI.put (n:=0) ab qy.1;have f5:=cE.kZ (t:=[_]) (e8 (a.1,a.2.1,a.2.2.1,a.2.2.2.1,a.2.2.2.2.1,a.2.2.2.2.2.1,a.2.2.2.2.2.2.1,a.2.2.2.2.2.2.2.1,j1,a.2.2.2.2.2.2.2.2.2.1,())) (aK.one (by show j1.1.length<=20;omega)) (Nat.le_refl _);have jC:=lW.go (m:=12) f5 bp;refine af (pq _ aY) λbV _=> ?_;refine af (r6 _ (jC.mono bp)) λcu ke=> ?_;refine af (aqb _ (jC.go ke bp)) λb6 qV=> ?_;have mY:=ke.trans qV;refine af (va _ (jC.go mY bp)) λcS vT=> ?_;have nj:=mY.trans vT.1;refine af (CO _ (jC.go nj bp)) λcG qW=> ?_;have mA:=nj.trans qW;obtain⟨t,t1,t2,t3⟩:=mA.s;have t1:=aiu t1 (e8 _);obtain⟨gW,fU,jo,mm⟩:=Af (ss:=cG.2.2.2.2.2.2.1) t1 aj;refine ah (λ_=> ?_) (λq=>by rw[gW] at q;cases q);refine af (ld fU) λiX mi=> ?_;rw[jo] at mi;cases mi;refine af (dv (by simp only[b5];omega)) λpn rV=> ?_;refine ah (λ_=> ?_) (λq=>by rw[gW] at q;cases q);refine af (ld fU) λik jX=> ?_;rw[jo] at jX;cases jX;refine ah (λ_=> ?_) (λq=>by simp at q);have aKM:=nI.put (n:=1) mK rV.1;exact an ((cy.trans ((f5.trans mA).kZ (mm _) (aK.cons (by show pn.1.length<=20;omega) t2) (by rw[gO];omega))).mono bp)
theorem aqz:∀x:U Jl,(wY x.2.1.2.1.1/\0<=x.1.2.2.2.1.1/\x.1.2.2.2.1.1<x.2.1.2.1.1.length/\0<=x.1.2.2.2.2.1.1)->aL (a_ Jk x) (Sum.elim (λy=>y.2.1=x.2.1/\y.2.2.1=x.2.2.1/\y.2.2.2.2.2.2.2.1=x.2.2.2.2.1) (λy=>y.2.1=x.2.1/\y.2.2.1=x.2.2.1/\y.2.2.2.2.2.2.2.1=x.2.2.2.2.1/\oU (y.2.2.2.2.2.1.1,y.2.2.2.2.2.1.2.1,y.2.2.2.2.2.1.2.2.1,())/\y.1.1.1.size<=12)):=by
 intro x aD;obtain⟨aa,ae,az,a9⟩:=aD;refine cJ (λz:U Jl=>z.2.1=x.2.1/\z.2.2.1=x.2.2.1/\z.2.2.2.2.1=x.2.2.2.2.1/\z.1.2.2.2.1=x.1.2.2.2.1/\0<=z.1.2.2.2.2.1.1) (λz=>((6:Nat)-z.1.2.2.2.2.1.1:Int).toNat) (λz ax=> ?_) _ ⟨rfl,rfl,rfl,rfl,a9⟩;obtain⟨ey,fq,gC,gi,mM⟩:=ax;unfold Jk;have gM:=e_ (l:=x.2.1.2.1.1) (i:=x.1.2.2.2.1.1.toNat) ab;have am0:=aa.2.2 _ _ gM;have vZ:0<=z.1.2.2.2.1.1/\z.1.2.2.2.1.1<z.2.1.2.1.1.length:=by rw[gi,ey];exact⟨ae,az⟩
 have jW:∀e,z.2.1.2.1.1[z.1.2.2.2.1.1.toNat]? =some e->oU e:=λe he=>by rw[ey,gi,gM] at he;cases he;exact am0
 have Is:∀e e',z.2.1.2.1.1[z.1.2.2.2.1.1.toNat]? =some e->z.2.1.2.1.1[z.1.2.2.2.1.1.toNat]? =some e'->e'=e:=λe e' he fe=>by rw[he] at fe;exact(hP fe).symm
 have aKS:(S ⟨#[46]⟩).1.size=1:=rfl;refine af (eG vZ) λaE cL=> ?_;obtain⟨aF,aQ,bn,cy⟩:=jW aE cL;apply ah<;>intro ai;simp only[cc,aI] at ai;refine af (eG vZ) λaX df=> ?_;obtain rfl:=Is _ _ cL df;refine af (oh ab) λcZ zN=> ?_;refine af (eG vZ) λcM fA=> ?_;obtain rfl:=Is _ _ cL fA;refine bk λdX gj=> ?_;have oV:=cy _ _ gj;refine af (oh (by have:=zN.2;omega)) λv6 zO=> ?_;apply ah<;>intro _;refine af (eG vZ) λfD jO=> ?_;obtain rfl:=Is _ _ cL jO;refine af (eG vZ) λdG h_=> ?_;obtain rfl:=Is _ _ cL h_;refine bk λeK kr=> ?_;exact ba ⟨ey,fq,gC,⟨aF,aQ,bn,cy⟩,cy _ _ kr⟩;have aA:=dK z.1.2.2.2.2.1 mM ab;exact bG ⟨⟨ey,fq,gC,gi,by dsimp only;rw[aA];omega⟩,by dsimp only;rw[aA];omega⟩;exact ba ⟨ey,fq,gC⟩
theorem aaE:∀x:U aaC,wY x.2.1.2.1.1->aL (CS x) (λy=>y.2.1=x.2.1/\y.2.2.1=x.2.2.1/\y.2.2.2.2.2.2.1=x.2.2.2.2.1/\oU y.1.1/\y.1.2.1.1.size<=12):=by
 intro x h;unfold CS;refine af (cJ (h:=Jj) (R:=Sum.elim (λy=>y.2.1=x.2.1/\y.2.2.1=x.2.2.1/\y.2.2.2.2.2.2.2.1=x.2.2.2.2.1) (λy=>y.2.1=x.2.1/\y.2.2.1=x.2.2.1/\y.2.2.2.2.2.2.2.1=x.2.2.2.2.1/\oU (y.2.2.2.2.2.1.1,y.2.2.2.2.2.1.2.1,y.2.2.2.2.2.1.2.2.1,())/\y.1.1.1.size<=12)) (λz:U Rc=>z.2.1=x.2.1/\z.2.2.1=x.2.2.1/\z.2.2.2.2.1=x.2.2.2.2.1/\0<=z.1.2.2.2.1.1) (λz=>((6:Nat)-z.1.2.2.2.1.1:Int).toNat) (λz ax=> ?_) _ ⟨rfl,rfl,rfl,(by show 0<=(W 0).1;decide)⟩) λcG fm=> ?_;obtain⟨ey,fq,gC,gi⟩:=ax;unfold Jj;have a3:=h.2.1;apply ah<;>intro ai;simp only[cc,aI] at ai;rw[ey] at ai;refine af (aqz _ ⟨by dsimp only;rw[ey];exact h,gi,by dsimp only;rw[ey];exact ai,by show 0<=(W 0).1;decide⟩) λcu eZ=> ?_;refine dZ eZ (λb6 eU=> ?_) (λcS eV=> ?_);obtain⟨cm,cF,dy⟩:=eU;have aA:=dK z.1.2.2.2.1 gi ab;exact bG ⟨⟨cm.trans ey,cF.trans fq,dy.trans gC,by dsimp only;rw[aA];omega⟩,by dsimp only;rw[aA];omega⟩;obtain⟨cm,cF,dy,e8,ki⟩:=eV;exact ba ⟨cm.trans ey,cF.trans fq,dy.trans gC,e8,ki⟩;exact ba ⟨ey,fq,gC⟩;refine dZ fm (λev ji=> ?_) (λdD gR=> ?_);obtain⟨cm,cF,dy⟩:=ji;have i0:(W 0).1=0:=rfl;have aa:=h.1;have vZ:0<=(W 0).1/\(W 0).1<ev.2.1.2.1.1.length:=by rw[i0,cm];omega
 refine af (eG vZ) λik jX=> ?_;have bZ:oU ik:=by rw[cm] at jX;exact h.2.2 _ _ jX
 refine af (eG vZ) λkp lC=> ?_;obtain rfl:=hP (jX.symm.trans lC);refine af (eG (by rw[i0];have:=bZ.2.1;omega)) λkq o7=> ?_;exact an ⟨cm,cF,dy,bZ,bZ.2.2.2 _ _ o7⟩;exact an gR
theorem aqu:∀x:U aaB,kC x.2 6->aL (Ji x) (λy=>eX x.2 (gY y.2) 6):=by
 intro x h;unfold Ji;have jz:eX x.2 x.2 0:=eX.refl h.d;apply ah<;>intro _;refine af (jk _ h.d) λaB cd=> ?_;have aF:=jz.o3 cd.1;apply ah<;>intro _;refine af (pq _ aY) λaG _=> ?_;refine af (r6 _ (h.go aF bp)) λa1 az=> ?_;have bn:=aF.trans az;refine af (ud _ (h.go bn bp)) λa2 a9=> ?_;exact an ((bn.trans a9).mono bp);exact an (aF.mono bp);refine af (jk _ h.d) λbf cU=> ?_;have aF:=jz.o3 cU.1;apply ah<;>intro _;refine af (pq _ aY) λbO _=> ?_;refine af (ud _ (h.go aF bp)) λbU er=> ?_;exact an ((aF.trans er).mono bp);refine af (aaE _ h.b8) λcD eY=> ?_;obtain⟨cm,cF,dy,e8,ki⟩:=eY;have dG:gY cD.2=(x.2.1,bf.2.1,(),x.2.2.2.2.1,()):=by unfold gY;rw[cm,cF,dy]
 have iO:eX x.2 (gY cD.2) 0:=by rw[dG];exact aF
 refine af (pq _ aY) λbV _=> ?_;refine af (IX _ ⟨e8.1,ki⟩) λcu _=> ?_;refine af (r6 _ (h.go iO bp)) λb6 qV=> ?_;have mY:=iO.trans qV;refine af (jk _ mY.d) λcS eV=> ?_;have nj:=mY.o3 eV.1;refine af (ub _ (h.go nj bp)) λcG qW=> ?_;have mA:=nj.trans qW;refine af (ud _ (h.go mA bp)) λev rK=> ?_;exact an ((mA.trans rK).mono bp)
theorem aaw:∀x:U aat,(kC x.2 7/\oU x.1.2.1/\x.1.2.2.1.1.size<=12)->aL (CQ x) (λy=>eX x.2 (gY y.2) 7):=by
 intro x aD;obtain⟨h,bw,aJ⟩:=aD;unfold CQ;refine af (pq _ aY) λaB cd=> ?_;refine af (aaj _ (h.mono bp)) λaG ae=> ?_;have jC:=bw.2.2.1;refine af (cJ (h:=Jh) (R:=λy=>eX x.2 (y.2.1,y.2.2.1,(),y.2.2.2.2.2.2.2.2.1,()) 6) (λz:U Ra=>z.1.2.1=x.1.2.2.1/\z.1.2.2.1=x.1.2.1/\0<=z.1.2.2.2.2.1.1/\z.1.2.2.2.2.1.1<=x.1.2.1.2.1.1.length/\z.2.2.2.2.2.1.2.2.2.2.2.2.2.1.1.length<=z.1.2.2.2.2.1.1/\eX x.2 (z.2.1,z.2.2.1,(),z.2.2.2.2.1,()) (1+z.1.2.2.2.2.1.1.toNat)) (λz=>((x.1.2.1.2.1.1.length:Nat)-z.1.2.2.2.2.1.1:Int).toNat) (λz ax=> ?_) _ ⟨rfl,rfl,(by show 0<=(W 0).1;decide),(by show(W 0).1<=_;have i0:(W 0).1=0:=rfl;rw[i0];omega),(by show((0:Nat):Int)<=(W 0).1;decide),ae⟩) λcu eZ=> ?_;obtain⟨ey,fq,gC,gi,mM,kB⟩:=ax;unfold Jh;rw[ey,fq];apply ah<;>intro ai;simp only[cc,aI] at ai;have aA:=dK z.1.2.2.2.2.1 gC ab;have bH:(z.1.2.2.2.2.1.1+1).toNat=z.1.2.2.2.2.1.1.toNat+1:=ab;refine af (eG ⟨gC,ai⟩) λbL eT=> ?_;apply ah<;>intro _;refine af (eG ⟨gC,ai⟩) λcM fA=> ?_;refine af (eG ⟨gC,ai⟩) λdX gj=> ?_;refine af (IX _ ⟨bw.1,bw.2.2.2 _ _ gj⟩) λbO _=> ?_;refine af (jk _ kB.d) λbU en=> ?_;have gU:=kB.o3 en.1;refine af (ub _ (h.go gU ab)) λcD eS=> ?_;have iO:=gU.trans eS;refine af (dv (by simp only[b5];omega)) λnU u0=> ?_;have aoe:=u0.2;simp only[b5] at aoe;exact bG ⟨⟨rfl,rfl,by dsimp only;rw[aA];omega,by dsimp only;rw[aA];omega,by dsimp only;rw[aA];omega,by dsimp only;rw[aA,bH];exact iO⟩,by dsimp only;rw[aA];omega⟩;exact bG ⟨⟨rfl,rfl,by dsimp only;rw[aA];omega,by dsimp only;rw[aA];omega,by dsimp only;rw[aA];omega,by dsimp only;rw[aA,bH];exact kB.mono ab⟩,by dsimp only;rw[aA];omega⟩;exact ba (kB.mono ab);refine af (ud _ (h.go eZ bp)) λb6 qV=> ?_;exact an (eZ.trans qV)
theorem ap4:∀x:U aak,kC x.2 3->aL (Jd x) (λy=>eX x.2 (gY y.2) 3):=by
 intro x h;unfold Jd;have jz:eX x.2 x.2 0:=eX.refl h.d;apply ah<;>intro _;refine af (jk _ h.d) λaB cd=> ?_;have aF:=jz.o3 cd.1;apply ah<;>intro _;refine af (ub _ (h.go aF bp)) λaG ae=> ?_;have aQ:=aF.trans ae;refine af (r6 _ (h.go aQ bp)) λa1 az=> ?_;have bn:=aQ.trans az;exact af (wv _ (h.go bn bp)) (λa2 a9=>an (bn.trans a9));apply ah<;>intro _;refine af (jk _ cd.1) λbf cU=> ?_;have fj:=jz.o3 cU.1;exact af (ub _ (h.go fj bp)) (λbO dm=>an ((fj.trans dm).mono bp));refine af (r6 _ (h.go aF bp)) λbU er=> ?_;have gU:=aF.trans er;refine af (jk _ gU.d) λcD eY=> ?_;have iO:=gU.o3 eY.1;refine af (ub _ (h.go iO bp)) λbV fR=> ?_;have jU:=iO.trans fR;exact af (wv _ (h.go jU bp)) (λcu ke=>an (jU.trans ke));apply ah<;>intro _;refine af (r6 _ (h.go jz bp)) λb6 qV=> ?_;have mY:=jz.trans qV;refine af (jk _ mY.d) λcS eV=> ?_;have nj:=mY.o3 eV.1;refine af (ub _ (h.go nj bp)) λcG qW=> ?_;have mA:=nj.trans qW;exact af (wv _ (h.go mA bp)) (λev rK=>an (mA.trans rK));apply ah<;>intro _;refine af (jk _ h.d) λdD gR=> ?_;have BJ:=jz.o3 gR.1;refine af (ae_ _ aY) λeN gm=> ?_;have ey:(S ⟨#[116]⟩).1.size=1:=rfl;refine af (oh (by dsimp only at gm;omega)) λkL _=> ?_;refine af (ym _ (h.go BJ bp)) λe4 HU=> ?_;have HP:=BJ.trans HU;refine af (ym _ (h.go HP bp)) λfI HV=> ?_;have W8:=HP.trans HV;exact af (wv _ (h.go W8 bp)) (λga PV=>an (W8.trans PV));refine af (ym _ (h.go jz bp)) λjc alw=> ?_;have W_:=jz.trans alw;refine af (r6 _ (h.go W_ bp)) λe9 zx=> ?_;have xl:=W_.trans zx;exact af (wv _ (h.go xl bp)) (λmn alx=>an (xl.trans alx))
def iN:Nat->Nat
 |0=>16
 |r+1=>6*iN r+80
def wZ (w:uH) (l:D dt):Prop:=0<=w.1.2.2.2.2.2.2.2.2.1.1/\w.1.2.2.2.2.2.2.2.2.1.1<w.1.2.2.2.2.2.2.2.1.1.length/\w.1.2.2.2.2.2.2.2.1.1[w.1.2.2.2.2.2.2.2.2.1.1.toNat]? =some l/\sr l
theorem wZ.go {w v k l} (h:wZ w l) (g:eX w v k):wZ v l:=by
 unfold wZ;rw[g.ty,g.ro];exact h
def yT (r:Nat) (x:U oG):Prop:=kC x.2 (iN r)/\(∃l,wZ x.2 l/\0<=x.1.2.1.1/\x.1.2.1.1<l.2.1.1.length)/\0<=x.1.2.2.1.1/\x.1.2.2.1.1<=5/\5<=x.1.2.2.1.1+r
theorem Rb (rec:U oG->Option (U qG)) (r:Nat) (q5:∀x,yT r x->aL (rec x) (λy=>eX x.2 (gY y.2) (iN r))):∀x:U aax,(kC x.2 (iN r+9)/\(∃l t,wZ x.2 l/\0<=x.1.2.1.1/\l.2.1.1[x.1.2.1.1.toNat]? =some t/\0<=x.1.2.2.1.1/\x.1.2.2.1.1<t.2.2.1.1.length)/\0<=x.1.2.2.2.1.1/\x.1.2.2.2.1.1<=4/\4<=x.1.2.2.2.1.1+r)->aL (z3 rec x) (λy=>eX x.2 (gY y.2) (iN r+9)):=by
 intro x aD;obtain⟨h,⟨l,t,bS,bl,a3,a0,dE⟩,d0,d4,d5⟩:=aD;unfold z3;have BP:=bS;obtain⟨t1,t2,t3,t4⟩:=BP;refine af (eG ⟨t1,t2⟩) λaE cL=> ?_;obtain rfl:=hP (t3.symm.trans cL);have bK:=(ed.1 a3).1;refine af (eG ⟨bl,ab⟩) λaX df=> ?_;obtain rfl:=hP (a3.symm.trans df);refine af (eG ⟨a0,dE⟩) λbL eT=> ?_;have lS:=(t4.eE _ _ a3).2.2 _ _ eT;have xD:=dK x.1.2.2.2.1 d0 ab;have jz:eX x.2 x.2 0:=eX.refl h.d;have fin:∀(v:uH) (k:Nat),eX x.2 v k->k<=9->yT r (((),bL.2.2.2.1,(bg x.1.2.2.2.1 (W (1))),()),v):=λv k g aP=>
  ⟨h.go g ab,⟨l,bS.go g,lS.1,lS.2⟩,by dsimp only;rw[xD];omega,by dsimp only;rw[xD];omega,by dsimp only;rw[xD];omega⟩
 refine af (pq _ aY) λa2 _=> ?_;apply ah<;>intro _;refine af (ud _ (h.mono ab)) λbV fR=> ?_;refine af (q5 _ (fin (gY bV.2) 1 fR bp)) λcu ke=> ?_;exact an ((eX.trans fR ke).mono ab);apply ah<;>intro _;refine af (aaE _ h.b8) λbf cU=> ?_;obtain⟨cm,cF,dy,e8,ki⟩:=cU;have dX:gY bf.2=x.2:=by unfold gY;rw[cm,cF,dy];rfl
 have fj:eX x.2 (gY bf.2) 0:=by rw[dX];exact jz
 refine af (aaw _ ⟨h.go fj ab,e8,ki⟩) λbO dm=> ?_;have fX:=fj.trans dm;refine af (r6 _ (h.go fX ab)) λbU er=> ?_;have gU:=fX.trans er;refine af (ud _ (h.go gU ab)) λb6 qV=> ?_;have mY:=gU.trans qV;refine af (q5 _ (fin (gY b6.2) _ mY bp)) λcS vT=> ?_;exact an ((eX.trans mY vT).mono ab);refine af (ap4 _ (h.mono ab)) λcD eS=> ?_;refine af (ud _ (h.go eS ab)) λcG qW=> ?_;have mA:=eS.trans qW;refine af (q5 _ (fin (gY cG.2) _ mA bp)) λev rK=> ?_;exact an ((eX.trans mA rK).mono ab)
theorem ap9 (rec:U oG->Option (U qG)) (r:Nat) (q5:∀x,yT r x->aL (rec x) (λy=>eX x.2 (gY y.2) (iN r))):∀x:U aao,(kC x.2 (6*iN r+60)/\(∃l,wZ x.2 l/\0<=x.1.2.1.1/\x.1.2.1.1<l.2.1.1.length)/\0<=x.1.2.2.1.1/\x.1.2.2.1.1<=4/\4<=x.1.2.2.1.1+r)->aL (Je rec x) (λy=>eX x.2 (gY y.2) (6*iN r+60)):=by
 intro x aD;obtain⟨h,⟨l,bS,bl,aa⟩,d0,d4,d5⟩:=aD;unfold Je;have BP:=bS;obtain⟨t1,t2,t3,t4⟩:=BP;refine af (eG ⟨t1,t2⟩) λaE cL=> ?_;obtain rfl:=hP (t3.symm.trans cL);refine af (eG ⟨bl,aa⟩) λaX df=> ?_;have H0:=t4.eE _ _ df;have sA:=H0.1;refine af (pq _ aY) λa1 _=> ?_;refine af (va _ (h.mono ab)) λa2 c9=> ?_;obtain⟨cy,aj,a,bW,hw⟩:=c9;have lW:=h.go (m:=6*iN r+59) cy ab;have xD:=dK x.1.2.2.1 d0 ab;refine af (cJ (h:=Jf rec) (R:=λy=>eX x.2 (y.2.1,y.2.2.1,(),y.2.2.2.2.2.2.1,()) (1+6*(iN r+8))/\∃b t,y.2.2.2.2.2.2.1.1=x.2.2.2.2.1.1++b::t/\b.2.2.2.2.2.2.2.2.1.1.length<=6/\aK nI t/\t.length<=6*(iN r+8))
  (λz:U Q9=>z.1.2.1=x.1.2.2.1/\z.1.2.2.1=aX/\z.1.2.2.2.1=a2.1.1/\0<=z.1.2.2.2.2.1.1/\z.1.2.2.2.2.1.1<=aX.2.2.1.1.length/\eX x.2 (z.2.1,z.2.2.1,(),z.2.2.2.2.1,()) (1+z.1.2.2.2.2.1.1.toNat*(iN r+8))/\∃b t,z.2.2.2.2.1.1=x.2.2.2.2.1.1++b::t/\b.2.2.2.2.2.2.2.2.1.1.length<=z.1.2.2.2.2.1.1.toNat/\aK nI t/\t.length<=z.1.2.2.2.2.1.1.toNat*(iN r+8))
  (λz=>((aX.2.2.1.1.length:Nat)-z.1.2.2.2.2.1.1:Int).toNat) (λz ax=> ?_) _ ⟨rfl,rfl,rfl,(by show 0<=(W 0).1;decide),(by show(W 0).1<=_;have i0:(W 0).1=0:=rfl;rw[i0];omega),(by show eX _ _ (1+0*_);rw[Nat.zero_mul];exact cy),a,[],bW,ab,aK.nil,Nat.zero_le _⟩) (λeN gm=> ?_)
 obtain⟨ey,fq,gC,gi,mM,kB,b,t,qi,iB,j4,G1⟩:=ax;unfold Jf;rw[ey,fq,gC];have rM:z.1.2.2.2.2.1.1.toNat*(iN r+8)<=5*(iN r+8)\/6<=z.1.2.2.2.2.1.1.toNat:=by
  by_cases ay:z.1.2.2.2.2.1.1.toNat<=5;exact .inl (mS _ ay);exact .inr ab
 apply ah<;>intro ai;simp only[cc,aI] at ai;have aA:=dK z.1.2.2.2.2.1 gi ab;have bH:(z.1.2.2.2.2.1.1+1).toNat=z.1.2.2.2.2.1.1.toNat+1:=ab;have rM:z.1.2.2.2.2.1.1.toNat*(iN r+8)<=5*(iN r+8):=ab;have dz:(z.1.2.2.2.2.1.1.toNat+1)*(iN r+8)=z.1.2.2.2.2.1.1.toNat*(iN r+8)+(iN r+8):=Nat.succ_mul _ _;have R4:=h.go (m:=iN r+8) kB ab;refine af (eG ⟨gi,ai⟩) λdX gj=> ?_;refine af (P:=λy=>eX (z.2.1,z.2.2.1,(),z.2.2.2.2.1,()) (y.2.1,y.2.2.1,(),y.2.2.2.2.2.2.2.1,()) 7) ?_ (λcu ke=> ?_);unfold aal;refine af (eG ⟨gi,ai⟩) λdh gl=> ?_;apply ah<;>intro _;refine af (aaj _ (R4.mono ab)) λbU er=> ?_;refine af (eG ⟨gi,ai⟩) λdG h_=> ?_;refine af (aqu _ (R4.go er ab)) λbV fR=> ?_;exact an (er.trans fR);exact an ((eX.refl R4.d).mono bp);refine af (eG ⟨gi,ai⟩) λgk mB=> ?_;have lS:=H0.2.2 _ _ mB;have zu:=kB.trans ke;refine af (q5 _ ⟨h.go zu ab,⟨l,bS.go zu,lS.1,lS.2⟩,by dsimp only;rw[xD];omega,by dsimp only;rw[xD];omega,by dsimp only;rw[xD];omega⟩) λcS vT=> ?_;have nj:=ke.trans vT;obtain⟨u,jD,kj,On⟩:=nj.s;have jD:cS.2.2.2.2.2.2.1.1=x.2.2.2.2.1.1++b::(t++u):=jD.trans (by show z.2.2.2.2.1.1++u=_;rw[qi];simp);obtain⟨gW,fU,jo,mm⟩:=Af jD aj;refine ah (λ_=> ?_) (λq=>by rw[gW] at q;cases q);refine af (ld fU) λj9 ov=> ?_;rw[jo] at ov;cases ov;refine af (dv (by simp only[b5];omega)) λsZ xH=> ?_;refine ah (λ_=> ?_) (λq=>by rw[gW] at q;cases q);refine af (ld fU) λjx ow=> ?_;rw[jo] at ow;cases ow;refine ah (λ_=> ?_) (λq=>by simp at q);have aIx:=nI.put iB xH.1;have ul:(t++u).length<=z.1.2.2.2.2.1.1.toNat*(iN r+8)+(iN r+8):=by rw[bY];omega
 have hu:aK nI (t++u):=j4.append kj;refine bG ⟨⟨rfl,rfl,rfl,by dsimp only;rw[aA];omega,by dsimp only;rw[aA];omega, ?_,_,t++u,mm _, ?_,hu, ?_⟩,by dsimp only;rw[aA];omega⟩;dsimp only
 rw[aA,bH];exact((kB.trans nj).mono (m:=1+(z.1.2.2.2.2.1.1.toNat+1)*(iN r+8)) ab).kZ (mm _) (aK.cons (by show sZ.1.length<=20;omega) hu) (by rw[gO];omega);show sZ.1.length<=(bg z.1.2.2.2.2.1 (W 1)).1.toNat;rw[aA,bH];exact aIx;dsimp only;rw[aA,bH];omega;simp only[cc,aI] at ai;have rM:z.1.2.2.2.2.1.1.toNat*(iN r+8)<=6*(iN r+8):=mS _ ab;exact ba ⟨kB.mono ab,b,t,qi,ab,j4,ab⟩;obtain⟨W7,b,t,cR,fg,hJ,oe⟩:=gm;refine af (jk _ W7.d) λfo iA=> ?_;have xk:=W7.o3 iA.1;apply ah<;>intro _;refine af (pq _ aY) λe4 _=> ?_;have DE:=h.go (m:=6) xk ab;refine af (ym _ (DE.mono bp)) λfI HV=> ?_;refine af (ud _ (DE.go HV bp)) λga PV=> ?_;have W9:=HV.trans PV;refine af (pq _ aY) λjc _=> ?_;refine af (va _ (DE.go W9 bp)) λe9 zx=> ?_;have xl:=W9.trans zx.1;obtain⟨u,jD,kj,On⟩:=xl.s;have jD:e9.2.2.2.2.2.2.1.1=x.2.2.2.2.1.1++b::(t++u):=jD.trans (by show eN.2.2.2.2.2.2.1.1++u=_;rw[cR];simp);obtain⟨gW,fU,jo,mm⟩:=Af jD aj;refine ah (λ_=> ?_) (λq=>by rw[gW] at q;cases q);refine af (ld fU) λmz q2=> ?_;rw[jo] at q2;cases q2;refine af (dv (by simp only[b5];omega)) λtY zH=> ?_;refine ah (λ_=> ?_) (λq=>by rw[gW] at q;cases q);refine af (ld fU) λlv vW=> ?_;rw[jo] at vW;cases vW;refine ah (λ_=> ?_) (λq=>by simp at q);have aIz:=nI.put fg zH.1;exact an (((xk.trans xl).mono (m:=6*iN r+60) ab).kZ (mm _) (aK.cons (by show tY.1.length<=20;omega) (hJ.append kj)) (by rw[gO,bY];omega));exact an (xk.mono ab)
theorem apR:∀(r n:Nat) (x:U oG),r<n->yT r x->aL (wu n x) (λy=>eX x.2 (gY y.2) (iN r)):=by
 intro r;induction r with
 |zero=>
  intro n x aA aD;obtain⟨n,rfl⟩:∃m,n=m+1:=⟨n-1,ab⟩;obtain⟨h,⟨l,bS,bl,aa⟩,d0,d5,d6⟩:=aD;show aL (z1 (wu n) x) _;unfold z1;obtain⟨t1,t2,t3,t4⟩:=bS;refine af (eG ⟨t1,t2⟩) λaE cL=> ?_;obtain rfl:=hP (t3.symm.trans cL);refine af (eG ⟨bl,aa⟩) λaX df=> ?_;have jz:eX x.2 x.2 0:=eX.refl h.d;apply ah<;>intro _;exact af (CO _ (h.mono bp)) (λa1 az=>an (az.mono bp));refine af (P:=λy=>gY y.2=x.2) ?_ (λa2 cM=> ?_);unfold Q7;exact ah (λ_=>ah (λ_=>an rfl) (λ_=>an rfl)) (λ_=>an rfl);have cy:eX x.2 (gY a2.2) 0:=by rw[cM];exact jz
  apply ah<;>intro _;exact af (Z8 _ (h.go cy bp)) (λbf cE=>an ((cy.trans cE).mono bp));refine af (P:=λy=>gY y.2=x.2/\y.1.1=true) ?_ (λbO dB=> ?_);unfold Q8;refine ah (λ_=>an ⟨cM,rfl⟩) (λ_=>an ⟨cM, ?_⟩);simp only[cc,aI];omega;obtain⟨dh,f6⟩:=dB;have fX:eX x.2 (gY bO.2) 0:=by rw[dh];exact jz
  refine ah (λ_=> ?_) (λq=>by rw[f6] at q;cases q);exact af (CO _ (h.go fX bp)) (λbU er=>an ((fX.trans er).mono bp))
 |succ r b_=>
  intro n x aA aD;obtain⟨n,rfl⟩:∃m,n=m+1:=⟨n-1,ab⟩;obtain⟨h,⟨l,bS,bl,aa⟩,d0,d5,d6⟩:=aD;have aq:iN (r+1)=6*iN r+80:=rfl;have zz:16<=iN r:=by
   clear b_ aA h d6 aq;induction r with
   |zero=>exact Nat.le_refl _
   |succ r b_=>have:iN (r+1)=6*iN r+80:=rfl;omega
  have q5:∀x,yT r x->aL (wu n x) (λy=>eX x.2 (gY y.2) (iN r)):=λx aV=>b_ n x ab aV;show aL (z1 (wu n) x) _;unfold z1;have BP:=bS;obtain⟨t1,t2,t3,t4⟩:=BP;refine af (eG ⟨t1,t2⟩) λaE cL=> ?_;obtain rfl:=hP (t3.symm.trans cL);refine af (eG ⟨bl,aa⟩) λaX df=> ?_;have H0:=t4.eE _ _ df;have jz:eX x.2 x.2 0:=eX.refl h.d;apply ah<;>intro aC;exact af (CO _ (h.mono ab)) (λa1 az=>an (az.mono ab));simp only[cc,aI] at aC;have dE:=H0.2.1 ab;refine af (P:=λy=>gY y.2=x.2) ?_ (λa2 cM=> ?_);unfold Q7;exact ah (λ_=>ah (λ_=>an rfl) (λ_=>an rfl)) (λ_=>an rfl);have cy:eX x.2 (gY a2.2) 0:=by rw[cM];exact jz
  apply ah<;>intro _;exact af (Z8 _ (h.go cy ab)) (λbf cE=>an ((cy.trans cE).mono ab));refine af (P:=λy=>gY y.2=x.2/\(y.1.1=false->x.1.2.2.1.1<=4)) ?_ (λbO dB=> ?_);unfold Q8;refine ah (λ_=>an ⟨cM,λq=>(by cases q)⟩) (λ_=>an ⟨cM,λq=> ?_⟩);simp only[cc,aI] at q;omega;obtain⟨dh,f6⟩:=dB;have fX:eX x.2 (gY bO.2) 0:=by rw[dh];exact jz
  refine ah (λ_=> ?_) (λlX=> ?_);exact af (CO _ (h.go fX ab)) (λbU er=>an ((fX.trans er).mono ab));have d4:=f6 lX;apply ah<;>intro _;exact af (ap9 _ r q5 _ ⟨h.go fX ab,⟨l,bS.go fX,bl,aa⟩,d0,d4,by dsimp only;omega⟩) (λcD eS=>an ((eX.trans fX eS).mono ab));refine af (P:=λy=>gY y.2=x.2) ?_ (λbV eK=> ?_);unfold aab;exact ah (λ_=>an dh) (λ_=>an dh);have jU:eX x.2 (gY bV.2) 0:=by rw[eK];exact jz
  have QU:∀z:aO .i64,0<=z.1->(1<=(bj aX.2.2.1).1->z.1<(bj aX.2.2.1).1)->z.1<aX.2.2.1.1.length:=λz _ q=>q (by show(1:Int)<=(aX.2.2.1.1.length:Nat);omega);apply ah<;>intro _;refine af (pq _ aY) λcu _=> ?_;refine af (jk _ jU.d) λb6 eU=> ?_;have mY:=jU.o3 eU.1;refine af (ub _ (h.go mY ab)) λcS vT=> ?_;have nj:=mY.trans vT;refine af (r6 _ (h.go nj ab)) λcG qW=> ?_;have mA:=nj.trans qW;refine af (wv _ (h.go mA ab)) λev rK=> ?_;have HO:=mA.trans rK;have RM:=h.go (m:=6*iN r+77) HO ab;refine af (va _ (RM.mono ab)) λdD gR=> ?_;obtain⟨BJ,aj,a,bW,hw⟩:=gR;refine af (jk _ BJ.d) λeN gm=> ?_;refine af (jk _ gm.1) λfo iA=> ?_;have xk:=BJ.o3 iA.1;have aju:=(bS.go HO).go xk;have DE:=RM.go (m:=6*iN r+76) xk ab;refine af (Rb _ r q5 _ ⟨DE.mono ab,⟨l,aX,aju,bl,df,gm.2.1,QU _ gm.2.1 gm.2.2⟩,d0,d4,by dsimp only;omega⟩) λe4 HU=> ?_;have HP:=eX.trans xk HU;obtain⟨t,jD,kj,On⟩:=HU.s;have jD:=aiu jD bW;obtain⟨gW,fU,jo,mm⟩:=Af (ss:=e4.2.2.2.2.2.2.1) jD aj;refine ah (λ_=> ?_) (λq=>by rw[gW] at q;cases q);refine af (ld fU) λpU qZ=> ?_;rw[jo] at qZ;cases qZ;refine af (dv (by simp only[b5];omega)) λx8 Ic=> ?_;refine ah (λ_=> ?_) (λq=>by rw[gW] at q;cases q);refine af (ld fU) λmW uX=> ?_;rw[jo] at uX;cases uX;refine ah (λ_=> ?_) (λq=>by simp at q);have aIy:=nI.put (n:=0) ab Ic.1;have f18:=HP.kZ (mm (a.1,a.2.1,a.2.2.1,a.2.2.2.1,a.2.2.2.2.1,a.2.2.2.2.2.1,a.2.2.2.2.2.2.1,a.2.2.2.2.2.2.2.1,x8,a.2.2.2.2.2.2.2.2.2.1,())) (aK.cons (by show x8.1.length<=20;omega) kj) (by rw[gO];omega);refine af (Rb _ r q5 _ ⟨RM.go f18 ab,⟨l,aX,(bS.go HO).go f18,bl,df,iA.2.1,QU _ iA.2.1 iA.2.2⟩,d0,d4,by dsimp only;omega⟩) λe9 zx=> ?_;have xl:=eX.trans f18 zx;obtain⟨v,v1,v2,cZ⟩:=zx.s;have v1:e9.2.2.2.2.2.2.1.1=ev.2.2.2.2.2.2.1.1++_::(t++v):=v1.trans (congrArg (·++v) (mm _))|>.trans (by rw[dF];rfl);obtain⟨s1,s2,tf,N_⟩:=Af (ss:=e9.2.2.2.2.2.2.1) v1 aj;refine ah (λ_=> ?_) (λq=>by rw[s1] at q;cases q);refine af (ld s2) λmz q2=> ?_;rw[tf] at q2;cases q2;refine af (dv (by simp only[b5];omega)) λtY zH=> ?_;refine ah (λ_=> ?_) (λq=>by rw[s1] at q;cases q);refine af (ld s2) λlv vW=> ?_;rw[tf] at vW;cases vW;refine ah (λ_=> ?_) (λq=>by simp at q);have aIz:=nI.put (n:=1) aIy zH.1;exact an ((HO.trans (xl.kZ (N_ _) (aK.cons (by show tY.1.length<=20;omega) (kj.append v2)) (by rw[gO,bY];omega))).mono ab);refine af (jk _ jU.d) λnZ pf=> ?_;have PQ:=jU.o3 pf.1;refine af (Rb _ r q5 _ ⟨h.go PQ ab,⟨l,aX,bS.go PQ,bl,df,pf.2.1,QU _ pf.2.1 pf.2.2⟩,d0,d4,by dsimp only;omega⟩) λAU alz=> ?_;exact an ((eX.trans PQ alz).mono ab)
theorem apU:∀x:U oG,yT 5 x->aL (Q6 x) (λy=>eX x.2 (gY y.2) 500000):=λx h=>
 (apR 5 oP x (by unfold oP;omega) h).mono λy bT=>bT.mono bp
theorem apJ:∀x:U Z0,(gN x.2.1/\wY x.1.2.1.1/\oU x.1.2.2.1/\aK sr x.1.2.2.2.1.1/\0<=x.1.2.2.2.2.1.1/\x.1.2.2.2.2.1.1<x.1.2.2.1.2.1.1.length/\x.1.2.2.2.2.1.1<x.1.2.2.2.1.1.length)->aL (Ja x) (λy=>gN y.2.1/\aK nI y.1.1.2.2.2.1.1):=by
 intro x aD;obtain⟨aa,ae,az,a9,cE,dm,er⟩:=aD;unfold Ja;refine af (eG ⟨cE,dm⟩) λaE cL=> ?_;refine af (IX _ ⟨az.1,az.2.2.2 _ _ cL⟩) λaG _=> ?_;refine af (jk _ aa) λa1 cq=> ?_;have gM:=e_ (l:=x.1.2.2.2.1.1) (i:=x.1.2.2.2.2.1.1.toNat) ab;have gr:=a9 _ _ gM;have i0:(W 0).1=0:=rfl;refine af (apU _ ⟨⟨cq.1,ae,by show 0+_<=_;decide,by show 0+_<=_;decide,by show 0<=(W 0).1;decide,by show(W 0).1+_<=_;decide⟩,⟨_,⟨cE,er,gM,gr⟩,by show 0<=(W 0).1;decide,by show(W 0).1<_;rw[i0];have:=gr.t1;omega⟩,by show 0<=(W 0).1;decide,by show(W 0).1<=5;decide,by show 5<=(W 0).1+_;decide⟩) λa2 a9=> ?_;refine an ⟨a9.d, ?_⟩;obtain⟨t,t1,t2,t3⟩:=a9.s;have t1:a2.2.2.2.2.2.2.1.1=[]++t:=t1;dsimp only
 rw[t1];exact t2
theorem apF:∀x:U ZY,(gN x.2.1/\wY x.1.2.1.1)->aL (I9 x) (λy=>aK nI y.1.1.2.2.2.1.1):=by
 intro x aD;obtain⟨aa,ae⟩:=aD;unfold I9;have i0:(W 0).1=0:=rfl;have i3:(W 3).1=3:=rfl;refine af (jk _ aa) λaB cd=> ?_;have p7:=cd.2.1;have bq:=cd.2.2 (by show 1<=(W 3).1;decide);dsimp only at bq;rw[i3] at bq;have hm:(bg (W 1) aB.1.1).1=1+aB.1.1.1:=by simp only[aI];omega
 refine af (cJ (h:=I_) (R:=λy=>aK nI y.2.2.2.2.2.2.1.1) (λz:U Q5=>z.1.2.1=x.1.2.1/\z.1.2.2.2.1=bg (W 1) aB.1.1/\0<=z.1.2.2.2.2.1.1/\aK nI z.2.2.2.2.1.1/\gN z.2.1/\kC (z.2.2.1,z.2.1,(),z.2.2.2.2.1,()) (500-100*z.1.2.2.2.2.1.1.toNat)) (λz=>((3:Nat)-z.1.2.2.2.2.1.1:Int).toNat) (λz ax=> ?_) _ ⟨rfl,rfl,(by show 0<=(W 0).1;decide),aK.nil,cd.1,cd.1,ae,by show 0+(500-100*0)<=1000000;decide,by show 0+(500-100*0)<=1000000;decide,by show 0<=(W 0).1;decide,by show(W 0).1+((500-100*0:Nat):Int)<=1000000;decide⟩) λeN gm=> ?_;obtain⟨ey,fq,gC,gi,mM,kB⟩:=ax;unfold I_;rw[ey,fq];apply ah<;>intro ai;simp only[cc,aI] at ai;have aA:=dK z.1.2.2.2.2.1 gC ab;have bH:(z.1.2.2.2.2.1.1+1).toNat=z.1.2.2.2.2.1.1.toNat+1:=ab;have a3:=ae.1;refine af (jk _ mM) λaG cn=> ?_;refine af (eG ⟨cn.2.1,cn.2.2 (by show(1:Int)<=(x.1.2.1.1.length:Nat);omega)⟩) λbL eT=> ?_;have bw:=ae.2.2 _ _ eT;refine af (jk _ cn.1) λa2 c9=> ?_;refine af (eG ⟨c9.2.1,c9.2.2 (by show(1:Int)<=(bL.2.1.1.length:Nat);have:=bw.2.1;omega)⟩) λdX gj=> ?_;have e8:=kB.o3 c9.1;refine af (aaw _ ⟨e8.mono ab,bw,bw.2.2.2 _ _ gj⟩) λbO dm=> ?_;refine af (pq _ aY) λbU _=> ?_;refine af (P:=λ_=>True) ?_ (λbV _=> ?_);unfold ZV;exact ah (λ_=>af (pq _ aY) (λ_ _=>an aY)) (λ_=>an aY);refine af (IX _ ⟨bw.1,bw.2.2.2 _ _ gj⟩) λcu _=> ?_;refine af (r6 _ (e8.go dm ab)) λb6 qV=> ?_;have mY:=dm.trans qV;refine af (jk _ mY.d) λcS eV=> ?_;have nj:=mY.o3 eV.1;refine af (ub _ (e8.go nj ab)) λcG qW=> ?_;have mA:=nj.trans qW;have fin:∀v:uH,eX (z.2.2.1,a2.2.1,(),z.2.2.2.2.1,()) v 10->aK nI v.2.2.2.1.1/\kC v (500-100*(z.1.2.2.2.2.1.1.toNat+1)):=λv g=>by
  obtain⟨t,t1,t2,t3⟩:=g.s;refine⟨?_,e8.go g ab⟩;rw[t1];exact gi.append t2
 apply ah<;>intro _;refine af (va _ (e8.go mA ab)) λev rK=> ?_;obtain⟨f1,f2⟩:=fin (gY ev.2) ((mA.trans rK.1).mono bp);exact bG ⟨⟨rfl,rfl,by dsimp only;rw[aA];omega,f1,rK.1.d,by dsimp only;rw[aA,bH];exact f2⟩,by dsimp only;rw[aA];omega⟩;refine af (ud _ (e8.go mA ab)) λdD HS=> ?_;obtain⟨f1,f2⟩:=fin (gY dD.2) ((mA.trans HS).mono bp);exact bG ⟨⟨rfl,rfl,by dsimp only;rw[aA];omega,f1,HS.d,by dsimp only;rw[aA,bH];exact f2⟩,by dsimp only;rw[aA];omega⟩;exact ba gi;exact an gm
def A5 (q:D fb):Prop:=aK nI q.2.2.2.1.1
theorem aoZ:∀x:U I1,(gN x.2.1/\wY x.2.2.1.1.1/\(∃p,x.2.2.1.1.1[x.1.2.2.1.1.toNat]? =some p/\0<=x.1.2.2.1.1/\x.1.2.2.2.1.1.length<=p.2.1.1.length)/\aK sr x.1.2.2.2.1.1/\x.1.2.2.2.1.1.length<=5/\x.1.2.2.2.2.1.1=0/\aK A5 x.2.2.1.2.2.1.1/\x.2.2.1.2.2.1.1.length<=5)->aL (a_ I0 x) (λy=>gN y.2.1/\y.2.2.1.1=x.2.2.1.1/\aK A5 y.2.2.1.2.2.1.1/\y.2.2.1.2.2.1.1.length<=x.2.2.1.2.2.1.1.length+5):=by
 intro x aD;obtain⟨aa,ae,⟨p,az,a9,cE⟩,dm,er,eS,fR,ke⟩:=aD;have bK:=(ed.1 az).1;refine cJ (λz:U I1=>z.1.2.2.1=x.1.2.2.1/\z.1.2.2.2.1=x.1.2.2.2.1/\0<=z.1.2.2.2.2.1.1/\z.1.2.2.2.2.1.1<=x.1.2.2.2.1.1.length/\gN z.2.1/\z.2.2.1.1=x.2.2.1.1/\aK A5 z.2.2.1.2.2.1.1/\(z.2.2.1.2.2.1.1.length:Int)=x.2.2.1.2.2.1.1.length+z.1.2.2.2.2.1.1) (λz=>((x.1.2.2.2.1.1.length:Nat)-z.1.2.2.2.2.1.1:Int).toNat) (λz ax=> ?_) _ ⟨rfl,rfl,ab,ab,aa,rfl,fR,ab⟩;obtain⟨ey,fq,gC,gi,mM,kB,qi,iB⟩:=ax;unfold I0;rw[ey,fq,kB];apply ah<;>intro ai;simp only[cc,aI] at ai;have aA:=dK z.1.2.2.2.2.1 gC ab;refine af (eG ⟨a9,ab⟩) λdX gj=> ?_;obtain rfl:=hP (az.symm.trans gj);refine af (eG ⟨gC,ai⟩) λdh gl=> ?_;refine af (apJ _ ⟨mM,ae,ae.2.2 _ _ az,dm,gC,by dsimp only;omega,ai⟩) λbU en=> ?_;refine af (dv (by simp only[b5];omega)) λjA oy=> ?_;obtain⟨dE,dc⟩:=oy;rw[fT (by simp)] at dE;simp only[b5] at dc;exact bG ⟨⟨rfl,rfl,by dsimp only;rw[aA];omega,by dsimp only;rw[aA];omega,en.1,rfl,by dsimp only;rw[dE];exact qi.append (aK.one en.2),by dsimp only;rw[aA];omega⟩,by dsimp only;rw[aA];omega⟩;exact ba ⟨mM,kB,qi,by dsimp only;omega⟩
theorem ao2:∀x:U ZA,x.1.1.1.length<=1000000000->aL (IY x) (λy=>tH y.1.1/\y.1.1.2.1.1=[]):=by
 intro x aD;unfold IY;refine af (aoS _ aD) λaB cd=> ?_;refine af (ao_ _ cd) λaG cn=> ?_;obtain⟨aF,aQ⟩:=cn;have i0:(W 0).1=0:=rfl;refine af (cJ (h:=IZ) (R:=λy=>gN y.2.1/\y.2.2.1.1=aG.1.1/\aK A5 y.2.2.1.2.2.1.1/\y.2.2.1.2.2.1.1.length<=20) (λz:U Q2=>0<=z.1.2.2.1.1/\z.1.2.2.1.1<=aG.1.1.1.length/\gN z.2.1/\z.2.2.1.1=aG.1.1/\aK A5 z.2.2.1.2.2.1.1/\(z.2.2.1.2.2.1.1.length:Int)<=5*z.1.2.2.1.1) (λz=>((aG.1.1.1.length:Nat)-z.1.2.2.1.1:Int).toNat) (λz ax=> ?_) _ ⟨by show 0<=(W 0).1;decide,by show(W 0).1<=_;rw[i0];omega,aF,rfl,aK.nil,by show((0:Nat):Int)<=5*(W 0).1;decide⟩) λcu eZ=> ?_;obtain⟨ey,fq,gC,gi,mM,kB⟩:=ax;unfold IZ;rw[gi];have a3:=aQ.2.1;apply ah<;>intro ai;simp only[cc,aI] at ai;have aA:=dK z.1.2.2.1 ey ab;refine af (eG ⟨ey,ai⟩) λbL eT=> ?_;refine af (TG _ aY) λa2 c9=> ?_;obtain⟨dE,dc,gT⟩:=c9;have key:a2.1.1.1.length<=bL.2.1.1.length/\aK sr a2.1.1.1:=by
  by_cases ay:a2.1.2.2.1.1=0;obtain⟨_,fg,hJ⟩:=dc ay;exact⟨Nat.le_of_eq fg,hJ⟩;rw[gT ay];exact⟨Nat.zero_le _,aK.nil⟩
 refine af (aoZ _ ⟨gC,by dsimp only;rw[gi];exact aQ,⟨bL,by dsimp only;rw[gi];exact eT,ey,key.1⟩,key.2,dE,rfl,mM,by dsimp only;omega⟩) λbV dV=> ?_;obtain⟨cN,dq,eJ,iD⟩:=dV;dsimp only at dq iD;exact bG ⟨⟨by dsimp only;rw[aA];omega,by dsimp only;rw[aA];omega,cN,dq.trans gi,eJ,by dsimp only;rw[aA];omega⟩,by dsimp only;rw[aA];omega⟩;exact ba ⟨gC,gi,mM,by dsimp only;omega⟩;obtain⟨d1,d2,d3,d4⟩:=eZ;refine af (apF _ ⟨d1,by dsimp only;rw[d2];exact aQ⟩) λb6 eU=> ?_;refine af (dv (by simp only[b5];omega)) λu7 B_=> ?_;obtain⟨dE,dc⟩:=B_;rw[fT (by simp)] at dE;refine an ⟨?_,rfl⟩;show aK _ u7.1;rw[dE];exact(d3.append (aK.one eU)).imp λq ay=>aK.imp ay λs aU=>ij aU bp
theorem au1:∀x:U adm,(x.1.1.1.length<=1000000000/\x.1.2.1.1=0)->aL (Kp x) (λy=>tH y.1.1/\y.1.1.2.1.1=[]):=by
 intro x aD;unfold Kp;have i1:(W 1).1=1:=rfl;refine ah (λ_=> ?_) (λai=> ?_);exact af (ao2 _ aD.1) (λy bT=>an bT);simp only[cc] at ai;rw[i1] at ai;omega
end cB
open Go.RowKit
def rq (n:Int):Nat:=if 0<=n then(2*n).toNat else(-2*n-1).toNat
def uw (u:Nat):Int:=if u%2=0 then(u/2:Nat) else-((u/2:Nat):Int)-1
theorem aIt (n:Int):uw (rq n)=n:=by
 unfold rq uw;split<;>split<;>omega
theorem Oz (n:Int) (aa:-9223372036854775808<=n) (ae:n<=9223372036854775807):rq n<18446744073709551616:=by
 unfold rq;split<;>omega
def lK:Nat->Nat->List UInt8
 |0,_=>[]
 |f+1,u=>if u<128 then[UInt8.ofNat u] else UInt8.ofNat (u%128+128)::lK f (u/128)
def gw (n:Int):List UInt8:=lK 10 (rq n)
def py (i u:Nat):List UInt8->Option (Nat×Nat)
 |[]=>none
 |c::r=>
  if 10<=i then none else if i=9/\1<c.toNat then none
  else if c.toNat<128 then(if c.toNat=0/\0<i then none else some (u+c.toNat%128*2^(7*i),i+1))
  else py (i+1) (u+c.toNat%128*2^(7*i)) r
theorem aIw (f u:Nat):0<(lK (f+1) u).length:=by
 unfold lK;split<;>simp
theorem aIv (f u:Nat):(lK f u).length<=f:=by
 induction f generalizing u with
 |zero=>simp[lK]
 |succ f b_=>
  unfold lK;split
  ·simp
  ·simp;exact b_ _
theorem aHv (f:Nat):∀(i u a:Nat) (r:List UInt8),i+f=10->0<f->u<2^(64-7*i)->(i=0\/0<u)->py i a (lK f u++r)=some (a+u*2^(7*i),i+(lK f u).length):=by
 induction f with
 |zero=>intro i u a r _ h;omega
 |succ f b_=>
  intro i u a r amg _ hu bl;unfold lK;by_cases bK:u<128
  ·rw[if_pos bK];have aq:(UInt8.ofNat u).toNat=u:=by rw[UInt8.toNat_ofNat',Nat.mod_eq_of_lt ab]
   show py i a (UInt8.ofNat u::r)=_;unfold py;rw[aq,if_neg ab,if_neg,if_pos bK,if_neg ab,Nat.mod_eq_of_lt bK]
   ·rfl
   ·rintro⟨rfl,aa⟩;simp at hu;omega
  ·rw[if_neg bK];have aq:(UInt8.ofNat (u%128+128)).toNat=u%128+128:=by rw[UInt8.toNat_ofNat',Nat.mod_eq_of_lt ab]
   show py i a (UInt8.ofNat (u%128+128)::(lK f (u/128)++r))=_;have aJo:i<9:=by
    rcases jL i 9 with h|h
    ·exact h
    ·have:i=9:=ab;subst this;simp at hu;omega
   have bw:2^(64-7*i)=2^(64-7*(i+1))*128:=by
    rw[show(128:Nat)=2^7 from rfl,<-Nat.pow_add];congr 1;omega
   unfold py;rw[aq,if_neg ab,if_neg ab,if_neg ab];rw[b_ (i+1) (u/128) _ r ab ab (by rw[bw] at hu;exact Nat.div_lt_of_lt_mul (by rw[Nat.mul_comm];exact hu)) (.inr ab)];have he:(u%128+128)%128*2^(7*i)+u/128*2^(7*(i+1))=u*2^(7*i):=by
    rw[show 7*(i+1)=7+7*i by omega,Nat.pow_add,<-Nat.mul_assoc,<-iC];congr 1;omega
   rw[Nat.add_assoc,he,gO];congr 2;omega
def qc (l:List UInt8):Int×Nat×Bool:=match py 0 0 l with
 |some (u,k)=>(uw u,k,true)
 |none=>(0,0,false)
theorem Ud (n:Int) (r:List UInt8) (aa:-9223372036854775808<=n) (ae:n<=9223372036854775807):qc (gw n++r)=(n,(gw n).length,true):=by
 unfold qc gw;rw[aHv 10 0 (rq n) 0 r rfl ab (by have:=Oz n aa ae;simpa using this) (.inl rfl)];simp[aIt]
namespace cB
set_option linter.unusedVariables false
set_option maxRecDepth 100000
def c4 (s:ew):List UInt8:=s.1.data.toList
def cA (l:L (D [.int .u8])):List UInt8:=l.1.map λe=>UInt8.ofNat e.1.1.toNat
theorem c4.len (s:ew):(c4 s).length=s.1.size:=by unfold c4;rw[Array.length_toList];rfl
theorem cA.len (l:L (D [.int .u8])):(cA l).length=l.1.length:=List.length_map ..
theorem c4.inj {s t:ew} (h:c4 s=c4 t):s=t:=by
 apply Subtype.ext;have:s.1.data=t.1.data:=Array.toList_inj.1 h;cases aU:s.1;cases bH:t.1;rw[aU,bH] at this;exact congrArg _ this
theorem c4.bytes (l:L (D [.int .u8])):c4 (og l)=cA l:=by
 show((l.1.map _).toArray).toList=_;rw[List.toList_toArray];rfl
theorem Hq {s:ew} (h:s.1.size<=140737488355328):aL (rF s) (λl=>cA l=c4 s/\l.1.length=s.1.size):=by
 have a3:=ajZ h;unfold rF at a3⊢;rw[dif_pos h] at a3⊢;refine⟨_,rfl, ?_, ?_⟩
 ·show(s.1.data.toList.map _).map _=_;rw[List.map_map];show s.1.data.toList.map (λu=>UInt8.ofNat ((u.toNat:Int)).toNat)=_;have:(λu:UInt8=>UInt8.ofNat ((u.toNat:Int)).toNat)=id:=funext λu=>by simp
  rw[this,List.map_id];rfl
 ·obtain⟨y,aa,ae⟩:=a3;cases aa;exact ae
theorem aj5 {s t:ew} (h:s.1.size+t.1.size<=9223372036854775807):aL (mg s t) (λu=>c4 u=c4 s++c4 t):=by
 refine(oh h).mono λu hu=> ?_;unfold c4;rw[hu.1,ByteArray.data_append,Array.toList_append]
theorem zk {s:ew} {di aj:Int} (h:0<=di/\di<=aj/\aj<=s.1.size):aL (oo s di aj) (λr=>c4 r=((c4 s).drop di.toNat).take (aj-di).toNat):=by
 refine(Pd h).mono λr aJ=> ?_;unfold c4;rw[aJ.1,ByteArray.data_extract,Array.toList_extract,List.extract_eq_take_drop];congr 1;omega
theorem A' {l r:L (D [.int .u8])} (h:l.1.length+r.1.length<=1048576000):aL (de 1 l r) (λx=>cA x=cA l++cA r):=by
 refine(dv ab).mono λx aV=> ?_;unfold cA;rw[aV.1,List.map_append]
theorem cA.one (e:D [.int .u8]):cA (cx [e])=[UInt8.ofNat e.1.1.toNat]:=by unfold cA;rw[fT (by simp)];rfl
theorem aIN (n:aO .i64) {v1:aO .u64} {v2:aO .i64} (aa:v1.1=IntKind.u64.wrap ((fk .u64 n).1*(2^(min ((aO.w .u64 1).1).toNat IntKind.u64.bits):Nat))) (ae:v2.1=IntKind.i64.wrap (Int.fdiv n.1 (2^(min ((aO.w .u64 63).1).toNat IntKind.i64.bits):Nat))):(ph v1 (fk .u64 v2)).1=(rq n.1:Int):=by
 have ai:=aO.sC n;have aE:v1.1=IntKind.u64.wrap (IntKind.u64.wrap n.1*2):=aa;have aX:(fk .u64 v2).1=IntKind.u64.wrap (n.1/9223372036854775808):=by
  rw[r2,ae];have:Int.fdiv n.1 ((2^(min ((aO.w .u64 63).1).toNat IntKind.i64.bits):Nat):Int)=n.1/9223372036854775808:=Int.fdiv_eq_ediv_of_nonneg _ bp;rw[this,wrap64,th,th];omega
 show bits BinOp.xor IntKind.u64 v1.1 (fk .u64 v2).1=_;rw[aE,aX];by_cases bl:0<=n.1
 ·have aE:IntKind.u64.wrap (IntKind.u64.wrap n.1*2)=((rq n.1:Nat):Int):=by
   unfold rq;rw[if_pos bl,IntKind.wrap_u64,IntKind.wrap_u64];omega
  have aX:IntKind.u64.wrap (n.1/9223372036854775808)=((0:Nat):Int):=by rw[IntKind.wrap_u64];omega
  rw[aE,aX,u64_xor_nat _ _ (Oz n.1 ai.1 ai.2) ab,Nat.xor_zero]
 ·have aE:IntKind.u64.wrap (IntKind.u64.wrap n.1*2)=((18446744073709551615-rq n.1:Nat):Int):=by
   unfold rq;rw[if_neg bl,IntKind.wrap_u64,IntKind.wrap_u64];omega
  have aX:IntKind.u64.wrap (n.1/9223372036854775808)=((18446744073709551615:Nat):Int):=by rw[IntKind.wrap_u64];omega
  have ax:=Oz n.1 ai.1 ai.2;rw[aE,aX,u64_xor_nat _ _ ab ab];have aV:∀a:Nat,a<18446744073709551616->a^^^18446744073709551615=18446744073709551615-a:=by
   intro a bW;have ai:(BitVec.ofNat 64 a^^^BitVec.allOnes 64).toNat=18446744073709551615-a:=by
    rw[BitVec.xor_allOnes,BitVec.toNat_not,BitVec.toNat_ofNat,Nat.mod_eq_of_lt bW]
   rw[BitVec.toNat_xor,BitVec.toNat_allOnes,BitVec.toNat_ofNat,Nat.mod_eq_of_lt bW] at ai;exact ai
  rw[aV _ ab];omega
theorem auH (x:Nat) (h:x<256):x|||128=x%128+128:=by
 have:∀x:Fin 256,x.val|||128=x.val%128+128:=by decide+kernel
 exact this ⟨x,h⟩
theorem auJ (u:aO .u64):UInt8.ofNat (q9 (fk .u8 u) (aO.w .u8 128)).1.toNat=UInt8.ofNat (u.1.toNat%128+128):=by
 have bl:0<=u.1:=u.2.1;have aa:(fk .u8 u).1=((u.1.toNat%256:Nat):Int):=by rw[r2,AS];omega
 have ae:=u8_or_nat (u.1.toNat%256) 128 ab ab;have az:(q9 (fk .u8 u) (aO.w .u8 128)).1=((u.1.toNat%128+128:Nat):Int):=by
  show bits BinOp.or IntKind.u8 (fk .u8 u).1 ((128:Nat):Int)=_;rw[aa,ae,auH _ (Nat.mod_lt _ ab)];omega
 rw[az];rfl
theorem UJ {f u:Nat} (h:¬u<128):lK (f+1) u=UInt8.ofNat (u%128+128)::lK f (u/128):=by
 show(if u<128 then _ else _)=_;rw[if_neg h]
theorem aiP {f u:Nat} (h:u<128):lK (f+1) u=[UInt8.ofNat u]:=by
 show(if u<128 then _ else _)=_;rw[if_pos h]
theorem Jy:∀x:U aaX,True->aL (yx x) (λy=>c4 y.1.1=gw x.1.1.1):=by
 intro x _;unfold yx;have ai:=aO.sC x.1.1;refine af (QE bp) (λv1 aa=> ?_);refine af (x5 bp) (λv2 ae=> ?_);have ax:=aIN x.1.1 aa ae;have bK:=Oz x.1.1.1 ai.1 ai.2;refine af (cJ (h:=Jx) (R:=λy=>∃f,0<f/\y.1.1.1.toNat<128/\cA y.1.2.1++lK f y.1.1.1.toNat=gw x.1.1.1/\y.1.2.1.1.length<=10) (λz:U Ru=>∃f,0<f/\z.1.1.1<2^(7*f)/\cA z.1.2.1++lK f z.1.1.1.toNat=gw x.1.1.1/\z.1.2.1.1.length+f=10) (λz=>z.1.1.1.toNat) (λz ax=> ?_) _ ⟨10,bp,by show(ph v1 (fk .u64 v2)).1<_;rw[ax];simp;omega,by show[]++lK 10 (ph v1 (fk .u64 v2)).1.toNat=_;rw[ax];rfl,rfl⟩) (λbf cU=> ?_)
 ·obtain⟨f,f0,f1,f2,f3⟩:=ax;have Iq:0<=z.1.1.1:=z.1.1.2.1;unfold Jx;refine ah (λai=> ?_) (λai=> ?_)
  ·have ai:128<=z.1.1.1:=by simp only[cc] at ai;exact ai
   refine af (A' (by simp only[b5];omega)) (λcf k9=> ?_);rw[cA.one] at k9;dsimp only at k9;rw[auJ] at k9;have qA:=congrArg List.length k9;rw[bY,cA.len,cA.len,List.length_singleton] at qA;refine af (x5 bp) (λv4 pe=> ?_);have aM:v4.1=z.1.1.1/128:=by
    have e:Int.fdiv z.1.1.1 ((2^(min ((aO.w .u64 7).1).toNat IntKind.u64.bits):Nat):Int)=z.1.1.1/128:=Int.fdiv_eq_ediv_of_nonneg _ bp;rw[pe,e,th];have aa:z.1.1.1<=18446744073709551615:=z.1.1.2.2;omega
   have xT:v4.1.toNat=z.1.1.1.toNat/128:=ab;obtain⟨f,rfl⟩:∃g,f=g+1:=⟨f-1,ab⟩;have bw:(2:Int)^(7*(f+1))=2^(7*f)*128:=by rw[show 7*(f+1)=7*f+7 by omega,Int.pow_add];rfl
   rw[bw] at f1;have bu:0<f:=by
    rcases Nat.eq_zero_or_pos f with h|h
    ·subst h;simp at f1;omega
    ·exact h
   refine bG ⟨⟨f,bu,by dsimp only;omega, ?_,by dsimp only;omega⟩,by dsimp only;omega⟩;dsimp only
   rw[k9,xT,dF,<-f2,UJ ab];rfl
  ·have ai:z.1.1.1<128:=by simp only[cc] at ai;exact ai
   exact ba ⟨f,f0,by dsimp only;omega,f2,by dsimp only;omega⟩
 ·obtain⟨f,f0,f1,f2,f3⟩:=cU;refine af (A' (by simp only[b5];omega)) (λmE v5=> ?_);refine an ?_;obtain⟨f,rfl⟩:∃g,f=g+1:=⟨f-1,ab⟩;have Iq:0<=bf.1.1.1:=bf.1.1.2.1;dsimp only
  rw[c4.bytes,v5,cA.one,<-f2,aiP f1];dsimp only
  rw[r2,AS,show bf.1.1.1%256=bf.1.1.1 by omega]
end cB
end Go.Proofs.YtgmdfchkljaooaaGreat
