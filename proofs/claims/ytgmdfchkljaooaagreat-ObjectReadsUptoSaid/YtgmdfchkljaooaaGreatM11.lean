/- The typed functions come to something (printed by gen/twokrun.py). -/
import Derived.Laws.BitsAllLaws
import Derived.ProofKit
import Derived.OpenShut
import Derived.ShutString
import Derived.ChangeOld
import Derived.Below
import Derived.SliceStrings
import Derived.ChangeSlices
import Derived.Test.YtgmdfchkljaooaaGreatM01
import Derived.Test.YtgmdfchkljaooaaGreatM06
import Derived.Test.YtgmdfchkljaooaaGreatM07
import Derived.Test.YtgmdfchkljaooaaGreatM10
noncomputable section
namespace Go.Proofs.YtgmdfchkljaooaaGreat
namespace cF
set_option linter.unusedVariables false
set_option linter.unusedSimpArgs false
set_option maxRecDepth 100000
def gW (d:D [.a4 [.int .i64],.int .i64]):Prop:=0<=d.2.1.1/\d.1.1.length<=1000000000
theorem Lr {a b:Int}(bZ:0<=a)(ah:0<b):0<=Int.tmod a b/\Int.tmod a b<b:=⟨Int.tmod_nonneg _ bZ,Int.tmod_lt_of_pos _ ah⟩
theorem jL:∀x:U ada,gW x.2.1->av (h_ x) (λy=>gW y.2.1/\0<=y.1.1.1/\(1<=x.1.2.1.1->y.1.1.1<x.1.2.1.1)):=by
 intro x aF;obtain⟨aa,af⟩:=aF;unfold h_;have cY:=a_.qm x.1.2.1;have eT:=a_.qm x.2.1.2.1;apply ag<;>intro aD;simp only[b8,aL] at aD;exact ak ⟨⟨aa,af⟩,by show 0<=(W 0).1;decide,λq=>by omega⟩;simp only[b8,aL] at aD;apply ag<;>intro aR;have i0:(W 0).1=0:=rfl;exact ak ⟨⟨aa,af⟩,by dsimp only;rw[i0];omega,λq=>by dsimp only;rw[i0];omega⟩;simp only[b8,aL] at aR;refine ae (dg (by simp only[aL];omega)) λaE cw=>?_;have gY:=a_.qm aE.1;have az:(ey .u64 x.1.2.1).1=x.1.2.1.1:=by simp only[aL];omega
 have he:0<=(ey .u64 aE.1).1:=by simp only[aL];omega
 refine ae (vO (by rw[az];omega)) λv2 pZ=>?_;have hm:=Lr he (b:=(ey .u64 x.1.2.1).1) (by rw[az];omega);rw[az] at hm pZ;have aT:(ey .i64 v2).1=Int.tmod (ey .u64 aE.1).1 x.1.2.1.1:=by rw[o8,pZ,mH,wrap64];omega
 refine ak ⟨⟨by dsimp only;simp only[aL];omega,af⟩,by dsimp only;rw[aT];exact hm.1,λq=>by dsimp only;rw[aT];exact hm.2⟩
def pE (p:D du):Prop:=p.1.1.size<=12/\2<=p.2.1.1.length/\p.2.1.1.length<=5/\aN (λr:D [.str]=>r.1.1.size<=12) p.2.1.1
def xW (ct:List (D du)):Prop:=1<=ct.length/\ct.length<=2/\aN pE ct
theorem adK (go:dY)(eK ro:L (D [.str])):∀(n i:Nat)(d:D [.a4 [.int .i64],.int .i64]),gW d->(∀d,gW d->av (zb (((),eK,()),(d,()))) (λy=>gW y.2.1))->av (uN go eK ro n i d) (λr=>gW r.2)
 |0,i,d,h,_=>ak h
 |n+1,i,d,h,an=>by
  refine ae (an d h) λy cf=>?_;refine ae (adK go eK ro n (i+1) y.2.1 cf an) λr aU=>?_;exact ak aU
theorem atG:∀x:U adb,(x.1.1.1.length<=1000000000)->av (KZ x) (λy=>gW y.2.1):=by
 intro x aF;unfold KZ;have bk:(L.nil:L (D [.int .i64])).1.length=0:=rfl;refine ae (dq ab) λdF kU=>?_;exact ak ⟨(by show 0<=(W 0).1;decide),by have:=kU.2;dsimp only;omega⟩
theorem adJ:∀x:U adG,(True)->av (ze x) (λy=>y.1.1.1.length=5/\aN (λr:D [.str]=>r.1.1.size<=12) y.1.1.1):=by
 intro x aF;unfold ze;exact ak (by dsimp only;rw[fu (by simp)];refine⟨rfl,?_⟩;intro j e he;match j,he with|0,he=>(cases he;decide)|1,he=>(cases he;decide)|2,he=>(cases he;decide)|3,he=>(cases he;decide)|4,he=>(cases he;decide)|j+5,he=>cases he)
theorem adz:∀x:U adw,(True)->av (zc x) (λy=>y.1.1.1.length=4):=by
 intro x aF;unfold zc;exact ak (by dsimp only;rw[fu (by simp)];rfl)
theorem KY:∀x:U ac9,(gW x.2.1)->av (uM x) (λy=>gW y.2.1):=by
 intro x aF;unfold uM;refine ae (jL _ aF) λaq cr=>?_;dsimp only at cr;obtain⟨eS,fI,gL⟩:=cr;have lV:=gL bu;have i6:(W 6).1=6:=rfl;refine ae (dg (by(rw[fu (by simp)];simp only[gX,cd];omega))) λaP cP=>?_;exact ak eS
theorem adv:∀x:U adt,(gW x.2.1)->av (zb x) (λy=>gW y.2.1):=by
 intro x aF;unfold zb;have my:=L.b x.1.2.1;apply ag<;>intro aD<;>simp only[ay] at aD;refine ae (jL _ aF) λaq cr=>?_;dsimp only at cr;obtain⟨eS,fI,gL⟩:=cr;apply ag<;>intro aR<;>simp only[ay] at aR;refine ae (jL _ eS) λaB cE=>?_;dsimp only at cE;obtain⟨cx,cI,dw⟩:=cE;have fh:aB.1.1.1<x.1.2.1.1.length:=dw (by show(1:Int)<=(x.1.2.1.1.length:Int);omega);refine bx λbS eM=>?_;exact ak cx;refine ae (KY _ eS) λaS dj=>?_;dsimp only at dj;exact ak dj;refine ae (KY _ aF) λa9 c5=>?_;dsimp only at c5;exact ak c5
theorem aud:∀x:U En,((gW x.2.1/\0<=x.1.2.2.2.2.1.1/\x.1.2.2.2.2.1.1<=10/\0<=x.1.2.2.2.2.2.1.1/\x.1.2.2.2.2.2.1.1<=10/\x.1.2.2.2.1.1=[]/\x.1.2.2.2.2.2.2.1.1=0)/\((0<=x.1.2.2.2.2.2.2.1.1)/\(x.1.2.2.2.2.2.2.1.1<=x.1.2.2.2.2.1.1)/\(gW x.2.1/\(x.1.2.2.2.1.1.length:Int)=x.1.2.2.2.2.2.2.1.1)))->av (a2 Lb x) (λy=>gW y.2.1):=by
 rintro x ⟨an,aj⟩;exact cS (λz:U En=>∃dW,∃v10,∃cT,z=(((),x.1.2.1,x.1.2.2.1,dW,x.1.2.2.2.2.1,x.1.2.2.2.2.2.1,v10,()),(cT,(),()))/\((0<=v10.1)/\(v10.1<=x.1.2.2.2.2.1.1)/\(gW cT/\(dW.1.length:Int)=v10.1))) (λz:U En=>(x.1.2.2.2.2.1.1-z.1.2.2.2.2.2.2.1.1).toNat) (λz ai=>by
  obtain⟨dW,v10,cT,rfl,aF⟩:=ai;unfold Lb;dsimp only
  obtain⟨bD,cZ,bN,cK⟩:=aF;obtain⟨cW,dv,eU,iR,l4,m6,sg⟩:=an;have i4:(W 4).1=4:=rfl;have aM:(bc x.1.2.2.2.2.2.1 v10).1=x.1.2.2.2.2.2.1.1+v10.1:=by simp only[aL];omega
  apply ag<;>intro aD<;>simp only[ay] at aD;refine ae (adz _ aG) λaK cG=>?_;dsimp only at cG;refine ae (vO (by(rw[i4];decide))) λv4 nz=>?_;have hm:=Lr (a:=(bc x.1.2.2.2.2.2.1 v10).1) (b:=4) ab ab;rw[i4,wrap64] at nz;refine ae (dg (by(rw[cG];omega))) λdO fV=>?_;refine ae (adv _ bN) λbJ dL=>?_;dsimp only at dL;refine ae (jL _ dL) λbK ew=>?_;dsimp only at ew;obtain⟨cx,cI,dw⟩:=ew;refine ae (dq lG) λjK o4=>?_;exact bz ⟨⟨_,_,_,rfl,(by(have az:=dG v10 bD ab;rw[az];exact⟨ab,ab,cx,by rw[o4.2];simp only[b7];omega⟩))⟩,(by have az:=dG v10 bD ab;rw[az];omega)⟩;exact a6 bN) x ⟨_,_,_,rfl,aj⟩
theorem aug:∀x:U adq,(gW x.2.1)->av (La x) (λy=>gW y.2.1):=by
 intro x aF;unfold La;refine ae (jL _ aF) λaq cr=>?_;dsimp only at cr;obtain⟨eS,fI,gL⟩:=cr;have lV:=gL bu;have i3:(W 3).1=3:=rfl;refine ae (jL _ eS) λaB cE=>?_;dsimp only at cE;obtain⟨cx,cI,dw⟩:=cE;have fh:=dw bu;have i4:(W 4).1=4:=rfl;have i0:(W 0).1=0:=rfl;refine ae (aud _ (by dsimp only;refine⟨⟨cx,?_,?_,cI,ab,rfl,rfl⟩,bu,?_,cx,bu⟩<;>simp only[aL]<;>omega)) λbO ec=>?_;dsimp only at ec;exact ak ec
theorem at':∀x:U Em,((gW x.2.1/\2<=x.1.2.1.1/\x.1.2.1.1<=5/\(x.2.2.1.2.1.1.length:Int)=x.1.2.1.1/\x.1.2.2.2.1.1<=10/\0<=x.1.2.2.2.1.1/\x.2.2.1.2.2.1.1=[]/\x.1.2.2.2.2.2.1.1=0)/\((0<=x.1.2.2.2.2.2.1.1)/\(x.1.2.2.2.2.2.1.1<=x.1.2.2.2.1.1)/\(gW x.2.1/\(x.2.2.1.2.2.1.1.length:Int)=x.1.2.2.2.2.2.1.1)))->av (a2 K_ x) (λy=>gW y.2.1/\y.2.2.1.1=x.2.2.1.1/\y.2.2.1.2.1=x.2.2.1.2.1/\y.2.2.1.2.2.1.1.length<=10):=by
 rintro x ⟨an,aj⟩;exact cS (λz:U Em=>∃v11,∃cT,∃wI,z=(((),x.1.2.1,x.1.2.2.1,x.1.2.2.2.1,(),v11,()),(cT,(x.2.2.1.1,x.2.2.1.2.1,wI,()),(),(),()))/\((0<=v11.1)/\(v11.1<=x.1.2.2.2.1.1)/\(gW cT/\(wI.1.length:Int)=v11.1))) (λz:U Em=>(x.1.2.2.2.1.1-z.1.2.2.2.2.2.1.1).toNat) (λz ai=>by
  obtain⟨v11,cT,wI,rfl,aF⟩:=ai;unfold K_;dsimp only
  obtain⟨bD,cZ,bN,cK⟩:=aF;obtain⟨cW,dv,eU,iR,l4,m6,sg,x8⟩:=an;apply ag<;>intro aD<;>simp only[ay] at aD;refine ae (jL _ gm) λa9 c5=>?_;dsimp only at c5;obtain⟨eS,fI,gL⟩:=c5;have lV:=gL ab;have S7:(gf x.1.2.1 (W 1)).1=x.1.2.1.1-1:=by simp only[aL];omega
  refine ae (jL _ gm) λbJ dL=>?_;dsimp only at dL;obtain⟨cx,cI,dw⟩:=dL;have fh:=dw (by rw[S7];omega);rw[S7] at fh;have aM:(bc (bc a9.1.1 (W 1)) bJ.1.1).1=a9.1.1.1+1+bJ.1.1.1:=by simp only[aL];omega
  refine ae (vO ab) λdW yT=>?_;have hm:=Lr (a:=(bc (bc a9.1.1 (W 1)) bJ.1.1).1) (b:=x.1.2.1.1) ab ab;rw[wrap64] at yT;refine bx λdD g7=>?_;refine bx λeV kG=>?_;refine ae (aug _ gm) λcc fj=>?_;dsimp only at fj;refine ae (dq lG) λp2 DN=>?_;exact bz ⟨⟨_,_,_,rfl,(by(have az:=dG v11 bD ab;rw[az];exact⟨ab,ab,fj,by rw[DN.2];simp only[b7];omega⟩))⟩,(by dsimp only;have az:=dG v11 bD ab;rw[az];omega)⟩;exact a6 (by dsimp only[Sum.elim];exact⟨bN,rfl,rfl,ab⟩)) x ⟨_,_,_,rfl,aj⟩
theorem TU:∀x:U adn,(gW x.2.1/\2<=x.1.2.2.1.1/\x.1.2.2.1.1<=5/\x.1.2.1.1.size<=12)->av (AU x) (λy=>gW y.2.1/\pE y.1.1):=by
 intro x aF;unfold AU;obtain⟨aa,af,ax,a8⟩:=aF;have bk:(L.nil:L (D [.str])).1.length=0:=rfl;refine ae (jL _ aa) λaq cr=>?_;dsimp only at cr;obtain⟨eS,fI,gL⟩:=cr;have lV:=gL bu;have i6:(W 6).1=6:=rfl;refine ae (adJ _ aG) λaB cE=>?_;dsimp only at cE;obtain⟨g_,gl⟩:=cE;refine ae (qp ab) λcH w_=>?_;obtain⟨cW,dv⟩:=w_;refine ae (dq ab) λjj o3=>?_;obtain⟨d1,d2⟩:=o3;refine ae (at' _ (by dsimp only;refine⟨⟨eS,af,ax,?_,?_,?_,rfl,rfl⟩,bu,?_,eS,bu⟩<;>(first|simp only[aL]|skip)<;>omega)) λcL e7=>?_;dsimp only at e7;obtain⟨eB,cX,eR,mS⟩:=e7;refine ae (dq lG) λnB DP=>?_;exact ak (by dsimp only;refine⟨eB,?_,?_,?_,?_⟩<;>(dsimp only)<;>first|(rw[cX];exact a8)|(rw[eR];(skip);omega)|(rw[eR];(skip);rw[d1,cW];exact aN.nil.append gl.drop.take))
theorem adL:∀x:U Eo,(gW x.2.1/\2<=x.1.2.2.1.1/\x.1.2.2.1.1<=5/\x.1.2.1.1.size<=12)->av (zf x) (λy=>gW y.2.1/\pE y.1.1):=by
 intro x aF;obtain⟨aa,af,ax,a8⟩:=aF;have i2:(a_.w .i64 2).1=2:=rfl;have i5:(a_.w .i64 5).1=5:=rfl;have bk:(L.nil:L (D [.str])).1.length=0:=rfl;unfold zf;refine ag (λ_=>?_) (λah=>by simp only[b8] at ah;omega);refine ag (λ_=>?_) (λah=>by simp only[b8] at ah;omega);refine ae (adJ _ aG) λaq cr=>?_;obtain⟨g_,gl⟩:=cr;refine ae (qp (by rw[g_];omega)) λv2 pZ=>?_;obtain⟨cW,dv⟩:=pZ;refine ae (dq ab) λcg kq=>?_;obtain⟨d1,d2⟩:=kq;refine ae (adz _ aG) λaS dj=>?_;have ko:pE (x.1.2.1,cg,L.nil,()):=⟨a8,by dsimp only;omega,by dsimp only;omega,by dsimp only;rw[d1,cW];exact aN.nil.append (gl.drop.take)⟩;have ko:∀z,pE (x.1.2.1,cg,z,()):=λz=>ko;refine ae (jL _ aa) λa9 c5=>?_;obtain⟨eS,fI,gL⟩:=c5;have gL:=gL (by show 1<=(a_.w .i64 2).1;decide);dsimp only at gL;rw[i2] at gL;refine ae (dg (by rw[dj];omega)) λdb fY=>?_;refine ae (jL _ eS) λcl e8=>?_;obtain⟨cx,cI,dw⟩:=e8;have dw:=dw (by show 1<=(a_.w .i64 2).1;decide);dsimp only at dw;rw[i2] at dw;refine ae (dg (by rw[dj];simp only[aL];omega)) λeV kG=>?_;refine ae (jL _ cx) λcc fj=>?_;refine ae (KY _ fj.1) λbT e6=>?_;refine ae (adK _ _ _ _ _ _ e6 (λd bj=>adv _ bj)) λmG ab0=>?_;apply ag<;>intro _;refine ae (KY _ ab0) λcy fH=>?_;exact ak ⟨fH,ko _⟩;exact ak ⟨ab0,ko _⟩
theorem atT:∀x:U adg,(gW x.2.1/\x.1.2.1.1.size<=12)->av (K6 x) (λy=>gW y.2.1/\pE y.1.1):=by
 intro x aF;unfold K6;refine ae (jL _ (by dsimp only;exact aF.1)) λaq cr=>?_;dsimp only at cr;obtain⟨eS,fI,gL⟩:=cr;have i2:(W 2).1=2:=rfl;have i3:(W 3).1=3:=rfl;apply ag<;>intro aD<;>simp only[ay] at aD;refine ae (TU _ (by dsimp only;exact⟨eS,bu,bu,aF.2⟩)) λaB cE=>?_;dsimp only at cE;exact ak (by dsimp only;exact cE);apply ag<;>intro aR<;>simp only[ay] at aR;refine ae (jL _ (by dsimp only;exact eS)) λaK cG=>?_;dsimp only at cG;obtain⟨cx,cI,dw⟩:=cG;have fh:=dw bu;have aM:(bc (W 2) aK.1.1).1=2+aK.1.1.1:=by simp only[aL];omega
 refine ae (adL _ (by dsimp only;exact⟨cx,ab,ab,aF.2⟩)) λaS dj=>?_;dsimp only at dj;exact ak (by dsimp only;exact dj);apply ag<;>intro bM<;>simp only[ay] at bM;refine ae (TU _ (by dsimp only;exact⟨eS,bu,bu,aF.2⟩)) λa9 c5=>?_;dsimp only at c5;exact ak (by dsimp only;exact c5);refine ae (adL _ (by dsimp only;exact⟨eS,bu,bu,aF.2⟩)) λbJ dL=>?_;dsimp only at dL;exact ak (by dsimp only;exact dL)
theorem adj:∀x:U adi,(gW x.2.1/\x.1.2.1.1.size<=12)->av (Ek x) (λy=>gW y.2.1/\pE y.1.1):=by
 intro x aF;unfold Ek;refine ae (atT _ (by dsimp only;exact aF)) λaq cr=>?_;dsimp only at cr;refine ae (W2 _ aG) λaB cE=>?_;dsimp only at cE;apply ag<;>intro aD<;>simp only[ay] at aD;exact ak (by dsimp only;exact cr);refine ae (TU _ (by dsimp only;exact⟨cr.1,bu,bu,aF.2⟩)) λaK cG=>?_;dsimp only at cG;exact ak (by dsimp only;exact cG)
theorem at4:∀x:U El,((pE x.1.1/\x.1.2.1.1=[]/\x.1.2.2.1.1=0)/\((0<=x.1.2.2.1.1)/\(x.1.2.2.1.1<=(x.1.1.2.1.1.length:Int))/\((x.1.2.1.1.length:Int)=x.1.2.2.1.1)))->av (a2 K9 x) (λy=>True):=by
 rintro x ⟨an,aj⟩;exact cS (λz:U El=>∃cH,∃v4,z=((x.1.1,cH,v4,()),((),()))/\((0<=v4.1)/\(v4.1<=(x.1.1.2.1.1.length:Int))/\((cH.1.length:Int)=v4.1))) (λz:U El=>((x.1.1.2.1.1.length:Int)-z.1.2.2.1.1).toNat) (λz ai=>by
  obtain⟨cH,v4,rfl,aF⟩:=ai;unfold K9;dsimp only
  obtain⟨bD,cZ,bN⟩:=aF;obtain⟨⟨cW,dv,eU,iR⟩,l4,m6⟩:=an;have ai:(S ⟨#[46]⟩).1.size=1:=rfl;have pT:=L.b x.1.1.2.1;apply ag<;>intro aD<;>simp only[ay] at aD;refine ae (oU ab) λv1 pY=>?_;refine bx λaP cP=>?_;have dh:=iR _ _ cP;refine ae (oU ab) λcH w_=>?_;refine ae (dq lG) λjj o3=>?_;exact bz ⟨⟨_,_,rfl,(by(have az:=dG v4 bD ab;rw[az];exact⟨ab,ab,by rw[o3.2];simp only[b7];omega⟩))⟩,(by have az:=dG v4 bD ab;rw[az];omega)⟩;exact a6 df) x ⟨_,_,rfl,aj⟩
theorem at7:∀x:U adl,(pE x.1.1)->av (K8 x) (λy=>True):=by
 intro x aF;unfold K8;refine ae (at4 _ (by dsimp only;exact⟨⟨aF,rfl,rfl⟩,bu,by have i0:(W 0).1=0:=rfl;rw[i0];omega,bu⟩)) λa9 c5=>?_;exact ak aG
theorem atW:∀x:U adh,(gW x.2.1)->av (K7 x) (λy=>gW y.2.1/\xW y.1.1.1):=by
 intro x aF;unfold K7;refine ae (adj _ (by dsimp only;exact⟨aF,bu⟩)) λaq cr=>?_;dsimp only at cr;refine ae (jL _ (by dsimp only;exact cr.1)) λaB cE=>?_;dsimp only at cE;obtain⟨eS,fI,gL⟩:=cE;apply ag<;>intro aD<;>simp only[ay] at aD;refine ae (at7 _ (by dsimp only;exact cr.2)) λaK cG=>?_;refine ae (adj _ (by dsimp only;exact⟨eS,bu⟩)) λaS dj=>?_;dsimp only at dj;refine ae (dq (by(simp only[b7];decide))) λgV lv=>?_;have dO:gV.1=[aq.1.1,aS.1.1]:=by rw[lv.1,fu (by simp),fu (by simp)];rfl
 exact ak (by dsimp only;exact⟨dj.1,by rw[dO];exact⟨by simp,by simp,λj e he=>(by match j,he with|0,he=>(cases he;exact cr.2)|1,he=>(cases he;exact dj.2)|j+2,he=>cases he)⟩⟩);exact ak (by dsimp only;exact⟨eS,by rw[fu (by simp)];exact⟨by simp,by simp,aN.one cr.2⟩⟩)
theorem K1:∀x:U ade,(x.1.1.1.1.size<=12/\x.1.2.1.1.size<=12)->av (za x) (λy=>y.1.1.1.size<=24):=by
 intro x aF;unfold za;refine ae (oU ab) λv1 pY=>?_;exact ak gm
theorem p5:∀x:U ads,(True)->av (nT x) (λy=>y.1.1=(x.1.1,S ⟨#[]⟩,S ⟨#[]⟩,S ⟨#[]⟩,S ⟨#[]⟩,W (-1),L.nil,L.nil,L.nil,W (-1),())):=by
 intro x aF;unfold nT;exact ak (by rfl)
abbrev vk:Type:=n5 T0.blocks
abbrev aoe:Type:=n5 ad9.blocks
def hM (y:aoe):vk:=(y.1,y.2.1,(),y.2.2.2.2.2.1,())
def oa (s:D cU):Prop:=s.2.2.2.2.2.2.2.2.1.1.length<=20
structure k9 (w:vk)(n:Nat):Prop where
  d:gW w.2.1
  ct:xW w.1.2.1.1
  t:w.1.2.2.2.2.1.1.length+n<=1000000
  s:w.2.2.2.1.1.length+n<=1000000
  g9:0<=w.1.2.2.2.2.2.2.2.2.2.1.1
  lS:w.1.2.2.2.2.2.2.2.2.2.1.1+n<=1000000
structure fc (w v:vk)(k:Nat):Prop where
  d:gW v.2.1
  ct:v.1.2.1=w.1.2.1
  ty:v.1.2.2.2.2.2.2.2.1=w.1.2.2.2.2.2.2.2.1
  ro:v.1.2.2.2.2.2.2.2.2.1=w.1.2.2.2.2.2.2.2.2.1
  fQ:v.1.2.2.1=w.1.2.2.1
  zx:v.1.2.2.2.1=w.1.2.2.2.1
  t:v.1.2.2.2.2.1.1.length<=w.1.2.2.2.2.1.1.length+k
  g9:w.1.2.2.2.2.2.2.2.2.2.1.1<=v.1.2.2.2.2.2.2.2.2.2.1.1
  lS:v.1.2.2.2.2.2.2.2.2.2.1.1<=w.1.2.2.2.2.2.2.2.2.2.1.1+k
  s:∃t,v.2.2.2.1.1=w.2.2.2.1.1++t/\aN oa t/\t.length<=k
theorem k9.mono {w n m}(h:k9 w n)(hm:m<=n):k9 w m:=⟨h.d,h.ct,by have:=h.t;omega,by have:=h.s;omega,h.g9,by have:=h.lS;omega⟩
theorem fc.len {w v k}(h:fc w v k):v.2.2.2.1.1.length<=w.2.2.2.1.1.length+k:=by
 obtain⟨t,t1,_,t2⟩:=h.s;rw[t1,bw];omega
theorem k9.go {w v n m k}(h:k9 w n)(g:fc w v k)(hm:m+k<=n):k9 v m:=
 ⟨g.d,by rw[g.ct];exact h.ct,by have:=h.t;have:=g.t;omega,by have:=h.s;have:=g.len;omega,by have:=h.g9;have:=g.g9;omega,by have:=h.lS;have:=g.lS;omega⟩
theorem fc.trans {w v u k m}(h:fc w v k)(g:fc v u m):fc w u (k+m):=by
 obtain⟨t,t1,t2,t3⟩:=h.s;obtain⟨t',j4,kW,Q4⟩:=g.s;exact⟨g.d,g.ct.trans h.ct,g.ty.trans h.ty,g.ro.trans h.ro,g.fQ.trans h.fQ,g.zx.trans h.zx,by have:=h.t;have:=g.t;omega,by have:=h.g9;have:=g.g9;omega,by have:=h.lS;have:=g.lS;omega,t++t',by rw[j4,t1,cN],t2.append kW,by rw[bw];omega⟩
theorem fc.mono {w v k m}(h:fc w v k)(hm:k<=m):fc w v m:=by
 obtain⟨t,t1,t2,t3⟩:=h.s;exact⟨h.d,h.ct,h.ty,h.ro,h.fQ,h.zx,by have:=h.t;omega,h.g9,by have:=h.lS;omega,t,t1,t2,ab⟩
theorem fc.refl {w}(h:gW w.2.1):fc w w 0:=⟨h,rfl,rfl,rfl,rfl,rfl,Nat.le_refl _,Int.le_refl _,ab,[],by simp,aN.nil,Nat.le_refl _⟩
theorem fc.pK {w v:vk}{k d}(h:fc w v k)(bj:gW d):fc w (v.1,d,(),v.2.2.2.1,()) k:=⟨bj,h.ct,h.ty,h.ro,h.fQ,h.zx,h.t,h.g9,h.lS,h.s⟩
theorem k9.pK {w:vk}{n d}(h:k9 w n)(bj:gW d):k9 (w.1,d,(),w.2.2.2.1,()) n:=⟨bj,h.ct,h.t,h.s,h.g9,h.lS⟩
theorem fc.lC {w v:vk}{k:Nat}{ss:L (D cU)}{t:List (D cU)}(h:fc w v k)(aM:ss.1=w.2.2.2.1.1++t)(bR:aN oa t)(aW:t.length<=k):fc w (v.1,v.2.1,(),ss,()) k:=⟨h.d,h.ct,h.ty,h.ro,h.fQ,h.zx,h.t,h.g9,h.lS,t,aM,bR,aW⟩
theorem vR:∀x:U aed,k9 x.2 1->av (sI x) (λy=>fc x.2 (hM y.2) 1/\y.1.1.1=(x.2.2.2.2.1.1.length:Nat)/\∃a:D cU,y.2.2.2.2.2.2.1.1=x.2.2.2.2.1.1++[a]/\a.2.2.2.2.2.2.2.2.1.1.length=0):=by
 intro x h;unfold sI;have aM:x.2.2.2.2.1.1.length+1<=1000000:=h.s;refine ae (dq (by simp only[b7];omega)) λdF kU=>?_;obtain⟨dK,dh⟩:=kU;rw[fu (by simp)] at dK;simp only[b7] at dh;have aj:(gf (W (dF.1.length:Nat)) (W 1)).1=(x.2.2.2.2.1.1.length:Nat):=abm dh ab;exact ak ⟨⟨h.d,rfl,rfl,rfl,rfl,rfl,Nat.le_succ _,Int.le_refl _,by show x.2.1.2.2.2.2.2.2.2.2.2.1.1<=x.2.1.2.2.2.2.2.2.2.2.2.1.1+(1:Nat);omega,_,dK,aN.one (by show(0:Nat)<=20;decide),Nat.le_refl _⟩,aj,_,dK,rfl⟩
theorem uQ:∀x:U aef,k9 x.2 1->av (rO x) (λy=>fc x.2 (hM y.2) 1):=by
 intro x h;unfold rO;refine ae (vR _ h) λaq cr=>?_;obtain⟨g,aj,a,bZ,hw⟩:=cr;dsimp only at aj bZ;have aW:=congrArg List.length bZ;rw[bw,List.length_singleton] at aW;have mw:(decide (0<=(aq.1.1).1)&&decide ((aq.1.1).1<(aq.2.2.2.2.2.2.1.1.length:Nat)))=true:=by simp only[b8,decide_eq_true_eq];omega
 refine ag (λ_=>?_) (λq=>by rw[mw] at q;cases q);refine ir λaP cP=>?_;have cj:aq.2.2.2.2.2.2.1.1[aq.1.1.1.toNat]?=some a:=by rw[bZ];exact SC ab
 rw[cj] at cP;cases cP;refine ak (g.lC (t:=[_]) (by show(aq.2.2.2.2.2.2.1.1.set _ _)=_;rw[bZ];exact QS ab) (aN.one ?_) (Nat.le_refl _));show a.2.2.2.2.2.2.2.2.1.1.length<=20;omega
theorem Er:∀x:U adW,k9 x.2 2->av (AX x) (λy=>fc x.2 (hM y.2) 2):=by
 intro x h;unfold AX;apply ag<;>intro _;refine ae (p5 _ aG) λaq cr=>?_;refine ae (uQ _ (h.mono bu)) λaB cE=>?_;refine ae (p5 _ aG) λaK cG=>?_;refine ae (vR _ (h.go cE bu)) λaS dj=>?_;exact ak (cE.trans dj.1);refine ae (p5 _ aG) λa9 c5=>?_;refine ae (vR _ (h.mono bu)) λbJ dL=>?_;exact ak (dL.1.mono bu)
theorem zj:∀x:U aee,k9 x.2 1->av (uP x) (λy=>fc x.2 (hM y.2) 1):=by
 intro x h;unfold uP;have aM:x.2.1.2.2.2.2.1.1.length+1<=1000000:=h.t;refine ae (dq (by simp only[b7];omega)) λdF kU=>?_;obtain⟨dK,dh⟩:=kU;simp only[b7] at dh;exact ak ⟨h.d,rfl,rfl,rfl,rfl,rfl,by show dF.1.length<=x.2.1.2.2.2.2.1.1.length+1;omega,Int.le_refl _,by show x.2.1.2.2.2.2.2.2.2.2.2.1.1<=x.2.1.2.2.2.2.2.2.2.2.2.1.1+(1:Nat);omega,[],by simp[hM],aN.nil,Nat.zero_le _⟩
theorem uO:∀x:U T0,k9 x.2 1->av (rN x) (λy=>fc x.2 (hM y.2) 1):=by
 intro x h;unfold rN;exact ae (zj _ h) (λaq cr=>ak cr)
theorem sH:∀x:U ad8,k9 x.2 1->av (qH x) (λy=>fc x.2 (hM y.2) 1):=by
 intro x h;unfold qH;exact ae (zj _ h) (λaq cr=>ak cr)
theorem xl:∀x:U adV,k9 x.2 1->av (tL x) (λy=>fc x.2 (hM y.2) 1):=by
 intro x h;unfold tL;exact ae (zj _ h) (λaq cr=>ak cr)
theorem auO:∀x:U ad7,k9 x.2 3->av (Lk x) (λy=>fc x.2 (hM y.2) 3):=by
 intro x h;unfold Lk;refine ae (sH _ (h.mono bu)) λaq aa=>?_;have eS:=h.go (m:=2) aa bu;refine ae (uO _ (eS.mono bu)) λaB af=>?_;have fI:=eS.go (m:=1) af bu;refine ae (xl _ fI) λaK ax=>?_;exact ak ((aa.trans af).trans ax)
theorem ad0:∀x:U adY,k9 x.2 1->av (Es x) (λy=>fc x.2 (hM y.2) 1):=by
 intro x h;unfold Es;have ba:0<=x.2.1.2.2.2.2.2.2.2.2.2.1.1:=h.g9;have aa:x.2.1.2.2.2.2.2.2.2.2.2.1.1+(1:Nat)<=1000000:=h.lS;have az:=dG x.2.1.2.2.2.2.2.2.2.2.2.1 ba ab;refine ae (aiN _ aG) λaq cr=>?_;have eg:(S ⟨#[118]⟩).1.size=1:=rfl;refine ae (oU (by dsimp only at cr;omega)) λv2 _=>?_;exact ak ⟨h.d,rfl,rfl,rfl,rfl,rfl,Nat.le_succ _,by show x.2.1.2.2.2.2.2.2.2.2.2.1.1<=(bc x.2.1.2.2.2.2.2.2.2.2.2.1 (W 1)).1;omega,by show(bc x.2.1.2.2.2.2.2.2.2.2.2.1 (W 1)).1<=x.2.1.2.2.2.2.2.2.2.2.2.1.1+(1:Nat);omega,[],by simp[hM],aN.nil,Nat.zero_le _⟩
theorem Bb {s:List (D cU)}{a:D cU}{t:List (D cU)}{ss:L (D cU)}(aM:ss.1=s++a::t){i:a_ .i64}(aj:i.1=(s.length:Nat)):
 (decide (0<=i.1)&&decide (i.1<(ss.1.length:Nat)))=true/\i.1.toNat<ss.1.length/\ss.1[i.1.toNat]?=some a/\∀b,(ej ss i.1.toNat b).1=s++b::t:=by
 have aW:=congrArg List.length aM;rw[bw,gX] at aW;refine⟨by simp only[b8,decide_eq_true_eq];omega,ab,by rw[aM];exact SC ab,λb=>?_⟩;show(ss.1.set _ _)=_;rw[aM];exact QS ab
theorem aN.cons {α:Type}{P:α->Prop}{a:α}{l:List α}(h:P a)(aW:aN P l):aN P (a::l):=λj e he=>by
 cases j with
 |zero=>cases he;exact h
 |succ j=>exact aW j e he
theorem oa.put {a:D cU}{w:D [.str,.str,.int .i64]}{l:L (D m0)}{n:Nat}(h:a.2.2.2.2.2.2.2.2.1.1.length<=n)(aW:l.1=a.2.2.2.2.2.2.2.2.1.1++(cD [w]).1):l.1.length<=n+1:=by
 rw[aW,bw,fu (by simp)];simp;exact h
theorem am8 {v w s t:List (D cU)}{a:D cU}(h:v=w++t)(hw:w=s++[a]):v=s++a::t:=by rw[h,hw,cN];rfl
theorem adN:∀x:U adM,k9 x.2 16->av (Lf x) (λy=>fc x.2 (hM y.2) 16):=by
 intro x h;unfold Lf;refine ae (p5 _ aG) λaq _=>?_;refine ae (uO _ (h.mono bu)) λaB af=>?_;refine ae (sH _ (h.go af bu)) λaK ax=>?_;have bq:=af.trans ax;refine ae (xl _ (h.go bq bu)) λaS a8=>?_;have cA:=bq.trans a8;have lV:=h.go (m:=13) cA bu;refine ae (vR _ (lV.mono bu)) λa9 c5=>?_;obtain⟨cn,aj,a,bZ,hw⟩:=c5;obtain⟨cx,cI,dw,fh⟩:=Bb bZ aj;refine ag (λ_=>?_) (λq=>by rw[cx] at q;cases q);refine ae (mc cI) λdb fY=>?_;rw[dw] at fY;cases fY;refine ae (dq (by simp only[b7];omega)) λiV q7=>?_;refine ag (λ_=>?_) (λq=>by rw[cx] at q;cases q);refine ae (mc cI) λdD g7=>?_;rw[dw] at g7;cases g7;refine ag (λ_=>?_) (λq=>by simp at q);have nm:=oa.put (n:=0) ab q7.1;have f5:=cn.lC (t:=[_]) (fh (a.1,a.2.1,a.2.2.1,a.2.2.2.1,a.2.2.2.2.1,a.2.2.2.2.2.1,a.2.2.2.2.2.2.1,a.2.2.2.2.2.2.2.1,iV,a.2.2.2.2.2.2.2.2.2.1,())) (aN.one (by show iV.1.length<=20;omega)) (Nat.le_refl _);have jx:=lV.go (m:=12) f5 bu;refine ae (p5 _ aG) λbO _=>?_;refine ae (sH _ (jx.mono bu)) λcc gK=>?_;refine ae (auO _ (jx.go gK bu)) λbT iS=>?_;have kn:=gK.trans iS;refine ae (vR _ (jx.go kn bu)) λcL nP=>?_;have l6:=kn.trans nP.1;refine ae (Er _ (jx.go l6 bu)) λcy j9=>?_;have kT:=l6.trans j9;obtain⟨t,t1,t2,t3⟩:=kT.s;have t1:=am8 t1 (fh _);obtain⟨g_,gl,jl,mf⟩:=Bb (ss:=cy.2.2.2.2.2.2.1) t1 aj;refine ag (λ_=>?_) (λq=>by rw[g_] at q;cases q);refine ae (mc gl) λiu l8=>?_;rw[jl] at l8;cases l8;refine ae (dq (by simp only[b7];omega)) λp4 sx=>?_;refine ag (λ_=>?_) (λq=>by rw[g_] at q;cases q);refine ae (mc gl) λhY j_=>?_;rw[jl] at j_;cases j_;refine ag (λ_=>?_) (λq=>by simp at q);have aQ7:=oa.put (n:=1) nm sx.1;exact ak ((cA.trans ((f5.trans kT).lC (mf _) (aN.cons (by show p4.1.length<=20;omega) t2) (by rw[gX];omega))).mono bu)
theorem au6:∀x:U Lp,(xW x.2.1.2.1.1/\0<=x.1.2.2.2.1.1/\x.1.2.2.2.1.1<x.2.1.2.1.1.length/\0<=x.1.2.2.2.2.1.1)->av (a2 Lo x) (Sum.elim (λy=>y.2.1=x.2.1/\y.2.2.1=x.2.2.1/\y.2.2.2.2.2.2.2.1=x.2.2.2.2.1) (λy=>y.2.1=x.2.1/\y.2.2.1=x.2.2.1/\y.2.2.2.2.2.2.2.1=x.2.2.2.2.1/\pE (y.2.2.2.2.2.1.1,y.2.2.2.2.2.1.2.1,y.2.2.2.2.2.1.2.2.1,())/\y.1.1.1.size<=12)):=by
 intro x aF;obtain⟨aa,af,ax,a8⟩:=aF;refine cS (λz:U Lp=>z.2.1=x.2.1/\z.2.2.1=x.2.2.1/\z.2.2.2.2.1=x.2.2.2.2.1/\z.1.2.2.2.1=x.1.2.2.2.1/\0<=z.1.2.2.2.2.1.1) (λz=>((6:Nat)-z.1.2.2.2.2.1.1:Int).toNat) (λz ai=>?_) _ ⟨rfl,rfl,rfl,rfl,a8⟩;obtain⟨eg,e3,gq,fJ,mm⟩:=ai;unfold Lo;have gU:=fG (l:=x.2.1.2.1.1) (i:=x.1.2.2.2.1.1.toNat) ab;have arR:=aa.2.2 _ _ gU;have w3:0<=z.1.2.2.2.1.1/\z.1.2.2.2.1.1<z.2.1.2.1.1.length:=by rw[fJ,eg];exact⟨af,ax⟩
 have lf:∀e,z.2.1.2.1.1[z.1.2.2.2.1.1.toNat]?=some e->pE e:=λe he=>by rw[eg,fJ,gU] at he;cases he;exact arR
 have Kw:∀e e',z.2.1.2.1.1[z.1.2.2.2.1.1.toNat]?=some e->z.2.1.2.1.1[z.1.2.2.2.1.1.toNat]?=some e'->e'=e:=λe e' he fA=>by rw[he] at fA;exact(eF fA).symm
 have aQ':(S ⟨#[46]⟩).1.size=1:=rfl;refine ae (dg w3) λaE cw=>?_;obtain⟨aI,aQ,bq,cA⟩:=lf aE cw;apply ag<;>intro ah;simp only[b8,aL] at ah;refine ae (dg w3) λaP cP=>?_;obtain rfl:=Kw _ _ cw cP;refine ae (oU ab) λcH w_=>?_;refine ae (dg w3) λcR fg=>?_;obtain rfl:=Kw _ _ cw fg;refine bx λdO fV=>?_;have pF:=cA _ _ fV;refine ae (oU (by have:=w_.2;omega)) λv6 xa=>?_;apply ag<;>intro _;refine ae (dg w3) λfm j1=>?_;obtain rfl:=Kw _ _ cw j1;refine ae (dg w3) λdD g7=>?_;obtain rfl:=Kw _ _ cw g7;refine bx λeV kG=>?_;exact a6 ⟨eg,e3,gq,⟨aI,aQ,bq,cA⟩,cA _ _ kG⟩;have az:=dG z.1.2.2.2.2.1 mm ab;exact bz ⟨⟨eg,e3,gq,fJ,by dsimp only;rw[az];omega⟩,by dsimp only;rw[az];omega⟩;exact a6 ⟨eg,e3,gq⟩
theorem aej:∀x:U aeh,xW x.2.1.2.1.1->av (Ev x) (λy=>y.2.1=x.2.1/\y.2.2.1=x.2.2.1/\y.2.2.2.2.2.2.1=x.2.2.2.2.1/\pE y.1.1/\y.1.2.1.1.size<=12):=by
 intro x h;unfold Ev;refine ae (cS (h:=Ln) (R:=Sum.elim (λy=>y.2.1=x.2.1/\y.2.2.1=x.2.2.1/\y.2.2.2.2.2.2.2.1=x.2.2.2.2.1) (λy=>y.2.1=x.2.1/\y.2.2.1=x.2.2.1/\y.2.2.2.2.2.2.2.1=x.2.2.2.2.1/\pE (y.2.2.2.2.2.1.1,y.2.2.2.2.2.1.2.1,y.2.2.2.2.2.1.2.2.1,())/\y.1.1.1.size<=12)) (λz:U T3=>z.2.1=x.2.1/\z.2.2.1=x.2.2.1/\z.2.2.2.2.1=x.2.2.2.2.1/\0<=z.1.2.2.2.1.1) (λz=>((6:Nat)-z.1.2.2.2.1.1:Int).toNat) (λz ai=>?_) _ ⟨rfl,rfl,rfl,(by show 0<=(W 0).1;decide)⟩) λcy fH=>?_;obtain⟨eg,e3,gq,fJ⟩:=ai;unfold Ln;have aW:=h.2.1;apply ag<;>intro ah;simp only[b8,aL] at ah;rw[eg] at ah;refine ae (au6 _ ⟨by dsimp only;rw[eg];exact h,fJ,by dsimp only;rw[eg];exact ah,by show 0<=(W 0).1;decide⟩) λcc fj=>?_;refine ee fj (λbT e6=>?_) (λcL e7=>?_);obtain⟨cx,cI,dw⟩:=e6;have az:=dG z.1.2.2.2.1 fJ ab;exact bz ⟨⟨cx.trans eg,cI.trans e3,dw.trans gq,by dsimp only;rw[az];omega⟩,by dsimp only;rw[az];omega⟩;obtain⟨cx,cI,dw,fh,kJ⟩:=e7;exact a6 ⟨cx.trans eg,cI.trans e3,dw.trans gq,fh,kJ⟩;exact a6 ⟨eg,e3,gq⟩;refine ee fH (λdX jJ=>?_) (λdy g3=>?_);obtain⟨cx,cI,dw⟩:=jJ;have i0:(W 0).1=0:=rfl;have aa:=h.1;have w3:0<=(W 0).1/\(W 0).1<dX.2.1.2.1.1.length:=by rw[i0,cx];omega
 refine ae (dg w3) λhY j_=>?_;have cj:pE hY:=by rw[cx] at j_;exact h.2.2 _ _ j_
 refine ae (dg w3) λk1 l9=>?_;obtain rfl:=eF (j_.symm.trans l9);refine ae (dg (by rw[i0];have:=cj.2.1;omega)) λk2 pQ=>?_;exact ak ⟨cx,cI,dw,cj,cj.2.2.2 _ _ pQ⟩;exact ak g3
theorem au1:∀x:U aeg,k9 x.2 6->av (Lm x) (λy=>fc x.2 (hM y.2) 6):=by
 intro x h;unfold Lm;have j0:fc x.2 x.2 0:=fc.refl h.d;apply ag<;>intro _;refine ae (jL _ h.d) λaq cr=>?_;have aI:=j0.pK cr.1;apply ag<;>intro _;refine ae (p5 _ aG) λaB _=>?_;refine ae (sH _ (h.go aI bu)) λaK ax=>?_;have bq:=aI.trans ax;refine ae (uQ _ (h.go bq bu)) λaS a8=>?_;exact ak ((bq.trans a8).mono bu);exact ak (aI.mono bu);refine ae (jL _ h.d) λa9 c5=>?_;have aI:=j0.pK c5.1;apply ag<;>intro _;refine ae (p5 _ aG) λbJ _=>?_;refine ae (uQ _ (h.go aI bu)) λbK dS=>?_;exact ak ((aI.trans dS).mono bu);refine ae (aej _ h.ct) λcl e8=>?_;obtain⟨cx,cI,dw,fh,kJ⟩:=e8;have dD:hM cl.2=(x.2.1,a9.2.1,(),x.2.2.2.2.1,()):=by unfold hM;rw[cx,cI,dw]
 have hJ:fc x.2 (hM cl.2) 0:=by rw[dD];exact aI
 refine ae (p5 _ aG) λbO _=>?_;refine ae (K1 _ ⟨fh.1,kJ⟩) λcc _=>?_;refine ae (sH _ (h.go hJ bu)) λbT iS=>?_;have kn:=hJ.trans iS;refine ae (jL _ kn.d) λcL e7=>?_;have l6:=kn.pK e7.1;refine ae (uO _ (h.go l6 bu)) λcy j9=>?_;have kT:=l6.trans j9;refine ae (uQ _ (h.go kT bu)) λdX m9=>?_;exact ak ((kT.trans m9).mono bu)
theorem aeb:∀x:U ad_,(k9 x.2 7/\pE x.1.2.1/\x.1.2.2.1.1.size<=12)->av (Et x) (λy=>fc x.2 (hM y.2) 7):=by
 intro x aF;obtain⟨h,bL,aU⟩:=aF;unfold Et;refine ae (p5 _ aG) λaq cr=>?_;refine ae (ad0 _ (h.mono bu)) λaB af=>?_;have jx:=bL.2.2.1;refine ae (cS (h:=Ll) (R:=λy=>fc x.2 (y.2.1,y.2.2.1,(),y.2.2.2.2.2.2.2.2.1,()) 6) (λz:U T1=>z.1.2.1=x.1.2.2.1/\z.1.2.2.1=x.1.2.1/\0<=z.1.2.2.2.2.1.1/\z.1.2.2.2.2.1.1<=x.1.2.1.2.1.1.length/\z.2.2.2.2.2.1.2.2.2.2.2.2.2.1.1.length<=z.1.2.2.2.2.1.1/\fc x.2 (z.2.1,z.2.2.1,(),z.2.2.2.2.1,()) (1+z.1.2.2.2.2.1.1.toNat)) (λz=>((x.1.2.1.2.1.1.length:Nat)-z.1.2.2.2.2.1.1:Int).toNat) (λz ai=>?_) _ ⟨rfl,rfl,(by show 0<=(W 0).1;decide),(by show(W 0).1<=_;have i0:(W 0).1=0:=rfl;rw[i0];omega),(by show((0:Nat):Int)<=(W 0).1;decide),af⟩) λcc fj=>?_;obtain⟨eg,e3,gq,fJ,mm,k8⟩:=ai;unfold Ll;rw[eg,e3];apply ag<;>intro ah;simp only[b8,aL] at ah;have az:=dG z.1.2.2.2.2.1 gq ab;have bR:(z.1.2.2.2.2.1.1+1).toNat=z.1.2.2.2.2.1.1.toNat+1:=ab;refine ae (dg ⟨gq,ah⟩) λbS eM=>?_;apply ag<;>intro _;refine ae (dg ⟨gq,ah⟩) λcR fg=>?_;refine ae (dg ⟨gq,ah⟩) λdO fV=>?_;refine ae (K1 _ ⟨bL.1,bL.2.2.2 _ _ fV⟩) λbJ _=>?_;refine ae (jL _ k8.d) λbK ew=>?_;have gz:=k8.pK ew.1;refine ae (uO _ (h.go gz ab)) λcl ez=>?_;have hJ:=gz.trans ez;refine ae (dq (by simp only[b7];omega)) λj2 vG=>?_;have as3:=vG.2;simp only[b7] at as3;exact bz ⟨⟨rfl,rfl,by dsimp only;rw[az];omega,by dsimp only;rw[az];omega,by dsimp only;rw[az];omega,by dsimp only;rw[az,bR];exact hJ⟩,by dsimp only;rw[az];omega⟩;exact bz ⟨⟨rfl,rfl,by dsimp only;rw[az];omega,by dsimp only;rw[az];omega,by dsimp only;rw[az];omega,by dsimp only;rw[az,bR];exact k8.mono ab⟩,by dsimp only;rw[az];omega⟩;exact a6 (k8.mono ab);refine ae (uQ _ (h.go fj bu)) λbT iS=>?_;exact ak (fj.trans iS)
theorem auG:∀x:U ad1,k9 x.2 3->av (Lh x) (λy=>fc x.2 (hM y.2) 3):=by
 intro x h;unfold Lh;have j0:fc x.2 x.2 0:=fc.refl h.d;apply ag<;>intro _;refine ae (jL _ h.d) λaq cr=>?_;have aI:=j0.pK cr.1;apply ag<;>intro _;refine ae (uO _ (h.go aI bu)) λaB af=>?_;have aQ:=aI.trans af;refine ae (sH _ (h.go aQ bu)) λaK ax=>?_;have bq:=aQ.trans ax;exact ae (xl _ (h.go bq bu)) (λaS a8=>ak (bq.trans a8));apply ag<;>intro _;refine ae (jL _ cr.1) λa9 c5=>?_;have eP:=j0.pK c5.1;exact ae (uO _ (h.go eP bu)) (λbJ da=>ak ((eP.trans da).mono bu));refine ae (sH _ (h.go aI bu)) λbK dS=>?_;have gz:=aI.trans dS;refine ae (jL _ gz.d) λcl e8=>?_;have hJ:=gz.pK e8.1;refine ae (uO _ (h.go hJ bu)) λbO dM=>?_;have ic:=hJ.trans dM;exact ae (xl _ (h.go ic bu)) (λcc gK=>ak (ic.trans gK));apply ag<;>intro _;refine ae (sH _ (h.go j0 bu)) λbT iS=>?_;have kn:=j0.trans iS;refine ae (jL _ kn.d) λcL e7=>?_;have l6:=kn.pK e7.1;refine ae (uO _ (h.go l6 bu)) λcy j9=>?_;have kT:=l6.trans j9;exact ae (xl _ (h.go kT bu)) (λdX m9=>ak (kT.trans m9));apply ag<;>intro _;refine ae (jL _ h.d) λdy g3=>?_;have sj:=j0.pK g3.1;refine ae (aiN _ aG) λeD gA=>?_;have eg:(S ⟨#[116]⟩).1.size=1:=rfl;refine ae (oU (by dsimp only at gA;omega)) λlj _=>?_;refine ae (zj _ (h.go sj bu)) λeY wW=>?_;have Dp:=sj.trans wW;refine ae (zj _ (h.go Dp bu)) λfe Ar=>?_;have aaJ:=Dp.trans Ar;exact ae (xl _ (h.go aaJ bu)) (λfM uv=>ak (aaJ.trans uv));refine ae (zj _ (h.go j0 bu)) λiD Dv=>?_;have SB:=j0.trans Dv;refine ae (sH _ (h.go SB bu)) λfa wX=>?_;have yo:=SB.trans wX;exact ae (xl _ (h.go yo bu)) (λlD As=>ak (yo.trans As))
def jf:Nat->Nat
 |0=>16
 |r+1=>6*jf r+80
def xX (w:vk)(l:D dZ):Prop:=0<=w.1.2.2.2.2.2.2.2.2.1.1/\w.1.2.2.2.2.2.2.2.2.1.1<w.1.2.2.2.2.2.2.2.1.1.length/\w.1.2.2.2.2.2.2.2.1.1[w.1.2.2.2.2.2.2.2.2.1.1.toNat]?=some l/\sZ l
theorem xX.go {w v k l}(h:xX w l)(g:fc w v k):xX v l:=by
 unfold xX;rw[g.ty,g.ro];exact h
def zP (r:Nat)(x:U pc):Prop:=k9 x.2 (jf r)/\(∃l,xX x.2 l/\0<=x.1.2.1.1/\x.1.2.1.1<l.2.1.1.length)/\0<=x.1.2.2.1.1/\x.1.2.2.1.1<=5/\5<=x.1.2.2.1.1+r
theorem T2 (rec:U pc->Option (U rj))(r:Nat)(rI:∀x,zP r x->av (rec x) (λy=>fc x.2 (hM y.2) (jf r))):∀x:U aec,(k9 x.2 (jf r+9)/\(∃l t,xX x.2 l/\0<=x.1.2.1.1/\l.2.1.1[x.1.2.1.1.toNat]?=some t/\0<=x.1.2.2.1.1/\x.1.2.2.1.1<t.2.2.1.1.length)/\0<=x.1.2.2.2.1.1/\x.1.2.2.2.1.1<=4/\4<=x.1.2.2.2.1.1+r)->av (AY rec x) (λy=>fc x.2 (hM y.2) (jf r+9)):=by
 intro x aF;obtain⟨h,⟨l,t,b9,ba,aW,a0,dK⟩,d0,d4,d5⟩:=aF;unfold AY;have Dx:=b9;obtain⟨t1,t2,t3,t4⟩:=Dx;refine ae (dg ⟨t1,t2⟩) λaE cw=>?_;obtain rfl:=eF (t3.symm.trans cw);have bl:=(ep.1 aW).1;refine ae (dg ⟨ba,ab⟩) λaP cP=>?_;obtain rfl:=eF (aW.symm.trans cP);refine ae (dg ⟨a0,dK⟩) λbS eM=>?_;have mz:=(t4.eK _ _ aW).2.2 _ _ eM;have yE:=dG x.1.2.2.2.1 d0 ab;have j0:fc x.2 x.2 0:=fc.refl h.d;have fin:∀(v:vk)(k:Nat),fc x.2 v k->k<=9->zP r (((),bS.2.2.2.1,(bc x.1.2.2.2.1 (W (1))),()),v):=λv k g aX=>
  ⟨h.go g ab,⟨l,b9.go g,mz.1,mz.2⟩,by dsimp only;rw[yE];omega,by dsimp only;rw[yE];omega,by dsimp only;rw[yE];omega⟩
 refine ae (p5 _ aG) λaS _=>?_;apply ag<;>intro _;refine ae (uQ _ (h.mono ab)) λbO dM=>?_;refine ae (rI _ (fin (hM bO.2) 1 dM bu)) λcc gK=>?_;exact ak ((fc.trans dM gK).mono ab);apply ag<;>intro _;refine ae (aej _ h.ct) λa9 c5=>?_;obtain⟨cx,cI,dw,fh,kJ⟩:=c5;have dO:hM a9.2=x.2:=by unfold hM;rw[cx,cI,dw];rfl
 have eP:fc x.2 (hM a9.2) 0:=by rw[dO];exact j0
 refine ae (aeb _ ⟨h.go eP ab,fh,kJ⟩) λbJ da=>?_;have fy:=eP.trans da;refine ae (sH _ (h.go fy ab)) λbK dS=>?_;have gz:=fy.trans dS;refine ae (uQ _ (h.go gz ab)) λbT iS=>?_;have kn:=gz.trans iS;refine ae (rI _ (fin (hM bT.2) _ kn bu)) λcL nP=>?_;exact ak ((fc.trans kn nP).mono ab);refine ae (auG _ (h.mono ab)) λcl ez=>?_;refine ae (uQ _ (h.go ez ab)) λcy j9=>?_;have kT:=ez.trans j9;refine ae (rI _ (fin (hM cy.2) _ kT bu)) λdX m9=>?_;exact ak ((fc.trans kT m9).mono ab)
theorem auL (rec:U pc->Option (U rj))(r:Nat)(rI:∀x,zP r x->av (rec x) (λy=>fc x.2 (hM y.2) (jf r))):∀x:U ad5,(k9 x.2 (6*jf r+60)/\(∃l,xX x.2 l/\0<=x.1.2.1.1/\x.1.2.1.1<l.2.1.1.length)/\0<=x.1.2.2.1.1/\x.1.2.2.1.1<=4/\4<=x.1.2.2.1.1+r)->av (Li rec x) (λy=>fc x.2 (hM y.2) (6*jf r+60)):=by
 intro x aF;obtain⟨h,⟨l,b9,ba,aa⟩,d0,d4,d5⟩:=aF;unfold Li;have Dx:=b9;obtain⟨t1,t2,t3,t4⟩:=Dx;refine ae (dg ⟨t1,t2⟩) λaE cw=>?_;obtain rfl:=eF (t3.symm.trans cw);refine ae (dg ⟨ba,aa⟩) λaP cP=>?_;have J7:=t4.eK _ _ cP;have s7:=J7.1;refine ae (p5 _ aG) λaK _=>?_;refine ae (vR _ (h.mono ab)) λaS dj=>?_;obtain⟨cA,aj,a,bZ,hw⟩:=dj;have lV:=h.go (m:=6*jf r+59) cA ab;have yE:=dG x.1.2.2.1 d0 ab;refine ae (cS (h:=Lj rec) (R:=λy=>fc x.2 (y.2.1,y.2.2.1,(),y.2.2.2.2.2.2.1,()) (1+6*(jf r+8))/\∃b t,y.2.2.2.2.2.2.1.1=x.2.2.2.2.1.1++b::t/\b.2.2.2.2.2.2.2.2.1.1.length<=6/\aN oa t/\t.length<=6*(jf r+8))
  (λz:U TZ=>z.1.2.1=x.1.2.2.1/\z.1.2.2.1=aP/\z.1.2.2.2.1=aS.1.1/\0<=z.1.2.2.2.2.1.1/\z.1.2.2.2.2.1.1<=aP.2.2.1.1.length/\fc x.2 (z.2.1,z.2.2.1,(),z.2.2.2.2.1,()) (1+z.1.2.2.2.2.1.1.toNat*(jf r+8))/\∃b t,z.2.2.2.2.1.1=x.2.2.2.2.1.1++b::t/\b.2.2.2.2.2.2.2.2.1.1.length<=z.1.2.2.2.2.1.1.toNat/\aN oa t/\t.length<=z.1.2.2.2.2.1.1.toNat*(jf r+8))
  (λz=>((aP.2.2.1.1.length:Nat)-z.1.2.2.2.2.1.1:Int).toNat) (λz ai=>?_) _ ⟨rfl,rfl,rfl,(by show 0<=(W 0).1;decide),(by show(W 0).1<=_;have i0:(W 0).1=0:=rfl;rw[i0];omega),(by show fc _ _ (1+0*_);rw[Nat.zero_mul];exact cA),a,[],bZ,ab,aN.nil,Nat.zero_le _⟩) (λeD gA=>?_)
 obtain⟨eg,e3,gq,fJ,mm,k8,b,t,qO,iO,kO,I3⟩:=ai;unfold Lj;rw[eg,e3,gq];have ux:z.1.2.2.2.2.1.1.toNat*(jf r+8)<=5*(jf r+8)\/6<=z.1.2.2.2.2.1.1.toNat:=by
  by_cases aA:z.1.2.2.2.2.1.1.toNat<=5;exact .inl (nu _ aA);exact .inr ab
 apply ag<;>intro ah;simp only[b8,aL] at ah;have az:=dG z.1.2.2.2.2.1 fJ ab;have bR:(z.1.2.2.2.2.1.1+1).toNat=z.1.2.2.2.2.1.1.toNat+1:=ab;have ux:z.1.2.2.2.2.1.1.toNat*(jf r+8)<=5*(jf r+8):=ab;have dI:(z.1.2.2.2.2.1.1.toNat+1)*(jf r+8)=z.1.2.2.2.2.1.1.toNat*(jf r+8)+(jf r+8):=Nat.succ_mul _ _;have UM:=h.go (m:=jf r+8) k8 ab;refine ae (dg ⟨fJ,ah⟩) λdO fV=>?_;refine ae (P:=λy=>fc (z.2.1,z.2.2.1,(),z.2.2.2.2.1,()) (y.2.1,y.2.2.1,(),y.2.2.2.2.2.2.2.1,()) 7) ?_ (λcc gK=>?_);unfold ad2;refine ae (dg ⟨fJ,ah⟩) λdb fY=>?_;apply ag<;>intro _;refine ae (ad0 _ (UM.mono ab)) λbK dS=>?_;refine ae (dg ⟨fJ,ah⟩) λdD g7=>?_;refine ae (au1 _ (UM.go dS ab)) λbO dM=>?_;exact ak (dS.trans dM);exact ak ((fc.refl UM.d).mono bu);refine ae (dg ⟨fJ,ah⟩) λgw na=>?_;have mz:=J7.2.2 _ _ na;have q2:=k8.trans gK;refine ae (rI _ ⟨h.go q2 ab,⟨l,b9.go q2,mz.1,mz.2⟩,by dsimp only;rw[yE];omega,by dsimp only;rw[yE];omega,by dsimp only;rw[yE];omega⟩) λcL nP=>?_;have l6:=gK.trans nP;obtain⟨u,j4,kW,Q4⟩:=l6.s;have j4:cL.2.2.2.2.2.2.1.1=x.2.2.2.2.1.1++b::(t++u):=j4.trans (by show z.2.2.2.2.1.1++u=_;rw[qO];simp);obtain⟨g_,gl,jl,mf⟩:=Bb j4 aj;refine ag (λ_=>?_) (λq=>by rw[g_] at q;cases q);refine ae (mc gl) λkk oZ=>?_;rw[jl] at oZ;cases oZ;refine ae (dq (by simp only[b7];omega)) λtI yJ=>?_;refine ag (λ_=>?_) (λq=>by rw[g_] at q;cases q);refine ae (mc gl) λjY o2=>?_;rw[jl] at o2;cases o2;refine ag (λ_=>?_) (λq=>by simp at q);have aOL:=oa.put iO yJ.1;have ul:(t++u).length<=z.1.2.2.2.2.1.1.toNat*(jf r+8)+(jf r+8):=by rw[bw];omega
 have hu:aN oa (t++u):=kO.append kW;refine bz ⟨⟨rfl,rfl,rfl,by dsimp only;rw[az];omega,by dsimp only;rw[az];omega,?_,_,t++u,mf _,?_,hu,?_⟩,by dsimp only;rw[az];omega⟩;dsimp only
 rw[az,bR];exact((k8.trans l6).mono (m:=1+(z.1.2.2.2.2.1.1.toNat+1)*(jf r+8)) ab).lC (mf _) (aN.cons (by show tI.1.length<=20;omega) hu) (by rw[gX];omega);show tI.1.length<=(bc z.1.2.2.2.2.1 (W 1)).1.toNat;rw[az,bR];exact aOL;dsimp only;rw[az,bR];omega;simp only[b8,aL] at ah;have ux:z.1.2.2.2.2.1.1.toNat*(jf r+8)<=6*(jf r+8):=nu _ ab;exact a6 ⟨k8.mono ab,b,t,qO,ab,kO,ab⟩;obtain⟨SA,b,t,cY,eT,gY,oT⟩:=gA;refine ae (jL _ SA.d) λeO iM=>?_;have tq:=SA.pK iM.1;apply ag<;>intro _;refine ae (p5 _ aG) λeY _=>?_;have Fh:=h.go (m:=6) tq ab;refine ae (zj _ (Fh.mono bu)) λfe Ar=>?_;refine ae (uQ _ (Fh.go Ar bu)) λfM uv=>?_;have JW:=Ar.trans uv;refine ae (p5 _ aG) λiD _=>?_;refine ae (vR _ (Fh.go JW bu)) λfa wX=>?_;have yo:=JW.trans wX.1;obtain⟨u,j4,kW,Q4⟩:=yo.s;have j4:fa.2.2.2.2.2.2.1.1=x.2.2.2.2.1.1++b::(t++u):=j4.trans (by show eD.2.2.2.2.2.2.1.1++u=_;rw[cY];simp);obtain⟨g_,gl,jl,mf⟩:=Bb j4 aj;refine ag (λ_=>?_) (λq=>by rw[g_] at q;cases q);refine ae (mc gl) λm7 rH=>?_;rw[jl] at rH;cases rH;refine ae (dq (by simp only[b7];omega)) λuK AD=>?_;refine ag (λ_=>?_) (λq=>by rw[g_] at q;cases q);refine ae (mc gl) λl5 w1=>?_;rw[jl] at w1;cases w1;refine ag (λ_=>?_) (λq=>by simp at q);have aON:=oa.put eT AD.1;exact ak (((tq.trans yo).mono (m:=6*jf r+60) ab).lC (mf _) (aN.cons (by show uK.1.length<=20;omega) (gY.append kW)) (by rw[gX,bw];omega));exact ak (tq.mono ab)
theorem auw:∀(r n:Nat)(x:U pc),r<n->zP r x->av (xk n x) (λy=>fc x.2 (hM y.2) (jf r)):=by
 intro r;induction r with
 |zero=>
  intro n x az aF;obtain⟨n,rfl⟩:∃m,n=m+1:=⟨n-1,ab⟩;obtain⟨h,⟨l,b9,ba,aa⟩,d0,d5,d6⟩:=aF;show av (AW (xk n) x) _;unfold AW;obtain⟨t1,t2,t3,t4⟩:=b9;refine ae (dg ⟨t1,t2⟩) λaE cw=>?_;obtain rfl:=eF (t3.symm.trans cw);refine ae (dg ⟨ba,aa⟩) λaP cP=>?_;have j0:fc x.2 x.2 0:=fc.refl h.d;apply ag<;>intro _;exact ae (Er _ (h.mono bu)) (λaK ax=>ak (ax.mono bu));refine ae (P:=λy=>hM y.2=x.2) ?_ (λaS cR=>?_);unfold TX;exact ag (λ_=>ag (λ_=>ak rfl) (λ_=>ak rfl)) (λ_=>ak rfl);have cA:fc x.2 (hM aS.2) 0:=by rw[cR];exact j0
  apply ag<;>intro _;exact ae (adN _ (h.go cA bu)) (λa9 cn=>ak ((cA.trans cn).mono bu));refine ae (P:=λy=>hM y.2=x.2/\y.1.1=true) ?_ (λbJ dL=>?_);unfold TY;refine ag (λ_=>ak ⟨cR,rfl⟩) (λ_=>ak ⟨cR,?_⟩);simp only[b8,aL];omega;obtain⟨db,f6⟩:=dL;have fy:fc x.2 (hM bJ.2) 0:=by rw[db];exact j0
  refine ag (λ_=>?_) (λq=>by rw[f6] at q;cases q);exact ae (Er _ (h.go fy bu)) (λbK dS=>ak ((fy.trans dS).mono bu))
 |succ r cu=>
  intro n x az aF;obtain⟨n,rfl⟩:∃m,n=m+1:=⟨n-1,ab⟩;obtain⟨h,⟨l,b9,ba,aa⟩,d0,d5,d6⟩:=aF;have an:jf (r+1)=6*jf r+80:=rfl;have Au:16<=jf r:=by
   clear cu az h d6 an;induction r with
   |zero=>exact Nat.le_refl _
   |succ r cu=>have:jf (r+1)=6*jf r+80:=rfl;omega
  have rI:∀x,zP r x->av (xk n x) (λy=>fc x.2 (hM y.2) (jf r)):=λx aO=>cu n x ab aO;show av (AW (xk n) x) _;unfold AW;have Dx:=b9;obtain⟨t1,t2,t3,t4⟩:=Dx;refine ae (dg ⟨t1,t2⟩) λaE cw=>?_;obtain rfl:=eF (t3.symm.trans cw);refine ae (dg ⟨ba,aa⟩) λaP cP=>?_;have J7:=t4.eK _ _ cP;have j0:fc x.2 x.2 0:=fc.refl h.d;apply ag<;>intro aD;exact ae (Er _ (h.mono ab)) (λaK ax=>ak (ax.mono ab));simp only[b8,aL] at aD;have dK:=J7.2.1 ab;refine ae (P:=λy=>hM y.2=x.2) ?_ (λaS cR=>?_);unfold TX;exact ag (λ_=>ag (λ_=>ak rfl) (λ_=>ak rfl)) (λ_=>ak rfl);have cA:fc x.2 (hM aS.2) 0:=by rw[cR];exact j0
  apply ag<;>intro _;exact ae (adN _ (h.go cA ab)) (λa9 cn=>ak ((cA.trans cn).mono ab));refine ae (P:=λy=>hM y.2=x.2/\(y.1.1=false->x.1.2.2.1.1<=4)) ?_ (λbJ dL=>?_);unfold TY;refine ag (λ_=>ak ⟨cR,λq=>(by cases q)⟩) (λ_=>ak ⟨cR,λq=>?_⟩);simp only[b8,aL] at q;omega;obtain⟨db,f6⟩:=dL;have fy:fc x.2 (hM bJ.2) 0:=by rw[db];exact j0
  refine ag (λ_=>?_) (λmE=>?_);exact ae (Er _ (h.go fy ab)) (λbK dS=>ak ((fy.trans dS).mono ab));have d4:=f6 mE;apply ag<;>intro _;exact ae (auL _ r rI _ ⟨h.go fy ab,⟨l,b9.go fy,ba,aa⟩,d0,d4,by dsimp only;omega⟩) (λcl ez=>ak ((fc.trans fy ez).mono ab));refine ae (P:=λy=>hM y.2=x.2) ?_ (λbO eV=>?_);unfold adS;exact ag (λ_=>ak db) (λ_=>ak db);have ic:fc x.2 (hM bO.2) 0:=by rw[eV];exact j0
  have TL:∀z:a_ .i64,0<=z.1->(1<=(bf aP.2.2.1).1->z.1<(bf aP.2.2.1).1)->z.1<aP.2.2.1.1.length:=λz _ q=>q (by show(1:Int)<=(aP.2.2.1.1.length:Nat);omega);apply ag<;>intro _;refine ae (p5 _ aG) λcc _=>?_;refine ae (jL _ ic.d) λbT e6=>?_;have kn:=ic.pK e6.1;refine ae (uO _ (h.go kn ab)) λcL nP=>?_;have l6:=kn.trans nP;refine ae (sH _ (h.go l6 ab)) λcy j9=>?_;have kT:=l6.trans j9;refine ae (xl _ (h.go kT ab)) λdX m9=>?_;have wU:=kT.trans m9;have Uv:=h.go (m:=6*jf r+77) wU ab;refine ae (vR _ (Uv.mono ab)) λdy g3=>?_;obtain⟨sj,aj,a,bZ,hw⟩:=g3;refine ae (jL _ sj.d) λeD gA=>?_;refine ae (jL _ gA.1) λeO iM=>?_;have tq:=sj.pK iM.1;have aod:=(b9.go wU).go tq;have Fh:=Uv.go (m:=6*jf r+76) tq ab;refine ae (T2 _ r rI _ ⟨Fh.mono ab,⟨l,aP,aod,ba,cP,gA.2.1,TL _ gA.2.1 gA.2.2⟩,d0,d4,by dsimp only;omega⟩) λeY wW=>?_;have Dp:=fc.trans tq wW;obtain⟨t,j4,kW,Q4⟩:=wW.s;have j4:=am8 j4 bZ;obtain⟨g_,gl,jl,mf⟩:=Bb (ss:=eY.2.2.2.2.2.2.1) j4 aj;refine ag (λ_=>?_) (λq=>by rw[g_] at q;cases q);refine ae (mc gl) λoh qz=>?_;rw[jl] at qz;cases qz;refine ae (dq (by simp only[b7];omega)) λy6 Kj=>?_;refine ag (λ_=>?_) (λq=>by rw[g_] at q;cases q);refine ae (mc gl) λnv vD=>?_;rw[jl] at vD;cases vD;refine ag (λ_=>?_) (λq=>by simp at q);have aOM:=oa.put (n:=0) ab Kj.1;have f18:=Dp.lC (mf (a.1,a.2.1,a.2.2.1,a.2.2.2.1,a.2.2.2.2.1,a.2.2.2.2.2.1,a.2.2.2.2.2.2.1,a.2.2.2.2.2.2.2.1,y6,a.2.2.2.2.2.2.2.2.2.1,())) (aN.cons (by show y6.1.length<=20;omega) kW) (by rw[gX];omega);refine ae (T2 _ r rI _ ⟨Uv.go f18 ab,⟨l,aP,(b9.go wU).go f18,ba,cP,iM.2.1,TL _ iM.2.1 iM.2.2⟩,d0,d4,by dsimp only;omega⟩) λfa wX=>?_;have yo:=fc.trans f18 wX;obtain⟨v,v1,v2,cH⟩:=wX.s;have v1:fa.2.2.2.2.2.2.1.1=dX.2.2.2.2.2.2.1.1++_::(t++v):=v1.trans (congrArg (·++v) (mf _))|>.trans (by rw[cN];rfl);obtain⟨s1,s2,tS,QN⟩:=Bb (ss:=fa.2.2.2.2.2.2.1) v1 aj;refine ag (λ_=>?_) (λq=>by rw[s1] at q;cases q);refine ae (mc s2) λm7 rH=>?_;rw[tS] at rH;cases rH;refine ae (dq (by simp only[b7];omega)) λuK AD=>?_;refine ag (λ_=>?_) (λq=>by rw[s1] at q;cases q);refine ae (mc s2) λl5 w1=>?_;rw[tS] at w1;cases w1;refine ag (λ_=>?_) (λq=>by simp at q);have aON:=oa.put (n:=1) aOM AD.1;exact ak ((wU.trans (yo.lC (QN _) (aN.cons (by show uK.1.length<=20;omega) (kW.append v2)) (by rw[gX,bw];omega))).mono ab);refine ae (jL _ ic.d) λmW qC=>?_;have Dq:=ic.pK qC.1;refine ae (T2 _ r rI _ ⟨h.go Dq ab,⟨l,aP,b9.go Dq,ba,cP,qC.2.1,TL _ qC.2.1 qC.2.2⟩,d0,d4,by dsimp only;omega⟩) λCr SH=>?_;exact ak ((fc.trans Dq SH).mono ab)
theorem auA:∀x:U pc,zP 5 x->av (TW x) (λy=>fc x.2 (hM y.2) 500000):=λx h=>
 (auw 5 px x (by unfold px;omega) h).mono λy cf=>cf.mono bu
theorem auq:∀x:U adF,(gW x.2.1/\xW x.1.2.1.1/\pE x.1.2.2.1/\aN sZ x.1.2.2.2.1.1/\0<=x.1.2.2.2.2.1.1/\x.1.2.2.2.2.1.1<x.1.2.2.1.2.1.1.length/\x.1.2.2.2.2.1.1<x.1.2.2.2.1.1.length)->av (Le x) (λy=>gW y.2.1/\aN oa y.1.1.2.2.2.1.1):=by
 intro x aF;obtain⟨aa,af,ax,a8,cn,da,dS⟩:=aF;unfold Le;refine ae (dg ⟨cn,da⟩) λaE cw=>?_;refine ae (K1 _ ⟨ax.1,ax.2.2.2 _ _ cw⟩) λaB _=>?_;refine ae (jL _ aa) λaK cG=>?_;have gU:=fG (l:=x.1.2.2.2.1.1) (i:=x.1.2.2.2.2.1.1.toNat) ab;have gC:=a8 _ _ gU;have i0:(W 0).1=0:=rfl;refine ae (auA _ ⟨⟨cG.1,af,by show 0+_<=_;decide,by show 0+_<=_;decide,by show 0<=(W 0).1;decide,by show(W 0).1+_<=_;decide⟩,⟨_,⟨cn,dS,gU,gC⟩,by show 0<=(W 0).1;decide,by show(W 0).1<_;rw[i0];have:=gC.t1;omega⟩,by show 0<=(W 0).1;decide,by show(W 0).1<=5;decide,by show 5<=(W 0).1+_;decide⟩) λaS a8=>?_;refine ak ⟨a8.d,?_⟩;obtain⟨t,t1,t2,t3⟩:=a8.s;have t1:aS.2.2.2.2.2.2.1.1=[]++t:=t1;dsimp only
 rw[t1];exact t2
theorem aun:∀x:U adD,(gW x.2.1/\xW x.1.2.1.1)->av (Lc x) (λy=>aN oa y.1.1.2.2.2.1.1):=by
 intro x aF;obtain⟨aa,af⟩:=aF;unfold Lc;have i0:(W 0).1=0:=rfl;have i3:(W 3).1=3:=rfl;refine ae (jL _ aa) λaq cr=>?_;have qE:=cr.2.1;have bn:=cr.2.2 (by show 1<=(W 3).1;decide);dsimp only at bn;rw[i3] at bn;have hm:(bc (W 1) aq.1.1).1=1+aq.1.1.1:=by simp only[aL];omega
 refine ae (cS (h:=Ld) (R:=λy=>aN oa y.2.2.2.2.2.2.1.1) (λz:U TV=>z.1.2.1=x.1.2.1/\z.1.2.2.2.1=bc (W 1) aq.1.1/\0<=z.1.2.2.2.2.1.1/\aN oa z.2.2.2.2.1.1/\gW z.2.1/\k9 (z.2.2.1,z.2.1,(),z.2.2.2.2.1,()) (500-100*z.1.2.2.2.2.1.1.toNat)) (λz=>((3:Nat)-z.1.2.2.2.2.1.1:Int).toNat) (λz ai=>?_) _ ⟨rfl,rfl,(by show 0<=(W 0).1;decide),aN.nil,cr.1,cr.1,af,by show 0+(500-100*0)<=1000000;decide,by show 0+(500-100*0)<=1000000;decide,by show 0<=(W 0).1;decide,by show(W 0).1+((500-100*0:Nat):Int)<=1000000;decide⟩) λeD gA=>?_;obtain⟨eg,e3,gq,fJ,mm,k8⟩:=ai;unfold Ld;rw[eg,e3];apply ag<;>intro ah;simp only[b8,aL] at ah;have az:=dG z.1.2.2.2.2.1 gq ab;have bR:(z.1.2.2.2.2.1.1+1).toNat=z.1.2.2.2.2.1.1.toNat+1:=ab;have aW:=af.1;refine ae (jL _ mm) λaB cE=>?_;refine ae (dg ⟨cE.2.1,cE.2.2 (by show(1:Int)<=(x.1.2.1.1.length:Nat);omega)⟩) λbS eM=>?_;have bL:=af.2.2 _ _ eM;refine ae (jL _ cE.1) λaS dj=>?_;refine ae (dg ⟨dj.2.1,dj.2.2 (by show(1:Int)<=(bS.2.1.1.length:Nat);have:=bL.2.1;omega)⟩) λdO fV=>?_;have fh:=k8.pK dj.1;refine ae (aeb _ ⟨fh.mono ab,bL,bL.2.2.2 _ _ fV⟩) λbJ da=>?_;refine ae (p5 _ aG) λbK _=>?_;refine ae (P:=λ_=>True) ?_ (λbO _=>?_);unfold adA;exact ag (λ_=>ae (p5 _ aG) (λ_ _=>ak aG)) (λ_=>ak aG);refine ae (K1 _ ⟨bL.1,bL.2.2.2 _ _ fV⟩) λcc _=>?_;refine ae (sH _ (fh.go da ab)) λbT iS=>?_;have kn:=da.trans iS;refine ae (jL _ kn.d) λcL e7=>?_;have l6:=kn.pK e7.1;refine ae (uO _ (fh.go l6 ab)) λcy j9=>?_;have kT:=l6.trans j9;have fin:∀v:vk,fc (z.2.2.1,aS.2.1,(),z.2.2.2.2.1,()) v 10->aN oa v.2.2.2.1.1/\k9 v (500-100*(z.1.2.2.2.2.1.1.toNat+1)):=λv g=>by
  obtain⟨t,t1,t2,t3⟩:=g.s;refine⟨?_,fh.go g ab⟩;rw[t1];exact fJ.append t2
 apply ag<;>intro _;refine ae (vR _ (fh.go kT ab)) λdX m9=>?_;obtain⟨f1,f2⟩:=fin (hM dX.2) ((kT.trans m9.1).mono bu);exact bz ⟨⟨rfl,rfl,by dsimp only;rw[az];omega,f1,m9.1.d,by dsimp only;rw[az,bR];exact f2⟩,by dsimp only;rw[az];omega⟩;refine ae (uQ _ (fh.go kT ab)) λdy m_=>?_;obtain⟨f1,f2⟩:=fin (hM dy.2) ((kT.trans m_).mono bu);exact bz ⟨⟨rfl,rfl,by dsimp only;rw[az];omega,f1,m_.d,by dsimp only;rw[az,bR];exact f2⟩,by dsimp only;rw[az];omega⟩;exact a6 fJ;exact ak gA
def CG (q:D fx):Prop:=aN oa q.2.2.2.1.1
theorem atM:∀x:U K5,(gW x.2.1/\xW x.2.2.1.1.1/\(∃p,x.2.2.1.1.1[x.1.2.2.1.1.toNat]?=some p/\0<=x.1.2.2.1.1/\x.1.2.2.2.1.1.length<=p.2.1.1.length)/\aN sZ x.1.2.2.2.1.1/\x.1.2.2.2.1.1.length<=5/\x.1.2.2.2.2.1.1=0/\aN CG x.2.2.1.2.2.1.1/\x.2.2.1.2.2.1.1.length<=5)->av (a2 K4 x) (λy=>gW y.2.1/\y.2.2.1.1=x.2.2.1.1/\aN CG y.2.2.1.2.2.1.1/\y.2.2.1.2.2.1.1.length<=x.2.2.1.2.2.1.1.length+5):=by
 intro x aF;obtain⟨aa,af,⟨p,ax,a8,cn⟩,da,dS,ez,dM,gK⟩:=aF;have bl:=(ep.1 ax).1;refine cS (λz:U K5=>z.1.2.2.1=x.1.2.2.1/\z.1.2.2.2.1=x.1.2.2.2.1/\0<=z.1.2.2.2.2.1.1/\z.1.2.2.2.2.1.1<=x.1.2.2.2.1.1.length/\gW z.2.1/\z.2.2.1.1=x.2.2.1.1/\aN CG z.2.2.1.2.2.1.1/\(z.2.2.1.2.2.1.1.length:Int)=x.2.2.1.2.2.1.1.length+z.1.2.2.2.2.1.1) (λz=>((x.1.2.2.2.1.1.length:Nat)-z.1.2.2.2.2.1.1:Int).toNat) (λz ai=>?_) _ ⟨rfl,rfl,ab,ab,aa,rfl,dM,ab⟩;obtain⟨eg,e3,gq,fJ,mm,k8,qO,iO⟩:=ai;unfold K4;rw[eg,e3,k8];apply ag<;>intro ah;simp only[b8,aL] at ah;have az:=dG z.1.2.2.2.2.1 gq ab;refine ae (dg ⟨a8,ab⟩) λdO fV=>?_;obtain rfl:=eF (ax.symm.trans fV);refine ae (dg ⟨gq,ah⟩) λdb fY=>?_;refine ae (auq _ ⟨mm,af,af.2.2 _ _ ax,da,gq,by dsimp only;omega,ah⟩) λbK ew=>?_;refine ae (dq (by simp only[b7];omega)) λjK o4=>?_;obtain⟨dK,dh⟩:=o4;rw[fu (by simp)] at dK;simp only[b7] at dh;exact bz ⟨⟨rfl,rfl,by dsimp only;rw[az];omega,by dsimp only;rw[az];omega,ew.1,rfl,by dsimp only;rw[dK];exact qO.append (aN.one ew.2),by dsimp only;rw[az];omega⟩,by dsimp only;rw[az];omega⟩;exact a6 ⟨mm,k8,qO,by dsimp only;omega⟩
theorem atP:∀x:U adf,x.1.1.1.length<=1000000000->av (K2 x) (λy=>um y.1.1/\y.1.1.2.1.1=[]):=by
 intro x aF;unfold K2;refine ae (atG _ aF) λaq cr=>?_;refine ae (atW _ cr) λaB cE=>?_;obtain⟨aI,aQ⟩:=cE;have i0:(W 0).1=0:=rfl;refine ae (cS (h:=K3) (R:=λy=>gW y.2.1/\y.2.2.1.1=aB.1.1/\aN CG y.2.2.1.2.2.1.1/\y.2.2.1.2.2.1.1.length<=20) (λz:U TS=>0<=z.1.2.2.1.1/\z.1.2.2.1.1<=aB.1.1.1.length/\gW z.2.1/\z.2.2.1.1=aB.1.1/\aN CG z.2.2.1.2.2.1.1/\(z.2.2.1.2.2.1.1.length:Int)<=5*z.1.2.2.1.1) (λz=>((aB.1.1.1.length:Nat)-z.1.2.2.1.1:Int).toNat) (λz ai=>?_) _ ⟨by show 0<=(W 0).1;decide,by show(W 0).1<=_;rw[i0];omega,aI,rfl,aN.nil,by show((0:Nat):Int)<=5*(W 0).1;decide⟩) λcc fj=>?_;obtain⟨eg,e3,gq,fJ,mm,k8⟩:=ai;unfold K3;rw[fJ];have aW:=aQ.2.1;apply ag<;>intro ah;simp only[b8,aL] at ah;have az:=dG z.1.2.2.1 eg ab;refine ae (dg ⟨eg,ah⟩) λbS eM=>?_;refine ae (W2 _ aG) λaS dj=>?_;obtain⟨dK,dh,gT⟩:=dj;have key:aS.1.1.1.length<=bS.2.1.1.length/\aN sZ aS.1.1.1:=by
  by_cases aA:aS.1.2.2.1.1=0;obtain⟨_,eT,gY⟩:=dh aA;exact⟨Nat.le_of_eq eT,gY⟩;rw[gT aA];exact⟨Nat.zero_le _,aN.nil⟩
 refine ae (atM _ ⟨gq,by dsimp only;rw[fJ];exact aQ,⟨bS,by dsimp only;rw[fJ];exact eM,eg,key.1⟩,key.2,dK,rfl,mm,by dsimp only;omega⟩) λbO ec=>?_;obtain⟨cW,dv,eU,iR⟩:=ec;dsimp only at dv iR;exact bz ⟨⟨by dsimp only;rw[az];omega,by dsimp only;rw[az];omega,cW,dv.trans fJ,eU,by dsimp only;rw[az];omega⟩,by dsimp only;rw[az];omega⟩;exact a6 ⟨gq,fJ,mm,by dsimp only;omega⟩;obtain⟨d1,d2,d3,d4⟩:=fj;refine ae (aun _ ⟨d1,by dsimp only;rw[d2];exact aQ⟩) λbT e6=>?_;refine ae (dq (by simp only[b7];omega)) λtH DO=>?_;obtain⟨dK,dh⟩:=DO;rw[fu (by simp)] at dK;refine ak ⟨?_,rfl⟩;show aN _ tH.1;rw[dK];exact(d3.append (aN.one e6)).imp λq aA=>aN.imp aA λs aM=>jF aM bu
theorem ayT:∀x:U agQ,(x.1.1.1.length<=1000000000/\x.1.2.1.1=0)->av (MA x) (λy=>um y.1.1/\y.1.1.2.1.1=[]):=by
 intro x aF;unfold MA;have i1:(W 1).1=1:=rfl;refine ag (λ_=>?_) (λah=>?_);exact ae (atP _ aF.1) (λy cf=>ak cf);simp only[b8] at ah;rw[i1] at ah;omega
end cF
open Go.RowKit
def jA (n:Int):Nat:=if 0<=n then(2*n).toNat else(-2*n-1).toNat
def rY (u:Nat):Int:=if u%2=0 then(u/2:Nat) else-((u/2:Nat):Int)-1
theorem anu (n:Int):rY (jA n)=n:=by
 unfold jA rY;split<;>split<;>omega
theorem Cu (n:Int)(aa:-9223372036854775808<=n)(af:n<=9223372036854775807):jA n<18446744073709551616:=by
 unfold jA;split<;>omega
def kN:Nat->Nat->List UInt8
 |0,_=>[]
 |f+1,u=>if u<128 then[UInt8.ofNat u] else UInt8.ofNat (u%128+128)::kN f (u/128)
def eW (n:Int):List UInt8:=kN 10 (jA n)
def p8 (i u:Nat):List UInt8->Option (Nat×Nat)
 |[]=>none
 |c::r=>
  if 10<=i then none else if i=9/\1<c.toNat then none
  else if c.toNat<128 then(if c.toNat=0/\0<i then none else some (u+c.toNat%128*2^(7*i),i+1))
  else p8 (i+1) (u+c.toNat%128*2^(7*i)) r
theorem anB (f u:Nat):0<(kN (f+1) u).length:=by
 unfold kN;split<;>simp
theorem aOK (f u:Nat):(kN f u).length<=f:=by
 induction f generalizing u with
 |zero=>simp[kN]
 |succ f cu=>
  unfold kN;split
  ·simp
  ·simp;exact cu _
theorem aNN (f:Nat):∀(i u a:Nat)(r:List UInt8),i+f=10->0<f->u<2^(64-7*i)->(i=0\/0<u)->p8 i a (kN f u++r)=some (a+u*2^(7*i),i+(kN f u).length):=by
 induction f with
 |zero=>intro i u a r _ h;omega
 |succ f cu=>
  intro i u a r aq6 _ hu ba;unfold kN;by_cases bl:u<128
  ·rw[if_pos bl];have an:(UInt8.ofNat u).toNat=u:=by rw[UInt8.toNat_ofNat',Nat.mod_eq_of_lt ab]
   show p8 i a (UInt8.ofNat u::r)=_;unfold p8;rw[an,if_neg ab,if_neg,if_pos bl,if_neg ab,Nat.mod_eq_of_lt bl]
   ·rfl
   ·rintro⟨rfl,aa⟩;simp at hu;omega
  ·rw[if_neg bl];have an:(UInt8.ofNat (u%128+128)).toNat=u%128+128:=by rw[UInt8.toNat_ofNat',Nat.mod_eq_of_lt ab]
   show p8 i a (UInt8.ofNat (u%128+128)::(kN f (u/128)++r))=_;have abr:i<9:=by
    rcases kz i 9 with h|h
    ·exact h
    ·have:i=9:=ab;subst this;simp at hu;omega
   have bL:2^(64-7*i)=2^(64-7*(i+1))*128:=by
    rw[show(128:Nat)=2^7 from rfl,<-Nat.pow_add];congr 1;omega
   unfold p8;rw[an,if_neg ab,if_neg ab,if_neg ab];rw[cu (i+1) (u/128) _ r ab ab (by rw[bL] at hu;exact Nat.div_lt_of_lt_mul (by rw[Nat.mul_comm];exact hu)) (.inr ab)];have he:(u%128+128)%128*2^(7*i)+u/128*2^(7*(i+1))=u*2^(7*i):=by
    rw[show 7*(i+1)=7+7*i by omega,Nat.pow_add,<-Nat.mul_assoc,<-iQ];congr 1;omega
   rw[Nat.add_assoc,he,gX];congr 2;omega
def mg (l:List UInt8):Int×Nat×Bool:=match p8 0 0 l with
 |some (u,k)=>(rY u,k,true)
 |none=>(0,0,false)
theorem IF (n:Int)(r:List UInt8)(aa:-9223372036854775808<=n)(af:n<=9223372036854775807):mg (eW n++r)=(n,(eW n).length,true):=by
 unfold mg eW;rw[aNN 10 0 (jA n) 0 r rfl ab (by have:=Cu n aa af;simpa using this) (.inl rfl)];simp[anu]
namespace cF
set_option linter.unusedVariables false
set_option maxRecDepth 100000
def a7 (s:dY):List UInt8:=s.1.data.toList
def cM (l:L (D [.int .u8])):List UInt8:=l.1.map λe=>UInt8.ofNat e.1.1.toNat
theorem a7.len (s:dY):(a7 s).length=s.1.size:=by unfold a7;rw[Array.length_toList];rfl
theorem cM.len (l:L (D [.int .u8])):(cM l).length=l.1.length:=List.length_map ..
theorem a7.inj {s t:dY}(h:a7 s=a7 t):s=t:=by
 apply Subtype.ext;have:s.1.data=t.1.data:=Array.toList_inj.1 h;cases aM:s.1;cases bR:t.1;rw[aM,bR] at this;exact congrArg _ this
theorem a7.bytes (l:L (D [.int .u8])):a7 (nK l)=cM l:=by
 show((l.1.map _).toArray).toList=_;rw[List.toList_toArray];rfl
theorem Jy {s:dY}(h:s.1.size<=140737488355328):av (sc s) (λl=>cM l=a7 s/\l.1.length=s.1.size):=by
 have aW:=aoJ h;unfold sc at aW⊢;rw[dif_pos h] at aW⊢;refine⟨_,rfl,?_,?_⟩
 ·show(s.1.data.toList.map _).map _=_;rw[List.map_map];show s.1.data.toList.map (λu=>UInt8.ofNat ((u.toNat:Int)).toNat)=_;have:(λu:UInt8=>UInt8.ofNat ((u.toNat:Int)).toNat)=id:=funext λu=>by simp
  rw[this,List.map_id];rfl
 ·obtain⟨y,aa,af⟩:=aW;cases aa;exact af
theorem CU {s t:dY}(h:s.1.size+t.1.size<=9223372036854775807):av (fE s t) (λu=>a7 u=a7 s++a7 t):=by
 refine(oU h).mono λu hu=>?_;unfold a7;rw[hu.1,ByteArray.data_append,Array.toList_append]
theorem ur {s:dY}{dA aj:Int}(h:0<=dA/\dA<=aj/\aj<=s.1.size):av (lM s dA aj) (λr=>a7 r=((a7 s).drop dA.toNat).take (aj-dA).toNat):=by
 refine(R2 h).mono λr aU=>?_;unfold a7;rw[aU.1,ByteArray.data_extract,Array.toList_extract,List.extract_eq_take_drop];congr 1;omega
theorem x3 {l r:L (D [.int .u8])}(h:l.1.length+r.1.length<=1048576000):av (c6 1 l r) (λx=>cM x=cM l++cM r):=by
 refine(dq ab).mono λx aO=>?_;unfold cM;rw[aO.1,List.map_append]
theorem cM.one (e:D [.int .u8]):cM (cD [e])=[UInt8.ofNat e.1.1.toNat]:=by unfold cM;rw[fu (by simp)];rfl
theorem av.fX {α:Type}{b:Bool}{x y:Option α}{P:α->Prop}(h:av x P)(ah:b=true:=by simp only[b8,aL];omega):av (cond b x y) P:=by rw[ah];exact h
theorem av.jk {α:Type}{b:Bool}{x y:Option α}{P:α->Prop}(h:av y P)(ah:b=false:=by simp only[b8,aL];omega):av (cond b x y) P:=by rw[ah];exact h
theorem cM.js {l m:L (D [.int .u8])}{c:List UInt8}(h:cM l=cM m++c):l.1.length=m.1.length+c.length:=by rw[<-cM.len,h,bw,cM.len]
theorem iz {s t:dY}(h:s.1.size+t.1.size<=9223372036854775807:=by omega):av (fE s t) (λu=>a7 u=a7 s++a7 t/\u.1.size=s.1.size+t.1.size):=
 (CU h).mono λu hu=>⟨hu,by rw[<-a7.len,hu,bw,a7.len,a7.len]⟩
theorem aOY (n:a_ .i64){v1:a_ .u64}{v2:a_ .i64}(aa:v1.1=IntKind.u64.wrap ((ey .u64 n).1*(2^(min ((a_.w .u64 1).1).toNat IntKind.u64.bits):Nat)))(af:v2.1=IntKind.i64.wrap (Int.fdiv n.1 (2^(min ((a_.w .u64 63).1).toNat IntKind.i64.bits):Nat))):(rb v1 (ey .u64 v2)).1=(jA n.1:Int):=by
 have ah:=a_.qm n;have aE:v1.1=IntKind.u64.wrap (IntKind.u64.wrap n.1*2):=aa;have aP:(ey .u64 v2).1=IntKind.u64.wrap (n.1/9223372036854775808):=by
  rw[o8,af];have:Int.fdiv n.1 ((2^(min ((a_.w .u64 63).1).toNat IntKind.i64.bits):Nat):Int)=n.1/9223372036854775808:=Int.fdiv_eq_ediv_of_nonneg _ bu;rw[this,wrap64,mH,mH];omega
 show bits BinOp.xor IntKind.u64 v1.1 (ey .u64 v2).1=_;rw[aE,aP];by_cases ba:0<=n.1
 ·have aE:IntKind.u64.wrap (IntKind.u64.wrap n.1*2)=((jA n.1:Nat):Int):=by
   unfold jA;rw[if_pos ba,IntKind.wrap_u64,IntKind.wrap_u64];omega
  have aP:IntKind.u64.wrap (n.1/9223372036854775808)=((0:Nat):Int):=by rw[IntKind.wrap_u64];omega
  rw[aE,aP,u64_xor_nat _ _ (Cu n.1 ah.1 ah.2) ab,Nat.xor_zero]
 ·have aE:IntKind.u64.wrap (IntKind.u64.wrap n.1*2)=((18446744073709551615-jA n.1:Nat):Int):=by
   unfold jA;rw[if_neg ba,IntKind.wrap_u64,IntKind.wrap_u64];omega
  have aP:IntKind.u64.wrap (n.1/9223372036854775808)=((18446744073709551615:Nat):Int):=by rw[IntKind.wrap_u64];omega
  have ai:=Cu n.1 ah.1 ah.2;rw[aE,aP,u64_xor_nat _ _ ab ab];have aO:∀a:Nat,a<18446744073709551616->a^^^18446744073709551615=18446744073709551615-a:=by
   intro a bZ;have ah:(BitVec.ofNat 64 a^^^BitVec.allOnes 64).toNat=18446744073709551615-a:=by
    rw[BitVec.xor_allOnes,BitVec.toNat_not,BitVec.toNat_ofNat,Nat.mod_eq_of_lt bZ]
   rw[BitVec.toNat_xor,BitVec.toNat_allOnes,BitVec.toNat_ofNat,Nat.mod_eq_of_lt bZ] at ah;exact ah
  rw[aO _ ab];omega
theorem ayD (x:Nat)(h:x<256):x|||128=x%128+128:=by
 have:∀x:Fin 256,x.val|||128=x.val%128+128:=by decide+kernel
 exact this ⟨x,h⟩
theorem ayE (u:a_ .u64):UInt8.ofNat (ox (ey .u8 u) (a_.w .u8 128)).1.toNat=UInt8.ofNat (u.1.toNat%128+128):=by
 have ba:0<=u.1:=u.2.1;have aa:(ey .u8 u).1=((u.1.toNat%256:Nat):Int):=by rw[o8,wu];omega
 have af:=u8_or_nat (u.1.toNat%256) 128 ab ab;have ax:(ox (ey .u8 u) (a_.w .u8 128)).1=((u.1.toNat%128+128:Nat):Int):=by
  show bits BinOp.or IntKind.u8 (ey .u8 u).1 ((128:Nat):Int)=_;rw[aa,af,ayD _ (Nat.mod_lt _ ab)];omega
 rw[ax];rfl
theorem IZ {f u:Nat}(h:¬u<128):kN (f+1) u=UInt8.ofNat (u%128+128)::kN f (u/128):=by
 show(if u<128 then _ else _)=_;rw[if_neg h]
theorem Q8 {f u:Nat}(h:u<128):kN (f+1) u=[UInt8.ofNat u]:=by
 show(if u<128 then _ else _)=_;rw[if_pos h]
theorem EG:∀x:U aeA,True->av (xp x) (λy=>a7 y.1.1=eW x.1.1.1):=by
 intro x _;unfold xp;have ah:=a_.qm x.1.1;refine ae (KJ bu) (λv1 aa=>?_);refine ae (tE bu) (λv2 af=>?_);have ai:=aOY x.1.1 aa af;have bl:=Cu x.1.1.1 ah.1 ah.2;refine ae (cS (h:=LD) (R:=λy=>∃f,0<f/\y.1.1.1.toNat<128/\cM y.1.2.1++kN f y.1.1.1.toNat=eW x.1.1.1/\y.1.2.1.1.length<=10) (λz:U Ug=>∃f,0<f/\z.1.1.1<2^(7*f)/\cM z.1.2.1++kN f z.1.1.1.toNat=eW x.1.1.1/\z.1.2.1.1.length+f=10) (λz=>z.1.1.1.toNat) (λz ai=>?_) _ ⟨10,bu,by show(rb v1 (ey .u64 v2)).1<_;rw[ai];simp;omega,by show[]++kN 10 (rb v1 (ey .u64 v2)).1.toNat=_;rw[ai];rfl,rfl⟩) (λa9 c5=>?_)
 ·obtain⟨f,f0,f1,f2,f3⟩:=ai;have w9:0<=z.1.1.1:=z.1.1.2.1;unfold LD;refine ag (λah=>?_) (λah=>?_)
  ·have ah:128<=z.1.1.1:=by simp only[b8] at ah;exact ah
   refine ae (x3 (by simp only[b7];omega)) (λcg kq=>?_);rw[cM.one] at kq;dsimp only at kq;rw[ayE] at kq;have pU:=congrArg List.length kq;rw[bw,cM.len,cM.len,List.length_singleton] at pU;refine ae (tE bu) (λv4 nz=>?_);have aT:v4.1=z.1.1.1/128:=by
    have e:Int.fdiv z.1.1.1 ((2^(min ((a_.w .u64 7).1).toNat IntKind.u64.bits):Nat):Int)=z.1.1.1/128:=Int.fdiv_eq_ediv_of_nonneg _ bu;rw[nz,e,mH];have aa:z.1.1.1<=18446744073709551615:=z.1.1.2.2;omega
   have vK:v4.1.toNat=z.1.1.1.toNat/128:=ab;obtain⟨f,rfl⟩:∃g,f=g+1:=⟨f-1,ab⟩;have bL:(2:Int)^(7*(f+1))=2^(7*f)*128:=by rw[show 7*(f+1)=7*f+7 by omega,Int.pow_add];rfl
   rw[bL] at f1;have bE:0<f:=by
    rcases Nat.eq_zero_or_pos f with h|h
    ·subst h;simp at f1;omega
    ·exact h
   refine bz ⟨⟨f,bE,by dsimp only;omega,?_,by dsimp only;omega⟩,by dsimp only;omega⟩;dsimp only
   rw[kq,vK,cN,<-f2,IZ ab];rfl
  ·have ah:z.1.1.1<128:=by simp only[b8] at ah;exact ah
   exact a6 ⟨f,f0,by dsimp only;omega,f2,by dsimp only;omega⟩
 ·obtain⟨f,f0,f1,f2,f3⟩:=c5;refine ae (x3 (by simp only[b7];omega)) (λiB uF=>?_);refine ak ?_;obtain⟨f,rfl⟩:∃g,f=g+1:=⟨f-1,ab⟩;have w9:0<=a9.1.1.1:=a9.1.1.2.1;dsimp only
  rw[a7.bytes,uF,cM.one,<-f2,Q8 f1];dsimp only
  rw[o8,wu,show a9.1.1.1%256=a9.1.1.1 by omega]
end cF
theorem anP {u:Nat}(h:u<18446744073709551616):jA (rY u)=u:=by
 unfold jA rY;split<;>split<;>omega
theorem aOI {u:Nat}(h:u<18446744073709551616):-9223372036854775808<=rY u/\rY u<=9223372036854775807:=by
 unfold rY;split<;>omega
theorem amE:∀(l:List UInt8)(i a v k:Nat),p8 i a l=some (v,k)->∃(u:Nat) (r:List UInt8),l=kN (10-i) u++r/\v=a+u*2^(7*i)/\k=i+(kN (10-i) u).length/\(0<i->0<u)/\u<2^(64-7*i)/\i<10
 |[],i,a,v,k,h=>by cases h
 |c::r,i,a,v,k,h=>by
  unfold p8 at h;by_cases gK:10<=i
  ·rw[if_pos gK] at h;cases h
  ·rw[if_neg gK] at h;by_cases dM:i=9/\1<c.toNat
   ·rw[if_pos dM] at h;cases h
   ·rw[if_neg dM] at h;obtain⟨f,bE⟩:∃f,10-i=f+1:=⟨9-i,ab⟩;have SO:=c.toNat_lt;by_cases an:c.toNat<128
    ·rw[if_pos an] at h;by_cases ai:c.toNat=0/\0<i
     ·rw[if_pos ai] at h;cases h
     ·rw[if_neg ai] at h;cases h;have aT:kN (10-i) c.toNat=[c]:=by
       rw[bE,cF.Q8 an];simp
      refine⟨c.toNat,r,by rw[aT];rfl,by rw[Nat.mod_eq_of_lt an],by rw[aT];rfl,λba=>by omega,?_,ab⟩;by_cases aj:i=9
      ·subst aj;simp;omega
      ·have:2^7<=2^(64-7*i):=Nat.pow_le_pow_right ab ab;omega
    ·rw[if_neg an] at h;obtain⟨e_,mF,aE,aP,bS,cR,dO,db⟩:=amE r (i+1) _ v k h;have hu:0<e_:=cR ab;have Kh:i<9:=ab;refine⟨c.toNat%128+128*e_,mF,?_,?_,?_,λ_=>by omega,?_,ab⟩
     ·have aT:kN (10-i) (c.toNat%128+128*e_)=c::kN (10-(i+1)) e_:=by
       rw[bE,cF.IZ ab,show 10-(i+1)=f by omega,show(c.toNat%128+128*e_)%128+128=c.toNat by omega,show(c.toNat%128+128*e_)/128=e_ by omega];simp
      rw[aT,aE];rfl
     ·rw[aP,show 7*(i+1)=7*i+7 by omega,Nat.pow_add];have:e_*(2^(7*i)*2^7)=128*e_*2^(7*i):=by
       rw[show(2:Nat)^7=128 from rfl,Nat.mul_comm (2^(7*i)) 128,<-Nat.mul_assoc,Nat.mul_comm e_ 128]
      rw[this,iQ];omega
     ·have aT:kN (10-i) (c.toNat%128+128*e_)=c::kN (10-(i+1)) e_:=by
       rw[bE,cF.IZ ab,show 10-(i+1)=f by omega,show(c.toNat%128+128*e_)%128+128=c.toNat by omega,show(c.toNat%128+128*e_)/128=e_ by omega];simp
      rw[aT,gX,bS];omega
     ·have bL:2^(64-7*i)=2^(64-7*(i+1))*128:=by
       rw[show(128:Nat)=2^7 from rfl,<-Nat.pow_add];congr 1;omega
      rw[bL];have:=nu 128 (Nat.succ_le_of_lt dO);omega
theorem QH {l:List UInt8}{n:Int}{k:Nat}(h:mg l=(n,k,true)):-9223372036854775808<=n/\n<=9223372036854775807/\k=(eW n).length/\∃r,l=eW n++r:=by
 unfold mg at h;cases aU:p8 0 0 l with
 |none=>rw[aU] at h;cases h
 |some p=>
  obtain⟨v,j⟩:=p;rw[aU] at h;cases h;obtain⟨u,r,aE,aP,bS,_,dO,_⟩:=amE l 0 0 v k aU;have hu:u<18446744073709551616:=by simpa using dO
  have aT:v=u:=by simpa using aP
  subst aT;have ai:=aOI hu;refine⟨ai.1,ai.2,?_,r,?_⟩
  ·unfold eW;rw[anP hu];simpa using bS
  ·unfold eW;rw[anP hu];exact aE
theorem amD (l:List UInt8):mg l=(0,0,false)\/∃n k,mg l=(n,k,true):=by
 unfold mg;split
 ·exact .inr ⟨_,_,rfl⟩
 ·exact .inl rfl
def Ao (h:Nat)(c:UInt8):Nat:=((h^^^c.toNat)*16777619)%4294967296
def ld (l:List UInt8):Nat:=l.foldl Ao 2166136261
theorem apZ (h:Nat)(c:UInt8):Ao h c<4294967296:=by unfold Ao;omega
theorem apM (l:List UInt8)(c:UInt8):ld (l++[c])=Ao (ld l) c:=by unfold ld;rw[List.foldl_append,List.foldl_cons,List.foldl_nil]
theorem apO (l:List UInt8)(a:Nat)(bZ:a<4294967296):l.foldl Ao a<4294967296:=by
 induction l generalizing a with
 |nil=>exact bZ
 |cons c t cu=>exact cu _ (apZ _ _)
theorem apN (l:List UInt8):ld l<4294967296:=apO l _ bu
def oX (h:Nat):List UInt8:=[UInt8.ofNat (h/16777216),UInt8.ofNat (h/65536),UInt8.ofNat (h/256),UInt8.ofNat h]
namespace cF
set_option linter.unusedVariables false
set_option maxRecDepth 100000
theorem X' (n:Int):IntKind.u32.wrap n=n%4294967296:=IntKind.wrap_u32 n
theorem QO {s:dY}{i:Int}{u:a_ .u8}(h:∃b,s.1.data[i.toNat]?=some b/\u.1=(b.toNat:Int)):∃b:UInt8,(a7 s)[i.toNat]?=some b/\u.1=(b.toNat:Int):=by
 obtain⟨b,aa,af⟩:=h;exact⟨b,by unfold a7;rw[Array.getElem?_toList];exact aa,af⟩
theorem anb {s:dY}{i:a_ .i64}{h:a_ .u32}{u:a_ .u8}(ba:0<=i.1)(fP:h.1=(ld ((a7 s).take i.1.toNat):Nat))(hu:∃b,s.1.data[i.1.toNat]?=some b/\u.1=(b.toNat:Int)):(sC (rb h (ey .u32 u)) (a_.w .u32 16777619)).1=(ld ((a7 s).take (i.1+1).toNat):Nat):=by
 obtain⟨b,aa,af⟩:=QO hu;have ah:=b.toNat_lt;have bl:=apN ((a7 s).take i.1.toNat);have aO:(rb h (ey .u32 u)).1=((ld ((a7 s).take i.1.toNat)^^^b.toNat:Nat):Int):=by
  show bits BinOp.xor IntKind.u32 h.1 (ey .u32 u).1=_;rw[fP,o8,af,X',show(b.toNat:Int)%4294967296=(b.toNat:Int) by omega,u32_xor_nat _ _ bl ab]
 rw[Cj ba aa,apM,KE,aO];have:(a_.w .u32 16777619).1=16777619:=rfl;rw[this,X'];unfold Ao;omega
theorem LJ:∀x:U aeK,True->av (zr x) (λy=>y.1.1.1=(ld (a7 x.1.1):Nat)):=by
 intro x _;unfold zr;have aM:=S.b x.1.1;have i0:(W 0).1=0:=rfl;refine ae (cS (h:=LH) (R:=λy:bo aeJ=>y.1.1.1=(ld (a7 x.1.1):Nat)) (λz:U Uj=>z.1.1=x.1.1/\z.1.2.2.1=kf x.1.1/\0<=z.1.2.2.2.1.1/\z.1.2.2.2.1.1<=x.1.1.1.size/\z.1.2.1.1=(ld ((a7 x.1.1).take z.1.2.2.2.1.1.toNat):Nat)) (λz=>(x.1.1.1.size-z.1.2.2.2.1.1:Int).toNat) (λz ai=>?_) _ ⟨rfl,rfl,by show 0<=(W 0).1;decide,by show(W 0).1<=_;rw[i0];omega,rfl⟩) (λy cf=>ak cf);obtain⟨eg,e3,gq,fJ,mm⟩:=ai;unfold LH;rw[eg,e3];refine ag (λah=>?_) (λah=>?_)
 ·simp only[b8,aL] at ah;have az:=dG z.1.2.2.2.1 gq ab;refine ae (vP ⟨gq,ah⟩) (λv1 pY=>?_);exact bz ⟨⟨rfl,rfl,by dsimp only;rw[az];omega,by dsimp only;rw[az];omega,by dsimp only;rw[az];exact anb gq mm pY⟩,by dsimp only;rw[az];omega⟩
 ·simp only[b8,aL] at ah;refine a6 ?_;rw[mm,zI (by rw[a7.len];omega)]
theorem akf:∀x:U akd,True->av (G6 x) (λy=>y.1.1.1=(ld (a7 x.1.1):Nat)):=by
 intro x _;unfold G6;have aM:=S.b x.1.1;have i0:(W 0).1=0:=rfl;refine ae (cS (h:=OG) (R:=λy:bo akc=>y.1.1.1=(ld (a7 x.1.1):Nat)) (λz:U Wy=>z.1.1=x.1.1/\0<=z.1.2.2.1.1/\z.1.2.2.1.1<=x.1.1.1.size/\z.1.2.1.1=(ld ((a7 x.1.1).take z.1.2.2.1.1.toNat):Nat)) (λz=>(x.1.1.1.size-z.1.2.2.1.1:Int).toNat) (λz ai=>?_) _ ⟨rfl,by show 0<=(W 0).1;decide,by show(W 0).1<=_;rw[i0];omega,rfl⟩) (λy cf=>ak cf);obtain⟨eg,gq,fJ,mm⟩:=ai;unfold OG;rw[eg];refine ag (λah=>?_) (λah=>?_)
 ·simp only[b8,aL] at ah;have az:=dG z.1.2.2.1 gq ab;refine ae (vP ⟨gq,ah⟩) (λv1 pY=>?_);exact bz ⟨⟨rfl,by dsimp only;rw[az];omega,by dsimp only;rw[az];omega,by dsimp only;rw[az];exact anb gq mm pY⟩,by dsimp only;rw[az];omega⟩
 ·simp only[b8,aL] at ah;refine a6 ?_;rw[mm,zI (by rw[a7.len];omega)]
theorem aaC {h:a_ .u32}{n:Nat}(az:h.1=(n:Nat)){v1 v2 cH:a_ .u32}(aa:v1.1=IntKind.u32.wrap (Int.fdiv h.1 (2^(min ((a_.w .u64 24).1).toNat IntKind.u32.bits):Nat)))(af:v2.1=IntKind.u32.wrap (Int.fdiv h.1 (2^(min ((a_.w .u64 16).1).toNat IntKind.u32.bits):Nat)))(ax:cH.1=IntKind.u32.wrap (Int.fdiv h.1 (2^(min ((a_.w .u64 8).1).toNat IntKind.u32.bits):Nat))):
 a7 (nK (cD [((ey .u8 v1),()),((ey .u8 v2),()),((ey .u8 cH),()),((ey .u8 h),())]))=oX n:=by
 have bl:h.1<=4294967295:=h.2.2;have key:∀(v:a_ .u32)(k q:Nat),v.1=IntKind.u32.wrap (Int.fdiv h.1 (k:Nat))->0<k->q=n/k->UInt8.ofNat (ey .u8 v).1.toNat=UInt8.ofNat q:=λv k q aT aX aA=>by
  have e:Int.fdiv h.1 ((k:Nat):Int)=((n/k:Nat):Int):=by rw[Int.fdiv_eq_ediv_of_nonneg _ ab,az];rfl
  have hle:n/k<=n:=Nat.div_le_self _ _;have So:v.1=(q:Int):=by rw[aT,e,X',aA];omega
  rw[o8,So,wu];apply UInt8.toNat_inj.1;simp only[UInt8.toNat_ofNat'];omega
 have cR:UInt8.ofNat (ey .u8 h).1.toNat=UInt8.ofNat n:=by
  rw[o8,az,wu];apply UInt8.toNat_inj.1;simp only[UInt8.toNat_ofNat'];omega
 rw[a7.bytes];unfold cM oX;rw[fu (by simp)];simp only[List.map_cons,List.map_nil];rw[key v1 16777216 _ aa bu rfl,key v2 65536 _ af bu rfl,key cH 256 _ ax bu rfl,cR]
theorem afq:∀x:U afo,True->av (EX x) (λy=>a7 y.1.1=oX x.1.1.1.toNat):=by
 intro x _;unfold EX;refine ae (tE bu) (λv1 aa=>?_);refine ae (tE bu) (λv2 af=>?_);refine ae (tE bu) (λcH ax=>?_);have ba:0<=x.1.1.1:=x.1.1.2.1;exact ak (aaC ab aa af ax)
theorem akb:∀x:U aj',True->av (G7 x) (λy=>a7 y.1.1=oX (ld (a7 x.1.1))):=by
 intro x _;unfold G7;refine ae (akf _ aG) (λaq cr=>?_);refine ae (tE bu) (λv1 aa=>?_);refine ae (tE bu) (λv2 af=>?_);refine ae (tE bu) (λcH ax=>?_);exact ak (aaC cr aa af ax)
theorem aoq (c:UInt8){v:a_ .u8}(aT:v.1=(c.toNat:Int)):(rM v (a_.w .u8 127)).1=((c.toNat%128:Nat):Int):=by
 have an:c.toNat<256:=c.toNat_lt;have h:=u8_and_nat c.toNat 127 an ab;show bits BinOp.and IntKind.u8 v.1 ((127:Nat):Int)=_;rw[aT,h,show(127:Nat)=2^7-1 from rfl,Nat.and_two_pow_sub_one_eq_mod]
theorem agJ {x v:a_ .u64}{u m k:Nat}(aO:x.1=(u:Int))(aT:v.1=IntKind.u64.wrap (((m:Nat):Int)*(2^k:Nat)))(hu:u<2^k)(hm:m*2^k<18446744073709551616)(aqj:u<18446744073709551616):(ox x v).1=((u+m*2^k:Nat):Int):=by
 have arM:u|||(m*2^k)=u+m*2^k:=by rw[Nat.mul_comm,Nat.or_comm,<-Nat.two_pow_add_eq_or_of_lt hu,Nat.add_comm]
 have So:v.1=((m*2^k:Nat):Int):=by
  rw[aT,<-Int.natCast_mul,mH];generalize m*2^k=q at hm;omega
 show bits BinOp.or IntKind.u64 x.1 v.1=_;rw[aO,So,u64_or_nat _ _ aqj hm,arM]
theorem apH {x:a_ .u64}{u:Nat}(aO:x.1=(u:Int)){v:a_ .u64}(aT:v.1=IntKind.u64.wrap (Int.fdiv x.1 (2^(min ((a_.w .u64 1).1).toNat IntKind.u64.bits):Nat))):(rb (ey .i64 v) (uI (ey .i64 (rM x (a_.w .u64 1))))).1=rY u:=by
 have hm:x.1<=18446744073709551615:=x.2.2;have h:u<18446744073709551616:=ab;have bZ:=u64_and_nat u 1 h ab;have gv:(rM x (a_.w .u64 1)).1=((u%2:Nat):Int):=by
  show bits BinOp.and IntKind.u64 x.1 ((1:Nat):Int)=_;rw[aO,bZ,Nat.and_one_is_mod]
 have aE:(ey .i64 v).1=((u/2:Nat):Int):=by
  have:Int.fdiv x.1 ((2^(min ((a_.w .u64 1).1).toNat IntKind.u64.bits):Nat):Int)=x.1/2:=Int.fdiv_eq_ediv_of_nonneg _ bu;rw[o8,aT,this,aO,mH,wrap64];omega
 have bS:(uI (ey .i64 (rM x (a_.w .u64 1)))).1=-((u%2:Nat):Int):=by
  have aP:(ey .i64 (rM x (a_.w .u64 1))).1=((u%2:Nat):Int):=by
   rw[o8,gv,wrap64];have:u%2<2:=Nat.mod_lt _ bu;omega
  rw[ack,aP,wrap64];have:u%2<2:=Nat.mod_lt _ bu;omega
 show bits BinOp.xor IntKind.i64 (ey .i64 v).1 (uI (ey .i64 (rM x (a_.w .u64 1)))).1=_;rw[aE,bS];have aA:u/2<9223372036854775808:=ab;generalize arV:u/2=q at aA;have abR:BitVec.ofInt 64 (q:Int)=BitVec.ofNat 64 q:=BitVec.ofInt_natCast 64 q;unfold rY;rw[arV];rcases Nat.mod_two_eq_zero_or_one u with ba|ba
 ·rw[ba,if_pos rfl];show IntKind.i64.wrap ((BitVec.ofInt 64 (q:Int)^^^BitVec.ofInt 64 (-((0:Nat):Int))).toNat:Int)=_;rw[abR,show BitVec.ofInt 64 (-((0:Nat):Int))=0#64 from rfl,BitVec.xor_zero,BitVec.toNat_ofNat,Nat.mod_eq_of_lt ab,wrap64];omega
 ·rw[ba,if_neg ab];show IntKind.i64.wrap ((BitVec.ofInt 64 (q:Int)^^^BitVec.ofInt 64 (-((1:Nat):Int))).toNat:Int)=_;rw[abR,show BitVec.ofInt 64 (-((1:Nat):Int))=BitVec.allOnes 64 from rfl,BitVec.xor_allOnes,BitVec.toNat_not,BitVec.toNat_ofNat,Nat.mod_eq_of_lt ab,wrap64];omega
def qS (l:List UInt8)(k u:Nat):Prop:=k<=l.length/\k<=10/\u<2^(7*k)/\u<18446744073709551616/\p8 0 0 l=p8 k u (l.drop k)
theorem qS.start (l:List UInt8):qS l 0 0:=⟨Nat.zero_le _,ab,by simp,ab,rfl⟩
theorem qS.fail {l k u}(h:qS l k u)(aX:l.length<=k\/10<=k):mg l=(0,0,false):=by
 obtain⟨aa,af,ax,a8,cn⟩:=h;unfold mg;rw[cn];rcases aX with aX|aX
 ·rw[List.drop_of_length_le aX];rfl
 ·cases l.drop k with
  |nil=>rfl
  |cons c r=>unfold p8;rw[if_pos aX]
theorem qS.byte {l k u}{c:UInt8}(h:qS l k u)(an:l[k]?=some c)(gK:k<10):p8 0 0 l=if k=9/\1<c.toNat then none else if c.toNat<128 then(if c.toNat=0/\0<k then none else some (u+c.toNat%128*2^(7*k),k+1)) else p8 (k+1) (u+c.toNat%128*2^(7*k)) (l.drop (k+1)):=by
 have bl:=(ep.1 an).1;rw[h.2.2.2.2,List.drop_eq_getElem_cons bl,(ep.1 an).2]
 conv=>lhs;unfold p8
 rw[if_neg ab]
theorem qS.room {k u:Nat}{c:UInt8}(hu:u<2^(7*k))(gK:k<10)(dM:¬(k=9/\1<c.toNat)):c.toNat%128*2^(7*k)<18446744073709551616/\u+c.toNat%128*2^(7*k)<18446744073709551616/\u+c.toNat%128*2^(7*k)<2^(7*(k+1)):=by
 have ax:u+c.toNat%128*2^(7*k)<2^(7*(k+1)):=by
  rw[show 7*(k+1)=7*k+7 by omega,Nat.pow_add];have ax:c.toNat%128<=127:=ab;have:=nu (2^(7*k)) ax;omega
 by_cases aX:k=9
 ·subst aX;have a8:c.toNat%128<=1:=ab;have cn:=nu (2^(7*9)) a8;simp at cn hu⊢;simp at ax;omega
 ·have:2^(7*(k+1))<=2^63:=Nat.pow_le_pow_right ab ab;simp at this;omega
theorem qS.next {l k u}{c:UInt8}(h:qS l k u)(an:l[k]?=some c)(gK:k<10)(dM:¬(k=9/\1<c.toNat))(mu:128<=c.toNat):qS l (k+1) (u+c.toNat%128*2^(7*k)):=by
 have aU:=qS.room h.2.2.1 gK dM;refine⟨(ep.1 an).1,ab,aU.2.2,aU.2.1,?_⟩;rw[h.byte an gK,if_neg dM,if_neg ab]
theorem aeG:∀x:U aeE,True->av (EH x) (λy=>(y.1.1.1,y.1.2.1.1.toNat,y.1.2.2.1)=mg (a7 x.1.1)/\0<=y.1.2.1.1):=by
 intro x _;unfold EH;have aM:=S.b x.1.1;have i0:(W 0).1=0:=rfl;refine ae (cS (h:=LG) (R:=Sum.elim (λy=>mg (a7 x.1.1)=(0,0,false)) (λy=>(y.1.1.1,y.1.2.1.1.toNat,y.1.2.2.1)=mg (a7 x.1.1)/\0<=y.1.2.1.1)) (λz:U Ui=>z.1.1=x.1.1/\0<=z.1.2.2.1.1/\0<=z.1.2.1.1/\qS (a7 x.1.1) z.1.2.2.1.1.toNat z.1.2.1.1.toNat) (λz=>(10-z.1.2.2.1.1:Int).toNat) (λz ai=>?_) _ ⟨rfl,by show 0<=(W 0).1;decide,by show 0<=(a_.w .u64 0).1;decide,qS.start _⟩) (λcl e8=>?_)
 ·obtain⟨eg,e3,gq,fJ⟩:=ai;unfold LG;rw[eg];have rJ:=a7.len x.1.1;refine ag (λah=>?_) (λah=>?_)
  ·simp only[b8,aL] at ah;refine ag (λaR=>?_) (λaR=>?_)
   ·simp only[b8,aL] at aR;refine ae (vP ⟨e3,ah⟩) (λv1 pY=>?_);obtain⟨c,an,SS⟩:=QO pY;have SO:=c.toNat_lt;have qx:=fJ.byte an ab;refine ae (P:=Sum.elim (λ_=>¬(z.1.2.2.1.1.toNat=9/\1<c.toNat)) (λ_=>z.1.2.2.1.1.toNat=9/\1<c.toNat)) ?_ (λaB cE=>?_)
    ·unfold aeB;refine ag (λdM=>?_) (λdM=>?_)
     ·simp only[b8,aL] at dM;refine ag (λaa=>?_) (λaa=>?_)
      ·simp only[b8,aL] at aa;exact a6 ⟨ab,ab⟩
      ·simp only[b8,aL] at aa;exact bz (λq=>by omega)
     ·simp only[b8,aL] at dM;exact bz (λq=>by omega)
    ·refine ee cE (λaK dM=>?_) (λaS dM=>?_)
     ·have aU:=qS.room fJ.2.2.1 (by omega:z.1.2.2.1.1.toNat<10) dM;have dS:(sC (W 7) z.1.2.2.1).1=7*z.1.2.2.1.1:=by
       rw[KE,wrap64,show(W 7).1=7 from rfl];omega
      refine ae (KJ (by rw[dS];omega)) (λcQ Ky=>?_);have dO:cQ.1=IntKind.u64.wrap (((c.toNat%128:Nat):Int)*(2^(7*z.1.2.2.1.1.toNat):Nat)):=by
       have Sf:(ey .u64 (rM v1 (a_.w .u8 127))).1=((c.toNat%128:Nat):Int):=by rw[o8,aoq c SS,mH];omega
       have Da:min ((sC (W 7) z.1.2.2.1).1).toNat IntKind.u64.bits=7*z.1.2.2.1.1.toNat:=by rw[dS];show min _ 64=_;omega
       rw[Ky,Sf,Da]
      have yh:=agJ (x:=z.1.2.1) (u:=z.1.2.1.1.toNat) ab dO fJ.2.2.1 aU.1 fJ.2.2.2.1;have az:=dG z.1.2.2.1 e3 ab;have AK:(z.1.2.2.1.1+1).toNat=z.1.2.2.1.1.toNat+1:=ab;have done:∀v:a_ .u64,v.1=IntKind.u64.wrap (Int.fdiv (ox z.1.2.1 cQ).1 (2^(min ((a_.w .u64 1).1).toNat IntKind.u64.bits):Nat))->c.toNat<128->¬(c.toNat=0/\0<z.1.2.2.1.1.toNat)->((rb (ey .i64 v) (uI (ey .i64 (rM (ox z.1.2.1 cQ) (a_.w .u64 1))))).1,(bc z.1.2.2.1 (W 1)).1.toNat,true)=mg (a7 x.1.1)/\0<=(bc z.1.2.2.1 (W 1)).1:=λv aT mu ai=>by
       rw[apH yh aT,az,AK];refine⟨?_,ab⟩;unfold mg;rw[qx,if_neg dM,if_pos mu,if_neg ai]
      refine ag (λmu=>?_) (λmu=>?_)
      ·have mu:c.toNat<128:=by simp only[b8,aL] at mu;omega
       refine ag (λq_=>?_) (λq_=>?_)
       ·have q_:c.toNat=0:=by simp only[b8,aL] at q_;omega
        refine ag (λaX=>?_) (λaX=>?_)
        ·have aX:0<z.1.2.2.1.1.toNat:=by simp only[b8,aL] at aX;omega
         refine a6 ?_;show mg (a7 x.1.1)=(0,0,false);unfold mg;rw[qx,if_neg dM,if_pos mu,if_pos ⟨q_,aX⟩]
        ·have aX:z.1.2.2.1.1.toNat=0:=by simp only[b8,aL] at aX;omega
         refine ae (tE bu) (λv6 xa=>?_);exact a6 (done v6 xa mu ab)
       ·have q_:c.toNat≠0:=by simp only[b8,aL] at q_;omega
        refine ae (tE bu) (λdW yT=>?_);exact a6 (done dW yT mu ab)
      ·have mu:128<=c.toNat:=by simp only[b8,aL] at mu;omega
       have mz:=fJ.next an ab dM mu;refine bz ⟨⟨rfl,by dsimp only;rw[az];omega,by dsimp only;rw[yh];omega,?_⟩,by dsimp only;rw[az];omega⟩;dsimp only
       rw[az,AK,yh];exact mz
     ·refine a6 ?_;show mg (a7 x.1.1)=(0,0,false);unfold mg;rw[qx,if_pos dM]
   ·simp only[b8,aL] at aR;exact a6 (fJ.fail (.inr ab))
  ·simp only[b8,aL] at ah;exact a6 (fJ.fail (.inl ab))
 ·refine ee e8 (λbO ec=>?_) (λcc fj=>?_)
  ·exact ak ⟨ec.symm,by show 0<=(W 0).1;decide⟩
  ·exact ak fj
section
variable{α β:Type}
def bX:Unit->List UInt8:=λ_=>[]
def g6 (n:a_ .i64):List UInt8:=eW n.1
def gJ (s:dY):List UInt8:=eW (s.1.size:Nat)++a7 s
def bP (e:α->List UInt8)(l:L α):List UInt8:=eW (l.1.length:Nat)++l.1.flatMap e
def bH (e:α->List UInt8)(f:β->List UInt8)(x:α×β):List UInt8:=e x.1++f x.2
end
def k0:D [.str]->List UInt8:=bH gJ bX
def kR:D [.int .i64]->List UInt8:=bH g6 bX
def gx:D g4->List UInt8:=bH g6 (bH gJ bX)
def iJ:D dN->List UInt8:=bH gJ (bH g6 (bH gJ (bH g6 bX)))
def jX:D ff->List UInt8:=bH gJ (bH gJ (bH (bP iJ) bX))
def je:D du->List UInt8:=bH gJ (bH (bP k0) (bH (bP jX) bX))
def kA:D fS->List UInt8:=bH g6 (bH gJ (bH (bP iJ) bX))
def jW:D dZ->List UInt8:=bH gJ (bH (bP kA) bX)
def kj:D c7->List UInt8:=bH gJ (bH g6 (bH g6 bX))
def jV:D fR->List UInt8:=bH gJ (bH gJ (bH (bP kR) bX))
def g5:D eI->List UInt8:=bH g6 (bH g6 (bH g6 (bH g6 (bH gJ (bH gJ (bH (bP kR) (bH (bP kj) (bH (bP jV) bX))))))))
def jd:D iP->List UInt8:=bH gJ (bH (bP gx) (bH g6 (bH (bP g5) bX)))
def jG:D jD->List UInt8:=bH (bP je) (bH (bP jW) (bH (bP jd) bX))
def dQ {α:Type}(e:α->List UInt8):Prop:=∀a b r s,e a++r=e b++s->a=b/\r=s
theorem EE {a b:Int}(bZ:-9223372036854775808<=a/\a<=9223372036854775807)(ah:-9223372036854775808<=b/\b<=9223372036854775807){r s}(h:eW a++r=eW b++s):a=b/\r=s:=by
 have aa:=IF a r bZ.1 bZ.2;rw[h,IF b s ah.1 ah.2] at aa;have e:b=a:=congrArg (λp=>p.1) aa;subst e;exact⟨rfl,List.append_cancel_left h⟩
section
variable{α β:Type}{e:α->List UInt8}{f:β->List UInt8}
theorem dQ.u:dQ bX:=λa b r s h=>⟨rfl,h⟩
theorem dQ.i:dQ g6:=λa b r s h=>by
 obtain⟨aa,af⟩:=EE (a_.qm a) (a_.qm b) h;exact⟨Subtype.ext aa,af⟩
theorem dQ.s:dQ gJ:=λa b r s h=>by
 unfold gJ at h;rw[cN,cN] at h;have bZ:=S.b a;have ah:=S.b b;obtain⟨aa,af⟩:=EE ⟨ab,ab⟩ ⟨ab,ab⟩ h;obtain⟨ax,a8⟩:=List.append_inj af (by rw[a7.len,a7.len];omega);exact⟨a7.inj ax,a8⟩
theorem dQ.p (h:dQ e)(g:dQ f):dQ (bH e f):=λa b r s q=>by
 unfold bH at q;rw[cN,cN] at q;obtain⟨aa,af⟩:=h _ _ _ _ q;obtain⟨ax,a8⟩:=g _ _ _ _ af;exact⟨Prod.ext aa ax,a8⟩
theorem dQ.flat (h:dQ e):∀{a b:List α}{r s:List UInt8},a.length=b.length->a.flatMap e++r=b.flatMap e++s->a=b/\r=s
 |[],[],r,s,_,q=>⟨rfl,q⟩
 |x::a,y::b,r,s,aW,q=>by
  rw[List.flatMap_cons,List.flatMap_cons,cN,cN] at q;obtain⟨aa,af⟩:=h _ _ _ _ q;obtain⟨ax,a8⟩:=dQ.flat h (by simpa using aW) af;exact⟨by rw[aa,ax],a8⟩
 |[],y::b,r,s,aW,_=>by simp at aW
 |x::a,[],r,s,aW,_=>by simp at aW
theorem dQ.l (h:dQ e):dQ (bP e):=λa b r s q=>by
 unfold bP at q;rw[cN,cN] at q;have bZ:=L.b a;have ah:=L.b b;obtain⟨aa,af⟩:=EE ⟨ab,ab⟩ ⟨ab,ab⟩ q;obtain⟨ax,a8⟩:=h.flat ab af;exact⟨Subtype.ext ax,a8⟩
end
theorem Fm:dQ k0:=dQ.s.p .u
theorem A8:dQ kR:=dQ.i.p .u
theorem zv:dQ gx:=dQ.i.p (dQ.s.p .u)
theorem Mu:dQ iJ:=dQ.s.p (dQ.i.p (dQ.s.p (dQ.i.p .u)))
theorem Uz:dQ jX:=dQ.s.p (dQ.s.p (Mu.l.p .u))
theorem Fl:dQ je:=dQ.s.p (Fm.l.p (Uz.l.p .u))
theorem UA:dQ kA:=dQ.i.p (dQ.s.p (Mu.l.p .u))
theorem Fk:dQ jW:=dQ.s.p (UA.l.p .u)
theorem Fj:dQ kj:=dQ.s.p (dQ.i.p (dQ.i.p .u))
theorem Uw:dQ jV:=dQ.s.p (dQ.s.p (A8.l.p .u))
theorem Ux:dQ g5:=dQ.i.p (dQ.i.p (dQ.i.p (dQ.i.p (dQ.s.p (dQ.s.p (A8.l.p (Fj.l.p (Uw.l.p .u))))))))
theorem Uy:dQ jd:=dQ.s.p (zv.l.p (dQ.i.p (Ux.l.p .u)))
theorem Mv:dQ jG:=Fl.l.p (Fk.l.p (Uy.l.p .u))
def Pos {α:Type}(e:α->List UInt8):Prop:=∀a,0<(e a).length
theorem EF (n:Int):0<(eW n).length:=anB 9 _
theorem LA (n:Int):(eW n).length<=10:=aOK 10 _
section
variable{α β:Type}{e:α->List UInt8}{f:β->List UInt8}
theorem Pos.i:Pos g6:=λa=>EF _
theorem Pos.s:Pos gJ:=λa=>by unfold gJ;rw[bw];have:=EF (a.1.size:Nat);omega
theorem Pos.p (h:Pos e):Pos (bH e f):=λa=>by unfold bH;rw[bw];have:=h a.1;omega
theorem Pos.flat (h:Pos e):∀l:List α,l.length<=(l.flatMap e).length
 |[]=>Nat.zero_le _
 |a::l=>by rw[List.flatMap_cons,bw,gX];have:=h a;have:=h.flat l;omega
end
theorem ag7:Pos k0:=Pos.s.p
theorem ag1:Pos kR:=Pos.i.p
theorem agY:Pos gx:=Pos.i.p
theorem agX:Pos iJ:=Pos.s.p
theorem ag6:Pos jX:=Pos.s.p
theorem ag5:Pos je:=Pos.s.p
theorem ag8:Pos kA:=Pos.i.p
theorem ag3:Pos jW:=Pos.s.p
theorem ag2:Pos kj:=Pos.s.p
theorem agZ:Pos jV:=Pos.s.p
theorem ag0:Pos g5:=Pos.i.p
theorem ag4:Pos jd:=Pos.s.p
structure fb {α:Type}(e:α->List UInt8)(st nE:D [.str,.bool])(a:α):Prop where
  b:st.2.1=true->nE.2.1=true
  g:st.2.1=false->nE.2.1=false->a7 st.1=e a++a7 nE.1
  n:st.2.1=false->nE.2.1=true->∀x r,a7 st.1≠e x++r
  l:nE.1.1.size<=st.1.1.size
section
variable{α β:Type}{e:α->List UInt8}{f:β->List UInt8}{s t u:D [.str,.bool]}{a:α}{b:β}
theorem fb.pair (h:fb e s t a)(he:dQ e)(g:fb f t u b):fb (bH e f) s u (a,b):=by
 refine⟨λq=>g.b (h.b q),λq gy=>?_,λq gy x r aO=>?_,jF g.l h.l⟩
 ·have bR:t.2.1=false:=by
   cases bR:t.2.1 with
   |false=>rfl
   |true=>rw[g.b bR] at gy;cases gy
  rw[h.g q bR,g.g bR gy];unfold bH;rw[cN]
 ·unfold bH at aO;rw[cN] at aO;cases bR:t.2.1 with
  |true=>exact h.n q bR _ _ aO
  |false=>
   rw[h.g q bR] at aO;exact g.n bR gy _ _ (he _ _ _ _ aO).2
structure wy {α:Type}(e:α->List UInt8)(s:List UInt8)(acc:List α)(n:Int)(st:D [.str,.bool]):Prop where
  g9:0<=n
  t:s=eW ((acc.length:Nat)+n)++(acc.flatMap e++a7 st.1)
  m:(acc.length:Int)+n<=140737488355328
def YH {α:Type}(e:α->List UInt8)(s:List UInt8):Prop:=∀(l:L α) r,s≠bP e l++r
theorem wy.done {s acc st}(h:wy e s acc 0 st){l:L α}(aW:l.1=acc):s=bP e l++a7 st.1:=by
 rw[h.t];unfold bP;rw[aW,cN,Int.add_zero]
theorem wy.SD {s acc n st nE a}(h:wy e s acc n st)(az:0<n)(ah:st.2.1=false)(g:fb e st nE a)(yy:nE.2.1=false):wy e s (acc++[a]) (n-1) nE:=by
 refine⟨ab,?_,by rw[bw,List.length_singleton];have:=h.m;omega⟩;rw[h.t,g.g ah yy,bw,List.length_singleton,List.flatMap_append,show((acc.length+1:Nat):Int)+(n-1)=(acc.length:Nat)+n by omega];simp
theorem wy.bad {s acc n st nE a}(h:wy e s acc n st)(he:dQ e)(az:0<n)(ah:st.2.1=false)(g:fb e st nE a)(yy:nE.2.1=true):YH e s:=λl r q=>by
 rw[h.t] at q;unfold bP at q;rw[cN] at q;have hm:=h.m;have aW:=L.b l;have ba:=h.g9;obtain⟨aa,af⟩:=EE ⟨ab,ab⟩ ⟨ab,ab⟩ q;have bl:acc.length<l.1.length:=ab;have aE:l.1=l.1.take acc.length++l.1[acc.length]::l.1.drop (acc.length+1):=by simp
 rw[aE,List.flatMap_append,List.flatMap_cons,cN,cN] at af;obtain⟨_,a8⟩:=he.flat (by rw[List.length_take];omega) af;exact g.n ah yy _ _ a8
end
set_option linter.unusedSimpArgs false
theorem si {α Z Y:Type}(c:α->List UInt8)(l:L α)(h:Z->Option (Z⊕Y))(row:Z->L (D [.int .u8]))(out:Y->L (D [.int .u8]))(gE:Z->a_ .i64)(ok:Z->Prop)(step:∀z,ok z->0<=(gE z).1->∀e,(gE z).1<(l.1.length:Nat)->l.1[(gE z).1.toNat]?=some e->(row z).1.length+(c e).length<=1000000000->av (h z) (Sum.elim (λfB=>ok fB/\gE fB=bc (gE z) (a_.w .i64 1)/\cM (row fB)=cM (row z)++c e) (λ_=>False)))(stop:∀z,ok z->(l.1.length:Nat)<=(gE z).1->av (h z) (Sum.elim (λ_=>False) (λy=>out y=row z))):
 ∀bk,ok bk->(gE bk).1=0->(row bk).1.length+(l.1.flatMap c).length<=1000000000->av (a2 h bk) (λy=>cM (out y)=cM (row bk)++l.1.flatMap c):=by
 intro bk ba aj aU;have aW:=L.b l;refine cS (λz=>ok z/\0<=(gE z).1/\(gE z).1<=(l.1.length:Nat)/\cM (row z)=cM (row bk)++(l.1.take (gE z).1.toNat).flatMap c) (λz=>((l.1.length:Nat)-(gE z).1:Int).toNat) (λz ai=>?_) bk ⟨ba,ab,ab,by rw[aj];simp⟩;obtain⟨eg,e3,gq,fJ⟩:=ai;by_cases ah:(gE z).1<(l.1.length:Nat)
 ·have he:=fG (l:=l.1) (i:=(gE z).1.toNat) ab;have aE:l.1.flatMap c=(l.1.take (gE z).1.toNat).flatMap c++(c l.1[(gE z).1.toNat]++(l.1.drop ((gE z).1.toNat+1)).flatMap c):=by
   conv=>lhs;rw[<-List.take_append_drop (gE z).1.toNat l.1,List.drop_eq_getElem_cons (by omega:(gE z).1.toNat<l.1.length)]
   rw[List.flatMap_append,List.flatMap_cons]
  have aP:=congrArg List.length aE;have bS:=congrArg List.length fJ;simp only[bw,cM.len] at aP bS;refine(step z eg e3 _ ah he ab).mono λr aU=>?_;cases r with
  |inl fB=>
   obtain⟨cx,cI,dw⟩:=aU;have az:=dG (gE z) e3 ab;refine⟨⟨cx,by rw[cI,az];omega,by rw[cI,az];omega,?_⟩,by rw[cI,az];omega⟩;rw[dw,fJ,cI,az,Cj e3 he,List.flatMap_append,cN];simp
  |inr y=>exact absurd aU id
 ·refine(stop z eg ab).mono λr aU=>?_;cases r with
  |inl fB=>exact absurd aU id
  |inr y=>
   show cM (out y)=_;rw[show out y=row z from aU,fJ,zI ab]
theorem agw:∀x:U agu,x.2.1.1.1.length+(g6 x.1.2.1).length<=1000000000->av (Fe x) (λy=>cM y.2.1.1=cM x.2.1.1++g6 x.1.2.1):=by
 intro x h;unfold Fe;refine ae (EG _ aG) (λaq aa=>?_);have aM:=a7.len aq.1.1;have az:=LA x.1.2.1.1;rw[aa] at aM;dsimp only at aM;refine ae (Jy ab) (λea af=>?_);refine ae (x3 (by unfold g6 at h;omega)) (λcg ax=>?_);exact ak (by dsimp only;rw[ax,af.1,aa];rfl)
theorem mC:∀x:U agr,x.2.1.1.1.length+(g6 x.1.2.1).length<=1000000000->av (lA x) (λy=>cM y.2.1.1=cM x.2.1.1++g6 x.1.2.1):=by
 intro x h;unfold lA;exact ae (agw _ h) (λaq aa=>ak aa)
theorem rl:∀x:U agA,x.2.1.1.1.length+(gJ x.1.2.1).length<=1000000000->av (pe x) (λy=>cM y.2.1.1=cM x.2.1.1++gJ x.1.2.1):=by
 intro x h;unfold pe;unfold gJ at h;rw[bw,a7.len] at h;refine ae (mC _ (by show x.2.1.1.1.length+(eW (x.1.2.1.1.size:Nat)).length<=_;omega)) (λaq aa=>?_);have aE:=congrArg List.length aa;simp only[bw,cM.len] at aE;have aE:aq.2.1.1.1.length=x.2.1.1.1.length+(eW (x.1.2.1.1.size:Nat)).length:=aE;refine ae (Jy ab) (λea af=>?_);refine ae (x3 ab) (λcg ax=>?_);refine ak ?_;dsimp only
 rw[ax,af.1,aa];show(cM x.2.1.1++eW (x.1.2.1.1.size:Nat))++_=_;unfold gJ;rw[cN]
theorem awA:∀x:U afm,x.2.1.1.1.length+(bP k0 x.1.2.1).length<=1000000000->av (LV x) (λy=>cM y.2.1.1=cM x.2.1.1++bP k0 x.1.2.1):=by
 intro x h;unfold LV;unfold bP at h;rw[bw] at h;refine ae (mC _ (by show x.2.1.1.1.length+(eW (x.1.2.1.1.length:Nat)).length<=_;omega)) (λaq aa=>?_);have aa:cM aq.2.1.1=cM x.2.1.1++eW (x.1.2.1.1.length:Nat):=aa;have aE:=cM.js aa;dsimp only at aE;refine ae (si k0 x.1.2.1 EW (λz=>z.2.1.1) (λy=>y.2.1.1) (λz=>z.1.2.2.2.1) (λz=>z.1.2.1=x.1.2.1/\z.1.2.2.1=bf x.1.2.1) (λz ai ba e bl he aU=>?_) (λz ai hle=>?_) _ ⟨rfl,rfl⟩ rfl (by dsimp only;omega)) (λaS a8=>?_)
 ·unfold EW;rw[ai.1,ai.2];refine av.fX ?_;refine ae (dg ⟨ba,bl⟩) (λaP cP=>?_);obtain rfl:=eF (he.symm.trans cP);refine ae (rl _ (by have aU:z.2.1.1.1.length+(k0 e).length<=1000000000:=aU;simp only[gx,iJ,jX,je,kA,jW,kj,jV,g5,jd,k0,kR,bH,bX,bw,cd,dr,cN,cv] at aU;exact aU)) (λaK ax=>?_);exact bz ⟨⟨rfl,rfl⟩,rfl,(by dsimp only;rw[ax];simp only[gx,iJ,jX,je,kA,jW,kj,jV,g5,jd,k0,kR,bH,bX,bw,cd,dr,cN,cv])⟩
 ·unfold EW;rw[ai.1,ai.2];exact av.jk (a6 rfl)
 ·refine ak ?_;dsimp only at a8⊢;rw[a8,aa];unfold bP;rw[cN]
theorem agn:∀x:U agl,x.2.1.1.1.length+(gx x.1.2.1).length<=1000000000->av (Fc x) (λy=>cM y.2.1.1=cM x.2.1.1++gx x.1.2.1):=by
 intro x h;unfold Fc;simp only[gx,bH,bX,bw,cd,dr,cN,cv] at h;refine ae (mC _ (by(try simp only[gx,bH,bX,bw,cd,dr,cN,cv]);omega)) (λaq aa=>?_);have aE:=cM.js aa;dsimp only at aE;refine ae (rl _ (by(try simp only[gx,bH,bX,bw,cd,dr,cN,cv]);omega)) (λaB af=>?_);refine ak ?_;dsimp only
 rw[af,aa];simp only[gx,bH,bX,bw,cd,dr,cN,cv]
theorem ax2:∀x:U agk,x.2.1.1.1.length+(iJ x.1.2.1).length<=1000000000->av (Md x) (λy=>cM y.2.1.1=cM x.2.1.1++iJ x.1.2.1):=by
 intro x h;unfold Md;simp only[iJ,gx,bH,bX,bw,cd,dr,cN,cv] at h;refine ae (rl _ (by(try simp only[iJ,gx,bH,bX,bw,cd,dr,cN,cv]);omega)) (λaq aa=>?_);have aE:=congrArg List.length aa;simp only[gx,bH,bX,cd,cv,bw,cM.len] at aE;refine ae (agn _ (by(try simp only[iJ,gx,bH,bX,bw,cd,dr,cN,cv]);omega)) (λaB af=>?_);have aP:=congrArg List.length af;simp only[gx,bH,bX,cd,cv,bw,cM.len] at aP;refine ae (mC _ (by(try simp only[iJ,gx,bH,bX,bw,cd,dr,cN,cv]);omega)) (λaK ax=>?_);have bS:=congrArg List.length ax;simp only[gx,bH,bX,cd,cv,bw,cM.len] at bS;refine ak ?_;dsimp only
 rw[ax,af,aa];simp only[iJ,gx,bH,bX,bw,cd,dr,cN,cv]
theorem aeQ:∀x:U aeN,x.2.1.1.1.length+(bP iJ x.1.2.1).length<=1000000000->av (EI x) (λy=>cM y.2.1.1=cM x.2.1.1++bP iJ x.1.2.1):=by
 intro x h;unfold EI;unfold bP at h;rw[bw] at h;refine ae (mC _ (by show x.2.1.1.1.length+(eW (x.1.2.1.1.length:Nat)).length<=_;omega)) (λaq aa=>?_);have aa:cM aq.2.1.1=cM x.2.1.1++eW (x.1.2.1.1.length:Nat):=aa;have aE:=cM.js aa;dsimp only at aE;refine ae (si iJ x.1.2.1 EJ (λz=>z.2.1.1) (λy=>y.2.1.1) (λz=>z.1.2.2.2.1) (λz=>z.1.2.1=x.1.2.1/\z.1.2.2.1=bf x.1.2.1) (λz ai ba e bl he aU=>?_) (λz ai hle=>?_) _ ⟨rfl,rfl⟩ rfl (by dsimp only;omega)) (λaS a8=>?_)
 ·unfold EJ;rw[ai.1,ai.2];refine av.fX ?_;refine ae (dg ⟨ba,bl⟩) (λaP cP=>?_);obtain rfl:=eF (he.symm.trans cP);refine ae (ax2 _ aU) (λaK ax=>?_);exact bz ⟨⟨rfl,rfl⟩,rfl,ax⟩
 ·unfold EJ;rw[ai.1,ai.2];exact av.jk (a6 rfl)
 ·refine ak ?_;dsimp only at a8⊢;rw[a8,aa];unfold bP;rw[cN]
theorem ayo:∀x:U agy,x.2.2.1.1.1.length+(jX x.1.1).length<=1000000000->av (Ml x) (λy=>cM y.2.2.1.1=cM x.2.2.1.1++jX x.1.1):=by
 intro x h;unfold Ml;simp only[jX,bH,bX,bw,cd,dr,cN,cv] at h;refine ae (rl _ (by(try simp only[jX,bH,bX,bw,cd,dr,cN,cv]);omega)) (λaq aa=>?_);have aE:=cM.js aa;dsimp only at aE;refine ae (rl _ (by(try simp only[jX,bH,bX,bw,cd,dr,cN,cv]);omega)) (λaB af=>?_);have aP:=cM.js af;dsimp only at aP;refine ae (aeQ _ (by(try simp only[jX,bH,bX,bw,cd,dr,cN,cv]);omega)) (λaK ax=>?_);refine ak ?_;dsimp only
 rw[ax,af,aa];simp only[jX,bH,bX,bw,cd,dr,cN,cv]
theorem awi:∀x:U ae_,x.2.1.1.1.length+(bP jX x.1.2.1).length<=1000000000->av (LR x) (λy=>cM y.2.1.1=cM x.2.1.1++bP jX x.1.2.1):=by
 intro x h;unfold LR;unfold bP at h;rw[bw] at h;refine ae (mC _ (by show x.2.1.1.1.length+(eW (x.1.2.1.1.length:Nat)).length<=_;omega)) (λaq aa=>?_);have aa:cM aq.2.1.1=cM x.2.1.1++eW (x.1.2.1.1.length:Nat):=aa;have aE:=cM.js aa;dsimp only at aE;refine ae (si jX x.1.2.1 ER (λz=>z.2.2.1.1) (λy=>y.2.2.1.1) (λz=>z.1.2.2.2.1) (λz=>z.1.2.1=x.1.2.1/\z.1.2.2.1=bf x.1.2.1) (λz ai ba e bl he aU=>?_) (λz ai hle=>?_) _ ⟨rfl,rfl⟩ rfl (by dsimp only;omega)) (λaS a8=>?_)
 ·unfold ER;rw[ai.1,ai.2];refine av.fX ?_;refine ae (dg ⟨ba,bl⟩) (λaP cP=>?_);obtain rfl:=eF (he.symm.trans cP);refine ae (ayo _ aU) (λaK ax=>?_);exact bz ⟨⟨rfl,rfl⟩,rfl,ax⟩
 ·unfold ER;rw[ai.1,ai.2];exact av.jk (a6 rfl)
 ·refine ak ?_;dsimp only at a8⊢;rw[a8,aa];unfold bP;rw[cN]
theorem ayr:∀x:U agz,x.2.1.1.1.length+(je x.1.2.1).length<=1000000000->av (Mk x) (λy=>cM y.2.1.1=cM x.2.1.1++je x.1.2.1):=by
 intro x h;unfold Mk;simp only[je,bH,bX,bw,cd,dr,cN,cv] at h;refine ae (rl _ (by(try simp only[je,bH,bX,bw,cd,dr,cN,cv]);omega)) (λaq aa=>?_);have aE:=cM.js aa;dsimp only at aE;refine ae (awA _ (by(try simp only[je,bH,bX,bw,cd,dr,cN,cv]);omega)) (λaB af=>?_);have aP:=cM.js af;dsimp only at aP;refine ae (awi _ (by(try simp only[je,bH,bX,bw,cd,dr,cN,cv]);omega)) (λaK ax=>?_);refine ak ?_;dsimp only
 rw[ax,af,aa];simp only[je,bH,bX,bw,cd,dr,cN,cv]
theorem awn:∀x:U afb,x.2.1.1.1.length+(bP je x.1.2.1).length<=1000000000->av (LS x) (λy=>cM y.2.1.1=cM x.2.1.1++bP je x.1.2.1):=by
 intro x h;unfold LS;unfold bP at h;rw[bw] at h;refine ae (mC _ (by show x.2.1.1.1.length+(eW (x.1.2.1.1.length:Nat)).length<=_;omega)) (λaq aa=>?_);have aa:cM aq.2.1.1=cM x.2.1.1++eW (x.1.2.1.1.length:Nat):=aa;have aE:=cM.js aa;dsimp only at aE;refine ae (si je x.1.2.1 ES (λz=>z.2.1.1) (λy=>y.2.1.1) (λz=>z.1.2.2.2.1) (λz=>z.1.2.1=x.1.2.1/\z.1.2.2.1=bf x.1.2.1) (λz ai ba e bl he aU=>?_) (λz ai hle=>?_) _ ⟨rfl,rfl⟩ rfl (by dsimp only;omega)) (λaS a8=>?_)
 ·unfold ES;rw[ai.1,ai.2];refine av.fX ?_;refine ae (dg ⟨ba,bl⟩) (λaP cP=>?_);obtain rfl:=eF (he.symm.trans cP);refine ae (ayr _ aU) (λaK ax=>?_);exact bz ⟨⟨rfl,rfl⟩,rfl,ax⟩
 ·unfold ES;rw[ai.1,ai.2];exact av.jk (a6 rfl)
 ·refine ak ?_;dsimp only at a8⊢;rw[a8,aa];unfold bP;rw[cN]
theorem aye:∀x:U ags,x.2.2.1.1.1.length+(kA x.1.1).length<=1000000000->av (Mi x) (λy=>cM y.2.2.1.1=cM x.2.2.1.1++kA x.1.1):=by
 intro x h;unfold Mi;simp only[kA,bH,bX,bw,cd,dr,cN,cv] at h;refine ae (mC _ (by(try simp only[kA,bH,bX,bw,cd,dr,cN,cv]);omega)) (λaq aa=>?_);have aE:=cM.js aa;dsimp only at aE;refine ae (rl _ (by(try simp only[kA,bH,bX,bw,cd,dr,cN,cv]);omega)) (λaB af=>?_);have aP:=cM.js af;dsimp only at aP;refine ae (aeQ _ (by(try simp only[kA,bH,bX,bw,cd,dr,cN,cv]);omega)) (λaK ax=>?_);refine ak ?_;dsimp only
 rw[ax,af,aa];simp only[kA,bH,bX,bw,cd,dr,cN,cv]
theorem aws:∀x:U afe,x.2.1.1.1.length+(bP kA x.1.2.1).length<=1000000000->av (LU x) (λy=>cM y.2.1.1=cM x.2.1.1++bP kA x.1.2.1):=by
 intro x h;unfold LU;unfold bP at h;rw[bw] at h;refine ae (mC _ (by show x.2.1.1.1.length+(eW (x.1.2.1.1.length:Nat)).length<=_;omega)) (λaq aa=>?_);have aa:cM aq.2.1.1=cM x.2.1.1++eW (x.1.2.1.1.length:Nat):=aa;have aE:=cM.js aa;dsimp only at aE;refine ae (si kA x.1.2.1 ET (λz=>z.2.2.1.1) (λy=>y.2.2.1.1) (λz=>z.1.2.2.2.1) (λz=>z.1.2.1=x.1.2.1/\z.1.2.2.1=bf x.1.2.1) (λz ai ba e bl he aU=>?_) (λz ai hle=>?_) _ ⟨rfl,rfl⟩ rfl (by dsimp only;omega)) (λaS a8=>?_)
 ·unfold ET;rw[ai.1,ai.2];refine av.fX ?_;refine ae (dg ⟨ba,bl⟩) (λaP cP=>?_);obtain rfl:=eF (he.symm.trans cP);refine ae (aye _ aU) (λaK ax=>?_);exact bz ⟨⟨rfl,rfl⟩,rfl,ax⟩
 ·unfold ET;rw[ai.1,ai.2];exact av.jk (a6 rfl)
 ·refine ak ?_;dsimp only at a8⊢;rw[a8,aa];unfold bP;rw[cN]
theorem ayh:∀x:U agt,x.2.1.1.1.length+(jW x.1.2.1).length<=1000000000->av (Mh x) (λy=>cM y.2.1.1=cM x.2.1.1++jW x.1.2.1):=by
 intro x h;unfold Mh;simp only[jW,bH,bX,bw,cd,dr,cN,cv] at h;refine ae (rl _ (by(try simp only[jW,bH,bX,bw,cd,dr,cN,cv]);omega)) (λaq aa=>?_);have aE:=cM.js aa;dsimp only at aE;refine ae (aws _ (by(try simp only[jW,bH,bX,bw,cd,dr,cN,cv]);omega)) (λaB af=>?_);refine ak ?_;dsimp only
 rw[af,aa];simp only[jW,bH,bX,bw,cd,dr,cN,cv]
theorem awd:∀x:U ae7,x.2.1.1.1.length+(bP jW x.1.2.1).length<=1000000000->av (LQ x) (λy=>cM y.2.1.1=cM x.2.1.1++bP jW x.1.2.1):=by
 intro x h;unfold LQ;unfold bP at h;rw[bw] at h;refine ae (mC _ (by show x.2.1.1.1.length+(eW (x.1.2.1.1.length:Nat)).length<=_;omega)) (λaq aa=>?_);have aa:cM aq.2.1.1=cM x.2.1.1++eW (x.1.2.1.1.length:Nat):=aa;have aE:=cM.js aa;dsimp only at aE;refine ae (si jW x.1.2.1 EP (λz=>z.2.1.1) (λy=>y.2.1.1) (λz=>z.1.2.2.2.1) (λz=>z.1.2.1=x.1.2.1/\z.1.2.2.1=bf x.1.2.1) (λz ai ba e bl he aU=>?_) (λz ai hle=>?_) _ ⟨rfl,rfl⟩ rfl (by dsimp only;omega)) (λaS a8=>?_)
 ·unfold EP;rw[ai.1,ai.2];refine av.fX ?_;refine ae (dg ⟨ba,bl⟩) (λaP cP=>?_);obtain rfl:=eF (he.symm.trans cP);refine ae (ayh _ aU) (λaK ax=>?_);exact bz ⟨⟨rfl,rfl⟩,rfl,ax⟩
 ·unfold EP;rw[ai.1,ai.2];exact av.jk (a6 rfl)
 ·refine ak ?_;dsimp only at a8⊢;rw[a8,aa];unfold bP;rw[cN]
theorem avQ:∀x:U aeS,x.2.1.1.1.length+(bP gx x.1.2.1).length<=1000000000->av (LL x) (λy=>cM y.2.1.1=cM x.2.1.1++bP gx x.1.2.1):=by
 intro x h;unfold LL;unfold bP at h;rw[bw] at h;refine ae (mC _ (by show x.2.1.1.1.length+(eW (x.1.2.1.1.length:Nat)).length<=_;omega)) (λaq aa=>?_);have aa:cM aq.2.1.1=cM x.2.1.1++eW (x.1.2.1.1.length:Nat):=aa;have aE:=cM.js aa;dsimp only at aE;refine ae (si gx x.1.2.1 EK (λz=>z.2.1.1) (λy=>y.2.1.1) (λz=>z.1.2.2.2.1) (λz=>z.1.2.1=x.1.2.1/\z.1.2.2.1=bf x.1.2.1) (λz ai ba e bl he aU=>?_) (λz ai hle=>?_) _ ⟨rfl,rfl⟩ rfl (by dsimp only;omega)) (λaS a8=>?_)
 ·unfold EK;rw[ai.1,ai.2];refine av.fX ?_;refine ae (dg ⟨ba,bl⟩) (λaP cP=>?_);obtain rfl:=eF (he.symm.trans cP);refine ae (agn _ aU) (λaK ax=>?_);exact bz ⟨⟨rfl,rfl⟩,rfl,ax⟩
 ·unfold EK;rw[ai.1,ai.2];exact av.jk (a6 rfl)
 ·refine ak ?_;dsimp only at a8⊢;rw[a8,aa];unfold bP;rw[cN]
theorem afk:∀x:U afh,x.2.1.1.1.length+(bP kR x.1.2.1).length<=1000000000->av (EU x) (λy=>cM y.2.1.1=cM x.2.1.1++bP kR x.1.2.1):=by
 intro x h;unfold EU;unfold bP at h;rw[bw] at h;refine ae (mC _ (by show x.2.1.1.1.length+(eW (x.1.2.1.1.length:Nat)).length<=_;omega)) (λaq aa=>?_);have aa:cM aq.2.1.1=cM x.2.1.1++eW (x.1.2.1.1.length:Nat):=aa;have aE:=cM.js aa;dsimp only at aE;refine ae (si kR x.1.2.1 EV (λz=>z.2.1.1) (λy=>y.2.1.1) (λz=>z.1.2.2.2.1) (λz=>z.1.2.1=x.1.2.1/\z.1.2.2.1=bf x.1.2.1) (λz ai ba e bl he aU=>?_) (λz ai hle=>?_) _ ⟨rfl,rfl⟩ rfl (by dsimp only;omega)) (λaS a8=>?_)
 ·unfold EV;rw[ai.1,ai.2];refine av.fX ?_;refine ae (dg ⟨ba,bl⟩) (λaP cP=>?_);obtain rfl:=eF (he.symm.trans cP);refine ae (mC _ (by have aU:z.2.1.1.1.length+(kR e).length<=1000000000:=aU;simp only[gx,iJ,jX,je,kA,jW,kj,jV,g5,jd,k0,kR,bH,bX,bw,cd,dr,cN,cv] at aU;exact aU)) (λaK ax=>?_);exact bz ⟨⟨rfl,rfl⟩,rfl,(by dsimp only;rw[ax];simp only[gx,iJ,jX,je,kA,jW,kj,jV,g5,jd,k0,kR,bH,bX,bw,cd,dr,cN,cv])⟩
 ·unfold EV;rw[ai.1,ai.2];exact av.jk (a6 rfl)
 ·refine ak ?_;dsimp only at a8⊢;rw[a8,aa];unfold bP;rw[cN]
theorem ax6:∀x:U ago,x.2.2.1.1.1.length+(kj x.1.1).length<=1000000000->av (Mf x) (λy=>cM y.2.2.1.1=cM x.2.2.1.1++kj x.1.1):=by
 intro x h;unfold Mf;simp only[kj,bH,bX,bw,cd,dr,cN,cv] at h;refine ae (rl _ (by(try simp only[kj,bH,bX,bw,cd,dr,cN,cv]);omega)) (λaq aa=>?_);have aE:=cM.js aa;dsimp only at aE;refine ae (mC _ (by(try simp only[kj,bH,bX,bw,cd,dr,cN,cv]);omega)) (λaB af=>?_);have aP:=cM.js af;dsimp only at aP;refine ae (mC _ (by(try simp only[kj,bH,bX,bw,cd,dr,cN,cv]);omega)) (λaK ax=>?_);refine ak ?_;dsimp only
 rw[ax,af,aa];simp only[kj,bH,bX,bw,cd,dr,cN,cv]
theorem av_:∀x:U ae4,x.2.1.1.1.length+(bP kj x.1.2.1).length<=1000000000->av (LP x) (λy=>cM y.2.1.1=cM x.2.1.1++bP kj x.1.2.1):=by
 intro x h;unfold LP;unfold bP at h;rw[bw] at h;refine ae (mC _ (by show x.2.1.1.1.length+(eW (x.1.2.1.1.length:Nat)).length<=_;omega)) (λaq aa=>?_);have aa:cM aq.2.1.1=cM x.2.1.1++eW (x.1.2.1.1.length:Nat):=aa;have aE:=cM.js aa;dsimp only at aE;refine ae (si kj x.1.2.1 EO (λz=>z.2.2.1.1) (λy=>y.2.2.1.1) (λz=>z.1.2.2.2.1) (λz=>z.1.2.1=x.1.2.1/\z.1.2.2.1=bf x.1.2.1) (λz ai ba e bl he aU=>?_) (λz ai hle=>?_) _ ⟨rfl,rfl⟩ rfl (by dsimp only;omega)) (λaS a8=>?_)
 ·unfold EO;rw[ai.1,ai.2];refine av.fX ?_;refine ae (dg ⟨ba,bl⟩) (λaP cP=>?_);obtain rfl:=eF (he.symm.trans cP);refine ae (ax6 _ aU) (λaK ax=>?_);exact bz ⟨⟨rfl,rfl⟩,rfl,ax⟩
 ·unfold EO;rw[ai.1,ai.2];exact av.jk (a6 rfl)
 ·refine ak ?_;dsimp only at a8⊢;rw[a8,aa];unfold bP;rw[cN]
theorem ax9:∀x:U agp,x.2.2.1.1.1.length+(jV x.1.1).length<=1000000000->av (Mg x) (λy=>cM y.2.2.1.1=cM x.2.2.1.1++jV x.1.1):=by
 intro x h;unfold Mg;simp only[jV,bH,bX,bw,cd,dr,cN,cv] at h;refine ae (rl _ (by(try simp only[jV,bH,bX,bw,cd,dr,cN,cv]);omega)) (λaq aa=>?_);have aE:=cM.js aa;dsimp only at aE;refine ae (rl _ (by(try simp only[jV,bH,bX,bw,cd,dr,cN,cv]);omega)) (λaB af=>?_);have aP:=cM.js af;dsimp only at aP;refine ae (afk _ (by(try simp only[jV,bH,bX,bw,cd,dr,cN,cv]);omega)) (λaK ax=>?_);refine ak ?_;dsimp only
 rw[ax,af,aa];simp only[jV,bH,bX,bw,cd,dr,cN,cv]
theorem av0:∀x:U aeY,x.2.1.1.1.length+(bP jV x.1.2.1).length<=1000000000->av (LN x) (λy=>cM y.2.1.1=cM x.2.1.1++bP jV x.1.2.1):=by
 intro x h;unfold LN;unfold bP at h;rw[bw] at h;refine ae (mC _ (by show x.2.1.1.1.length+(eW (x.1.2.1.1.length:Nat)).length<=_;omega)) (λaq aa=>?_);have aa:cM aq.2.1.1=cM x.2.1.1++eW (x.1.2.1.1.length:Nat):=aa;have aE:=cM.js aa;dsimp only at aE;refine ae (si jV x.1.2.1 EM (λz=>z.2.2.1.1) (λy=>y.2.2.1.1) (λz=>z.1.2.2.2.1) (λz=>z.1.2.1=x.1.2.1/\z.1.2.2.1=bf x.1.2.1) (λz ai ba e bl he aU=>?_) (λz ai hle=>?_) _ ⟨rfl,rfl⟩ rfl (by dsimp only;omega)) (λaS a8=>?_)
 ·unfold EM;rw[ai.1,ai.2];refine av.fX ?_;refine ae (dg ⟨ba,bl⟩) (λaP cP=>?_);obtain rfl:=eF (he.symm.trans cP);refine ae (ax9 _ aU) (λaK ax=>?_);exact bz ⟨⟨rfl,rfl⟩,rfl,ax⟩
 ·unfold EM;rw[ai.1,ai.2];exact av.jk (a6 rfl)
 ·refine ak ?_;dsimp only at a8⊢;rw[a8,aa];unfold bP;rw[cN]
theorem aya:∀x:U agq,x.2.1.1.1.length+(g5 x.1.2.1).length<=1000000000->av (Me x) (λy=>cM y.2.1.1=cM x.2.1.1++g5 x.1.2.1):=by
 intro x h;unfold Me;simp only[g5,bH,bX,bw,cd,dr,cN,cv] at h;refine ae (mC _ (by(try simp only[g5,bH,bX,bw,cd,dr,cN,cv]);omega)) (λaq aa=>?_);have aE:=cM.js aa;dsimp only at aE;refine ae (mC _ (by(try simp only[g5,bH,bX,bw,cd,dr,cN,cv]);omega)) (λaB af=>?_);have aP:=cM.js af;dsimp only at aP;refine ae (mC _ (by(try simp only[g5,bH,bX,bw,cd,dr,cN,cv]);omega)) (λaK ax=>?_);have bS:=cM.js ax;dsimp only at bS;refine ae (agw _ (by(try simp only[g5,bH,bX,bw,cd,dr,cN,cv]);omega)) (λaS a8=>?_);have cR:=cM.js a8;dsimp only at cR;refine ae (rl _ (by(try simp only[g5,bH,bX,bw,cd,dr,cN,cv]);omega)) (λa9 cn=>?_);have dO:=cM.js cn;dsimp only at dO;refine ae (rl _ (by(try simp only[g5,bH,bX,bw,cd,dr,cN,cv]);omega)) (λbJ da=>?_);have db:=cM.js da;dsimp only at db;refine ae (afk _ (by(try simp only[g5,bH,bX,bw,cd,dr,cN,cv]);omega)) (λbK dS=>?_);have fm:=cM.js dS;dsimp only at fm;refine ae (av_ _ (by(try simp only[g5,bH,bX,bw,cd,dr,cN,cv]);omega)) (λcl ez=>?_);have dD:=cM.js ez;dsimp only at dD;refine ae (av0 _ (by(try simp only[g5,bH,bX,bw,cd,dr,cN,cv]);omega)) (λbO dM=>?_);refine ak ?_;dsimp only
 rw[dM,ez,dS,da,cn,a8,ax,af,aa];simp only[g5,bH,bX,bw,cd,dr,cN,cv]
theorem av5:∀x:U ae1,x.2.1.1.1.length+(bP g5 x.1.2.1).length<=1000000000->av (LO x) (λy=>cM y.2.1.1=cM x.2.1.1++bP g5 x.1.2.1):=by
 intro x h;unfold LO;unfold bP at h;rw[bw] at h;refine ae (mC _ (by show x.2.1.1.1.length+(eW (x.1.2.1.1.length:Nat)).length<=_;omega)) (λaq aa=>?_);have aa:cM aq.2.1.1=cM x.2.1.1++eW (x.1.2.1.1.length:Nat):=aa;have aE:=cM.js aa;dsimp only at aE;refine ae (si g5 x.1.2.1 EN (λz=>z.2.1.1) (λy=>y.2.1.1) (λz=>z.1.2.2.2.1) (λz=>z.1.2.1=x.1.2.1/\z.1.2.2.1=bf x.1.2.1) (λz ai ba e bl he aU=>?_) (λz ai hle=>?_) _ ⟨rfl,rfl⟩ rfl (by dsimp only;omega)) (λaS a8=>?_)
 ·unfold EN;rw[ai.1,ai.2];refine av.fX ?_;refine ae (dg ⟨ba,bl⟩) (λaP cP=>?_);obtain rfl:=eF (he.symm.trans cP);refine ae (aya _ aU) (λaK ax=>?_);exact bz ⟨⟨rfl,rfl⟩,rfl,ax⟩
 ·unfold EN;rw[ai.1,ai.2];exact av.jk (a6 rfl)
 ·refine ak ?_;dsimp only at a8⊢;rw[a8,aa];unfold bP;rw[cN]
theorem ayl:∀x:U agx,x.2.1.1.1.length+(jd x.1.2.1).length<=1000000000->av (Mj x) (λy=>cM y.2.1.1=cM x.2.1.1++jd x.1.2.1):=by
 intro x h;unfold Mj;simp only[jd,bH,bX,bw,cd,dr,cN,cv] at h;refine ae (rl _ (by(try simp only[jd,bH,bX,bw,cd,dr,cN,cv]);omega)) (λaq aa=>?_);have aE:=cM.js aa;dsimp only at aE;refine ae (avQ _ (by(try simp only[jd,bH,bX,bw,cd,dr,cN,cv]);omega)) (λaB af=>?_);have aP:=cM.js af;dsimp only at aP;refine ae (mC _ (by(try simp only[jd,bH,bX,bw,cd,dr,cN,cv]);omega)) (λaK ax=>?_);have bS:=cM.js ax;dsimp only at bS;refine ae (av5 _ (by(try simp only[jd,bH,bX,bw,cd,dr,cN,cv]);omega)) (λaS a8=>?_);refine ak ?_;dsimp only
 rw[a8,ax,af,aa];simp only[jd,bH,bX,bw,cd,dr,cN,cv]
theorem avV:∀x:U aeV,x.2.1.1.1.length+(bP jd x.1.2.1).length<=1000000000->av (LM x) (λy=>cM y.2.1.1=cM x.2.1.1++bP jd x.1.2.1):=by
 intro x h;unfold LM;unfold bP at h;rw[bw] at h;refine ae (mC _ (by show x.2.1.1.1.length+(eW (x.1.2.1.1.length:Nat)).length<=_;omega)) (λaq aa=>?_);have aa:cM aq.2.1.1=cM x.2.1.1++eW (x.1.2.1.1.length:Nat):=aa;have aE:=cM.js aa;dsimp only at aE;refine ae (si jd x.1.2.1 EL (λz=>z.2.1.1) (λy=>y.2.1.1) (λz=>z.1.2.2.2.1) (λz=>z.1.2.1=x.1.2.1/\z.1.2.2.1=bf x.1.2.1) (λz ai ba e bl he aU=>?_) (λz ai hle=>?_) _ ⟨rfl,rfl⟩ rfl (by dsimp only;omega)) (λaS a8=>?_)
 ·unfold EL;rw[ai.1,ai.2];refine av.fX ?_;refine ae (dg ⟨ba,bl⟩) (λaP cP=>?_);obtain rfl:=eF (he.symm.trans cP);refine ae (ayl _ aU) (λaK ax=>?_);exact bz ⟨⟨rfl,rfl⟩,rfl,ax⟩
 ·unfold EL;rw[ai.1,ai.2];exact av.jk (a6 rfl)
 ·refine ak ?_;dsimp only at a8⊢;rw[a8,aa];unfold bP;rw[cN]
def tu:List UInt8:=[82,80,84,49]
def jv (m:D jD):List UInt8:=tu++jG m
theorem avI:∀x:U aeL,(jG x.1.1).length<=900000000->av (LK x) (λy=>(if 65536<(jv x.1.1).length+4 then y.1.1=S ⟨#[]⟩/\y.1.2.1.1=3300 else a7 y.1.1=jv x.1.1++oX (ld (jv x.1.1))/\y.1.2.1.1=0)):=by
 intro x h;unfold LK;unfold jG at h;simp only[bH,bX,bw,cd,cv] at h;have fp:cM (cD [((a_.w .u8 (82)),()),((a_.w .u8 (80)),()),((a_.w .u8 (84)),()),((a_.w .u8 (49)),())])=tu:=by unfold cM;rw[fu (by simp)];rfl
 have SJ:=congrArg List.length fp;rw[cM.len] at SJ;have SJ:(cD [((a_.w .u8 (82)),()),((a_.w .u8 (80)),()),((a_.w .u8 (84)),()),((a_.w .u8 (49)),())]:L (D [.int .u8])).1.length=4:=SJ;refine ae (awn _ (by dsimp only;omega)) (λaq aa=>?_);have aE:=congrArg List.length aa;simp only[bw,cM.len] at aE;refine ae (awd _ (by dsimp only;omega)) (λaB af=>?_);have aP:=congrArg List.length af;simp only[bw,cM.len] at aP;refine ae (avV _ (by dsimp only;omega)) (λaK ax=>?_);have bS:=congrArg List.length ax;simp only[bw,cM.len] at bS;have nQ:cM aK.2.1.1=jv x.1.1:=by
  rw[ax];dsimp only
  rw[af];dsimp only
  rw[aa];dsimp only
  rw[fp];unfold jv jG;simp only[bH,bX,dr,cN]
 have hlen:=congrArg List.length nQ;rw[cM.len] at hlen;refine ae (LJ _ aG) (λaS a8=>?_);have a8:aS.1.1.1=(ld (jv x.1.1):Nat):=by rw[a8,a7.bytes,nQ]
 refine ae (afq _ aG) (λa9 cn=>?_);have cn:a7 a9.1.1=oX (ld (jv x.1.1)):=by rw[cn];dsimp only;rw[a8];rfl
 have gV:=congrArg List.length cn;rw[a7.len] at gV;have gV:a9.1.1.1.size=4:=gV;refine ae (Jy ab) (λiB da=>?_);refine ae (x3 ab) (λiV dS=>?_);rw[nQ,da.1,cn] at dS;have TG:=congrArg List.length dS;rw[cM.len,bw] at TG;have TG:iV.1.length=(jv x.1.1).length+4:=TG;refine ag (λah=>?_) (λah=>?_)
 ·simp only[b8,aL] at ah;refine ak ?_;dsimp only
  rw[if_pos ab];exact⟨rfl,rfl⟩
 ·simp only[b8,aL] at ah;refine ak ?_;dsimp only
  rw[if_neg ab];exact⟨by rw[a7.bytes,dS],rfl⟩
section
variable{α β Cv:Type}{e:α->List UInt8}{f:β->List UInt8}{g:Cv->List UInt8}{s t u:D [.str,.bool]}{a:α}{b:β}{c:Cv}
theorem fb.one (h:fb e s t a):fb (bH e bX) s t (a,()):=
 ⟨h.b,λq gy=>by rw[h.g q gy];simp[bH,bX],λq gy z r ai=>h.n q gy z.1 r (by rw[ai];simp[bH,bX]),h.l⟩
theorem fb.two (h:fb (bH e (bH f bX)) s t (a,b,()))(bL:dQ (bH e (bH f bX)))(k:fb g t u c):fb (bH e (bH f g)) s u (a,b,c):=by
 have q:=h.pair bL k;exact⟨q.b,λx jn=>by rw[q.g x jn];simp[bH,bX],λx jn z r ai=>q.n x jn ((z.1,z.2.1,()),z.2.2) r (by rw[ai];simp[bH,bX]),q.l⟩
end
structure nq (st nE:D [.str,.bool])(n:Int):Prop where
  b:st.2.1=true->nE.2.1=true
  z:nE.2.1=true->n=0
  g9:0<=n/\n<=nE.1.1.size
  g:st.2.1=false->nE.2.1=false->a7 st.1=eW n++a7 nE.1
  n:st.2.1=false->nE.2.1=true->∀(m:Nat)(r:List UInt8),m<=r.length->m<=9223372036854775807->a7 st.1≠eW m++r
  l:nE.1.1.size<=st.1.1.size
theorem me {α Z Y:Type}(e:α->List UInt8)(he:dQ e)(aA:Pos e)(h:Z->Option (Z⊕Y))(acc:Z->L α)(n:Z->Int)(st:Z->D [.str,.bool])(Uf:Y->L α)(os:Y->D [.str,.bool])(ok:Z->Prop)(Q:Y->Prop)(step:∀z,ok z->0<n z->(st z).2.1=false->(acc z).1.length+n z<=100000->(st z).1.1.size<=100000->av (h z) (Sum.elim (λfB=>ok fB/\n fB=n z-1/\∃a,(acc fB).1=(acc z).1++[a]/\fb e (st z) (st fB) a) (λ_=>False)))(stop:∀z,ok z->(n z<=0\/(st z).2.1=true)->av (h z) (Sum.elim (λ_=>False) (λy=>Uf y=acc z/\os y=st z/\Q y))):
 ∀(eC:D [.str,.bool]) bk,ok bk->(acc bk).1=[]->nq eC (st bk) (n bk)->eC.1.1.size<=100000->av (a2 h bk) (λy=>fb (bP e) eC (os y) (Uf y)/\Q y):=by
 intro eC bk ba ai an aM;have Kb:=an.l;refine cS (λz=>ok z/\0<=n z/\(acc z).1.length+n z=n bk/\(st z).1.1.size<=eC.1.1.size/\(eC.2.1=true->(st z).2.1=true)/\(eC.2.1=false->(st z).2.1=false->wy e (a7 eC.1) (acc z).1 (n z) (st z))/\(eC.2.1=false->(st z).2.1=true->YH e (a7 eC.1))) (λz=>(n z).toNat) (λz ai=>?_) bk ⟨ba,an.g9.1,by rw[ai];simp,Kb,an.b,λq gy=>⟨an.g9.1,by rw[ai,an.g q gy];simp,by rw[ai];have:=an.g9.2;simp;omega⟩,λq gy l r aO=>?_⟩
 ·obtain⟨eg,e3,gq,fJ,mm,k8,qO⟩:=ai;by_cases ah:0<n z/\(st z).2.1=false
  ·refine(step z eg ah.1 ah.2 (by have:=an.g9.2;omega) ab).mono λr aU=>?_;cases r with
   |inr y=>exact absurd aU id
   |inl fB=>
    obtain⟨cx,cI,a,dw,fh⟩:=aU;have aW:=fh.l;refine⟨⟨cx,ab,by rw[dw,cI,bw,List.length_singleton];omega,ab,λq=>fh.b (mm q),λq gy=>?_,λq gy=>?_⟩,ab⟩
    ·rw[dw,cI];exact(k8 q ah.2).SD ah.1 ah.2 fh gy
    ·exact(k8 q ah.2).bad he ah.1 ah.2 fh gy
  ·refine(stop z eg (by cases aM:(st z).2.1 with|true=>exact .inr rfl|false=>exact .inl (by rw[aM] at ah;simp at ah;omega))).mono λr aU=>?_;cases r with
   |inl fB=>exact absurd aU id
   |inr y=>
    obtain⟨cx,cI,dw⟩:=aU;show fb (bP e) eC (os y) (Uf y)/\Q y;refine⟨?_,dw⟩;rw[cx,cI];refine⟨mm,λq gy=>?_,λq gy=>qO q gy,fJ⟩;have az:n z=0:=by
     rw[gy] at ah;simp at ah;omega
    have gC:=k8 q gy;rw[az] at gC;exact gC.done rfl
 ·unfold bP at aO;rw[cN] at aO;exact an.n q gy _ _ (by rw[bw];have:=aA.flat l.1;omega) (by have:=L.b l;omega) aO
theorem Af {s:dY}{k:Nat}(h:k<=s.1.size):av (lM s (k:Nat) s.1.size) (λr=>a7 r=(a7 s).drop k/\r.1.size=s.1.size-k):=by
 refine(ur ⟨ab,ab,ab⟩).mono λr aU=>?_;have af:a7 r=(a7 s).drop k:=by
  rw[aU];rw[show((k:Nat):Int).toNat=k by omega];exact List.take_of_length_le (by rw[List.length_drop,a7.len];omega)
 exact⟨af,by rw[<-a7.len,af,List.length_drop,a7.len]⟩
theorem Ul:∀x:U age,True->av (A2 x) (λy=>fb g6 x.2.1 y.2.1 y.1.1):=by
 intro x _;unfold A2;refine ae (aeG _ aG) (λaq cr=>?_);obtain⟨aa,af⟩:=cr;dsimp only at aa;have sy:aq.1.2.2.1=false->∀(n:a_ .i64) r,a7 x.2.1.1≠g6 n++r:=λq n r aO=>by
  have ah:=a_.qm n;unfold g6 at aO;rw[aO,IF n.1 r ah.1 ah.2] at aa;have:=congrArg (λp=>p.2.2) aa;dsimp only at this;rw[q] at this;cases this
 refine ag (λah=>?_) (λah=>?_)
 ·simp only[b8] at ah;exact ak ⟨λ_=>rfl,λ_ q=>(by cases q),λ_ _=>sy ah,Nat.le_refl _⟩
 ·simp only[b8] at ah;refine ag (λaR=>?_) (λaR=>?_)
  ·exact ak ⟨λ_=>rfl,λ_ q=>(by cases q),λq=>(by rw[show x.2.1.2.1=true from aR] at q;cases q),Nat.le_refl _⟩
  ·rw[ah] at aa;obtain⟨aI,aQ,bq,r,cA⟩:=QH aa.symm;have aW:=congrArg List.length cA;rw[a7.len,bw] at aW;have aX:aq.1.2.1.1=((eW aq.1.1.1).length:Nat):=ab;rw[aX];refine ae (Af ab) (λv2 pZ=>?_);have aT:a7 v2=r:=by rw[pZ.1,cA,List.drop_left]
   exact ak ⟨λq=>(by rw[show x.2.1.2.1=false from aR] at q;cases q),λ_ _=>(by dsimp only;rw[aT];exact cA),λ_ q=>(by rw[show x.2.1.2.1=false from aR] at q;cases q),by dsimp only;have:=pZ.2;omega⟩
theorem uU:∀x:U aga,True->av (rQ x) (λy=>fb g6 x.2.1 y.2.1 y.1.1):=by
 intro x _;unfold rQ;exact ae (Ul _ aG) (λaq cr=>ak cr)
theorem ZA {st k7:D [.str,.bool]}{n:a_ .i64}(h:fb g6 st k7 n):(n.1<0\/(k7.1.1.size:Int)<n.1->k7.2.1=false->st.2.1=false->∀(m:Nat)(r:List UInt8),m<=r.length->m<=9223372036854775807->a7 st.1≠eW m++r)/\(st.2.1=false->k7.2.1=true->∀(m:Nat)(r:List UInt8),m<=r.length->m<=9223372036854775807->a7 st.1≠eW m++r):=by
 refine⟨λaz aa ba m r hm aW aO=>?_,λba aa m r hm aW aO=>?_⟩
 ·rw[h.g ba aa] at aO;unfold g6 at aO;obtain⟨aE,aP⟩:=EE (a_.qm n) ⟨ab,ab⟩ aO;have:=a7.len k7.1;rw[aP] at this;omega
 ·exact h.n ba aa (⟨(m:Int),by show-9223372036854775808<=(m:Int);omega,by show(m:Int)<=9223372036854775807;omega⟩:a_ .i64) r aO
theorem rS:∀x:U agd,True->av (p6 x) (λy=>nq x.2.1 y.2.1 y.1.1.1):=by
 intro x _;unfold p6;refine ae (Ul _ aG) (λaq h=>?_);obtain⟨cW,dv⟩:=ZA h;have aW:=h.l;have i0:(a_.w .i64 0).1=0:=rfl;have Ya:(k7:D [.str,.bool])->k7=(aq.2.1.1,true,())->(aq.1.1.1<0\/(aq.2.1.1.1.size:Int)<aq.1.1.1\/aq.2.1.2.1=true)->nq x.2.1 k7 (a_.w .i64 0).1:=λk7 e hw=>by
  subst e;refine⟨λ_=>rfl,λ_=>rfl,by rw[i0];dsimp only;omega,λ_ q=>(by cases q),λq _=>?_,aW⟩;cases ah:aq.2.1.2.1 with
  |true=>exact dv q ah
  |false=>exact cW (by rw[ah] at hw;simp at hw;exact hw) ah q
 refine ag (λah=>?_) (λah=>?_)
 ·simp only[b8,aL] at ah;exact ak (Ya _ rfl (.inl ab))
 ·simp only[b8,aL] at ah;refine ag (λaR=>?_) (λaR=>?_)
  ·simp only[b8,aL] at aR;exact ak (Ya _ rfl (.inr (.inl aR)))
  ·simp only[b8,aL] at aR;refine ag (λbM=>?_) (λbM=>?_)
   ·have bM:aq.2.1.2.1=true:=bM;refine ak (Ya _ ?_ (.inr (.inr bM)));dsimp only
    rw[<-bM]
   ·have bM:aq.2.1.2.1=false:=bM;exact ak ⟨h.b,λq=>(by dsimp only at q;rw[bM] at q;cases q),⟨by dsimp only;omega,aR⟩,h.g,λq gy=>(by dsimp only at gy;rw[bM] at gy;cases gy),aW⟩
theorem ang {st k7 u5:D [.str,.bool]}{n:Int}{v:dY}(h:nq st k7 n)(aT:a7 v=(a7 k7.1).take n.toNat)(hw:a7 u5.1=(a7 k7.1).drop n.toNat)(ah:u5.2.1=k7.2.1):fb gJ st u5 v:=by
 have az:=h.g9;have aW:=h.l;have fD:=congrArg List.length hw;rw[a7.len,List.length_drop,a7.len] at fD;have Tn:=congrArg List.length aT;rw[a7.len,List.length_take,a7.len] at Tn;refine⟨λq=>by rw[ah];exact h.b q,λq gy=>?_,λq gy x r aO=>?_,ab⟩
 ·rw[ah] at gy;rw[h.g q gy,hw];unfold gJ;rw[aT,show(v.1.size:Int)=n by omega,cN,List.take_append_drop]
 ·rw[ah] at gy;unfold gJ at aO;rw[cN] at aO;exact h.n q gy x.1.size _ (by rw[bw,a7.len];omega) (S.b x) aO
theorem rk:∀x:U agj,True->av (pd x) (λy=>fb gJ x.2.1 y.2.1 y.1.1):=by
 intro x _;unfold pd;refine ae (rS _ aG) (λaq h=>?_);have az:=h.g9;refine ae (ur ⟨Int.le_refl _,az.1,az.2⟩) (λv2 af=>?_);have aX:aq.1.1.1=((aq.1.1.1.toNat:Nat):Int):=ab;refine ae (P:=λr=>a7 r=(a7 aq.2.1.1).drop aq.1.1.1.toNat) ?_ (λcH ax=>?_)
 ·rw[aX];exact(Af ab).mono λr aU=>aU.1
 ·refine ak (ang h ?_ ax rfl);dsimp only
  rw[af]
  try simp
theorem axt:∀x:U af3,x.2.1.1.1.size<=100000->av (L5 x) (λy=>fb (bP k0) x.2.1 y.2.1 y.1.1):=by
 intro x aM;unfold L5;refine ae (rS _ aG) (λaq h=>?_);refine ae (me k0 Fm ag7 Fa (λz=>z.1.2.2.1) (λz=>z.1.2.2.2.1.1) (λz=>z.2.1) (λy=>y.1.1) (λy=>y.2.1) (λ_=>True) (λ_=>True) (λz _ az ah aW ai=>?_) (λz _ ai=>?_) x.2.1 _ aG rfl h aM) (λaS a8=>ak a8.1)
 ·unfold Fa;refine av.fX ?_;refine ag (λ_=>?_) (λq=>by rw[ah] at q;cases q);refine ae (rk _ aG) (λaB af=>?_);refine ae (dq (by simp only[b7];omega)) (λcg ax=>?_);rw[fu (by simp)] at ax;exact bz ⟨aG,by dsimp only;simp only[aL];omega,(aB.1.1,()),ax.1,af.one⟩
 ·unfold Fa;refine ag (λaz=>?_) (λ_=>a6 ⟨rfl,rfl,aG⟩);simp only[b8,aL] at az;have ah:z.2.1.2.1=true:=by rcases ai with q|q;omega;exact q
  exact ag (λq=>by rw[ah] at q;cases q) (λ_=>a6 ⟨rfl,rfl,aG⟩)
theorem af8:∀x:U af6,True->av (Fb x) (λy=>fb gx x.2.1 y.2.1 y.1.1):=by
 intro x aM;unfold Fb;refine ae (uU _ aG) (λaq aa=>?_);refine ae (rk _ aG) (λaB af=>?_);exact ak (aa.pair dQ.i (af.one))
theorem axw:∀x:U af5,True->av (L6 x) (λy=>fb iJ x.2.1 y.2.1 y.1.1):=by
 intro x aM;unfold L6;refine ae (rk _ aG) (λaq aa=>?_);refine ae (af8 _ aG) (λaB af=>?_);refine ae (uU _ aG) (λaK ax=>?_);exact ak (aa.pair dQ.s (af.two zv ax.one))
theorem afv:∀x:U afs,x.2.1.1.1.size<=100000->av (EY x) (λy=>fb (bP iJ) x.2.1 y.2.1 y.1.1):=by
 intro x aM;unfold EY;refine ae (rS _ aG) (λaq h=>?_);refine ae (me iJ Mu agX EZ (λz=>z.1.2.2.1) (λz=>z.1.2.2.2.1.1) (λz=>z.2.1) (λy=>y.1.1) (λy=>y.2.1) (λ_=>True) (λ_=>True) (λz _ az ah aW ai=>?_) (λz _ ai=>?_) x.2.1 _ aG rfl h aM) (λaS a8=>ak a8.1)
 ·unfold EZ;refine av.fX ?_;refine ag (λ_=>?_) (λq=>by rw[ah] at q;cases q);refine ae (axw _ aG) (λaB af=>?_);refine ae (dq (by simp only[b7];omega)) (λcg ax=>?_);rw[fu (by simp)] at ax;exact bz ⟨aG,by dsimp only;simp only[aL];omega,aB.1.1,ax.1,af⟩
 ·unfold EZ;refine ag (λaz=>?_) (λ_=>a6 ⟨rfl,rfl,aG⟩);simp only[b8,aL] at az;have ah:z.2.1.2.1=true:=by rcases ai with q|q;omega;exact q
  exact ag (λq=>by rw[ah] at q;cases q) (λ_=>a6 ⟨rfl,rfl,aG⟩)
theorem axV:∀x:U agh,x.2.2.1.1.1.size<=100000->av (Mc x) (λy=>fb jX x.2.2.1 y.2.2.1 y.1.1):=by
 intro x aM;unfold Mc;refine ae (rk _ aG) (λaq aa=>?_);have dF:aq.2.1.1.1.size<=x.2.2.1.1.1.size:=aa.l;refine ae (rk _ aG) (λaB af=>?_);have ea:aB.2.1.1.1.size<=aq.2.1.1.1.size:=af.l;refine ae (afv _ (by dsimp only;omega)) (λaK ax=>?_);have cg:aK.2.1.1.1.size<=aB.2.1.1.1.size:=ax.l;exact ak (aa.pair dQ.s (af.pair dQ.s (ax.one)))
theorem axb:∀x:U afP,x.2.1.1.1.size<=100000->av (L2 x) (λy=>fb (bP jX) x.2.1 y.2.1 y.1.1):=by
 intro x aM;unfold L2;refine ae (rS _ aG) (λaq h=>?_);refine ae (me jX Uz ag6 E6 (λz=>z.1.2.2.1) (λz=>z.1.2.2.2.1.1) (λz=>z.2.1) (λy=>y.1.1) (λy=>y.2.1) (λ_=>True) (λ_=>True) (λz _ az ah aW ai=>?_) (λz _ ai=>?_) x.2.1 _ aG rfl h aM) (λaS a8=>ak a8.1)
 ·unfold E6;refine av.fX ?_;refine ag (λ_=>?_) (λq=>by rw[ah] at q;cases q);refine ae (axV _ ai) (λaB af=>?_);refine ae (dq (by simp only[b7];omega)) (λcg ax=>?_);rw[fu (by simp)] at ax;exact bz ⟨aG,by dsimp only;simp only[aL];omega,aB.1.1,ax.1,af⟩
 ·unfold E6;refine ag (λaz=>?_) (λ_=>a6 ⟨rfl,rfl,aG⟩);simp only[b8,aL] at az;have ah:z.2.1.2.1=true:=by rcases ai with q|q;omega;exact q
  exact ag (λq=>by rw[ah] at q;cases q) (λ_=>a6 ⟨rfl,rfl,aG⟩)
theorem axY:∀x:U agi,x.2.1.1.1.size<=100000->av (Mb x) (λy=>fb je x.2.1 y.2.1 y.1.1):=by
 intro x aM;unfold Mb;refine ae (rk _ aG) (λaq aa=>?_);have dF:aq.2.1.1.1.size<=x.2.1.1.1.size:=aa.l;refine ae (axt _ (by dsimp only;omega)) (λaB af=>?_);have ea:aB.2.1.1.1.size<=aq.2.1.1.1.size:=af.l;refine ae (axb _ (by dsimp only;omega)) (λaK ax=>?_);have cg:aK.2.1.1.1.size<=aB.2.1.1.1.size:=ax.l;exact ak (aa.pair dQ.s (af.pair Fm.l (ax.one)))
theorem axg:∀x:U afS,x.2.1.1.1.size<=100000->av (L3 x) (λy=>fb (bP je) x.2.1 y.2.1 y.1.1):=by
 intro x aM;unfold L3;refine ae (rS _ aG) (λaq h=>?_);refine ae (me je Fl ag5 E7 (λz=>z.1.2.2.1) (λz=>z.1.2.2.2.1.1) (λz=>z.2.1) (λy=>y.1.1) (λy=>y.2.1) (λ_=>True) (λ_=>True) (λz _ az ah aW ai=>?_) (λz _ ai=>?_) x.2.1 _ aG rfl h aM) (λaS a8=>ak a8.1)
 ·unfold E7;refine av.fX ?_;refine ag (λ_=>?_) (λq=>by rw[ah] at q;cases q);refine ae (axY _ ai) (λaB af=>?_);refine ae (dq (by simp only[b7];omega)) (λcg ax=>?_);rw[fu (by simp)] at ax;exact bz ⟨aG,by dsimp only;simp only[aL];omega,aB.1.1,ax.1,af⟩
 ·unfold E7;refine ag (λaz=>?_) (λ_=>a6 ⟨rfl,rfl,aG⟩);simp only[b8,aL] at az;have ah:z.2.1.2.1=true:=by rcases ai with q|q;omega;exact q
  exact ag (λq=>by rw[ah] at q;cases q) (λ_=>a6 ⟨rfl,rfl,aG⟩)
theorem axK:∀x:U agb,x.2.2.1.1.1.size<=100000->av (L' x) (λy=>fb kA x.2.2.1 y.2.2.1 y.1.1):=by
 intro x aM;unfold L';refine ae (uU _ aG) (λaq aa=>?_);have dF:aq.2.1.1.1.size<=x.2.2.1.1.1.size:=aa.l;refine ae (rk _ aG) (λaB af=>?_);have ea:aB.2.1.1.1.size<=aq.2.1.1.1.size:=af.l;refine ae (afv _ (by dsimp only;omega)) (λaK ax=>?_);have cg:aK.2.1.1.1.size<=aB.2.1.1.1.size:=ax.l;exact ak (aa.pair dQ.i (af.pair dQ.s (ax.one)))
theorem axl:∀x:U afV,x.2.1.1.1.size<=100000->av (L4 x) (λy=>fb (bP kA) x.2.1 y.2.1 y.1.1):=by
 intro x aM;unfold L4;refine ae (rS _ aG) (λaq h=>?_);refine ae (me kA UA ag8 E8 (λz=>z.1.2.2.1) (λz=>z.1.2.2.2.1.1) (λz=>z.2.1) (λy=>y.1.1) (λy=>y.2.1) (λ_=>True) (λ_=>True) (λz _ az ah aW ai=>?_) (λz _ ai=>?_) x.2.1 _ aG rfl h aM) (λaS a8=>ak a8.1)
 ·unfold E8;refine av.fX ?_;refine ag (λ_=>?_) (λq=>by rw[ah] at q;cases q);refine ae (axK _ ai) (λaB af=>?_);refine ae (dq (by simp only[b7];omega)) (λcg ax=>?_);rw[fu (by simp)] at ax;exact bz ⟨aG,by dsimp only;simp only[aL];omega,aB.1.1,ax.1,af⟩
 ·unfold E8;refine ag (λaz=>?_) (λ_=>a6 ⟨rfl,rfl,aG⟩);simp only[b8,aL] at az;have ah:z.2.1.2.1=true:=by rcases ai with q|q;omega;exact q
  exact ag (λq=>by rw[ah] at q;cases q) (λ_=>a6 ⟨rfl,rfl,aG⟩)
theorem axN:∀x:U agc,x.2.1.1.1.size<=100000->av (L_ x) (λy=>fb jW x.2.1 y.2.1 y.1.1):=by
 intro x aM;unfold L_;refine ae (rk _ aG) (λaq aa=>?_);have dF:aq.2.1.1.1.size<=x.2.1.1.1.size:=aa.l;refine ae (axl _ (by dsimp only;omega)) (λaB af=>?_);have ea:aB.2.1.1.1.size<=aq.2.1.1.1.size:=af.l;exact ak (aa.pair dQ.s (af.one))
theorem aw8:∀x:U afM,x.2.1.1.1.size<=100000->av (L1 x) (λy=>fb (bP jW) x.2.1 y.2.1 y.1.1):=by
 intro x aM;unfold L1;refine ae (rS _ aG) (λaq h=>?_);refine ae (me jW Fk ag3 E5 (λz=>z.1.2.2.1) (λz=>z.1.2.2.2.1.1) (λz=>z.2.1) (λy=>y.1.1) (λy=>y.2.1) (λ_=>True) (λ_=>True) (λz _ az ah aW ai=>?_) (λz _ ai=>?_) x.2.1 _ aG rfl h aM) (λaS a8=>ak a8.1)
 ·unfold E5;refine av.fX ?_;refine ag (λ_=>?_) (λq=>by rw[ah] at q;cases q);refine ae (axN _ ai) (λaB af=>?_);refine ae (dq (by simp only[b7];omega)) (λcg ax=>?_);rw[fu (by simp)] at ax;exact bz ⟨aG,by dsimp only;simp only[aL];omega,aB.1.1,ax.1,af⟩
 ·unfold E5;refine ag (λaz=>?_) (λ_=>a6 ⟨rfl,rfl,aG⟩);simp only[b8,aL] at az;have ah:z.2.1.2.1=true:=by rcases ai with q|q;omega;exact q
  exact ag (λq=>by rw[ah] at q;cases q) (λ_=>a6 ⟨rfl,rfl,aG⟩)
theorem awJ:∀x:U afx,x.2.1.1.1.size<=100000->av (LW x) (λy=>fb (bP gx) x.2.1 y.2.1 y.1.1):=by
 intro x aM;unfold LW;refine ae (rS _ aG) (λaq h=>?_);refine ae (me gx zv agY E0 (λz=>z.1.2.2.1) (λz=>z.1.2.2.2.1.1) (λz=>z.2.1) (λy=>y.1.1) (λy=>y.2.1) (λ_=>True) (λ_=>True) (λz _ az ah aW ai=>?_) (λz _ ai=>?_) x.2.1 _ aG rfl h aM) (λaS a8=>ak a8.1)
 ·unfold E0;refine av.fX ?_;refine ag (λ_=>?_) (λq=>by rw[ah] at q;cases q);refine ae (af8 _ aG) (λaB af=>?_);refine ae (dq (by simp only[b7];omega)) (λcg ax=>?_);rw[fu (by simp)] at ax;exact bz ⟨aG,by dsimp only;simp only[aL];omega,aB.1.1,ax.1,af⟩
 ·unfold E0;refine ag (λaz=>?_) (λ_=>a6 ⟨rfl,rfl,aG⟩);simp only[b8,aL] at az;have ah:z.2.1.2.1=true:=by rcases ai with q|q;omega;exact q
  exact ag (λq=>by rw[ah] at q;cases q) (λ_=>a6 ⟨rfl,rfl,aG⟩)
theorem af1:∀x:U afY,x.2.1.1.1.size<=100000->av (E9 x) (λy=>fb (bP kR) x.2.1 y.2.1 y.1.1):=by
 intro x aM;unfold E9;refine ae (rS _ aG) (λaq h=>?_);refine ae (me kR A8 ag1 E_ (λz=>z.1.2.2.1) (λz=>z.1.2.2.2.1.1) (λz=>z.2.1) (λy=>y.1.1) (λy=>y.2.1) (λ_=>True) (λ_=>True) (λz _ az ah aW ai=>?_) (λz _ ai=>?_) x.2.1 _ aG rfl h aM) (λaS a8=>ak a8.1)
 ·unfold E_;refine av.fX ?_;refine ag (λ_=>?_) (λq=>by rw[ah] at q;cases q);refine ae (uU _ aG) (λaB af=>?_);refine ae (dq (by simp only[b7];omega)) (λcg ax=>?_);rw[fu (by simp)] at ax;exact bz ⟨aG,by dsimp only;simp only[aL];omega,(aB.1.1,()),ax.1,af.one⟩
 ·unfold E_;refine ag (λaz=>?_) (λ_=>a6 ⟨rfl,rfl,aG⟩);simp only[b8,aL] at az;have ah:z.2.1.2.1=true:=by rcases ai with q|q;omega;exact q
  exact ag (λq=>by rw[ah] at q;cases q) (λ_=>a6 ⟨rfl,rfl,aG⟩)
theorem axA:∀x:U af9,True->av (L8 x) (λy=>fb kj x.2.2.1 y.2.2.1 y.1.1):=by
 intro x aM;unfold L8;refine ae (rk _ aG) (λaq aa=>?_);refine ae (uU _ aG) (λaB af=>?_);refine ae (uU _ aG) (λaK ax=>?_);exact ak (aa.pair dQ.s (af.pair dQ.i (ax.one)))
theorem aw3:∀x:U afJ,x.2.1.1.1.size<=100000->av (L0 x) (λy=>fb (bP kj) x.2.1 y.2.1 y.1.1):=by
 intro x aM;unfold L0;refine ae (rS _ aG) (λaq h=>?_);refine ae (me kj Fj ag2 E4 (λz=>z.1.2.2.1) (λz=>z.1.2.2.2.1.1) (λz=>z.2.1) (λy=>y.1.1) (λy=>y.2.1) (λ_=>True) (λ_=>True) (λz _ az ah aW ai=>?_) (λz _ ai=>?_) x.2.1 _ aG rfl h aM) (λaS a8=>ak a8.1)
 ·unfold E4;refine av.fX ?_;refine ag (λ_=>?_) (λq=>by rw[ah] at q;cases q);refine ae (axA _ aG) (λaB af=>?_);refine ae (dq (by simp only[b7];omega)) (λcg ax=>?_);rw[fu (by simp)] at ax;exact bz ⟨aG,by dsimp only;simp only[aL];omega,aB.1.1,ax.1,af⟩
 ·unfold E4;refine ag (λaz=>?_) (λ_=>a6 ⟨rfl,rfl,aG⟩);simp only[b8,aL] at az;have ah:z.2.1.2.1=true:=by rcases ai with q|q;omega;exact q
  exact ag (λq=>by rw[ah] at q;cases q) (λ_=>a6 ⟨rfl,rfl,aG⟩)
theorem axD:∀x:U af_,x.2.2.1.1.1.size<=100000->av (L9 x) (λy=>fb jV x.2.2.1 y.2.2.1 y.1.1):=by
 intro x aM;unfold L9;refine ae (rk _ aG) (λaq aa=>?_);have dF:aq.2.1.1.1.size<=x.2.2.1.1.1.size:=aa.l;refine ae (rk _ aG) (λaB af=>?_);have ea:aB.2.1.1.1.size<=aq.2.1.1.1.size:=af.l;refine ae (af1 _ (by dsimp only;omega)) (λaK ax=>?_);have cg:aK.2.1.1.1.size<=aB.2.1.1.1.size:=ax.l;exact ak (aa.pair dQ.s (af.pair dQ.s (ax.one)))
theorem awT:∀x:U afD,x.2.1.1.1.size<=100000->av (LY x) (λy=>fb (bP jV) x.2.1 y.2.1 y.1.1):=by
 intro x aM;unfold LY;refine ae (rS _ aG) (λaq h=>?_);refine ae (me jV Uw agZ E2 (λz=>z.1.2.2.1) (λz=>z.1.2.2.2.1.1) (λz=>z.2.1) (λy=>y.1.1) (λy=>y.2.1) (λ_=>True) (λ_=>True) (λz _ az ah aW ai=>?_) (λz _ ai=>?_) x.2.1 _ aG rfl h aM) (λaS a8=>ak a8.1)
 ·unfold E2;refine av.fX ?_;refine ag (λ_=>?_) (λq=>by rw[ah] at q;cases q);refine ae (axD _ ai) (λaB af=>?_);refine ae (dq (by simp only[b7];omega)) (λcg ax=>?_);rw[fu (by simp)] at ax;exact bz ⟨aG,by dsimp only;simp only[aL];omega,aB.1.1,ax.1,af⟩
 ·unfold E2;refine ag (λaz=>?_) (λ_=>a6 ⟨rfl,rfl,aG⟩);simp only[b8,aL] at az;have ah:z.2.1.2.1=true:=by rcases ai with q|q;omega;exact q
  exact ag (λq=>by rw[ah] at q;cases q) (λ_=>a6 ⟨rfl,rfl,aG⟩)
theorem axG:∀x:U af',x.2.1.1.1.size<=100000->av (L7 x) (λy=>fb g5 x.2.1 y.2.1 y.1.1):=by
 intro x aM;unfold L7;refine ae (uU _ aG) (λaq aa=>?_);have dF:aq.2.1.1.1.size<=x.2.1.1.1.size:=aa.l;refine ae (uU _ aG) (λaB af=>?_);have ea:aB.2.1.1.1.size<=aq.2.1.1.1.size:=af.l;refine ae (uU _ aG) (λaK ax=>?_);have cg:aK.2.1.1.1.size<=aB.2.1.1.1.size:=ax.l;refine ae (Ul _ aG) (λaS a8=>?_);have jj:aS.2.1.1.1.size<=aK.2.1.1.1.size:=a8.l;refine ae (rk _ aG) (λa9 cn=>?_);have gV:a9.2.1.1.1.size<=aS.2.1.1.1.size:=cn.l;refine ae (rk _ aG) (λbJ da=>?_);have iB:bJ.2.1.1.1.size<=a9.2.1.1.1.size:=da.l;refine ae (af1 _ (by dsimp only;omega)) (λbK dS=>?_);have iV:bK.2.1.1.1.size<=bJ.2.1.1.1.size:=dS.l;refine ae (aw3 _ (by dsimp only;omega)) (λcl ez=>?_);have jK:cl.2.1.1.1.size<=bK.2.1.1.1.size:=ez.l;refine ae (awT _ (by dsimp only;omega)) (λbO dM=>?_);have j2:bO.2.1.1.1.size<=cl.2.1.1.1.size:=dM.l;exact ak (aa.pair dQ.i (af.pair dQ.i (ax.pair dQ.i (a8.pair dQ.i (cn.pair dQ.s (da.pair dQ.s (dS.pair A8.l (ez.pair Fj.l (dM.one)))))))))
theorem awY:∀x:U afG,x.2.1.1.1.size<=100000->av (LZ x) (λy=>fb (bP g5) x.2.1 y.2.1 y.1.1):=by
 intro x aM;unfold LZ;refine ae (rS _ aG) (λaq h=>?_);refine ae (me g5 Ux ag0 E3 (λz=>z.1.2.2.1) (λz=>z.1.2.2.2.1.1) (λz=>z.2.1) (λy=>y.1.1) (λy=>y.2.1) (λ_=>True) (λ_=>True) (λz _ az ah aW ai=>?_) (λz _ ai=>?_) x.2.1 _ aG rfl h aM) (λaS a8=>ak a8.1)
 ·unfold E3;refine av.fX ?_;refine ag (λ_=>?_) (λq=>by rw[ah] at q;cases q);refine ae (axG _ ai) (λaB af=>?_);refine ae (dq (by simp only[b7];omega)) (λcg ax=>?_);rw[fu (by simp)] at ax;exact bz ⟨aG,by dsimp only;simp only[aL];omega,aB.1.1,ax.1,af⟩
 ·unfold E3;refine ag (λaz=>?_) (λ_=>a6 ⟨rfl,rfl,aG⟩);simp only[b8,aL] at az;have ah:z.2.1.2.1=true:=by rcases ai with q|q;omega;exact q
  exact ag (λq=>by rw[ah] at q;cases q) (λ_=>a6 ⟨rfl,rfl,aG⟩)
theorem axS:∀x:U agf,x.2.1.1.1.size<=100000->av (Ma x) (λy=>fb jd x.2.1 y.2.1 y.1.1):=by
 intro x aM;unfold Ma;refine ae (rk _ aG) (λaq aa=>?_);have dF:aq.2.1.1.1.size<=x.2.1.1.1.size:=aa.l;refine ae (awJ _ (by dsimp only;omega)) (λaB af=>?_);have ea:aB.2.1.1.1.size<=aq.2.1.1.1.size:=af.l;refine ae (uU _ aG) (λaK ax=>?_);have cg:aK.2.1.1.1.size<=aB.2.1.1.1.size:=ax.l;refine ae (awY _ (by dsimp only;omega)) (λaS a8=>?_);have jj:aS.2.1.1.1.size<=aK.2.1.1.1.size:=a8.l;exact ak (aa.pair dQ.s (af.pair zv.l (ax.pair dQ.i (a8.one))))
theorem awO:∀x:U afA,x.2.1.1.1.size<=100000->av (LX x) (λy=>fb (bP jd) x.2.1 y.2.1 y.1.1):=by
 intro x aM;unfold LX;refine ae (rS _ aG) (λaq h=>?_);refine ae (me jd Uy ag4 E1 (λz=>z.1.2.2.1) (λz=>z.1.2.2.2.1.1) (λz=>z.2.1) (λy=>y.1.1) (λy=>y.2.1) (λ_=>True) (λ_=>True) (λz _ az ah aW ai=>?_) (λz _ ai=>?_) x.2.1 _ aG rfl h aM) (λaS a8=>ak a8.1)
 ·unfold E1;refine av.fX ?_;refine ag (λ_=>?_) (λq=>by rw[ah] at q;cases q);refine ae (axS _ ai) (λaB af=>?_);refine ae (dq (by simp only[b7];omega)) (λcg ax=>?_);rw[fu (by simp)] at ax;exact bz ⟨aG,by dsimp only;simp only[aL];omega,aB.1.1,ax.1,af⟩
 ·unfold E1;refine ag (λaz=>?_) (λ_=>a6 ⟨rfl,rfl,aG⟩);simp only[b8,aL] at az;have ah:z.2.1.2.1=true:=by rcases ai with q|q;omega;exact q
  exact ag (λq=>by rw[ah] at q;cases q) (λ_=>a6 ⟨rfl,rfl,aG⟩)
def okB (l:List UInt8)(m:D jD):Prop:=l.length<=65536/\l=jv m++oX (ld (jv m))
theorem Am (n:Nat):(oX n).length=4:=rfl
theorem Kc:tu.length=4:=rfl
theorem Zr (m:D jD):3<=(jG m).length:=by
 unfold jG;simp only[bH,bP,bw];have aa:=EF (m.1.1.length:Nat);have af:=EF (m.2.1.1.length:Nat);have ax:=EF (m.2.2.1.1.length:Nat);omega
theorem okB.len {l m}(h:okB l m):l.length=8+(jG m).length:=by
 have:=congrArg List.length h.2;rw[bw,Am] at this;unfold jv at this;rw[bw,Kc] at this;omega
theorem YU {a:ByteArray}(h:a.size<=9223372036854775807):S a=⟨a,h⟩:=by unfold S;exact dif_pos h
theorem wB {s:dY}{a:ByteArray}(h:a.size<=9223372036854775807)(q:a7 s=a.data.toList):s=S a:=a7.inj (by rw[q,YU h];rfl)
theorem z0 {a:ByteArray}(h:a.size<=9223372036854775807):a7 (S a)=a.data.toList:=by rw[YU h];rfl
theorem Tv {s:dY}(h:4<=s.1.size):(gf (kf s) (W 4)).1=((s.1.size-4:Nat):Int):=by
 have:=S.b s;simp only[aL];omega
theorem avD:∀x:U aeH,True->av (LF x) (λy=>(y.1.2.1.1=0/\okB (a7 x.1.1) y.1.1)\/(y.1.2.1.1=3301/\y.1.1=(L.nil,L.nil,L.nil,())/\∀m,¬okB (a7 x.1.1) m)):=by
 intro x _;unfold LF;have aW:=a7.len x.1.1;have bS:(W 3301).1=3301:=rfl;have bad:(∀m,¬okB (a7 x.1.1) m)->av (some (((L.nil,L.nil,L.nil,()),(W (3301)),()),())) (λy:U aeI=>(y.1.2.1.1=0/\okB (a7 x.1.1) y.1.1)\/(y.1.2.1.1=3301/\y.1.1=(L.nil,L.nil,L.nil,())/\∀m,¬okB (a7 x.1.1) m)):=λh=>ak (.inr ⟨rfl,rfl,h⟩);refine ag (λah=>bad λm hm=>?_) (λah=>?_)
 ·simp only[b8,aL] at ah;have:=hm.len;have:=Zr m;omega
 simp only[b8,aL] at ah;refine ag (λaR=>bad λm hm=>?_) (λaR=>?_)
 ·simp only[b8,aL] at aR;have:=hm.1;omega
 simp only[b8,aL] at aR;have i4:(W 4).1=4:=rfl;refine ae (ur (by rw[i4];omega)) (λv1 aa=>?_);have aa:a7 v1=(a7 x.1.1).take 4:=aa;refine ag (λbM=>bad λm hm=>?_) (λbM=>?_)
 ·simp only[b8] at bM;apply bM;refine wB bu ?_;rw[aa,hm.2];unfold jv;rw[cN];rfl
 simp only[b8] at bM;have aa:(a7 x.1.1).take 4=tu:=by rw[<-aa,bM];exact z0 bu
 have aj:=Tv (s:=x.1.1) ab;refine ae (ur (by rw[aj];omega)) (λv2 af=>?_);rw[aj] at af;have af:a7 v2=(a7 x.1.1).take (x.1.1.1.size-4):=by rw[af];simp
 have ea:=congrArg List.length af;rw[a7.len,List.length_take,a7.len] at ea;rw[aj];refine ae (Af ab) (λcH ax=>?_);refine ae (LJ _ aG) (λaS a8=>?_);refine ae (afq _ aG) (λa9 cn=>?_);have cn:a7 a9.1.1=oX (ld (a7 v2)):=by rw[cn];dsimp only;rw[a8];rfl
 have parts:∀m,okB (a7 x.1.1) m->a7 v2=jv m/\a7 cH=oX (ld (jv m)):=λm hm=>by
  have az:=hm.len;have b6:(jv m).length=x.1.1.1.size-4:=by unfold jv;rw[bw,Kc];omega
  rw[af,ax.1,<-b6,hm.2,List.take_left,List.drop_left];exact⟨rfl,rfl⟩
 refine ag (λdn=>bad λm hm=>?_) (λdn=>?_)
 ·simp only[b8] at dn;apply dn;obtain⟨eS,fI⟩:=parts m hm;exact a7.inj (by rw[cn,eS,fI])
 simp only[b8] at dn;have aqh:a7 cH=oX (ld (a7 v2)):=by rw[<-dn];exact cn
 refine ae (Af (k:=4) ab) (λv6 da=>?_);have pZ:a7 v2=tu++a7 v6:=by
  rw[da.1,<-aa,af];have:(a7 x.1.1).take 4=((a7 x.1.1).take (x.1.1.1.size-4)).take 4:=by rw[List.take_take];congr 1;omega
  rw[this,List.take_append_drop]
 have aO:a7 x.1.1=tu++a7 v6++oX (ld (tu++a7 v6)):=by
  rw[<-pZ,<-aqh,af,ax.1,List.take_append_drop]
 have iB:=da.2;refine ae (axg _ (by dsimp only;omega)) (λbK gz=>?_);have AR:bK.2.1.1.1.size<=v6.1.size:=gz.l;refine ae (aw8 _ (by dsimp only;omega)) (λcl hJ=>?_);have aQK:cl.2.1.1.1.size<=bK.2.1.1.1.size:=hJ.l;refine ae (awO _ (by dsimp only;omega)) (λbO ic=>?_);have g:fb jG (v6,false,()) bO.2.1 (bK.1.1,cl.1.1,bO.1.1,()):=gz.pair Fl.l (hJ.pair Fk.l ic.one);have A1:∀m,okB (a7 x.1.1) m->a7 v6=jG m:=λm hm=>by
  have:=(parts m hm).1;rw[pZ] at this;unfold jv at this;exact List.append_cancel_left this
 refine ag (λdP=>bad λm hm=>?_) (λdP=>?_)
 ·have dP:bO.2.1.2.1=true:=dP;exact g.n rfl dP m [] (by rw[dr];exact A1 m hm)
 have dP:bO.2.1.2.1=false:=dP;have cj:=g.g rfl dP;dsimp only at cj;refine ag (λfO=>bad λm hm=>?_) (λfO=>?_)
 ·simp only[b8] at fO;apply fO;refine wB bu ?_;rw[A1 m hm] at cj;have yH:jG m++[]=jG (bK.1.1,cl.1.1,bO.1.1,())++a7 bO.2.1.1:=by rw[dr];exact cj
  exact(Mv _ _ _ _ yH).2.symm
 ·simp only[b8] at fO;rw[fO,z0 bu] at cj;refine ak (.inl ⟨rfl,ab,?_⟩);rw[aO];have:a7 v6=jG (bK.1.1,cl.1.1,bO.1.1,()):=by rw[cj];simp
  unfold jv;rw[this]
theorem apK {α:Type}{c:α->List UInt8}{l:List α}{B:Nat}(h:aN (λa=>(c a).length<=B) l):(l.flatMap c).length<=l.length*B:=by
 induction l with
 |nil=>simp
 |cons a l cu=>
  have aa:(c a).length<=B:=h 0 a rfl;have af:=cu λj e he=>h (j+1) e he;rw[List.flatMap_cons,bw,gX,Nat.succ_mul];omega
theorem tj {α:Type}{c:α->List UInt8}{l:L α}{B n:Nat}(h:aN (λa=>(c a).length<=B) l.1)(az:l.1.length<=n):(bP c l).length<=10+n*B:=by
 unfold bP;rw[bw];have aa:=LA (l.1.length:Nat);have af:=apK h;have ax:=nu B az;omega
theorem rE {s:dY}{n:Nat}(h:s.1.size<=n):(gJ s).length<=10+n:=by
 unfold gJ;rw[bw,a7.len];have aa:=LA (s.1.size:Nat);omega
theorem th (n:a_ .i64):(g6 n).length<=10:=LA _
theorem acn {l:L (D [.int .i64])}{n:Nat}(h:l.1.length<=n):(bP kR l).length<=10+n*10:=
 tj (λj e he=>by unfold kR bH bX;simp;exact th _) h
theorem asA {x:D eI}(h:wv x):(g5 x).length<=1200:=by
 unfold g5;simp only[bH,bX,bw,cd];have i1:=th x.1;have i2:=th x.2.1;have i3:=th x.2.2.1;have i4:=th x.2.2.2.1;have s1:=rE h.s;have s2:=rE h.t;have dK:=acn h.a;have p_:=tj (c:=kj) (B:=42) (h.wl.imp λj aw=>by
  unfold kj;simp only[bH,bX,bw,cd];have:=rE aw;have:=th j.2.1;have:=th j.2.2.1
  omega) h.w
 have aa:=tj (c:=jV) (B:=114) (h.aM.imp λc an=>by
  unfold jV;simp only[bH,bX,bw,cd];have:=rE an.1;have:=rE an.2.1;have:=acn an.2.2
  omega) h.h
 omega
theorem mod_le {m:D jD}(h:Jb m):(jG m).length<=100000000:=by
 unfold jG;simp only[bH,bX,bw,cd];have aa:=tj (c:=je) (B:=20000) (h.ct.imp λp bL=>by
  unfold je;simp only[bH,bX,bw,cd];have:=rE bL.rP;have:=tj (c:=k0) (B:=22) (bL.rs.imp λr aU=>by
   unfold k0;simp only[bH,bX,bw,cd];have:=rE aU.2
   omega) bL.gl
  have:=tj (c:=jX) (B:=600) (bL.ct.imp λq aA=>by
   unfold jX;simp only[bH,bX,bw,cd];have:=rE aA.1;have:=rE aA.2.1;have:=tj (c:=iJ) (B:=77) (aA.2.2.1.2.imp λa bZ=>by
    unfold iJ;simp only[bH,bX,bw,cd];have:=rE bZ.1;have:=th a.2.1;have:=rE bZ.2.1;have:=th a.2.2.2.1
    omega) aA.2.2.1.1
   omega) bL.fI
  omega) h.p
 have af:=tj (c:=jW) (B:=0) (l:=m.2.1) (n:=0) (λj e he=>by have:=(ep.1 he).1;have:=h.l;omega) (by have:=h.l;omega);have ax:=tj (c:=jd) (B:=1000000) (h.MG.imp λq aA=>by
  unfold jd;simp only[bH,bX,bw,cd];have:=rE aA.n;have:=tj (c:=gx) (B:=45) (aA.UE.imp λr aU=>by
   unfold gx;simp only[bH,bX,bw,cd];have:=th r.1;have:=rE aU
   omega) aA.p
  have:=th q.2.2.1;have:=tj (c:=g5) (B:=1200) (aA.iv.imp λi aj=>asA aj) aA.k
  omega) h.q
 omega
theorem aNY:∀x:U amI,True->av (QJ x) (λy=>y.1.1=true):=by
 intro x _;unfold QJ;have gv:jv (L.nil,L.nil,L.nil,())=[82,80,84,49,0,0,0]:=by decide+kernel
 refine ae (avI _ (by show(jG (L.nil,L.nil,L.nil,())).length<=_;decide+kernel)) (λaq aa=>?_);dsimp only at aa;rw[gv,if_neg bu] at aa;obtain⟨p_,eX⟩:=aa;have wl:=congrArg List.length p_;rw[a7.len] at wl;have wl:aq.1.1.1.size=11:=wl;refine ae (EG _ aG) (λaB af=>?_);have af:aB.1.1=S ⟨#[0]⟩:=wB bu (by rw[af];decide+kernel);refine ag (λ_=>?_) (λq=>by simp only[b8] at q;exact absurd af q);refine ae (EG _ aG) (λaK ax=>?_);have ax:aK.1.1=S ⟨#[1]⟩:=wB bu (by rw[ax];decide+kernel);refine ag (λ_=>?_) (λq=>by simp only[b8] at q;exact absurd ax q);refine ae (EG _ aG) (λaS a8=>?_);have a8:aS.1.1=S ⟨#[128,1]⟩:=wB bu (by rw[a8];decide+kernel);refine ag (λ_=>?_) (λq=>by simp only[b8] at q;exact absurd a8 q);refine ag (λ_=>?_) (λq=>by simp only[b8] at q;exact absurd eX q);refine ag (λ_=>?_) (λq=>by simp only[b8,aL] at q;omega);have i7:(W 7).1=7:=rfl;refine ae (ur (by rw[i7];omega)) (λcQ cn=>?_);have cn:cQ=S ⟨#[82,80,84,49,0,0,0]⟩:=wB bu (by rw[cn,p_];rfl);refine ag (λ_=>?_) (λq=>by simp only[b8] at q;exact absurd cn q);refine ae (LJ _ aG) (λbJ da=>?_);refine ak ?_;simp only[b8];rw[da];dsimp only
 rw[z0 bu];rfl
theorem ayQ:∀x:U agP,1<=x.1.2.1.1->av (Mz x) (λy=>0<=y.1.1.1/\y.1.1.1<x.1.2.1.1):=by
 intro x h;unfold Mz;have cY:=a_.qm x.1.1;have eT:=a_.qm x.1.2.1;refine ag (λah=>by simp only[b8,aL] at ah;omega) (λ_=>?_);have az:(ey .u64 x.1.2.1).1=x.1.2.1.1:=by simp only[aL];omega
 have he:0<=(ey .u64 x.1.1).1:=by simp only[aL];omega
 refine ae (vO (by rw[az];omega)) (λv1 pY=>?_);have hm:=Lr he (b:=(ey .u64 x.1.2.1).1) (by rw[az];omega);rw[az] at hm pY;have aT:(ey .i64 v1).1=Int.tmod (ey .u64 x.1.1).1 x.1.2.1.1:=by rw[o8,pY,mH,wrap64];omega
 exact ak ⟨by dsimp only;rw[aT];exact hm.1,by dsimp only;rw[aT];exact hm.2⟩
theorem ayN:∀x:U agO,(um x.1.1/\x.1.1.2.1.1.length=0)->av (My x) (λy=>Jb y.1.1):=by
 intro x h;unfold My;exact ae (aE6 _ h) (λaq aa=>ak aa)
theorem an' (l:L (D [.int .u8]))(q:Nat)(e:D [.int .u8]):cM (ej l q e)=(cM l).set q (UInt8.ofNat e.1.1.toNat):=by
 unfold cM;show(l.1.set q e).map _=_;rw[List.map_set]
end cF
open Go.ChangeShapes Go.WideShapes Go.ChangeAt Go.RowKit
theorem own:ownKnob Tryz.prog.godebug=none:=by kernel_rfl
theorem laidOut:laidOutB Tryz.prog=true:=by kernel_rfl
theorem add_plain (b off i:Nat):(⟨b,off,none⟩:Addr).add i=⟨b,off+i,none⟩:=by
 unfold Addr.add;split<;>simp_all
section
variable{H:Type}{enc:TypeId×Value->H}{P:Program}{w:World}{base:Nat}{spare:Nat->Bool}{held:Bool}
theorem aNL {a:Addr}{xs:List Value}(h:∀i u,xs[i]?=some u->w.cell? (a.add i)=some u):kx w (some a) xs:=λaz=>by
 obtain⟨b,off,spot⟩:=a;have ba:0<xs.length:=List.length_pos_iff.2 az;have an:=h 0 _ (fG ba);have ar7:spot=none:=by simpa[Addr.add] using World.cell?_spot an
 subst ar7;refine⟨b,off,rfl,?_,λi u hu=>by rw[<-add_plain];exact h i u hu⟩;rw[add_plain] at an;exact World.block_lt_of_cell? w _ an
end
section
variable{H:Type}{enc:TypeId×Value->H}{P:Program}{w:World}{base:Nat}{spare:Nat->Bool}{held:Bool}
theorem asC {r:Reach}{cT:Nat}{t e:TypeId}{v:Value}{d:DataW H}{p:List MemPlace}(bR:P.underlying t=some (.slice e))(he:P.underlying e=some (.int .i64))(an:P.cellsOf e=1)(aT:Value.okWide P w r cT t v)(h:DataW.Trod enc P w base spare held t v d p):
 ∃(A:Option Addr) (l:List Int) (c:Nat),v=.slice A l.length c/\l.length<=c/\c<=maxLen/\kx w A (l.map (.int .i64))/\∀n∈l,(Lit.int .i64 n).wf=true:=by
 obtain⟨a0,len,cap,rfl⟩:=okWide_slice bR aT;obtain⟨fuel,bE⟩:=h;rcases open_ints bR he an bE with⟨lg,_⟩|⟨x,l,c,ss,lg,_,aW,hm,ai,_,pP,ab9⟩
 ·simp[Value.cells] at lg;obtain⟨rfl,rfl,rfl⟩:=lg;exact⟨none,[],0,rfl,Nat.le_refl _,Nat.zero_le _,kx.nil,by simp⟩
 ·simp[Value.cells] at lg;obtain⟨rfl,rfl,rfl⟩:=lg;have hle:len<=ss.length:=by rw[ai];split<;>omega
  have hlen:(ss.take len).length=len:=by rw[List.length_take,Nat.min_eq_left hle]
  refine⟨some x,ss.take len,cap,by rw[hlen],by rw[hlen];exact aW,hm,?_,λs aM=>ab9 s (List.mem_of_mem_take aM)⟩;refine aNL λi u hu=>?_;rw[List.getElem?_map] at hu;have aj:i<len:=by
   rcases kz i len with aa|aa
   ·exact aa
   ·rw[List.getElem?_eq_none ab] at hu;cases hu
  rw[pP i ab];rw[List.getElem?_take_of_lt aj,fG ab] at hu;rw[<-hu,List.getD,fG ab];rfl
end
end Go.Proofs.YtgmdfchkljaooaaGreat
