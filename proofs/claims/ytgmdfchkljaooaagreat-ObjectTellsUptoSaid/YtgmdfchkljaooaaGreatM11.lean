/- The typed functions come to something (printed by gen/twokrun.py). -/
import Derived.Laws.BitsAllLaws
import Derived.ProofKit
import Derived.OpenShut
import Derived.ShutString
import Derived.ChangeOld
import Derived.Below
import Derived.SliceStrings
import Derived.ChangeSlices
import Derived.Test.YtgmdfchkljaooaaGreatM01
import Derived.Test.YtgmdfchkljaooaaGreatM06
import Derived.Test.YtgmdfchkljaooaaGreatM07
import Derived.Test.YtgmdfchkljaooaaGreatM10
noncomputable section
namespace Go.Proofs.YtgmdfchkljaooaaGreat
namespace cx
set_option linter.unusedVariables false
set_option linter.unusedSimpArgs false
set_option maxRecDepth 100000
def gZ (d:D [.aR [.int .i64],.int .i64]):Prop:=0<=d.2.1.1/\d.1.1.length<=1000000000
theorem KU {a b:Int}(cf:0<=a)(ah:0<b):0<=Int.tmod a b/\Int.tmod a b<b:=⟨Int.tmod_nonneg _ cf,Int.tmod_lt_of_pos _ ah⟩
theorem jK:∀x:U aco,gZ x.2.1->aw (ia x) (λy=>gZ y.2.1/\0<=y.1.1.1/\(1<=x.1.2.1.1->y.1.1.1<x.1.2.1.1)):=by
 intro x aE;obtain⟨aa,af⟩:=aE;unfold ia;have c4:=bc.ry x.1.2.1;have fD:=bc.ry x.2.1.2.1;apply ag<;>intro aC;simp only[cG,aM] at aC;exact ak ⟨⟨aa,af⟩,by show 0<=(W 0).1;decide,λq=>by omega⟩;simp only[cG,aM] at aC;apply ag<;>intro aV;have i0:(W 0).1=0:=rfl;exact ak ⟨⟨aa,af⟩,by dsimp only;rw[i0];omega,λq=>by dsimp only;rw[i0];omega⟩;simp only[cG,aM] at aV;refine ae (c5 (by simp only[aM];omega)) λaD ct=>?_;have ij:=bc.ry aD.1;have aA:(eN .u64 x.1.2.1).1=x.1.2.1.1:=by simp only[aM];omega
 have he:0<=(eN .u64 aD.1).1:=by simp only[aM];omega
 refine ae (me (by rw[aA];omega)) λv2 tA=>?_;have hm:=KU he (b:=(eN .u64 x.1.2.1).1) (by rw[aA];omega);rw[aA] at hm tA;have aL:(eN .i64 v2).1=Int.tmod (eN .u64 aD.1).1 x.1.2.1.1:=by rw[q6,tA,oD,wrap64];omega
 refine ak ⟨⟨by dsimp only;simp only[aM];omega,af⟩,by dsimp only;rw[aL];exact hm.1,λq=>by dsimp only;rw[aL];exact hm.2⟩
def pn (p:D dE):Prop:=p.1.1.size<=12/\2<=p.2.1.1.length/\p.2.1.1.length<=5/\aJ (λr:D [.str]=>r.1.1.size<=12) p.2.1.1
def xV (ck:List (D dE)):Prop:=1<=ck.length/\ck.length<=2/\aJ pn ck
theorem acX (go:ee)(ts ro:L (D [.str])):∀(n i:Nat)(d:D [.aR [.int .i64],.int .i64]),gZ d->(∀d,gZ d->aw (ze (((),ts,()),(d,()))) (λy=>gZ y.2.1))->aw (uI go ts ro n i d) (λr=>gZ r.2)
 |0,i,d,h,_=>ak h
 |n+1,i,d,h,an=>by
  refine ae (an d h) λy b7=>?_;refine ae (acX go ts ro n (i+1) y.2.1 b7 an) λr aO=>?_;exact ak aO
theorem asA:∀x:U acp,(x.1.1.1.length<=1000000000)->aw (Ks x) (λy=>gZ y.2.1):=by
 intro x aE;unfold Ks;have cn:(L.nil:L (D [.int .i64])).1.length=0:=rfl;refine ae (du ab) λdk kT=>?_;exact ak ⟨(by show 0<=(W 0).1;decide),by have:=kT.2;dsimp only;omega⟩
theorem acW:∀x:U acT,(True)->aw (zg x) (λy=>y.1.1.1.length=5/\aJ (λr:D [.str]=>r.1.1.size<=12) y.1.1.1):=by
 intro x aE;unfold zg;exact ak (by dsimp only;rw[fI (by simp)];refine⟨rfl,?_⟩;intro j e he;match j,he with|0,he=>(cases he;decide)|1,he=>(cases he;decide)|2,he=>(cases he;decide)|3,he=>(cases he;decide)|4,he=>(cases he;decide)|j+5,he=>cases he)
theorem acM:∀x:U acJ,(True)->aw (zf x) (λy=>y.1.1.1.length=4):=by
 intro x aE;unfold zf;exact ak (by dsimp only;rw[fI (by simp)];rfl)
theorem Kr:∀x:U ack,(gZ x.2.1)->aw (uH x) (λy=>gZ y.2.1):=by
 intro x aE;unfold uH;refine ae (jK _ aE) λaz cg=>?_;dsimp only at cg;obtain⟨eT,fK,gU⟩:=cg;have lZ:=gU bk;have i6:(W 6).1=6:=rfl;refine ae (c5 (by(rw[fI (by simp)];simp only[gS,bN];omega))) λaQ cM=>?_;exact ak eT
theorem acI:∀x:U acG,(gZ x.2.1)->aw (ze x) (λy=>gZ y.2.1):=by
 intro x aE;unfold ze;have mv:=L.b x.1.2.1;apply ag<;>intro aC<;>simp only[av] at aC;refine ae (jK _ aE) λaz cg=>?_;dsimp only at cg;obtain⟨eT,fK,gU⟩:=cg;apply ag<;>intro aV<;>simp only[av] at aV;refine ae (jK _ eT) λaF cz=>?_;dsimp only at cz;obtain⟨cr,cI,dw⟩:=cz;have fe:aF.1.1.1<x.1.2.1.1.length:=dw (by show(1:Int)<=(x.1.2.1.1.length:Int);omega);refine bt λbO eG=>?_;exact ak cr;refine ae (Kr _ eT) λaY df=>?_;dsimp only at df;exact ak df;refine ae (Kr _ aE) λa5 cZ=>?_;dsimp only at cZ;exact ak cZ
theorem as7:∀x:U D8,((gZ x.2.1/\0<=x.1.2.2.2.2.1.1/\x.1.2.2.2.2.1.1<=10/\0<=x.1.2.2.2.2.2.1.1/\x.1.2.2.2.2.2.1.1<=10/\x.1.2.2.2.1.1=[]/\x.1.2.2.2.2.2.2.1.1=0)/\((0<=x.1.2.2.2.2.2.2.1.1)/\(x.1.2.2.2.2.2.2.1.1<=x.1.2.2.2.2.1.1)/\(gZ x.2.1/\(x.1.2.2.2.1.1.length:Int)=x.1.2.2.2.2.2.2.1.1)))->aw (a3 KF x) (λy=>gZ y.2.1):=by
 rintro x ⟨an,aj⟩;exact cQ (λz:U D8=>∃dU,∃v10,∃cR,z=(((),x.1.2.1,x.1.2.2.1,dU,x.1.2.2.2.2.1,x.1.2.2.2.2.2.1,v10,()),(cR,(),()))/\((0<=v10.1)/\(v10.1<=x.1.2.2.2.2.1.1)/\(gZ cR/\(dU.1.length:Int)=v10.1))) (λz:U D8=>(x.1.2.2.2.2.1.1-z.1.2.2.2.2.2.2.1.1).toNat) (λz ai=>by
  obtain⟨dU,v10,cR,rfl,aE⟩:=ai;unfold KF;dsimp only
  obtain⟨bx,cX,bH,cJ⟩:=aE;obtain⟨cW,dA,eR,iS,l8,m2,r8⟩:=an;have i4:(W 4).1=4:=rfl;have aP:(bj x.1.2.2.2.2.2.1 v10).1=x.1.2.2.2.2.2.1.1+v10.1:=by simp only[aM];omega
  apply ag<;>intro aC<;>simp only[av] at aC;refine ae (acM _ aK) λaT cF=>?_;dsimp only at cF;refine ae (me (by(rw[i4];decide))) λv4 ot=>?_;have hm:=KU (a:=(bj x.1.2.2.2.2.2.1 v10).1) (b:=4) ab ab;rw[i4,wrap64] at ot;refine ae (c5 (by(rw[cF];omega))) λdP fL=>?_;refine ae (acI _ bH) λbK dK=>?_;dsimp only at dK;refine ae (jK _ dK) λbL ez=>?_;dsimp only at ez;obtain⟨cr,cI,dw⟩:=ez;refine ae (du lM) λj0 oX=>?_;exact bz ⟨⟨_,_,_,rfl,(by(have aA:=dN v10 bx ab;rw[aA];exact⟨ab,ab,cr,by rw[oX.2];simp only[b5];omega⟩))⟩,(by have aA:=dN v10 bx ab;rw[aA];omega)⟩;exact a7 bH) x ⟨_,_,_,rfl,aj⟩
theorem as_:∀x:U acD,(gZ x.2.1)->aw (KE x) (λy=>gZ y.2.1):=by
 intro x aE;unfold KE;refine ae (jK _ aE) λaz cg=>?_;dsimp only at cg;obtain⟨eT,fK,gU⟩:=cg;have lZ:=gU bk;have i3:(W 3).1=3:=rfl;refine ae (jK _ eT) λaF cz=>?_;dsimp only at cz;obtain⟨cr,cI,dw⟩:=cz;have fe:=dw bk;have i4:(W 4).1=4:=rfl;have i0:(W 0).1=0:=rfl;refine ae (as7 _ (by dsimp only;refine⟨⟨cr,?_,?_,cI,ab,rfl,rfl⟩,bk,?_,cr,bk⟩<;>simp only[aM]<;>omega)) λbU dZ=>?_;dsimp only at dZ;exact ak dZ
theorem as3:∀x:U D7,((gZ x.2.1/\2<=x.1.2.1.1/\x.1.2.1.1<=5/\(x.2.2.1.2.1.1.length:Int)=x.1.2.1.1/\x.1.2.2.2.1.1<=10/\0<=x.1.2.2.2.1.1/\x.2.2.1.2.2.1.1=[]/\x.1.2.2.2.2.2.1.1=0)/\((0<=x.1.2.2.2.2.2.1.1)/\(x.1.2.2.2.2.2.1.1<=x.1.2.2.2.1.1)/\(gZ x.2.1/\(x.2.2.1.2.2.1.1.length:Int)=x.1.2.2.2.2.2.1.1)))->aw (a3 KD x) (λy=>gZ y.2.1/\y.2.2.1.1=x.2.2.1.1/\y.2.2.1.2.1=x.2.2.1.2.1/\y.2.2.1.2.2.1.1.length<=10):=by
 rintro x ⟨an,aj⟩;exact cQ (λz:U D7=>∃v11,∃cR,∃wC,z=(((),x.1.2.1,x.1.2.2.1,x.1.2.2.2.1,(),v11,()),(cR,(x.2.2.1.1,x.2.2.1.2.1,wC,()),(),(),()))/\((0<=v11.1)/\(v11.1<=x.1.2.2.2.1.1)/\(gZ cR/\(wC.1.length:Int)=v11.1))) (λz:U D7=>(x.1.2.2.2.1.1-z.1.2.2.2.2.2.1.1).toNat) (λz ai=>by
  obtain⟨v11,cR,wC,rfl,aE⟩:=ai;unfold KD;dsimp only
  obtain⟨bx,cX,bH,cJ⟩:=aE;obtain⟨cW,dA,eR,iS,l8,m2,r8,x6⟩:=an;apply ag<;>intro aC<;>simp only[av] at aC;refine ae (jK _ gk) λa5 cZ=>?_;dsimp only at cZ;obtain⟨eT,fK,gU⟩:=cZ;have lZ:=gU ab;have Sy:(eF x.1.2.1 (W 1)).1=x.1.2.1.1-1:=by simp only[aM];omega
  refine ae (jK _ gk) λbK dK=>?_;dsimp only at dK;obtain⟨cr,cI,dw⟩:=dK;have fe:=dw (by rw[Sy];omega);rw[Sy] at fe;have aP:(bj (bj a5.1.1 (W 1)) bK.1.1).1=a5.1.1.1+1+bK.1.1.1:=by simp only[aM];omega
  refine ae (me ab) λdU yS=>?_;have hm:=KU (a:=(bj (bj a5.1.1 (W 1)) bK.1.1).1) (b:=x.1.2.1.1) ab ab;rw[wrap64] at yS;refine bt λdG g_=>?_;refine bt λeS kG=>?_;refine ae (as_ _ gk) λcd ff=>?_;dsimp only at ff;refine ae (du lM) λrJ Dw=>?_;exact bz ⟨⟨_,_,_,rfl,(by(have aA:=dN v11 bx ab;rw[aA];exact⟨ab,ab,ff,by rw[Dw.2];simp only[b5];omega⟩))⟩,(by dsimp only;have aA:=dN v11 bx ab;rw[aA];omega)⟩;exact a7 (by dsimp only[Sum.elim];exact⟨bH,rfl,rfl,ab⟩)) x ⟨_,_,_,rfl,aj⟩
theorem Tj:∀x:U acA,(gZ x.2.1/\2<=x.1.2.2.1.1/\x.1.2.2.1.1<=5/\x.1.2.1.1.size<=12)->aw (AV x) (λy=>gZ y.2.1/\pn y.1.1):=by
 intro x aE;unfold AV;obtain⟨aa,af,ax,a8⟩:=aE;have cn:(L.nil:L (D [.str])).1.length=0:=rfl;refine ae (jK _ aa) λaz cg=>?_;dsimp only at cg;obtain⟨eT,fK,gU⟩:=cg;have lZ:=gU bk;have i6:(W 6).1=6:=rfl;refine ae (acW _ aK) λaF cz=>?_;dsimp only at cz;obtain⟨fQ,eQ⟩:=cz;refine ae (qd ab) λcK AK=>?_;obtain⟨cW,dA⟩:=AK;refine ae (du ab) λjk oW=>?_;obtain⟨d1,d2⟩:=oW;refine ae (as3 _ (by dsimp only;refine⟨⟨eT,af,ax,?_,?_,?_,rfl,rfl⟩,bk,?_,eT,bk⟩<;>(first|simp only[aM]|skip)<;>omega)) λcT e5=>?_;dsimp only at e5;obtain⟨ga,dc,fw,sA⟩:=e5;refine ae (du lM) λmz Dy=>?_;exact ak (by dsimp only;refine⟨ga,?_,?_,?_,?_⟩<;>(dsimp only)<;>first|(rw[dc];exact a8)|(rw[fw];(skip);omega)|(rw[fw];(skip);rw[d1,cW];exact aJ.nil.append eQ.drop.take))
theorem acY:∀x:U D9,(gZ x.2.1/\2<=x.1.2.2.1.1/\x.1.2.2.1.1<=5/\x.1.2.1.1.size<=12)->aw (zh x) (λy=>gZ y.2.1/\pn y.1.1):=by
 intro x aE;obtain⟨aa,af,ax,a8⟩:=aE;have i2:(bc.w .i64 2).1=2:=rfl;have i5:(bc.w .i64 5).1=5:=rfl;have cn:(L.nil:L (D [.str])).1.length=0:=rfl;unfold zh;refine ag (λ_=>?_) (λah=>by simp only[cG] at ah;omega);refine ag (λ_=>?_) (λah=>by simp only[cG] at ah;omega);refine ae (acW _ aK) λaz cg=>?_;obtain⟨fQ,eQ⟩:=cg;refine ae (qd (by rw[fQ];omega)) λv2 tA=>?_;obtain⟨cW,dA⟩:=tA;refine ae (du ab) λbT ko=>?_;obtain⟨d1,d2⟩:=ko;refine ae (acM _ aK) λaY df=>?_;have kn:pn (x.1.2.1,bT,L.nil,()):=⟨a8,by dsimp only;omega,by dsimp only;omega,by dsimp only;rw[d1,cW];exact aJ.nil.append (eQ.drop.take)⟩;have kn:∀z,pn (x.1.2.1,bT,z,()):=λz=>kn;refine ae (jK _ aa) λa5 cZ=>?_;obtain⟨eT,fK,gU⟩:=cZ;have gU:=gU (by show 1<=(bc.w .i64 2).1;decide);dsimp only at gU;rw[i2] at gU;refine ae (c5 (by rw[df];omega)) λdb fX=>?_;refine ae (jK _ eT) λcu fc=>?_;obtain⟨cr,cI,dw⟩:=fc;have dw:=dw (by show 1<=(bc.w .i64 2).1;decide);dsimp only at dw;rw[i2] at dw;refine ae (c5 (by rw[df];simp only[aM];omega)) λeS kG=>?_;refine ae (jK _ cr) λcd ff=>?_;refine ae (Kr _ ff.1) λbY e4=>?_;refine ae (acX _ _ _ _ _ _ e4 (λd bg=>acI _ bg)) λmF aa6=>?_;apply ag<;>intro _;refine ae (Kr _ aa6) λcA fG=>?_;exact ak ⟨fG,kn _⟩;exact ak ⟨aa6,kn _⟩
theorem asM:∀x:U acs,(gZ x.2.1/\x.1.2.1.1.size<=12)->aw (Kz x) (λy=>gZ y.2.1/\pn y.1.1):=by
 intro x aE;unfold Kz;refine ae (jK _ (by dsimp only;exact aE.1)) λaz cg=>?_;dsimp only at cg;obtain⟨eT,fK,gU⟩:=cg;have i2:(W 2).1=2:=rfl;have i3:(W 3).1=3:=rfl;apply ag<;>intro aC<;>simp only[av] at aC;refine ae (Tj _ (by dsimp only;exact⟨eT,bk,bk,aE.2⟩)) λaF cz=>?_;dsimp only at cz;exact ak (by dsimp only;exact cz);apply ag<;>intro aV<;>simp only[av] at aV;refine ae (jK _ (by dsimp only;exact eT)) λaT cF=>?_;dsimp only at cF;obtain⟨cr,cI,dw⟩:=cF;have fe:=dw bk;have aP:(bj (W 2) aT.1.1).1=2+aT.1.1.1:=by simp only[aM];omega
 refine ae (acY _ (by dsimp only;exact⟨cr,ab,ab,aE.2⟩)) λaY df=>?_;dsimp only at df;exact ak (by dsimp only;exact df);apply ag<;>intro bP<;>simp only[av] at bP;refine ae (Tj _ (by dsimp only;exact⟨eT,bk,bk,aE.2⟩)) λa5 cZ=>?_;dsimp only at cZ;exact ak (by dsimp only;exact cZ);refine ae (acY _ (by dsimp only;exact⟨eT,bk,bk,aE.2⟩)) λbK dK=>?_;dsimp only at dK;exact ak (by dsimp only;exact dK)
theorem acw:∀x:U acv,(gZ x.2.1/\x.1.2.1.1.size<=12)->aw (D5 x) (λy=>gZ y.2.1/\pn y.1.1):=by
 intro x aE;unfold D5;refine ae (asM _ (by dsimp only;exact aE)) λaz cg=>?_;dsimp only at cg;refine ae (Wj _ aK) λaF cz=>?_;dsimp only at cz;apply ag<;>intro aC<;>simp only[av] at aC;exact ak (by dsimp only;exact cg);refine ae (Tj _ (by dsimp only;exact⟨cg.1,bk,bk,aE.2⟩)) λaT cF=>?_;dsimp only at cF;exact ak (by dsimp only;exact cF)
theorem asX:∀x:U D6,((pn x.1.1/\x.1.2.1.1=[]/\x.1.2.2.1.1=0)/\((0<=x.1.2.2.1.1)/\(x.1.2.2.1.1<=(x.1.1.2.1.1.length:Int))/\((x.1.2.1.1.length:Int)=x.1.2.2.1.1)))->aw (a3 KC x) (λy=>True):=by
 rintro x ⟨an,aj⟩;exact cQ (λz:U D6=>∃cK,∃v4,z=((x.1.1,cK,v4,()),((),()))/\((0<=v4.1)/\(v4.1<=(x.1.1.2.1.1.length:Int))/\((cK.1.length:Int)=v4.1))) (λz:U D6=>((x.1.1.2.1.1.length:Int)-z.1.2.2.1.1).toNat) (λz ai=>by
  obtain⟨cK,v4,rfl,aE⟩:=ai;unfold KC;dsimp only
  obtain⟨bx,cX,bH⟩:=aE;obtain⟨⟨cW,dA,eR,iS⟩,l8,m2⟩:=an;have ai:(S ⟨#[46]⟩).1.size=1:=rfl;have pO:=L.b x.1.1.2.1;apply ag<;>intro aC<;>simp only[av] at aC;refine ae (oR ab) λv1 q4=>?_;refine bt λaQ cM=>?_;have di:=iS _ _ cM;refine ae (oR ab) λcK AK=>?_;refine ae (du lM) λjk oW=>?_;exact bz ⟨⟨_,_,rfl,(by(have aA:=dN v4 bx ab;rw[aA];exact⟨ab,ab,by rw[oW.2];simp only[b5];omega⟩))⟩,(by have aA:=dN v4 bx ab;rw[aA];omega)⟩;exact a7 da) x ⟨_,_,rfl,aj⟩
theorem as0:∀x:U acy,(pn x.1.1)->aw (KB x) (λy=>True):=by
 intro x aE;unfold KB;refine ae (asX _ (by dsimp only;exact⟨⟨aE,rfl,rfl⟩,bk,by have i0:(W 0).1=0:=rfl;rw[i0];omega,bk⟩)) λa5 cZ=>?_;exact ak aK
theorem asP:∀x:U acu,(gZ x.2.1)->aw (KA x) (λy=>gZ y.2.1/\xV y.1.1.1):=by
 intro x aE;unfold KA;refine ae (acw _ (by dsimp only;exact⟨aE,bk⟩)) λaz cg=>?_;dsimp only at cg;refine ae (jK _ (by dsimp only;exact cg.1)) λaF cz=>?_;dsimp only at cz;obtain⟨eT,fK,gU⟩:=cz;apply ag<;>intro aC<;>simp only[av] at aC;refine ae (as0 _ (by dsimp only;exact cg.2)) λaT cF=>?_;refine ae (acw _ (by dsimp only;exact⟨eT,bk⟩)) λaY df=>?_;dsimp only at df;refine ae (du (by(simp only[b5];decide))) λiD lD=>?_;have dP:iD.1=[az.1.1,aY.1.1]:=by rw[lD.1,fI (by simp),fI (by simp)];rfl
 exact ak (by dsimp only;exact⟨df.1,by rw[dP];exact⟨by simp,by simp,λj e he=>(by match j,he with|0,he=>(cases he;exact cg.2)|1,he=>(cases he;exact df.2)|j+2,he=>cases he)⟩⟩);exact ak (by dsimp only;exact⟨eT,by rw[fI (by simp)];exact⟨by simp,by simp,aJ.one cg.2⟩⟩)
theorem Ku:∀x:U acq,(x.1.1.1.1.size<=12/\x.1.2.1.1.size<=12)->aw (zc x) (λy=>y.1.1.1.size<=24):=by
 intro x aE;unfold zc;refine ae (oR ab) λv1 q4=>?_;exact ak gk
theorem pV:∀x:U acF,(True)->aw (nP x) (λy=>y.1.1=(x.1.1,S ⟨#[]⟩,S ⟨#[]⟩,S ⟨#[]⟩,S ⟨#[]⟩,W (-1),L.nil,L.nil,L.nil,W (-1),())):=by
 intro x aE;unfold nP;exact ak (by rfl)
abbrev ve:Type:=nY Tp.blocks
abbrev am3:Type:=nY adm.blocks
def hN (y:am3):ve:=(y.1,y.2.1,(),y.2.2.2.2.2.1,())
def n6 (s:D cS):Prop:=s.2.2.2.2.2.2.2.2.1.1.length<=20
structure k9 (w:ve)(n:Nat):Prop where
  d:gZ w.2.1
  ck:xV w.1.2.1.1
  t:w.1.2.2.2.2.1.1.length+n<=1000000
  s:w.2.2.2.1.1.length+n<=1000000
  ke:0<=w.1.2.2.2.2.2.2.2.2.2.1.1
  k4:w.1.2.2.2.2.2.2.2.2.2.1.1+n<=1000000
structure e9 (w v:ve)(k:Nat):Prop where
  d:gZ v.2.1
  ck:v.1.2.1=w.1.2.1
  ty:v.1.2.2.2.2.2.2.2.1=w.1.2.2.2.2.2.2.2.1
  ro:v.1.2.2.2.2.2.2.2.2.1=w.1.2.2.2.2.2.2.2.2.1
  fO:v.1.2.2.1=w.1.2.2.1
  zz:v.1.2.2.2.1=w.1.2.2.2.1
  t:v.1.2.2.2.2.1.1.length<=w.1.2.2.2.2.1.1.length+k
  ke:w.1.2.2.2.2.2.2.2.2.2.1.1<=v.1.2.2.2.2.2.2.2.2.2.1.1
  k4:v.1.2.2.2.2.2.2.2.2.2.1.1<=w.1.2.2.2.2.2.2.2.2.2.1.1+k
  s:∃t,v.2.2.2.1.1=w.2.2.2.1.1++t/\aJ n6 t/\t.length<=k
theorem k9.mono {w n m}(h:k9 w n)(hm:m<=n):k9 w m:=⟨h.d,h.ck,by have:=h.t;omega,by have:=h.s;omega,h.ke,by have:=h.k4;omega⟩
theorem e9.len {w v k}(h:e9 w v k):v.2.2.2.1.1.length<=w.2.2.2.1.1.length+k:=by
 obtain⟨t,t1,_,t2⟩:=h.s;rw[t1,bl];omega
theorem k9.go {w v n m k}(h:k9 w n)(g:e9 w v k)(hm:m+k<=n):k9 v m:=
 ⟨g.d,by rw[g.ck];exact h.ck,by have:=h.t;have:=g.t;omega,by have:=h.s;have:=g.len;omega,by have:=h.ke;have:=g.ke;omega,by have:=h.k4;have:=g.k4;omega⟩
theorem e9.trans {w v u k m}(h:e9 w v k)(g:e9 v u m):e9 w u (k+m):=by
 obtain⟨t,t1,t2,t3⟩:=h.s;obtain⟨t',j3,kW,Qt⟩:=g.s;exact⟨g.d,g.ck.trans h.ck,g.ty.trans h.ty,g.ro.trans h.ro,g.fO.trans h.fO,g.zz.trans h.zz,by have:=h.t;have:=g.t;omega,by have:=h.ke;have:=g.ke;omega,by have:=h.k4;have:=g.k4;omega,t++t',by rw[j3,t1,cO],t2.append kW,by rw[bl];omega⟩
theorem e9.mono {w v k m}(h:e9 w v k)(hm:k<=m):e9 w v m:=by
 obtain⟨t,t1,t2,t3⟩:=h.s;exact⟨h.d,h.ck,h.ty,h.ro,h.fO,h.zz,by have:=h.t;omega,h.ke,by have:=h.k4;omega,t,t1,t2,ab⟩
theorem e9.refl {w}(h:gZ w.2.1):e9 w w 0:=⟨h,rfl,rfl,rfl,rfl,rfl,Nat.le_refl _,Int.le_refl _,ab,[],by simp,aJ.nil,Nat.le_refl _⟩
theorem e9.pG {w v:ve}{k d}(h:e9 w v k)(bg:gZ d):e9 w (v.1,d,(),v.2.2.2.1,()) k:=⟨bg,h.ck,h.ty,h.ro,h.fO,h.zz,h.t,h.ke,h.k4,h.s⟩
theorem k9.pG {w:ve}{n d}(h:k9 w n)(bg:gZ d):k9 (w.1,d,(),w.2.2.2.1,()) n:=⟨bg,h.ck,h.t,h.s,h.ke,h.k4⟩
theorem e9.lH {w v:ve}{k:Nat}{ss:L (D cS)}{t:List (D cS)}(h:e9 w v k)(aP:ss.1=w.2.2.2.1.1++t)(bQ:aJ n6 t)(aZ:t.length<=k):e9 w (v.1,v.2.1,(),ss,()) k:=⟨h.d,h.ck,h.ty,h.ro,h.fO,h.zz,h.t,h.ke,h.k4,t,aP,bQ,aZ⟩
theorem vO:∀x:U ads,k9 x.2 1->aw (sC x) (λy=>e9 x.2 (hN y.2) 1/\y.1.1.1=(x.2.2.2.2.1.1.length:Nat)/\∃a:D cS,y.2.2.2.2.2.2.1.1=x.2.2.2.2.1.1++[a]/\a.2.2.2.2.2.2.2.2.1.1.length=0):=by
 intro x h;unfold sC;have aP:x.2.2.2.2.1.1.length+1<=1000000:=h.s;refine ae (du (by simp only[b5];omega)) λdk kT=>?_;obtain⟨dM,di⟩:=kT;rw[fI (by simp)] at dM;simp only[b5] at di;have aj:(eF (W (dk.1.length:Nat)) (W 1)).1=(x.2.2.2.2.1.1.length:Nat):=aav di ab;exact ak ⟨⟨h.d,rfl,rfl,rfl,rfl,rfl,Nat.le_succ _,Int.le_refl _,by show x.2.1.2.2.2.2.2.2.2.2.2.1.1<=x.2.1.2.2.2.2.2.2.2.2.2.1.1+(1:Nat);omega,_,dM,aJ.one (by show(0:Nat)<=20;decide),Nat.le_refl _⟩,aj,_,dM,rfl⟩
theorem uL:∀x:U adu,k9 x.2 1->aw (rL x) (λy=>e9 x.2 (hN y.2) 1):=by
 intro x h;unfold rL;refine ae (vO _ h) λaz cg=>?_;obtain⟨g,aj,a,cf,hw⟩:=cg;dsimp only at aj cf;have aZ:=congrArg List.length cf;rw[bl,List.length_singleton] at aZ;have mu:(decide (0<=(az.1.1).1)&&decide ((az.1.1).1<(az.2.2.2.2.2.2.1.1.length:Nat)))=true:=by simp only[cG,decide_eq_true_eq];omega
 refine ag (λ_=>?_) (λq=>by rw[mu] at q;cases q);refine iv λaQ cM=>?_;have cm:az.2.2.2.2.2.2.1.1[az.1.1.1.toNat]?=some a:=by rw[cf];exact R5 ab
 rw[cm] at cM;cases cM;refine ak (g.lH (t:=[_]) (by show(az.2.2.2.2.2.2.1.1.set _ _)=_;rw[cf];exact Qg ab) (aJ.one ?_) (Nat.le_refl _));show a.2.2.2.2.2.2.2.2.1.1.length<=20;omega
theorem Ea:∀x:U ac9,k9 x.2 2->aw (AY x) (λy=>e9 x.2 (hN y.2) 2):=by
 intro x h;unfold AY;apply ag<;>intro _;refine ae (pV _ aK) λaz cg=>?_;refine ae (uL _ (h.mono bk)) λaF cz=>?_;refine ae (pV _ aK) λaT cF=>?_;refine ae (vO _ (h.go cz bk)) λaY df=>?_;exact ak (cz.trans df.1);refine ae (pV _ aK) λa5 cZ=>?_;refine ae (vO _ (h.mono bk)) λbK dK=>?_;exact ak (dK.1.mono bk)
theorem zl:∀x:U adt,k9 x.2 1->aw (uK x) (λy=>e9 x.2 (hN y.2) 1):=by
 intro x h;unfold uK;have aP:x.2.1.2.2.2.2.1.1.length+1<=1000000:=h.t;refine ae (du (by simp only[b5];omega)) λdk kT=>?_;obtain⟨dM,di⟩:=kT;simp only[b5] at di;exact ak ⟨h.d,rfl,rfl,rfl,rfl,rfl,by show dk.1.length<=x.2.1.2.2.2.2.1.1.length+1;omega,Int.le_refl _,by show x.2.1.2.2.2.2.2.2.2.2.2.1.1<=x.2.1.2.2.2.2.2.2.2.2.2.1.1+(1:Nat);omega,[],by simp[hN],aJ.nil,Nat.zero_le _⟩
theorem uJ:∀x:U Tp,k9 x.2 1->aw (rK x) (λy=>e9 x.2 (hN y.2) 1):=by
 intro x h;unfold rK;exact ae (zl _ h) (λaz cg=>ak cg)
theorem sB:∀x:U adl,k9 x.2 1->aw (qx x) (λy=>e9 x.2 (hN y.2) 1):=by
 intro x h;unfold qx;exact ae (zl _ h) (λaz cg=>ak cg)
theorem xh:∀x:U ac8,k9 x.2 1->aw (tF x) (λy=>e9 x.2 (hN y.2) 1):=by
 intro x h;unfold tF;exact ae (zl _ h) (λaz cg=>ak cg)
theorem atH:∀x:U adk,k9 x.2 3->aw (KO x) (λy=>e9 x.2 (hN y.2) 3):=by
 intro x h;unfold KO;refine ae (sB _ (h.mono bk)) λaz aa=>?_;have eT:=h.go (m:=2) aa bk;refine ae (uJ _ (eT.mono bk)) λaF af=>?_;have fK:=eT.go (m:=1) af bk;refine ae (xh _ fK) λaT ax=>?_;exact ak ((aa.trans af).trans ax)
theorem adb:∀x:U ac',k9 x.2 1->aw (Eb x) (λy=>e9 x.2 (hN y.2) 1):=by
 intro x h;unfold Eb;have a6:0<=x.2.1.2.2.2.2.2.2.2.2.2.1.1:=h.ke;have aa:x.2.1.2.2.2.2.2.2.2.2.2.1.1+(1:Nat)<=1000000:=h.k4;have aA:=dN x.2.1.2.2.2.2.2.2.2.2.2.1 a6 ab;refine ae (ah8 _ aK) λaz cg=>?_;have ed:(S ⟨#[118]⟩).1.size=1:=rfl;refine ae (oR (by dsimp only at cg;omega)) λv2 _=>?_;exact ak ⟨h.d,rfl,rfl,rfl,rfl,rfl,Nat.le_succ _,by show x.2.1.2.2.2.2.2.2.2.2.2.1.1<=(bj x.2.1.2.2.2.2.2.2.2.2.2.1 (W 1)).1;omega,by show(bj x.2.1.2.2.2.2.2.2.2.2.2.1 (W 1)).1<=x.2.1.2.2.2.2.2.2.2.2.2.1.1+(1:Nat);omega,[],by simp[hN],aJ.nil,Nat.zero_le _⟩
theorem Bb {s:List (D cS)}{a:D cS}{t:List (D cS)}{ss:L (D cS)}(aP:ss.1=s++a::t){i:bc .i64}(aj:i.1=(s.length:Nat)):
 (decide (0<=i.1)&&decide (i.1<(ss.1.length:Nat)))=true/\i.1.toNat<ss.1.length/\ss.1[i.1.toNat]?=some a/\∀b,(dO ss i.1.toNat b).1=s++b::t:=by
 have aZ:=congrArg List.length aP;rw[bl,gS] at aZ;refine⟨by simp only[cG,decide_eq_true_eq];omega,ab,by rw[aP];exact R5 ab,λb=>?_⟩;show(ss.1.set _ _)=_;rw[aP];exact Qg ab
theorem aJ.cons {α:Type}{P:α->Prop}{a:α}{l:List α}(h:P a)(aZ:aJ P l):aJ P (a::l):=λj e he=>by
 cases j with
 |zero=>cases he;exact h
 |succ j=>exact aZ j e he
theorem n6.put {a:D cS}{w:D [.str,.str,.int .i64]}{l:L (D mW)}{n:Nat}(h:a.2.2.2.2.2.2.2.2.1.1.length<=n)(aZ:l.1=a.2.2.2.2.2.2.2.2.1.1++(cD [w]).1):l.1.length<=n+1:=by
 rw[aZ,bl,fI (by simp)];simp;exact h
theorem alW {v w s t:List (D cS)}{a:D cS}(h:v=w++t)(hw:w=s++[a]):v=s++a::t:=by rw[h,hw,cO];rfl
theorem ac0:∀x:U acZ,k9 x.2 16->aw (KJ x) (λy=>e9 x.2 (hN y.2) 16):=by
 intro x h;unfold KJ;refine ae (pV _ aK) λaz _=>?_;refine ae (uJ _ (h.mono bk)) λaF af=>?_;refine ae (sB _ (h.go af bk)) λaT ax=>?_;have bo:=af.trans ax;refine ae (xh _ (h.go bo bk)) λaY a8=>?_;have cE:=bo.trans a8;have lZ:=h.go (m:=13) cE bk;refine ae (vO _ (lZ.mono bk)) λa5 cZ=>?_;obtain⟨cy,aj,a,cf,hw⟩:=cZ;obtain⟨cr,cI,dw,fe⟩:=Bb cf aj;refine ag (λ_=>?_) (λq=>by rw[cr] at q;cases q);refine ae (j_ cI) λdb fX=>?_;rw[dw] at fX;cases fX;refine ae (du (by simp only[b5];omega)) λj' qZ=>?_;refine ag (λ_=>?_) (λq=>by rw[cr] at q;cases q);refine ae (j_ cI) λdG g_=>?_;rw[dw] at g_;cases g_;refine ag (λ_=>?_) (λq=>by simp at q);have ng:=n6.put (n:=0) ab qZ.1;have f5:=cy.lH (t:=[_]) (fe (a.1,a.2.1,a.2.2.1,a.2.2.2.1,a.2.2.2.2.1,a.2.2.2.2.2.1,a.2.2.2.2.2.2.1,a.2.2.2.2.2.2.2.1,j',a.2.2.2.2.2.2.2.2.2.1,())) (aJ.one (by show j'.1.length<=20;omega)) (Nat.le_refl _);have j1:=lZ.go (m:=12) f5 bk;refine ae (pV _ aK) λbU _=>?_;refine ae (sB _ (j1.mono bk)) λcd gJ=>?_;refine ae (atH _ (j1.go gJ bk)) λbY j7=>?_;have kQ:=gJ.trans j7;refine ae (vO _ (j1.go kQ bk)) λcT nK=>?_;have l_:=kQ.trans nK.1;refine ae (Ea _ (j1.go l_ bk)) λcA jt=>?_;have kR:=l_.trans jt;obtain⟨t,t1,t2,t3⟩:=kR.s;have t1:=alW t1 (fe _);obtain⟨fQ,eQ,gq,k7⟩:=Bb (ss:=cA.2.2.2.2.2.2.1) t1 aj;refine ag (λ_=>?_) (λq=>by rw[fQ] at q;cases q);refine ae (j_ eQ) λgM lC=>?_;rw[gq] at lC;cases lC;refine ae (du (by simp only[b5];omega)) λpU su=>?_;refine ag (λ_=>?_) (λq=>by rw[fQ] at q;cases q);refine ae (j_ eQ) λg8 jY=>?_;rw[gq] at jY;cases jY;refine ag (λ_=>?_) (λq=>by simp at q);have aPM:=n6.put (n:=1) ng su.1;exact ak ((cE.trans ((f5.trans kR).lH (k7 _) (aJ.cons (by show pU.1.length<=20;omega) t2) (by rw[gS];omega))).mono bk)
theorem at0:∀x:U KT,(xV x.2.1.2.1.1/\0<=x.1.2.2.2.1.1/\x.1.2.2.2.1.1<x.2.1.2.1.1.length/\0<=x.1.2.2.2.2.1.1)->aw (a3 KS x) (Sum.elim (λy=>y.2.1=x.2.1/\y.2.2.1=x.2.2.1/\y.2.2.2.2.2.2.2.1=x.2.2.2.2.1) (λy=>y.2.1=x.2.1/\y.2.2.1=x.2.2.1/\y.2.2.2.2.2.2.2.1=x.2.2.2.2.1/\pn (y.2.2.2.2.2.1.1,y.2.2.2.2.2.1.2.1,y.2.2.2.2.2.1.2.2.1,())/\y.1.1.1.size<=12)):=by
 intro x aE;obtain⟨aa,af,ax,a8⟩:=aE;refine cQ (λz:U KT=>z.2.1=x.2.1/\z.2.2.1=x.2.2.1/\z.2.2.2.2.1=x.2.2.2.2.1/\z.1.2.2.2.1=x.1.2.2.2.1/\0<=z.1.2.2.2.2.1.1) (λz=>((6:Nat)-z.1.2.2.2.2.1.1:Int).toNat) (λz ai=>?_) _ ⟨rfl,rfl,rfl,rfl,a8⟩;obtain⟨ed,eX,gr,gb,mi⟩:=ai;unfold KS;have gY:=fy (l:=x.2.1.2.1.1) (i:=x.1.2.2.2.1.1.toNat) ab;have aqJ:=aa.2.2 _ _ gY;have w2:0<=z.1.2.2.2.1.1/\z.1.2.2.2.1.1<z.2.1.2.1.1.length:=by rw[gb,ed];exact⟨af,ax⟩
 have ju:∀e,z.2.1.2.1.1[z.1.2.2.2.1.1.toNat]?=some e->pn e:=λe he=>by rw[ed,gb,gY] at he;cases he;exact aqJ
 have J4:∀e e',z.2.1.2.1.1[z.1.2.2.2.1.1.toNat]?=some e->z.2.1.2.1.1[z.1.2.2.2.1.1.toNat]?=some e'->e'=e:=λe e' he fu=>by rw[he] at fu;exact(eD fu).symm
 have aPR:(S ⟨#[46]⟩).1.size=1:=rfl;refine ae (c5 w2) λaD ct=>?_;obtain⟨aG,aN,bo,cE⟩:=ju aD ct;apply ag<;>intro ah;simp only[cG,aM] at ah;refine ae (c5 w2) λaQ cM=>?_;obtain rfl:=J4 _ _ ct cM;refine ae (oR ab) λcK AK=>?_;refine ae (c5 w2) λcP fb=>?_;obtain rfl:=J4 _ _ ct fb;refine bt λdP fL=>?_;have pq:=cE _ _ fL;refine ae (oR (by have:=AK.2;omega)) λv6 AL=>?_;apply ag<;>intro _;refine ae (c5 w2) λfk jZ=>?_;obtain rfl:=J4 _ _ ct jZ;refine ae (c5 w2) λdG g_=>?_;obtain rfl:=J4 _ _ ct g_;refine bt λeS kG=>?_;exact a7 ⟨ed,eX,gr,⟨aG,aN,bo,cE⟩,cE _ _ kG⟩;have aA:=dN z.1.2.2.2.2.1 mi ab;exact bz ⟨⟨ed,eX,gr,gb,by dsimp only;rw[aA];omega⟩,by dsimp only;rw[aA];omega⟩;exact a7 ⟨ed,eX,gr⟩
theorem ady:∀x:U adw,xV x.2.1.2.1.1->aw (Ee x) (λy=>y.2.1=x.2.1/\y.2.2.1=x.2.2.1/\y.2.2.2.2.2.2.1=x.2.2.2.2.1/\pn y.1.1/\y.1.2.1.1.size<=12):=by
 intro x h;unfold Ee;refine ae (cQ (h:=KR) (R:=Sum.elim (λy=>y.2.1=x.2.1/\y.2.2.1=x.2.2.1/\y.2.2.2.2.2.2.2.1=x.2.2.2.2.1) (λy=>y.2.1=x.2.1/\y.2.2.1=x.2.2.1/\y.2.2.2.2.2.2.2.1=x.2.2.2.2.1/\pn (y.2.2.2.2.2.1.1,y.2.2.2.2.2.1.2.1,y.2.2.2.2.2.1.2.2.1,())/\y.1.1.1.size<=12)) (λz:U Ts=>z.2.1=x.2.1/\z.2.2.1=x.2.2.1/\z.2.2.2.2.1=x.2.2.2.2.1/\0<=z.1.2.2.2.1.1) (λz=>((6:Nat)-z.1.2.2.2.1.1:Int).toNat) (λz ai=>?_) _ ⟨rfl,rfl,rfl,(by show 0<=(W 0).1;decide)⟩) λcA fG=>?_;obtain⟨ed,eX,gr,gb⟩:=ai;unfold KR;have aZ:=h.2.1;apply ag<;>intro ah;simp only[cG,aM] at ah;rw[ed] at ah;refine ae (at0 _ ⟨by dsimp only;rw[ed];exact h,gb,by dsimp only;rw[ed];exact ah,by show 0<=(W 0).1;decide⟩) λcd ff=>?_;refine eg ff (λbY e4=>?_) (λcT e5=>?_);obtain⟨cr,cI,dw⟩:=e4;have aA:=dN z.1.2.2.2.1 gb ab;exact bz ⟨⟨cr.trans ed,cI.trans eX,dw.trans gr,by dsimp only;rw[aA];omega⟩,by dsimp only;rw[aA];omega⟩;obtain⟨cr,cI,dw,fe,kV⟩:=e5;exact a7 ⟨cr.trans ed,cI.trans eX,dw.trans gr,fe,kV⟩;exact a7 ⟨ed,eX,gr⟩;refine eg fG (λep jI=>?_) (λdF g5=>?_);obtain⟨cr,cI,dw⟩:=jI;have i0:(W 0).1=0:=rfl;have aa:=h.1;have w2:0<=(W 0).1/\(W 0).1<ep.2.1.2.1.1.length:=by rw[i0,cr];omega
 refine ae (c5 w2) λg8 jY=>?_;have cm:pn g8:=by rw[cr] at jY;exact h.2.2 _ _ jY
 refine ae (c5 w2) λkA lT=>?_;obtain rfl:=eD (jY.symm.trans lT);refine ae (c5 (by rw[i0];have:=cm.2.1;omega)) λkk pL=>?_;exact ak ⟨cr,cI,dw,cm,cm.2.2.2 _ _ pL⟩;exact ak g5
theorem atV:∀x:U adv,k9 x.2 6->aw (KQ x) (λy=>e9 x.2 (hN y.2) 6):=by
 intro x h;unfold KQ;have jX:e9 x.2 x.2 0:=e9.refl h.d;apply ag<;>intro _;refine ae (jK _ h.d) λaz cg=>?_;have aG:=jX.pG cg.1;apply ag<;>intro _;refine ae (pV _ aK) λaF _=>?_;refine ae (sB _ (h.go aG bk)) λaT ax=>?_;have bo:=aG.trans ax;refine ae (uL _ (h.go bo bk)) λaY a8=>?_;exact ak ((bo.trans a8).mono bk);exact ak (aG.mono bk);refine ae (jK _ h.d) λa5 cZ=>?_;have aG:=jX.pG cZ.1;apply ag<;>intro _;refine ae (pV _ aK) λbK _=>?_;refine ae (uL _ (h.go aG bk)) λbL dL=>?_;exact ak ((aG.trans dL).mono bk);refine ae (ady _ h.ck) λcu fc=>?_;obtain⟨cr,cI,dw,fe,kV⟩:=fc;have dG:hN cu.2=(x.2.1,a5.2.1,(),x.2.2.2.2.1,()):=by unfold hN;rw[cr,cI,dw]
 have hM:e9 x.2 (hN cu.2) 0:=by rw[dG];exact aG
 refine ae (pV _ aK) λbU _=>?_;refine ae (Ku _ ⟨fe.1,kV⟩) λcd _=>?_;refine ae (sB _ (h.go hM bk)) λbY j7=>?_;have kQ:=hM.trans j7;refine ae (jK _ kQ.d) λcT e5=>?_;have l_:=kQ.pG e5.1;refine ae (uJ _ (h.go l_ bk)) λcA jt=>?_;have kR:=l_.trans jt;refine ae (uL _ (h.go kR bk)) λep nL=>?_;exact ak ((kR.trans nL).mono bk)
theorem adq:∀x:U adn,(k9 x.2 7/\pn x.1.2.1/\x.1.2.2.1.1.size<=12)->aw (Ec x) (λy=>e9 x.2 (hN y.2) 7):=by
 intro x aE;obtain⟨h,bF,aO⟩:=aE;unfold Ec;refine ae (pV _ aK) λaz cg=>?_;refine ae (adb _ (h.mono bk)) λaF af=>?_;have j1:=bF.2.2.1;refine ae (cQ (h:=KP) (R:=λy=>e9 x.2 (y.2.1,y.2.2.1,(),y.2.2.2.2.2.2.2.2.1,()) 6) (λz:U Tq=>z.1.2.1=x.1.2.2.1/\z.1.2.2.1=x.1.2.1/\0<=z.1.2.2.2.2.1.1/\z.1.2.2.2.2.1.1<=x.1.2.1.2.1.1.length/\z.2.2.2.2.2.1.2.2.2.2.2.2.2.1.1.length<=z.1.2.2.2.2.1.1/\e9 x.2 (z.2.1,z.2.2.1,(),z.2.2.2.2.1,()) (1+z.1.2.2.2.2.1.1.toNat)) (λz=>((x.1.2.1.2.1.1.length:Nat)-z.1.2.2.2.2.1.1:Int).toNat) (λz ai=>?_) _ ⟨rfl,rfl,(by show 0<=(W 0).1;decide),(by show(W 0).1<=_;have i0:(W 0).1=0:=rfl;rw[i0];omega),(by show((0:Nat):Int)<=(W 0).1;decide),af⟩) λcd ff=>?_;obtain⟨ed,eX,gr,gb,mi,k8⟩:=ai;unfold KP;rw[ed,eX];apply ag<;>intro ah;simp only[cG,aM] at ah;have aA:=dN z.1.2.2.2.2.1 gr ab;have bQ:(z.1.2.2.2.2.1.1+1).toNat=z.1.2.2.2.2.1.1.toNat+1:=ab;refine ae (c5 ⟨gr,ah⟩) λbO eG=>?_;apply ag<;>intro _;refine ae (c5 ⟨gr,ah⟩) λcP fb=>?_;refine ae (c5 ⟨gr,ah⟩) λdP fL=>?_;refine ae (Ku _ ⟨bF.1,bF.2.2.2 _ _ fL⟩) λbK _=>?_;refine ae (jK _ k8.d) λbL ez=>?_;have gz:=k8.pG ez.1;refine ae (uJ _ (h.go gz ab)) λcu dY=>?_;have hM:=gz.trans dY;refine ae (du (by simp only[b5];omega)) λow vC=>?_;have arY:=vC.2;simp only[b5] at arY;exact bz ⟨⟨rfl,rfl,by dsimp only;rw[aA];omega,by dsimp only;rw[aA];omega,by dsimp only;rw[aA];omega,by dsimp only;rw[aA,bQ];exact hM⟩,by dsimp only;rw[aA];omega⟩;exact bz ⟨⟨rfl,rfl,by dsimp only;rw[aA];omega,by dsimp only;rw[aA];omega,by dsimp only;rw[aA];omega,by dsimp only;rw[aA,bQ];exact k8.mono ab⟩,by dsimp only;rw[aA];omega⟩;exact a7 (k8.mono ab);refine ae (uL _ (h.go ff bk)) λbY j7=>?_;exact ak (ff.trans j7)
theorem atz:∀x:U ade,k9 x.2 3->aw (KL x) (λy=>e9 x.2 (hN y.2) 3):=by
 intro x h;unfold KL;have jX:e9 x.2 x.2 0:=e9.refl h.d;apply ag<;>intro _;refine ae (jK _ h.d) λaz cg=>?_;have aG:=jX.pG cg.1;apply ag<;>intro _;refine ae (uJ _ (h.go aG bk)) λaF af=>?_;have aN:=aG.trans af;refine ae (sB _ (h.go aN bk)) λaT ax=>?_;have bo:=aN.trans ax;exact ae (xh _ (h.go bo bk)) (λaY a8=>ak (bo.trans a8));apply ag<;>intro _;refine ae (jK _ cg.1) λa5 cZ=>?_;have eM:=jX.pG cZ.1;exact ae (uJ _ (h.go eM bk)) (λbK dm=>ak ((eM.trans dm).mono bk));refine ae (sB _ (h.go aG bk)) λbL dL=>?_;have gz:=aG.trans dL;refine ae (jK _ gz.d) λcu fc=>?_;have hM:=gz.pG fc.1;refine ae (uJ _ (h.go hM bk)) λbU fa=>?_;have iV:=hM.trans fa;exact ae (xh _ (h.go iV bk)) (λcd gJ=>ak (iV.trans gJ));apply ag<;>intro _;refine ae (sB _ (h.go jX bk)) λbY j7=>?_;have kQ:=jX.trans j7;refine ae (jK _ kQ.d) λcT e5=>?_;have l_:=kQ.pG e5.1;refine ae (uJ _ (h.go l_ bk)) λcA jt=>?_;have kR:=l_.trans jt;exact ae (xh _ (h.go kR bk)) (λep nL=>ak (kR.trans nL));apply ag<;>intro _;refine ae (jK _ h.d) λdF g5=>?_;have sa:=jX.pG g5.1;refine ae (ah8 _ aK) λeK gA=>?_;have ed:(S ⟨#[116]⟩).1.size=1:=rfl;refine ae (oR (by dsimp only at gA;omega)) λjy _=>?_;refine ae (zl _ (h.go sa bk)) λe_ Ap=>?_;have C':=sa.trans Ap;refine ae (zl _ (h.go C' bk)) λfo yp=>?_;have ZT:=C'.trans yp;exact ae (xh _ (h.go ZT bk)) (λfY wT=>ak (ZT.trans wT));refine ae (zl _ (h.go jX bk)) λjA R9=>?_;have R4:=jX.trans R9;refine ae (sB _ (h.go R4 bk)) λeV wU=>?_;have ym:=R4.trans wU;exact ae (xh _ (h.go ym bk)) (λlI Aq=>ak (ym.trans Aq))
def jg:Nat->Nat
 |0=>16
 |r+1=>6*jg r+80
def xW (w:ve)(l:D ek):Prop:=0<=w.1.2.2.2.2.2.2.2.2.1.1/\w.1.2.2.2.2.2.2.2.2.1.1<w.1.2.2.2.2.2.2.2.1.1.length/\w.1.2.2.2.2.2.2.2.1.1[w.1.2.2.2.2.2.2.2.2.1.1.toNat]?=some l/\sU l
theorem xW.go {w v k l}(h:xW w l)(g:e9 w v k):xW v l:=by
 unfold xW;rw[g.ty,g.ro];exact h
def zP (r:Nat)(x:U o6):Prop:=k9 x.2 (jg r)/\(∃l,xW x.2 l/\0<=x.1.2.1.1/\x.1.2.1.1<l.2.1.1.length)/\0<=x.1.2.2.1.1/\x.1.2.2.1.1<=5/\5<=x.1.2.2.1.1+r
theorem Tr (rec:U o6->Option (U ra))(r:Nat)(rD:∀x,zP r x->aw (rec x) (λy=>e9 x.2 (hN y.2) (jg r))):∀x:U adr,(k9 x.2 (jg r+9)/\(∃l t,xW x.2 l/\0<=x.1.2.1.1/\l.2.1.1[x.1.2.1.1.toNat]?=some t/\0<=x.1.2.2.1.1/\x.1.2.2.1.1<t.2.2.1.1.length)/\0<=x.1.2.2.2.1.1/\x.1.2.2.2.1.1<=4/\4<=x.1.2.2.2.1.1+r)->aw (AZ rec x) (λy=>e9 x.2 (hN y.2) (jg r+9)):=by
 intro x aE;obtain⟨h,⟨l,t,b6,a6,aZ,a0,dM⟩,d0,d4,d5⟩:=aE;unfold AZ;have Df:=b6;obtain⟨t1,t2,t3,t4⟩:=Df;refine ae (c5 ⟨t1,t2⟩) λaD ct=>?_;obtain rfl:=eD (t3.symm.trans ct);have bn:=(eu.1 aZ).1;refine ae (c5 ⟨a6,ab⟩) λaQ cM=>?_;obtain rfl:=eD (aZ.symm.trans cM);refine ae (c5 ⟨a0,dM⟩) λbO eG=>?_;have mw:=(t4.ts _ _ aZ).2.2 _ _ eG;have yE:=dN x.1.2.2.2.1 d0 ab;have jX:e9 x.2 x.2 0:=e9.refl h.d;have fin:∀(v:ve)(k:Nat),e9 x.2 v k->k<=9->zP r (((),bO.2.2.2.1,(bj x.1.2.2.2.1 (W (1))),()),v):=λv k g aU=>
  ⟨h.go g ab,⟨l,b6.go g,mw.1,mw.2⟩,by dsimp only;rw[yE];omega,by dsimp only;rw[yE];omega,by dsimp only;rw[yE];omega⟩
 refine ae (pV _ aK) λaY _=>?_;apply ag<;>intro _;refine ae (uL _ (h.mono ab)) λbU fa=>?_;refine ae (rD _ (fin (hN bU.2) 1 fa bk)) λcd gJ=>?_;exact ak ((e9.trans fa gJ).mono ab);apply ag<;>intro _;refine ae (ady _ h.ck) λa5 cZ=>?_;obtain⟨cr,cI,dw,fe,kV⟩:=cZ;have dP:hN a5.2=x.2:=by unfold hN;rw[cr,cI,dw];rfl
 have eM:e9 x.2 (hN a5.2) 0:=by rw[dP];exact jX
 refine ae (adq _ ⟨h.go eM ab,fe,kV⟩) λbK dm=>?_;have fH:=eM.trans dm;refine ae (sB _ (h.go fH ab)) λbL dL=>?_;have gz:=fH.trans dL;refine ae (uL _ (h.go gz ab)) λbY j7=>?_;have kQ:=gz.trans j7;refine ae (rD _ (fin (hN bY.2) _ kQ bk)) λcT nK=>?_;exact ak ((e9.trans kQ nK).mono ab);refine ae (atz _ (h.mono ab)) λcu dY=>?_;refine ae (uL _ (h.go dY ab)) λcA jt=>?_;have kR:=dY.trans jt;refine ae (rD _ (fin (hN cA.2) _ kR bk)) λep nL=>?_;exact ak ((e9.trans kR nL).mono ab)
theorem atE (rec:U o6->Option (U ra))(r:Nat)(rD:∀x,zP r x->aw (rec x) (λy=>e9 x.2 (hN y.2) (jg r))):∀x:U adi,(k9 x.2 (6*jg r+60)/\(∃l,xW x.2 l/\0<=x.1.2.1.1/\x.1.2.1.1<l.2.1.1.length)/\0<=x.1.2.2.1.1/\x.1.2.2.1.1<=4/\4<=x.1.2.2.1.1+r)->aw (KM rec x) (λy=>e9 x.2 (hN y.2) (6*jg r+60)):=by
 intro x aE;obtain⟨h,⟨l,b6,a6,aa⟩,d0,d4,d5⟩:=aE;unfold KM;have Df:=b6;obtain⟨t1,t2,t3,t4⟩:=Df;refine ae (c5 ⟨t1,t2⟩) λaD ct=>?_;obtain rfl:=eD (t3.symm.trans ct);refine ae (c5 ⟨a6,aa⟩) λaQ cM=>?_;have JF:=t4.ts _ _ cM;have s0:=JF.1;refine ae (pV _ aK) λaT _=>?_;refine ae (vO _ (h.mono ab)) λaY df=>?_;obtain⟨cE,aj,a,cf,hw⟩:=df;have lZ:=h.go (m:=6*jg r+59) cE ab;have yE:=dN x.1.2.2.1 d0 ab;refine ae (cQ (h:=KN rec) (R:=λy=>e9 x.2 (y.2.1,y.2.2.1,(),y.2.2.2.2.2.2.1,()) (1+6*(jg r+8))/\∃b t,y.2.2.2.2.2.2.1.1=x.2.2.2.2.1.1++b::t/\b.2.2.2.2.2.2.2.2.1.1.length<=6/\aJ n6 t/\t.length<=6*(jg r+8))
  (λz:U To=>z.1.2.1=x.1.2.2.1/\z.1.2.2.1=aQ/\z.1.2.2.2.1=aY.1.1/\0<=z.1.2.2.2.2.1.1/\z.1.2.2.2.2.1.1<=aQ.2.2.1.1.length/\e9 x.2 (z.2.1,z.2.2.1,(),z.2.2.2.2.1,()) (1+z.1.2.2.2.2.1.1.toNat*(jg r+8))/\∃b t,z.2.2.2.2.1.1=x.2.2.2.2.1.1++b::t/\b.2.2.2.2.2.2.2.2.1.1.length<=z.1.2.2.2.2.1.1.toNat/\aJ n6 t/\t.length<=z.1.2.2.2.2.1.1.toNat*(jg r+8))
  (λz=>((aQ.2.2.1.1.length:Nat)-z.1.2.2.2.2.1.1:Int).toNat) (λz ai=>?_) _ ⟨rfl,rfl,rfl,(by show 0<=(W 0).1;decide),(by show(W 0).1<=_;have i0:(W 0).1=0:=rfl;rw[i0];omega),(by show e9 _ _ (1+0*_);rw[Nat.zero_mul];exact cE),a,[],cf,ab,aJ.nil,Nat.zero_le _⟩) (λeK gA=>?_)
 obtain⟨ed,eX,gr,gb,mi,k8,b,t,qF,iQ,kM,Iq⟩:=ai;unfold KN;rw[ed,eX,gr];have uo:z.1.2.2.2.2.1.1.toNat*(jg r+8)<=5*(jg r+8)\/6<=z.1.2.2.2.2.1.1.toNat:=by
  by_cases ay:z.1.2.2.2.2.1.1.toNat<=5;exact .inl (nk _ ay);exact .inr ab
 apply ag<;>intro ah;simp only[cG,aM] at ah;have aA:=dN z.1.2.2.2.2.1 gb ab;have bQ:(z.1.2.2.2.2.1.1+1).toNat=z.1.2.2.2.2.1.1.toNat+1:=ab;have uo:z.1.2.2.2.2.1.1.toNat*(jg r+8)<=5*(jg r+8):=ab;have dI:(z.1.2.2.2.2.1.1.toNat+1)*(jg r+8)=z.1.2.2.2.2.1.1.toNat*(jg r+8)+(jg r+8):=Nat.succ_mul _ _;have Ug:=h.go (m:=jg r+8) k8 ab;refine ae (c5 ⟨gb,ah⟩) λdP fL=>?_;refine ae (P:=λy=>e9 (z.2.1,z.2.2.1,(),z.2.2.2.2.1,()) (y.2.1,y.2.2.1,(),y.2.2.2.2.2.2.2.1,()) 7) ?_ (λcd gJ=>?_);unfold adf;refine ae (c5 ⟨gb,ah⟩) λdb fX=>?_;apply ag<;>intro _;refine ae (adb _ (Ug.mono ab)) λbL dL=>?_;refine ae (c5 ⟨gb,ah⟩) λdG g_=>?_;refine ae (atV _ (Ug.go dL ab)) λbU fa=>?_;exact ak (dL.trans fa);exact ak ((e9.refl Ug.d).mono bk);refine ae (c5 ⟨gb,ah⟩) λgl m5=>?_;have mw:=JF.2.2 _ _ m5;have qT:=k8.trans gJ;refine ae (rD _ ⟨h.go qT ab,⟨l,b6.go qT,mw.1,mw.2⟩,by dsimp only;rw[yE];omega,by dsimp only;rw[yE];omega,by dsimp only;rw[yE];omega⟩) λcT nK=>?_;have l_:=gJ.trans nK;obtain⟨u,j3,kW,Qt⟩:=l_.s;have j3:cT.2.2.2.2.2.2.1.1=x.2.2.2.2.1.1++b::(t++u):=j3.trans (by show z.2.2.2.2.1.1++u=_;rw[qF];simp);obtain⟨fQ,eQ,gq,k7⟩:=Bb j3 aj;refine ag (λ_=>?_) (λq=>by rw[fQ] at q;cases q);refine ae (j_ eQ) λkj oV=>?_;rw[gq] at oV;cases oV;refine ae (du (by simp only[b5];omega)) λtC yI=>?_;refine ag (λ_=>?_) (λq=>by rw[fQ] at q;cases q);refine ae (j_ eQ) λiw nN=>?_;rw[gq] at nN;cases nN;refine ag (λ_=>?_) (λq=>by simp at q);have aNp:=n6.put iQ yI.1;have ul:(t++u).length<=z.1.2.2.2.2.1.1.toNat*(jg r+8)+(jg r+8):=by rw[bl];omega
 have hu:aJ n6 (t++u):=kM.append kW;refine bz ⟨⟨rfl,rfl,rfl,by dsimp only;rw[aA];omega,by dsimp only;rw[aA];omega,?_,_,t++u,k7 _,?_,hu,?_⟩,by dsimp only;rw[aA];omega⟩;dsimp only
 rw[aA,bQ];exact((k8.trans l_).mono (m:=1+(z.1.2.2.2.2.1.1.toNat+1)*(jg r+8)) ab).lH (k7 _) (aJ.cons (by show tC.1.length<=20;omega) hu) (by rw[gS];omega);show tC.1.length<=(bj z.1.2.2.2.2.1 (W 1)).1.toNat;rw[aA,bQ];exact aNp;dsimp only;rw[aA,bQ];omega;simp only[cG,aM] at ah;have uo:z.1.2.2.2.2.1.1.toNat*(jg r+8)<=6*(jg r+8):=nk _ ab;exact a7 ⟨k8.mono ab,b,t,qF,ab,kM,ab⟩;obtain⟨R3,b,t,c4,fD,ij,oQ⟩:=gA;refine ae (jK _ R3.d) λfg iN=>?_;have tj:=R3.pG iN.1;apply ag<;>intro _;refine ae (pV _ aK) λe_ _=>?_;have E0:=h.go (m:=6) tj ab;refine ae (zl _ (E0.mono bk)) λfo yp=>?_;refine ae (uL _ (E0.go yp bk)) λfY wT=>?_;have Jt:=yp.trans wT;refine ae (pV _ aK) λjA _=>?_;refine ae (vO _ (E0.go Jt bk)) λeV wU=>?_;have ym:=Jt.trans wU.1;obtain⟨u,j3,kW,Qt⟩:=ym.s;have j3:eV.2.2.2.2.2.2.1.1=x.2.2.2.2.1.1++b::(t++u):=j3.trans (by show eK.2.2.2.2.2.2.1.1++u=_;rw[c4];simp);obtain⟨fQ,eQ,gq,k7⟩:=Bb j3 aj;refine ag (λ_=>?_) (λq=>by rw[fQ] at q;cases q);refine ae (j_ eQ) λlv qV=>?_;rw[gq] at qV;cases qV;refine ae (du (by simp only[b5];omega)) λuF AD=>?_;refine ag (λ_=>?_) (λq=>by rw[fQ] at q;cases q);refine ae (j_ eQ) λl9 wY=>?_;rw[gq] at wY;cases wY;refine ag (λ_=>?_) (λq=>by simp at q);have aNr:=n6.put fD AD.1;exact ak (((tj.trans ym).mono (m:=6*jg r+60) ab).lH (k7 _) (aJ.cons (by show uF.1.length<=20;omega) (ij.append kW)) (by rw[gS,bl];omega));exact ak (tj.mono ab)
theorem atp:∀(r n:Nat)(x:U o6),r<n->zP r x->aw (xg n x) (λy=>e9 x.2 (hN y.2) (jg r)):=by
 intro r;induction r with
 |zero=>
  intro n x aA aE;obtain⟨n,rfl⟩:∃m,n=m+1:=⟨n-1,ab⟩;obtain⟨h,⟨l,b6,a6,aa⟩,d0,d5,d6⟩:=aE;show aw (AX (xg n) x) _;unfold AX;obtain⟨t1,t2,t3,t4⟩:=b6;refine ae (c5 ⟨t1,t2⟩) λaD ct=>?_;obtain rfl:=eD (t3.symm.trans ct);refine ae (c5 ⟨a6,aa⟩) λaQ cM=>?_;have jX:e9 x.2 x.2 0:=e9.refl h.d;apply ag<;>intro _;exact ae (Ea _ (h.mono bk)) (λaT ax=>ak (ax.mono bk));refine ae (P:=λy=>hN y.2=x.2) ?_ (λaY cP=>?_);unfold Tm;exact ag (λ_=>ag (λ_=>ak rfl) (λ_=>ak rfl)) (λ_=>ak rfl);have cE:e9 x.2 (hN aY.2) 0:=by rw[cP];exact jX
  apply ag<;>intro _;exact ae (ac0 _ (h.go cE bk)) (λa5 cy=>ak ((cE.trans cy).mono bk));refine ae (P:=λy=>hN y.2=x.2/\y.1.1=true) ?_ (λbK dK=>?_);unfold Tn;refine ag (λ_=>ak ⟨cP,rfl⟩) (λ_=>ak ⟨cP,?_⟩);simp only[cG,aM];omega;obtain⟨db,f6⟩:=dK;have fH:e9 x.2 (hN bK.2) 0:=by rw[db];exact jX
  refine ag (λ_=>?_) (λq=>by rw[f6] at q;cases q);exact ae (Ea _ (h.go fH bk)) (λbL dL=>ak ((fH.trans dL).mono bk))
 |succ r cj=>
  intro n x aA aE;obtain⟨n,rfl⟩:∃m,n=m+1:=⟨n-1,ab⟩;obtain⟨h,⟨l,b6,a6,aa⟩,d0,d5,d6⟩:=aE;have an:jg (r+1)=6*jg r+80:=rfl;have As:16<=jg r:=by
   clear cj aA h d6 an;induction r with
   |zero=>exact Nat.le_refl _
   |succ r cj=>have:jg (r+1)=6*jg r+80:=rfl;omega
  have rD:∀x,zP r x->aw (xg n x) (λy=>e9 x.2 (hN y.2) (jg r)):=λx aW=>cj n x ab aW;show aw (AX (xg n) x) _;unfold AX;have Df:=b6;obtain⟨t1,t2,t3,t4⟩:=Df;refine ae (c5 ⟨t1,t2⟩) λaD ct=>?_;obtain rfl:=eD (t3.symm.trans ct);refine ae (c5 ⟨a6,aa⟩) λaQ cM=>?_;have JF:=t4.ts _ _ cM;have jX:e9 x.2 x.2 0:=e9.refl h.d;apply ag<;>intro aC;exact ae (Ea _ (h.mono ab)) (λaT ax=>ak (ax.mono ab));simp only[cG,aM] at aC;have dM:=JF.2.1 ab;refine ae (P:=λy=>hN y.2=x.2) ?_ (λaY cP=>?_);unfold Tm;exact ag (λ_=>ag (λ_=>ak rfl) (λ_=>ak rfl)) (λ_=>ak rfl);have cE:e9 x.2 (hN aY.2) 0:=by rw[cP];exact jX
  apply ag<;>intro _;exact ae (ac0 _ (h.go cE ab)) (λa5 cy=>ak ((cE.trans cy).mono ab));refine ae (P:=λy=>hN y.2=x.2/\(y.1.1=false->x.1.2.2.1.1<=4)) ?_ (λbK dK=>?_);unfold Tn;refine ag (λ_=>ak ⟨cP,λq=>(by cases q)⟩) (λ_=>ak ⟨cP,λq=>?_⟩);simp only[cG,aM] at q;omega;obtain⟨db,f6⟩:=dK;have fH:e9 x.2 (hN bK.2) 0:=by rw[db];exact jX
  refine ag (λ_=>?_) (λmD=>?_);exact ae (Ea _ (h.go fH ab)) (λbL dL=>ak ((fH.trans dL).mono ab));have d4:=f6 mD;apply ag<;>intro _;exact ae (atE _ r rD _ ⟨h.go fH ab,⟨l,b6.go fH,a6,aa⟩,d0,d4,by dsimp only;omega⟩) (λcu dY=>ak ((e9.trans fH dY).mono ab));refine ae (P:=λy=>hN y.2=x.2) ?_ (λbU eS=>?_);unfold ac5;exact ag (λ_=>ak db) (λ_=>ak db);have iV:e9 x.2 (hN bU.2) 0:=by rw[eS];exact jX
  have Ta:∀z:bc .i64,0<=z.1->(1<=(ba aQ.2.2.1).1->z.1<(ba aQ.2.2.1).1)->z.1<aQ.2.2.1.1.length:=λz _ q=>q (by show(1:Int)<=(aQ.2.2.1.1.length:Nat);omega);apply ag<;>intro _;refine ae (pV _ aK) λcd _=>?_;refine ae (jK _ iV.d) λbY e4=>?_;have kQ:=iV.pG e4.1;refine ae (uJ _ (h.go kQ ab)) λcT nK=>?_;have l_:=kQ.trans nK;refine ae (sB _ (h.go l_ ab)) λcA jt=>?_;have kR:=l_.trans jt;refine ae (xh _ (h.go kR ab)) λep nL=>?_;have wR:=kR.trans nL;have TY:=h.go (m:=6*jg r+77) wR ab;refine ae (vO _ (TY.mono ab)) λdF g5=>?_;obtain⟨sa,aj,a,cf,hw⟩:=g5;refine ae (jK _ sa.d) λeK gA=>?_;refine ae (jK _ gA.1) λfg iN=>?_;have tj:=sa.pG iN.1;have am2:=(b6.go wR).go tj;have E0:=TY.go (m:=6*jg r+76) tj ab;refine ae (Tr _ r rD _ ⟨E0.mono ab,⟨l,aQ,am2,a6,cM,gA.2.1,Ta _ gA.2.1 gA.2.2⟩,d0,d4,by dsimp only;omega⟩) λe_ Ap=>?_;have C':=e9.trans tj Ap;obtain⟨t,j3,kW,Qt⟩:=Ap.s;have j3:=alW j3 cf;obtain⟨fQ,eQ,gq,k7⟩:=Bb (ss:=e_.2.2.2.2.2.2.1) j3 aj;refine ag (λ_=>?_) (λq=>by rw[fQ] at q;cases q);refine ae (j_ eQ) λoa qo=>?_;rw[gq] at qo;cases qo;refine ae (du (by simp only[b5];omega)) λy6 JQ=>?_;refine ag (λ_=>?_) (λq=>by rw[fQ] at q;cases q);refine ae (j_ eQ) λnm vz=>?_;rw[gq] at vz;cases vz;refine ag (λ_=>?_) (λq=>by simp at q);have aNq:=n6.put (n:=0) ab JQ.1;have f18:=C'.lH (k7 (a.1,a.2.1,a.2.2.1,a.2.2.2.1,a.2.2.2.2.1,a.2.2.2.2.2.1,a.2.2.2.2.2.2.1,a.2.2.2.2.2.2.2.1,y6,a.2.2.2.2.2.2.2.2.2.1,())) (aJ.cons (by show y6.1.length<=20;omega) kW) (by rw[gS];omega);refine ae (Tr _ r rD _ ⟨TY.go f18 ab,⟨l,aQ,(b6.go wR).go f18,a6,cM,iN.2.1,Ta _ iN.2.1 iN.2.2⟩,d0,d4,by dsimp only;omega⟩) λeV wU=>?_;have ym:=e9.trans f18 wU;obtain⟨v,v1,v2,cK⟩:=wU.s;have v1:eV.2.2.2.2.2.2.1.1=ep.2.2.2.2.2.2.1.1++_::(t++v):=v1.trans (congrArg (·++v) (k7 _))|>.trans (by rw[cO];rfl);obtain⟨s1,s2,tN,Qc⟩:=Bb (ss:=eV.2.2.2.2.2.2.1) v1 aj;refine ag (λ_=>?_) (λq=>by rw[s1] at q;cases q);refine ae (j_ s2) λlv qV=>?_;rw[tN] at qV;cases qV;refine ae (du (by simp only[b5];omega)) λuF AD=>?_;refine ag (λ_=>?_) (λq=>by rw[s1] at q;cases q);refine ae (j_ s2) λl9 wY=>?_;rw[tN] at wY;cases wY;refine ag (λ_=>?_) (λq=>by simp at q);have aNr:=n6.put (n:=1) aNq AD.1;exact ak ((wR.trans (ym.lH (Qc _) (aJ.cons (by show uF.1.length<=20;omega) (kW.append v2)) (by rw[gS,bl];omega))).mono ab);refine ae (jK _ iV.d) λmS qs=>?_;have Da:=iV.pG qs.1;refine ae (Tr _ r rD _ ⟨h.go Da ab,⟨l,aQ,b6.go Da,a6,cM,qs.2.1,Ta _ qs.2.1 qs.2.2⟩,d0,d4,by dsimp only;omega⟩) λCf Sa=>?_;exact ak ((e9.trans Da Sa).mono ab)
theorem att:∀x:U o6,zP 5 x->aw (Tl x) (λy=>e9 x.2 (hN y.2) 500000):=λx h=>
 (atp 5 pg x (by unfold pg;omega) h).mono λy b7=>b7.mono bk
theorem atj:∀x:U acS,(gZ x.2.1/\xV x.1.2.1.1/\pn x.1.2.2.1/\aJ sU x.1.2.2.2.1.1/\0<=x.1.2.2.2.2.1.1/\x.1.2.2.2.2.1.1<x.1.2.2.1.2.1.1.length/\x.1.2.2.2.2.1.1<x.1.2.2.2.1.1.length)->aw (KI x) (λy=>gZ y.2.1/\aJ n6 y.1.1.2.2.2.1.1):=by
 intro x aE;obtain⟨aa,af,ax,a8,cy,dm,dL⟩:=aE;unfold KI;refine ae (c5 ⟨cy,dm⟩) λaD ct=>?_;refine ae (Ku _ ⟨ax.1,ax.2.2.2 _ _ ct⟩) λaF _=>?_;refine ae (jK _ aa) λaT cF=>?_;have gY:=fy (l:=x.1.2.2.2.1.1) (i:=x.1.2.2.2.2.1.1.toNat) ab;have gC:=a8 _ _ gY;have i0:(W 0).1=0:=rfl;refine ae (att _ ⟨⟨cF.1,af,by show 0+_<=_;decide,by show 0+_<=_;decide,by show 0<=(W 0).1;decide,by show(W 0).1+_<=_;decide⟩,⟨_,⟨cy,dL,gY,gC⟩,by show 0<=(W 0).1;decide,by show(W 0).1<_;rw[i0];have:=gC.t1;omega⟩,by show 0<=(W 0).1;decide,by show(W 0).1<=5;decide,by show 5<=(W 0).1+_;decide⟩) λaY a8=>?_;refine ak ⟨a8.d,?_⟩;obtain⟨t,t1,t2,t3⟩:=a8.s;have t1:aY.2.2.2.2.2.2.1.1=[]++t:=t1;dsimp only
 rw[t1];exact t2
theorem atg:∀x:U acQ,(gZ x.2.1/\xV x.1.2.1.1)->aw (KG x) (λy=>aJ n6 y.1.1.2.2.2.1.1):=by
 intro x aE;obtain⟨aa,af⟩:=aE;unfold KG;have i0:(W 0).1=0:=rfl;have i3:(W 3).1=3:=rfl;refine ae (jK _ aa) λaz cg=>?_;have qu:=cg.2.1;have bA:=cg.2.2 (by show 1<=(W 3).1;decide);dsimp only at bA;rw[i3] at bA;have hm:(bj (W 1) az.1.1).1=1+az.1.1.1:=by simp only[aM];omega
 refine ae (cQ (h:=KH) (R:=λy=>aJ n6 y.2.2.2.2.2.2.1.1) (λz:U Tk=>z.1.2.1=x.1.2.1/\z.1.2.2.2.1=bj (W 1) az.1.1/\0<=z.1.2.2.2.2.1.1/\aJ n6 z.2.2.2.2.1.1/\gZ z.2.1/\k9 (z.2.2.1,z.2.1,(),z.2.2.2.2.1,()) (500-100*z.1.2.2.2.2.1.1.toNat)) (λz=>((3:Nat)-z.1.2.2.2.2.1.1:Int).toNat) (λz ai=>?_) _ ⟨rfl,rfl,(by show 0<=(W 0).1;decide),aJ.nil,cg.1,cg.1,af,by show 0+(500-100*0)<=1000000;decide,by show 0+(500-100*0)<=1000000;decide,by show 0<=(W 0).1;decide,by show(W 0).1+((500-100*0:Nat):Int)<=1000000;decide⟩) λeK gA=>?_;obtain⟨ed,eX,gr,gb,mi,k8⟩:=ai;unfold KH;rw[ed,eX];apply ag<;>intro ah;simp only[cG,aM] at ah;have aA:=dN z.1.2.2.2.2.1 gr ab;have bQ:(z.1.2.2.2.2.1.1+1).toNat=z.1.2.2.2.2.1.1.toNat+1:=ab;have aZ:=af.1;refine ae (jK _ mi) λaF cz=>?_;refine ae (c5 ⟨cz.2.1,cz.2.2 (by show(1:Int)<=(x.1.2.1.1.length:Nat);omega)⟩) λbO eG=>?_;have bF:=af.2.2 _ _ eG;refine ae (jK _ cz.1) λaY df=>?_;refine ae (c5 ⟨df.2.1,df.2.2 (by show(1:Int)<=(bO.2.1.1.length:Nat);have:=bF.2.1;omega)⟩) λdP fL=>?_;have fe:=k8.pG df.1;refine ae (adq _ ⟨fe.mono ab,bF,bF.2.2.2 _ _ fL⟩) λbK dm=>?_;refine ae (pV _ aK) λbL _=>?_;refine ae (P:=λ_=>True) ?_ (λbU _=>?_);unfold acN;exact ag (λ_=>ae (pV _ aK) (λ_ _=>ak aK)) (λ_=>ak aK);refine ae (Ku _ ⟨bF.1,bF.2.2.2 _ _ fL⟩) λcd _=>?_;refine ae (sB _ (fe.go dm ab)) λbY j7=>?_;have kQ:=dm.trans j7;refine ae (jK _ kQ.d) λcT e5=>?_;have l_:=kQ.pG e5.1;refine ae (uJ _ (fe.go l_ ab)) λcA jt=>?_;have kR:=l_.trans jt;have fin:∀v:ve,e9 (z.2.2.1,aY.2.1,(),z.2.2.2.2.1,()) v 10->aJ n6 v.2.2.2.1.1/\k9 v (500-100*(z.1.2.2.2.2.1.1.toNat+1)):=λv g=>by
  obtain⟨t,t1,t2,t3⟩:=g.s;refine⟨?_,fe.go g ab⟩;rw[t1];exact gb.append t2
 apply ag<;>intro _;refine ae (vO _ (fe.go kR ab)) λep nL=>?_;obtain⟨f1,f2⟩:=fin (hN ep.2) ((kR.trans nL.1).mono bk);exact bz ⟨⟨rfl,rfl,by dsimp only;rw[aA];omega,f1,nL.1.d,by dsimp only;rw[aA,bQ];exact f2⟩,by dsimp only;rw[aA];omega⟩;refine ae (uL _ (fe.go kR ab)) λdF nM=>?_;obtain⟨f1,f2⟩:=fin (hN dF.2) ((kR.trans nM).mono bk);exact bz ⟨⟨rfl,rfl,by dsimp only;rw[aA];omega,f1,nM.d,by dsimp only;rw[aA,bQ];exact f2⟩,by dsimp only;rw[aA];omega⟩;exact a7 gb;exact ak gA
def Cw (q:D fq):Prop:=aJ n6 q.2.2.2.1.1
theorem asG:∀x:U Ky,(gZ x.2.1/\xV x.2.2.1.1.1/\(∃p,x.2.2.1.1.1[x.1.2.2.1.1.toNat]?=some p/\0<=x.1.2.2.1.1/\x.1.2.2.2.1.1.length<=p.2.1.1.length)/\aJ sU x.1.2.2.2.1.1/\x.1.2.2.2.1.1.length<=5/\x.1.2.2.2.2.1.1=0/\aJ Cw x.2.2.1.2.2.1.1/\x.2.2.1.2.2.1.1.length<=5)->aw (a3 Kx x) (λy=>gZ y.2.1/\y.2.2.1.1=x.2.2.1.1/\aJ Cw y.2.2.1.2.2.1.1/\y.2.2.1.2.2.1.1.length<=x.2.2.1.2.2.1.1.length+5):=by
 intro x aE;obtain⟨aa,af,⟨p,ax,a8,cy⟩,dm,dL,dY,fa,gJ⟩:=aE;have bn:=(eu.1 ax).1;refine cQ (λz:U Ky=>z.1.2.2.1=x.1.2.2.1/\z.1.2.2.2.1=x.1.2.2.2.1/\0<=z.1.2.2.2.2.1.1/\z.1.2.2.2.2.1.1<=x.1.2.2.2.1.1.length/\gZ z.2.1/\z.2.2.1.1=x.2.2.1.1/\aJ Cw z.2.2.1.2.2.1.1/\(z.2.2.1.2.2.1.1.length:Int)=x.2.2.1.2.2.1.1.length+z.1.2.2.2.2.1.1) (λz=>((x.1.2.2.2.1.1.length:Nat)-z.1.2.2.2.2.1.1:Int).toNat) (λz ai=>?_) _ ⟨rfl,rfl,ab,ab,aa,rfl,fa,ab⟩;obtain⟨ed,eX,gr,gb,mi,k8,qF,iQ⟩:=ai;unfold Kx;rw[ed,eX,k8];apply ag<;>intro ah;simp only[cG,aM] at ah;have aA:=dN z.1.2.2.2.2.1 gr ab;refine ae (c5 ⟨a8,ab⟩) λdP fL=>?_;obtain rfl:=eD (ax.symm.trans fL);refine ae (c5 ⟨gr,ah⟩) λdb fX=>?_;refine ae (atj _ ⟨mi,af,af.2.2 _ _ ax,dm,gr,by dsimp only;omega,ah⟩) λbL ez=>?_;refine ae (du (by simp only[b5];omega)) λj0 oX=>?_;obtain⟨dM,di⟩:=oX;rw[fI (by simp)] at dM;simp only[b5] at di;exact bz ⟨⟨rfl,rfl,by dsimp only;rw[aA];omega,by dsimp only;rw[aA];omega,ez.1,rfl,by dsimp only;rw[dM];exact qF.append (aJ.one ez.2),by dsimp only;rw[aA];omega⟩,by dsimp only;rw[aA];omega⟩;exact a7 ⟨mi,k8,qF,by dsimp only;omega⟩
theorem asJ:∀x:U acr,x.1.1.1.length<=1000000000->aw (Kv x) (λy=>ug y.1.1/\y.1.1.2.1.1=[]):=by
 intro x aE;unfold Kv;refine ae (asA _ aE) λaz cg=>?_;refine ae (asP _ cg) λaF cz=>?_;obtain⟨aG,aN⟩:=cz;have i0:(W 0).1=0:=rfl;refine ae (cQ (h:=Kw) (R:=λy=>gZ y.2.1/\y.2.2.1.1=aF.1.1/\aJ Cw y.2.2.1.2.2.1.1/\y.2.2.1.2.2.1.1.length<=20) (λz:U Th=>0<=z.1.2.2.1.1/\z.1.2.2.1.1<=aF.1.1.1.length/\gZ z.2.1/\z.2.2.1.1=aF.1.1/\aJ Cw z.2.2.1.2.2.1.1/\(z.2.2.1.2.2.1.1.length:Int)<=5*z.1.2.2.1.1) (λz=>((aF.1.1.1.length:Nat)-z.1.2.2.1.1:Int).toNat) (λz ai=>?_) _ ⟨by show 0<=(W 0).1;decide,by show(W 0).1<=_;rw[i0];omega,aG,rfl,aJ.nil,by show((0:Nat):Int)<=5*(W 0).1;decide⟩) λcd ff=>?_;obtain⟨ed,eX,gr,gb,mi,k8⟩:=ai;unfold Kw;rw[gb];have aZ:=aN.2.1;apply ag<;>intro ah;simp only[cG,aM] at ah;have aA:=dN z.1.2.2.1 ed ab;refine ae (c5 ⟨ed,ah⟩) λbO eG=>?_;refine ae (Wj _ aK) λaY df=>?_;obtain⟨dM,di,gL⟩:=df;have key:aY.1.1.1.length<=bO.2.1.1.length/\aJ sU aY.1.1.1:=by
  by_cases ay:aY.1.2.2.1.1=0;obtain⟨_,fD,ij⟩:=di ay;exact⟨Nat.le_of_eq fD,ij⟩;rw[gL ay];exact⟨Nat.zero_le _,aJ.nil⟩
 refine ae (asG _ ⟨gr,by dsimp only;rw[gb];exact aN,⟨bO,by dsimp only;rw[gb];exact eG,ed,key.1⟩,key.2,dM,rfl,mi,by dsimp only;omega⟩) λbU dZ=>?_;obtain⟨cW,dA,eR,iS⟩:=dZ;dsimp only at dA iS;exact bz ⟨⟨by dsimp only;rw[aA];omega,by dsimp only;rw[aA];omega,cW,dA.trans gb,eR,by dsimp only;rw[aA];omega⟩,by dsimp only;rw[aA];omega⟩;exact a7 ⟨gr,gb,mi,by dsimp only;omega⟩;obtain⟨d1,d2,d3,d4⟩:=ff;refine ae (atg _ ⟨d1,by dsimp only;rw[d2];exact aN⟩) λbY e4=>?_;refine ae (du (by simp only[b5];omega)) λvL Dx=>?_;obtain⟨dM,di⟩:=Dx;rw[fI (by simp)] at dM;refine ak ⟨?_,rfl⟩;show aJ _ vL.1;rw[dM];exact(d3.append (aJ.one e4)).imp λq ay=>aJ.imp ay λs aP=>jd aP bk
theorem axR:∀x:U agd,(x.1.1.1.length<=1000000000/\x.1.2.1.1=0)->aw (L4 x) (λy=>ug y.1.1/\y.1.1.2.1.1=[]):=by
 intro x aE;unfold L4;have i1:(W 1).1=1:=rfl;refine ag (λ_=>?_) (λah=>?_);exact ae (asJ _ aE.1) (λy b7=>ak b7);simp only[cG] at ah;rw[i1] at ah;omega
end cx
open Go.RowKit
def p2 (n:Int):Nat:=if 0<=n then(2*n).toNat else(-2*n-1).toNat
def uZ (u:Nat):Int:=if u%2=0 then(u/2:Nat) else-((u/2:Nat):Int)-1
theorem aM' (n:Int):uZ (p2 n)=n:=by
 unfold p2 uZ;split<;>split<;>omega
theorem Ir (n:Int)(aa:-9223372036854775808<=n)(af:n<=9223372036854775807):p2 n<18446744073709551616:=by
 unfold p2;split<;>omega
def ll:Nat->Nat->List UInt8
 |0,_=>[]
 |f+1,u=>if u<128 then[UInt8.ofNat u] else UInt8.ofNat (u%128+128)::ll f (u/128)
def fB (n:Int):List UInt8:=ll 10 (p2 n)
def pY (i u:Nat):List UInt8->Option (Nat×Nat)
 |[]=>none
 |c::r=>
  if 10<=i then none else if i=9/\1<c.toNat then none
  else if c.toNat<128 then(if c.toNat=0/\0<i then none else some (u+c.toNat%128*2^(7*i),i+1))
  else pY (i+1) (u+c.toNat%128*2^(7*i)) r
theorem aNn (f u:Nat):0<(ll (f+1) u).length:=by
 unfold ll;split<;>simp
theorem aNm (f u:Nat):(ll f u).length<=f:=by
 induction f generalizing u with
 |zero=>simp[ll]
 |succ f cj=>
  unfold ll;split
  ·simp
  ·simp;exact cj _
theorem aL2 (f:Nat):∀(i u a:Nat)(r:List UInt8),i+f=10->0<f->u<2^(64-7*i)->(i=0\/0<u)->pY i a (ll f u++r)=some (a+u*2^(7*i),i+(ll f u).length):=by
 induction f with
 |zero=>intro i u a r _ h;omega
 |succ f cj=>
  intro i u a r ap0 _ hu a6;unfold ll;by_cases bn:u<128
  ·rw[if_pos bn];have an:(UInt8.ofNat u).toNat=u:=by rw[UInt8.toNat_ofNat',Nat.mod_eq_of_lt ab]
   show pY i a (UInt8.ofNat u::r)=_;unfold pY;rw[an,if_neg ab,if_neg,if_pos bn,if_neg ab,Nat.mod_eq_of_lt bn]
   ·rfl
   ·rintro⟨rfl,aa⟩;simp at hu;omega
  ·rw[if_neg bn];have an:(UInt8.ofNat (u%128+128)).toNat=u%128+128:=by rw[UInt8.toNat_ofNat',Nat.mod_eq_of_lt ab]
   show pY i a (UInt8.ofNat (u%128+128)::(ll f (u/128)++r))=_;have aOm:i<9:=by
    rcases ky i 9 with h|h
    ·exact h
    ·have:i=9:=ab;subst this;simp at hu;omega
   have bF:2^(64-7*i)=2^(64-7*(i+1))*128:=by
    rw[show(128:Nat)=2^7 from rfl,<-Nat.pow_add];congr 1;omega
   unfold pY;rw[an,if_neg ab,if_neg ab,if_neg ab];rw[cj (i+1) (u/128) _ r ab ab (by rw[bF] at hu;exact Nat.div_lt_of_lt_mul (by rw[Nat.mul_comm];exact hu)) (.inr ab)];have he:(u%128+128)%128*2^(7*i)+u/128*2^(7*(i+1))=u*2^(7*i):=by
    rw[show 7*(i+1)=7+7*i by omega,Nat.pow_add,<-Nat.mul_assoc,<-iR];congr 1;omega
   rw[Nat.add_assoc,he,gS];congr 2;omega
def qB (l:List UInt8):Int×Nat×Bool:=match pY 0 0 l with
 |some (u,k)=>(uZ u,k,true)
 |none=>(0,0,false)
theorem WX (n:Int)(r:List UInt8)(aa:-9223372036854775808<=n)(af:n<=9223372036854775807):qB (fB n++r)=(n,(fB n).length,true):=by
 unfold qB fB;rw[aL2 10 0 (p2 n) 0 r rfl ab (by have:=Ir n aa af;simpa using this) (.inl rfl)];simp[aM']
namespace cx
set_option linter.unusedVariables false
set_option maxRecDepth 100000
def bd (s:ee):List UInt8:=s.1.data.toList
def cN (l:L (D [.int .u8])):List UInt8:=l.1.map λe=>UInt8.ofNat e.1.1.toNat
theorem bd.len (s:ee):(bd s).length=s.1.size:=by unfold bd;rw[Array.length_toList];rfl
theorem cN.len (l:L (D [.int .u8])):(cN l).length=l.1.length:=List.length_map ..
theorem bd.inj {s t:ee}(h:bd s=bd t):s=t:=by
 apply Subtype.ext;have:s.1.data=t.1.data:=Array.toList_inj.1 h;cases aP:s.1;cases bQ:t.1;rw[aP,bQ] at this;exact congrArg _ this
theorem bd.bytes (l:L (D [.int .u8])):bd (py l)=cN l:=by
 show((l.1.map _).toArray).toList=_;rw[List.toList_toArray];rfl
theorem Rl {s:ee}(h:s.1.size<=140737488355328):aw (s6 s) (λl=>cN l=bd s/\l.1.length=s.1.size):=by
 have aZ:=anx h;unfold s6 at aZ⊢;rw[dif_pos h] at aZ⊢;refine⟨_,rfl,?_,?_⟩
 ·show(s.1.data.toList.map _).map _=_;rw[List.map_map];show s.1.data.toList.map (λu=>UInt8.ofNat ((u.toNat:Int)).toNat)=_;have:(λu:UInt8=>UInt8.ofNat ((u.toNat:Int)).toNat)=id:=funext λu=>by simp
  rw[this,List.map_id];rfl
 ·obtain⟨y,aa,af⟩:=aZ;cases aa;exact af
theorem I5 {s t:ee}(h:s.1.size+t.1.size<=9223372036854775807):aw (fF s t) (λu=>bd u=bd s++bd t):=by
 refine(oR h).mono λu hu=>?_;unfold bd;rw[hu.1,ByteArray.data_append,Array.toList_append]
theorem CR {s:ee}{dx aj:Int}(h:0<=dx/\dx<=aj/\aj<=s.1.size):aw (pF s dx aj) (λr=>bd r=((bd s).drop dx.toNat).take (aj-dx).toNat):=by
 refine(Rr h).mono λr aO=>?_;unfold bd;rw[aO.1,ByteArray.data_extract,Array.toList_extract,List.extract_eq_take_drop];congr 1;omega
theorem x2 {l r:L (D [.int .u8])}(h:l.1.length+r.1.length<=1048576000):aw (c8 1 l r) (λx=>cN x=cN l++cN r):=by
 refine(du ab).mono λx aW=>?_;unfold cN;rw[aW.1,List.map_append]
theorem cN.one (e:D [.int .u8]):cN (cD [e])=[UInt8.ofNat e.1.1.toNat]:=by unfold cN;rw[fI (by simp)];rfl
theorem aw.gO {α:Type}{b:Bool}{x y:Option α}{P:α->Prop}(h:aw x P)(ah:b=true:=by simp only[cG,aM];omega):aw (cond b x y) P:=by rw[ah];exact h
theorem aw.jl {α:Type}{b:Bool}{x y:Option α}{P:α->Prop}(h:aw y P)(ah:b=false:=by simp only[cG,aM];omega):aw (cond b x y) P:=by rw[ah];exact h
theorem cN.jv {l m:L (D [.int .u8])}{c:List UInt8}(h:cN l=cN m++c):l.1.length=m.1.length+c.length:=by rw[<-cN.len,h,bl,cN.len]
theorem iB {s t:ee}(h:s.1.size+t.1.size<=9223372036854775807:=by omega):aw (fF s t) (λu=>bd u=bd s++bd t/\u.1.size=s.1.size+t.1.size):=
 (I5 h).mono λu hu=>⟨hu,by rw[<-bd.len,hu,bl,bd.len,bd.len]⟩
theorem aNA (n:bc .i64){v1:bc .u64}{v2:bc .i64}(aa:v1.1=IntKind.u64.wrap ((eN .u64 n).1*(2^(min ((bc.w .u64 1).1).toNat IntKind.u64.bits):Nat)))(af:v2.1=IntKind.i64.wrap (Int.fdiv n.1 (2^(min ((bc.w .u64 63).1).toNat IntKind.i64.bits):Nat))):(q7 v1 (eN .u64 v2)).1=(p2 n.1:Int):=by
 have ah:=bc.ry n;have aD:v1.1=IntKind.u64.wrap (IntKind.u64.wrap n.1*2):=aa;have aQ:(eN .u64 v2).1=IntKind.u64.wrap (n.1/9223372036854775808):=by
  rw[q6,af];have:Int.fdiv n.1 ((2^(min ((bc.w .u64 63).1).toNat IntKind.i64.bits):Nat):Int)=n.1/9223372036854775808:=Int.fdiv_eq_ediv_of_nonneg _ bk;rw[this,wrap64,oD,oD];omega
 show bits BinOp.xor IntKind.u64 v1.1 (eN .u64 v2).1=_;rw[aD,aQ];by_cases a6:0<=n.1
 ·have aD:IntKind.u64.wrap (IntKind.u64.wrap n.1*2)=((p2 n.1:Nat):Int):=by
   unfold p2;rw[if_pos a6,IntKind.wrap_u64,IntKind.wrap_u64];omega
  have aQ:IntKind.u64.wrap (n.1/9223372036854775808)=((0:Nat):Int):=by rw[IntKind.wrap_u64];omega
  rw[aD,aQ,u64_xor_nat _ _ (Ir n.1 ah.1 ah.2) ab,Nat.xor_zero]
 ·have aD:IntKind.u64.wrap (IntKind.u64.wrap n.1*2)=((18446744073709551615-p2 n.1:Nat):Int):=by
   unfold p2;rw[if_neg a6,IntKind.wrap_u64,IntKind.wrap_u64];omega
  have aQ:IntKind.u64.wrap (n.1/9223372036854775808)=((18446744073709551615:Nat):Int):=by rw[IntKind.wrap_u64];omega
  have ai:=Ir n.1 ah.1 ah.2;rw[aD,aQ,u64_xor_nat _ _ ab ab];have aW:∀a:Nat,a<18446744073709551616->a^^^18446744073709551615=18446744073709551615-a:=by
   intro a cf;have ah:(BitVec.ofNat 64 a^^^BitVec.allOnes 64).toNat=18446744073709551615-a:=by
    rw[BitVec.xor_allOnes,BitVec.toNat_not,BitVec.toNat_ofNat,Nat.mod_eq_of_lt cf]
   rw[BitVec.toNat_xor,BitVec.toNat_allOnes,BitVec.toNat_ofNat,Nat.mod_eq_of_lt cf] at ah;exact ah
  rw[aW _ ab];omega
theorem axz (x:Nat)(h:x<256):x|||128=x%128+128:=by
 have:∀x:Fin 256,x.val|||128=x.val%128+128:=by decide+kernel
 exact this ⟨x,h⟩
theorem axB (u:bc .u64):UInt8.ofNat (rH (eN .u8 u) (bc.w .u8 128)).1.toNat=UInt8.ofNat (u.1.toNat%128+128):=by
 have a6:0<=u.1:=u.2.1;have aa:(eN .u8 u).1=((u.1.toNat%256:Nat):Int):=by rw[q6,xG];omega
 have af:=u8_or_nat (u.1.toNat%256) 128 ab ab;have ax:(rH (eN .u8 u) (bc.w .u8 128)).1=((u.1.toNat%128+128:Nat):Int):=by
  show bits BinOp.or IntKind.u8 (eN .u8 u).1 ((128:Nat):Int)=_;rw[aa,af,axz _ (Nat.mod_lt _ ab)];omega
 rw[ax];rfl
theorem Qx {f u:Nat}(h:¬u<128):ll (f+1) u=UInt8.ofNat (u%128+128)::ll f (u/128):=by
 show(if u<128 then _ else _)=_;rw[if_neg h]
theorem Xu {f u:Nat}(h:u<128):ll (f+1) u=[UInt8.ofNat u]:=by
 show(if u<128 then _ else _)=_;rw[if_pos h]
theorem K6:∀x:U adQ,True->aw (zu x) (λy=>bd y.1.1=fB x.1.1.1):=by
 intro x _;unfold zu;have ah:=bc.ry x.1.1;refine ae (SW bk) (λv1 aa=>?_);refine ae (uB bk) (λv2 af=>?_);have ai:=aNA x.1.1 aa af;have bn:=Ir x.1.1.1 ah.1 ah.2;refine ae (cQ (h:=K5) (R:=λy=>∃f,0<f/\y.1.1.1.toNat<128/\cN y.1.2.1++ll f y.1.1.1.toNat=fB x.1.1.1/\y.1.2.1.1.length<=10) (λz:U TH=>∃f,0<f/\z.1.1.1<2^(7*f)/\cN z.1.2.1++ll f z.1.1.1.toNat=fB x.1.1.1/\z.1.2.1.1.length+f=10) (λz=>z.1.1.1.toNat) (λz ai=>?_) _ ⟨10,bk,by show(q7 v1 (eN .u64 v2)).1<_;rw[ai];simp;omega,by show[]++ll 10 (q7 v1 (eN .u64 v2)).1.toNat=_;rw[ai];rfl,rfl⟩) (λa5 cZ=>?_)
 ·obtain⟨f,f0,f1,f2,f3⟩:=ai;have w9:0<=z.1.1.1:=z.1.1.2.1;unfold K5;refine ag (λah=>?_) (λah=>?_)
  ·have ah:128<=z.1.1.1:=by simp only[cG] at ah;exact ah
   refine ae (x2 (by simp only[b5];omega)) (λbT ko=>?_);rw[cN.one] at ko;dsimp only at ko;rw[axB] at ko;have nr:=congrArg List.length ko;rw[bl,cN.len,cN.len,List.length_singleton] at nr;refine ae (uB bk) (λv4 ot=>?_);have aL:v4.1=z.1.1.1/128:=by
    have e:Int.fdiv z.1.1.1 ((2^(min ((bc.w .u64 7).1).toNat IntKind.u64.bits):Nat):Int)=z.1.1.1/128:=Int.fdiv_eq_ediv_of_nonneg _ bk;rw[ot,e,oD];have aa:z.1.1.1<=18446744073709551615:=z.1.1.2.2;omega
   have vG:v4.1.toNat=z.1.1.1.toNat/128:=ab;obtain⟨f,rfl⟩:∃g,f=g+1:=⟨f-1,ab⟩;have bF:(2:Int)^(7*(f+1))=2^(7*f)*128:=by rw[show 7*(f+1)=7*f+7 by omega,Int.pow_add];rfl
   rw[bF] at f1;have bB:0<f:=by
    rcases Nat.eq_zero_or_pos f with h|h
    ·subst h;simp at f1;omega
    ·exact h
   refine bz ⟨⟨f,bB,by dsimp only;omega,?_,by dsimp only;omega⟩,by dsimp only;omega⟩;dsimp only
   rw[ko,vG,cO,<-f2,Qx ab];rfl
  ·have ah:z.1.1.1<128:=by simp only[cG] at ah;exact ah
   exact a7 ⟨f,f0,by dsimp only;omega,f2,by dsimp only;omega⟩
 ·obtain⟨f,f0,f1,f2,f3⟩:=cZ;refine ae (x2 (by simp only[b5];omega)) (λmN uv=>?_);refine ak ?_;obtain⟨f,rfl⟩:∃g,f=g+1:=⟨f-1,ab⟩;have w9:0<=a5.1.1.1:=a5.1.1.2.1;dsimp only
  rw[bd.bytes,uv,cN.one,<-f2,Xu f1];dsimp only
  rw[q6,xG,show a5.1.1.1%256=a5.1.1.1 by omega]
end cx
theorem amD {u:Nat}(h:u<18446744073709551616):p2 (uZ u)=u:=by
 unfold p2 uZ;split<;>split<;>omega
theorem aM_ {u:Nat}(h:u<18446744073709551616):-9223372036854775808<=uZ u/\uZ u<=9223372036854775807:=by
 unfold uZ;split<;>omega
theorem alm:∀(l:List UInt8)(i a v k:Nat),pY i a l=some (v,k)->∃(u:Nat) (r:List UInt8),l=ll (10-i) u++r/\v=a+u*2^(7*i)/\k=i+(ll (10-i) u).length/\(0<i->0<u)/\u<2^(64-7*i)/\i<10
 |[],i,a,v,k,h=>by cases h
 |c::r,i,a,v,k,h=>by
  unfold pY at h;by_cases gJ:10<=i
  ·rw[if_pos gJ] at h;cases h
  ·rw[if_neg gJ] at h;by_cases fa:i=9/\1<c.toNat
   ·rw[if_pos fa] at h;cases h
   ·rw[if_neg fa] at h;obtain⟨f,bB⟩:∃f,10-i=f+1:=⟨9-i,ab⟩;have apM:=c.toNat_lt;by_cases an:c.toNat<128
    ·rw[if_pos an] at h;by_cases ai:c.toNat=0/\0<i
     ·rw[if_pos ai] at h;cases h
     ·rw[if_neg ai] at h;cases h;have aL:ll (10-i) c.toNat=[c]:=by
       rw[bB,cx.Xu an];simp
      refine⟨c.toNat,r,by rw[aL];rfl,by rw[Nat.mod_eq_of_lt an],by rw[aL];rfl,λa6=>by omega,?_,ab⟩;by_cases aj:i=9
      ·subst aj;simp;omega
      ·have:2^7<=2^(64-7*i):=Nat.pow_le_pow_right ab ab;omega
    ·rw[if_neg an] at h;obtain⟨e7,mE,aD,aQ,bO,cP,dP,db⟩:=alm r (i+1) _ v k h;have hu:0<e7:=cP ab;have JO:i<9:=ab;refine⟨c.toNat%128+128*e7,mE,?_,?_,?_,λ_=>by omega,?_,ab⟩
     ·have aL:ll (10-i) (c.toNat%128+128*e7)=c::ll (10-(i+1)) e7:=by
       rw[bB,cx.Qx ab,show 10-(i+1)=f by omega,show(c.toNat%128+128*e7)%128+128=c.toNat by omega,show(c.toNat%128+128*e7)/128=e7 by omega];simp
      rw[aL,aD];rfl
     ·rw[aQ,show 7*(i+1)=7*i+7 by omega,Nat.pow_add];have:e7*(2^(7*i)*2^7)=128*e7*2^(7*i):=by
       rw[show(2:Nat)^7=128 from rfl,Nat.mul_comm (2^(7*i)) 128,<-Nat.mul_assoc,Nat.mul_comm e7 128]
      rw[this,iR];omega
     ·have aL:ll (10-i) (c.toNat%128+128*e7)=c::ll (10-(i+1)) e7:=by
       rw[bB,cx.Qx ab,show 10-(i+1)=f by omega,show(c.toNat%128+128*e7)%128+128=c.toNat by omega,show(c.toNat%128+128*e7)/128=e7 by omega];simp
      rw[aL,gS,bO];omega
     ·have bF:2^(64-7*i)=2^(64-7*(i+1))*128:=by
       rw[show(128:Nat)=2^7 from rfl,<-Nat.pow_add];congr 1;omega
      rw[bF];have:=nk 128 (Nat.succ_le_of_lt dP);omega
theorem aL0 {l:List UInt8}{n:Int}{k:Nat}(h:qB l=(n,k,true)):-9223372036854775808<=n/\n<=9223372036854775807/\k=(fB n).length/\∃r,l=fB n++r:=by
 unfold qB at h;cases aO:pY 0 0 l with
 |none=>rw[aO] at h;cases h
 |some p=>
  obtain⟨v,j⟩:=p;rw[aO] at h;cases h;obtain⟨u,r,aD,aQ,bO,_,dP,_⟩:=alm l 0 0 v k aO;have hu:u<18446744073709551616:=by simpa using dP
  have aL:v=u:=by simpa using aQ
  subst aL;have ai:=aM_ hu;refine⟨ai.1,ai.2,?_,r,?_⟩
  ·unfold fB;rw[amD hu];simpa using bO
  ·unfold fB;rw[amD hu];exact aD
def An (h:Nat)(c:UInt8):Nat:=((h^^^c.toNat)*16777619)%4294967296
def k1 (l:List UInt8):Nat:=l.foldl An 2166136261
theorem aoT (h:Nat)(c:UInt8):An h c<4294967296:=by unfold An;omega
theorem aoG (l:List UInt8)(c:UInt8):k1 (l++[c])=An (k1 l) c:=by unfold k1;rw[List.foldl_append,List.foldl_cons,List.foldl_nil]
theorem aoI (l:List UInt8)(a:Nat)(cf:a<4294967296):l.foldl An a<4294967296:=by
 induction l generalizing a with
 |nil=>exact cf
 |cons c t cj=>exact cj _ (aoT _ _)
theorem aoH (l:List UInt8):k1 l<4294967296:=aoI l _ bk
def od (h:Nat):List UInt8:=[UInt8.ofNat (h/16777216),UInt8.ofNat (h/65536),UInt8.ofNat (h/256),UInt8.ofNat h]
namespace cx
set_option linter.unusedVariables false
set_option maxRecDepth 100000
theorem Xx (n:Int):IntKind.u32.wrap n=n%4294967296:=IntKind.wrap_u32 n
theorem alP {s:ee}{i:Int}{u:bc .u8}(h:∃b,s.1.data[i.toNat]?=some b/\u.1=(b.toNat:Int)):∃b:UInt8,(bd s)[i.toNat]?=some b/\u.1=(b.toNat:Int):=by
 obtain⟨b,aa,af⟩:=h;exact⟨b,by unfold bd;rw[Array.getElem?_toList];exact aa,af⟩
theorem al4 {s:ee}{i:bc .i64}{h:bc .u32}{u:bc .u8}(a6:0<=i.1)(fM:h.1=(k1 ((bd s).take i.1.toNat):Nat))(hu:∃b,s.1.data[i.1.toNat]?=some b/\u.1=(b.toNat:Int)):(vI (q7 h (eN .u32 u)) (bc.w .u32 16777619)).1=(k1 ((bd s).take (i.1+1).toNat):Nat):=by
 obtain⟨b,aa,af⟩:=alP hu;have ah:=b.toNat_lt;have bn:=aoH ((bd s).take i.1.toNat);have aW:(q7 h (eN .u32 u)).1=((k1 ((bd s).take i.1.toNat)^^^b.toNat:Nat):Int):=by
  show bits BinOp.xor IntKind.u32 h.1 (eN .u32 u).1=_;rw[fM,q6,af,Xx,show(b.toNat:Int)%4294967296=(b.toNat:Int) by omega,u32_xor_nat _ _ bn ab]
 rw[Ca a6 aa,aoG,SU,aW];have:(bc.w .u32 16777619).1=16777619:=rfl;rw[this,Xx];unfold An;omega
theorem TL:∀x:U ad0,True->aw (A2 x) (λy=>y.1.1.1=(k1 (bd x.1.1):Nat)):=by
 intro x _;unfold A2;have aP:=S.b x.1.1;have i0:(W 0).1=0:=rfl;refine ae (cQ (h:=K_) (R:=λy:bq adZ=>y.1.1.1=(k1 (bd x.1.1):Nat)) (λz:U TJ=>z.1.1=x.1.1/\z.1.2.2.1=mO x.1.1/\0<=z.1.2.2.2.1.1/\z.1.2.2.2.1.1<=x.1.1.1.size/\z.1.2.1.1=(k1 ((bd x.1.1).take z.1.2.2.2.1.1.toNat):Nat)) (λz=>(x.1.1.1.size-z.1.2.2.2.1.1:Int).toNat) (λz ai=>?_) _ ⟨rfl,rfl,by show 0<=(W 0).1;decide,by show(W 0).1<=_;rw[i0];omega,rfl⟩) (λy b7=>ak b7);obtain⟨ed,eX,gr,gb,mi⟩:=ai;unfold K_;rw[ed,eX];refine ag (λah=>?_) (λah=>?_)
 ·simp only[cG,aM] at ah;have aA:=dN z.1.2.2.2.1 gr ab;refine ae (y4 ⟨gr,ah⟩) (λv1 q4=>?_);exact bz ⟨⟨rfl,rfl,by dsimp only;rw[aA];omega,by dsimp only;rw[aA];omega,by dsimp only;rw[aA];exact al4 gr mi q4⟩,by dsimp only;rw[aA];omega⟩
 ·simp only[cG,aM] at ah;refine a7 ?_;rw[mi,zI (by rw[bd.len];omega)]
theorem aEU:∀x:U ai3,True->aw (N0 x) (λy=>y.1.1.1=(k1 (bd x.1.1):Nat)):=by
 intro x _;unfold N0;have aP:=S.b x.1.1;have i0:(W 0).1=0:=rfl;refine ae (cQ (h:=N2) (R:=λy:bq ai2=>y.1.1.1=(k1 (bd x.1.1):Nat)) (λz:U VT=>z.1.1=x.1.1/\0<=z.1.2.2.1.1/\z.1.2.2.1.1<=x.1.1.1.size/\z.1.2.1.1=(k1 ((bd x.1.1).take z.1.2.2.1.1.toNat):Nat)) (λz=>(x.1.1.1.size-z.1.2.2.1.1:Int).toNat) (λz ai=>?_) _ ⟨rfl,by show 0<=(W 0).1;decide,by show(W 0).1<=_;rw[i0];omega,rfl⟩) (λy b7=>ak b7);obtain⟨ed,gr,gb,mi⟩:=ai;unfold N2;rw[ed];refine ag (λah=>?_) (λah=>?_)
 ·simp only[cG,aM] at ah;have aA:=dN z.1.2.2.1 gr ab;refine ae (y4 ⟨gr,ah⟩) (λv1 q4=>?_);exact bz ⟨⟨rfl,by dsimp only;rw[aA];omega,by dsimp only;rw[aA];omega,by dsimp only;rw[aA];exact al4 gr mi q4⟩,by dsimp only;rw[aA];omega⟩
 ·simp only[cG,aM] at ah;refine a7 ?_;rw[mi,zI (by rw[bd.len];omega)]
theorem ZM {h:bc .u32}{n:Nat}(aA:h.1=(n:Nat)){v1 v2 cK:bc .u32}(aa:v1.1=IntKind.u32.wrap (Int.fdiv h.1 (2^(min ((bc.w .u64 24).1).toNat IntKind.u32.bits):Nat)))(af:v2.1=IntKind.u32.wrap (Int.fdiv h.1 (2^(min ((bc.w .u64 16).1).toNat IntKind.u32.bits):Nat)))(ax:cK.1=IntKind.u32.wrap (Int.fdiv h.1 (2^(min ((bc.w .u64 8).1).toNat IntKind.u32.bits):Nat))):
 bd (py (cD [((eN .u8 v1),()),((eN .u8 v2),()),((eN .u8 cK),()),((eN .u8 h),())]))=od n:=by
 have bn:h.1<=4294967295:=h.2.2;have key:∀(v:bc .u32)(k q:Nat),v.1=IntKind.u32.wrap (Int.fdiv h.1 (k:Nat))->0<k->q=n/k->UInt8.ofNat (eN .u8 v).1.toNat=UInt8.ofNat q:=λv k q aL aU ay=>by
  have e:Int.fdiv h.1 ((k:Nat):Int)=((n/k:Nat):Int):=by rw[Int.fdiv_eq_ediv_of_nonneg _ ab,aA];rfl
  have hle:n/k<=n:=Nat.div_le_self _ _;have RQ:v.1=(q:Int):=by rw[aL,e,Xx,ay];omega
  rw[q6,RQ,xG];apply UInt8.toNat_inj.1;simp only[UInt8.toNat_ofNat'];omega
 have cP:UInt8.ofNat (eN .u8 h).1.toNat=UInt8.ofNat n:=by
  rw[q6,aA,xG];apply UInt8.toNat_inj.1;simp only[UInt8.toNat_ofNat'];omega
 rw[bd.bytes];unfold cN od;rw[fI (by simp)];simp only[List.map_cons,List.map_nil];rw[key v1 16777216 _ aa bk rfl,key v2 65536 _ af bk rfl,key cK 256 _ ax bk rfl,cP]
theorem aeI:∀x:U aeG,True->aw (EF x) (λy=>bd y.1.1=od x.1.1.1.toNat):=by
 intro x _;unfold EF;refine ae (uB bk) (λv1 aa=>?_);refine ae (uB bk) (λv2 af=>?_);refine ae (uB bk) (λcK ax=>?_);have a6:0<=x.1.1.1:=x.1.1.2.1;exact ak (ZM ab aa af ax)
theorem aEQ:∀x:U ai1,True->aw (N1 x) (λy=>bd y.1.1=od (k1 (bd x.1.1))):=by
 intro x _;unfold N1;refine ae (aEU _ aK) (λaz cg=>?_);refine ae (uB bk) (λv1 aa=>?_);refine ae (uB bk) (λv2 af=>?_);refine ae (uB bk) (λcK ax=>?_);exact ak (ZM cg aa af ax)
theorem anb (c:UInt8){v:bc .u8}(aL:v.1=(c.toNat:Int)):(rG v (bc.w .u8 127)).1=((c.toNat%128:Nat):Int):=by
 have an:c.toNat<256:=c.toNat_lt;have h:=u8_and_nat c.toNat 127 an ab;show bits BinOp.and IntKind.u8 v.1 ((127:Nat):Int)=_;rw[aL,h,show(127:Nat)=2^7-1 from rfl,Nat.and_two_pow_sub_one_eq_mod]
theorem axA {x v:bc .u64}{u m k:Nat}(aW:x.1=(u:Int))(aL:v.1=IntKind.u64.wrap (((m:Nat):Int)*(2^k:Nat)))(hu:u<2^k)(hm:m*2^k<18446744073709551616)(apb:u<18446744073709551616):(rH x v).1=((u+m*2^k:Nat):Int):=by
 have aqE:u|||(m*2^k)=u+m*2^k:=by rw[Nat.mul_comm,Nat.or_comm,<-Nat.two_pow_add_eq_or_of_lt hu,Nat.add_comm]
 have RQ:v.1=((m*2^k:Nat):Int):=by
  rw[aL,<-Int.natCast_mul,oD];generalize m*2^k=q at hm;omega
 show bits BinOp.or IntKind.u64 x.1 v.1=_;rw[aW,RQ,u64_or_nat _ _ apb hm,aqE]
theorem aoz {x:bc .u64}{u:Nat}(aW:x.1=(u:Int)){v:bc .u64}(aL:v.1=IntKind.u64.wrap (Int.fdiv x.1 (2^(min ((bc.w .u64 1).1).toNat IntKind.u64.bits):Nat))):(q7 (eN .i64 v) (uA (eN .i64 (rG x (bc.w .u64 1))))).1=uZ u:=by
 have hm:x.1<=18446744073709551615:=x.2.2;have h:u<18446744073709551616:=ab;have cf:=u64_and_nat u 1 h ab;have gv:(rG x (bc.w .u64 1)).1=((u%2:Nat):Int):=by
  show bits BinOp.and IntKind.u64 x.1 ((1:Nat):Int)=_;rw[aW,cf,Nat.and_one_is_mod]
 have aD:(eN .i64 v).1=((u/2:Nat):Int):=by
  have:Int.fdiv x.1 ((2^(min ((bc.w .u64 1).1).toNat IntKind.u64.bits):Nat):Int)=x.1/2:=Int.fdiv_eq_ediv_of_nonneg _ bk;rw[q6,aL,this,aW,oD,wrap64];omega
 have bO:(uA (eN .i64 (rG x (bc.w .u64 1)))).1=-((u%2:Nat):Int):=by
  have aQ:(eN .i64 (rG x (bc.w .u64 1))).1=((u%2:Nat):Int):=by
   rw[q6,gv,wrap64];have:u%2<2:=Nat.mod_lt _ bk;omega
  rw[abw,aQ,wrap64];have:u%2<2:=Nat.mod_lt _ bk;omega
 show bits BinOp.xor IntKind.i64 (eN .i64 v).1 (uA (eN .i64 (rG x (bc.w .u64 1)))).1=_;rw[aD,bO];have ay:u/2<9223372036854775808:=ab;generalize aqM:u/2=q at ay;have aaX:BitVec.ofInt 64 (q:Int)=BitVec.ofNat 64 q:=BitVec.ofInt_natCast 64 q;unfold uZ;rw[aqM];rcases Nat.mod_two_eq_zero_or_one u with a6|a6
 ·rw[a6,if_pos rfl];show IntKind.i64.wrap ((BitVec.ofInt 64 (q:Int)^^^BitVec.ofInt 64 (-((0:Nat):Int))).toNat:Int)=_;rw[aaX,show BitVec.ofInt 64 (-((0:Nat):Int))=0#64 from rfl,BitVec.xor_zero,BitVec.toNat_ofNat,Nat.mod_eq_of_lt ab,wrap64];omega
 ·rw[a6,if_neg ab];show IntKind.i64.wrap ((BitVec.ofInt 64 (q:Int)^^^BitVec.ofInt 64 (-((1:Nat):Int))).toNat:Int)=_;rw[aaX,show BitVec.ofInt 64 (-((1:Nat):Int))=BitVec.allOnes 64 from rfl,BitVec.xor_allOnes,BitVec.toNat_not,BitVec.toNat_ofNat,Nat.mod_eq_of_lt ab,wrap64];omega
def qJ (l:List UInt8)(k u:Nat):Prop:=k<=l.length/\k<=10/\u<2^(7*k)/\u<18446744073709551616/\pY 0 0 l=pY k u (l.drop k)
theorem qJ.start (l:List UInt8):qJ l 0 0:=⟨Nat.zero_le _,ab,by simp,ab,rfl⟩
theorem qJ.fail {l k u}(h:qJ l k u)(aU:l.length<=k\/10<=k):qB l=(0,0,false):=by
 obtain⟨aa,af,ax,a8,cy⟩:=h;unfold qB;rw[cy];rcases aU with aU|aU
 ·rw[List.drop_of_length_le aU];rfl
 ·cases l.drop k with
  |nil=>rfl
  |cons c r=>unfold pY;rw[if_pos aU]
theorem qJ.byte {l k u}{c:UInt8}(h:qJ l k u)(an:l[k]?=some c)(gJ:k<10):pY 0 0 l=if k=9/\1<c.toNat then none else if c.toNat<128 then(if c.toNat=0/\0<k then none else some (u+c.toNat%128*2^(7*k),k+1)) else pY (k+1) (u+c.toNat%128*2^(7*k)) (l.drop (k+1)):=by
 have bn:=(eu.1 an).1;rw[h.2.2.2.2,List.drop_eq_getElem_cons bn,(eu.1 an).2]
 conv=>lhs;unfold pY
 rw[if_neg ab]
theorem qJ.room {k u:Nat}{c:UInt8}(hu:u<2^(7*k))(gJ:k<10)(fa:¬(k=9/\1<c.toNat)):c.toNat%128*2^(7*k)<18446744073709551616/\u+c.toNat%128*2^(7*k)<18446744073709551616/\u+c.toNat%128*2^(7*k)<2^(7*(k+1)):=by
 have ax:u+c.toNat%128*2^(7*k)<2^(7*(k+1)):=by
  rw[show 7*(k+1)=7*k+7 by omega,Nat.pow_add];have ax:c.toNat%128<=127:=ab;have:=nk (2^(7*k)) ax;omega
 by_cases aU:k=9
 ·subst aU;have a8:c.toNat%128<=1:=ab;have cy:=nk (2^(7*9)) a8;simp at cy hu⊢;simp at ax;omega
 ·have:2^(7*(k+1))<=2^63:=Nat.pow_le_pow_right ab ab;simp at this;omega
theorem qJ.next {l k u}{c:UInt8}(h:qJ l k u)(an:l[k]?=some c)(gJ:k<10)(fa:¬(k=9/\1<c.toNat))(sb:128<=c.toNat):qJ l (k+1) (u+c.toNat%128*2^(7*k)):=by
 have aO:=qJ.room h.2.2.1 gJ fa;refine⟨(eu.1 an).1,ab,aO.2.2,aO.2.1,?_⟩;rw[h.byte an gJ,if_neg fa,if_neg ab]
theorem auA:∀x:U adV,True->aw (K8 x) (λy=>(y.1.1.1,y.1.2.1.1.toNat,y.1.2.2.1)=qB (bd x.1.1)/\0<=y.1.2.1.1):=by
 intro x _;unfold K8;have aP:=S.b x.1.1;have i0:(W 0).1=0:=rfl;refine ae (cQ (h:=K9) (R:=Sum.elim (λy=>qB (bd x.1.1)=(0,0,false)) (λy=>(y.1.1.1,y.1.2.1.1.toNat,y.1.2.2.1)=qB (bd x.1.1)/\0<=y.1.2.1.1)) (λz:U TI=>z.1.1=x.1.1/\0<=z.1.2.2.1.1/\0<=z.1.2.1.1/\qJ (bd x.1.1) z.1.2.2.1.1.toNat z.1.2.1.1.toNat) (λz=>(10-z.1.2.2.1.1:Int).toNat) (λz ai=>?_) _ ⟨rfl,by show 0<=(W 0).1;decide,by show 0<=(bc.w .u64 0).1;decide,qJ.start _⟩) (λcu fc=>?_)
 ·obtain⟨ed,eX,gr,gb⟩:=ai;unfold K9;rw[ed];have ux:=bd.len x.1.1;refine ag (λah=>?_) (λah=>?_)
  ·simp only[cG,aM] at ah;refine ag (λaV=>?_) (λaV=>?_)
   ·simp only[cG,aM] at aV;refine ae (y4 ⟨eX,ah⟩) (λv1 q4=>?_);obtain⟨c,an,apS⟩:=alP q4;have apM:=c.toNat_lt;have qm:=gb.byte an ab;refine ae (P:=Sum.elim (λ_=>¬(z.1.2.2.1.1.toNat=9/\1<c.toNat)) (λ_=>z.1.2.2.1.1.toNat=9/\1<c.toNat)) ?_ (λaF cz=>?_)
    ·unfold adS;refine ag (λfa=>?_) (λfa=>?_)
     ·simp only[cG,aM] at fa;refine ag (λaa=>?_) (λaa=>?_)
      ·simp only[cG,aM] at aa;exact a7 ⟨ab,ab⟩
      ·simp only[cG,aM] at aa;exact bz (λq=>by omega)
     ·simp only[cG,aM] at fa;exact bz (λq=>by omega)
    ·refine eg cz (λaT fa=>?_) (λaY fa=>?_)
     ·have aO:=qJ.room gb.2.2.1 (by omega:z.1.2.2.1.1.toNat<10) fa;have dL:(vI (W 7) z.1.2.2.1).1=7*z.1.2.2.1.1:=by
       rw[SU,wrap64,show(W 7).1=7 from rfl];omega
      refine ae (SW (by rw[dL];omega)) (λcV abe=>?_);have dP:cV.1=IntKind.u64.wrap (((c.toNat%128:Nat):Int)*(2^(7*z.1.2.2.1.1.toNat):Nat)):=by
       have aoa:(eN .u64 (rG v1 (bc.w .u8 127))).1=((c.toNat%128:Nat):Int):=by rw[q6,anb c apS,oD];omega
       have RG:min ((vI (W 7) z.1.2.2.1).1).toNat IntKind.u64.bits=7*z.1.2.2.1.1.toNat:=by rw[dL];show min _ 64=_;omega
       rw[abe,aoa,RG]
      have RO:=axA (x:=z.1.2.1) (u:=z.1.2.1.1.toNat) ab dP gb.2.2.1 aO.1 gb.2.2.2.1;have aA:=dN z.1.2.2.1 eX ab;have abc:(z.1.2.2.1.1+1).toNat=z.1.2.2.1.1.toNat+1:=ab;have done:∀v:bc .u64,v.1=IntKind.u64.wrap (Int.fdiv (rH z.1.2.1 cV).1 (2^(min ((bc.w .u64 1).1).toNat IntKind.u64.bits):Nat))->c.toNat<128->¬(c.toNat=0/\0<z.1.2.2.1.1.toNat)->((q7 (eN .i64 v) (uA (eN .i64 (rG (rH z.1.2.1 cV) (bc.w .u64 1))))).1,(bj z.1.2.2.1 (W 1)).1.toNat,true)=qB (bd x.1.1)/\0<=(bj z.1.2.2.1 (W 1)).1:=λv aL sb ai=>by
       rw[aoz RO aL,aA,abc];refine⟨?_,ab⟩;unfold qB;rw[qm,if_neg fa,if_pos sb,if_neg ai]
      refine ag (λsb=>?_) (λsb=>?_)
      ·have sb:c.toNat<128:=by simp only[cG,aM] at sb;omega
       refine ag (λq5=>?_) (λq5=>?_)
       ·have q5:c.toNat=0:=by simp only[cG,aM] at q5;omega
        refine ag (λaU=>?_) (λaU=>?_)
        ·have aU:0<z.1.2.2.1.1.toNat:=by simp only[cG,aM] at aU;omega
         refine a7 ?_;show qB (bd x.1.1)=(0,0,false);unfold qB;rw[qm,if_neg fa,if_pos sb,if_pos ⟨q5,aU⟩]
        ·have aU:z.1.2.2.1.1.toNat=0:=by simp only[cG,aM] at aU;omega
         refine ae (uB bk) (λv6 AL=>?_);exact a7 (done v6 AL sb ab)
       ·have q5:c.toNat≠0:=by simp only[cG,aM] at q5;omega
        refine ae (uB bk) (λdU yS=>?_);exact a7 (done dU yS sb ab)
      ·have sb:128<=c.toNat:=by simp only[cG,aM] at sb;omega
       have mw:=gb.next an ab fa sb;refine bz ⟨⟨rfl,by dsimp only;rw[aA];omega,by dsimp only;rw[RO];omega,?_⟩,by dsimp only;rw[aA];omega⟩;dsimp only
       rw[aA,abc,RO];exact mw
     ·refine a7 ?_;show qB (bd x.1.1)=(0,0,false);unfold qB;rw[qm,if_pos fa]
   ·simp only[cG,aM] at aV;exact a7 (gb.fail (.inr ab))
  ·simp only[cG,aM] at ah;exact a7 (gb.fail (.inl ab))
 ·refine eg fc (λbU dZ=>?_) (λcd ff=>?_)
  ·exact ak ⟨dZ.symm,by show 0<=(W 0).1;decide⟩
  ·exact ak ff
section
variable{α β:Type}
def bJ:Unit->List UInt8:=λ_=>[]
def ix (n:bc .i64):List UInt8:=fB n.1
def gy (s:ee):List UInt8:=fB (s.1.size:Nat)++bd s
def bS (e:α->List UInt8)(l:L α):List UInt8:=fB (l.1.length:Nat)++l.1.flatMap e
def bu (e:α->List UInt8)(f:β->List UInt8)(x:α×β):List UInt8:=e x.1++f x.2
end
def ld:D [.str]->List UInt8:=bu gy bJ
def iU:D [.int .i64]->List UInt8:=bu ix bJ
def fE:D ig->List UInt8:=bu ix (bu gy bJ)
def iT:D dR->List UInt8:=bu gy (bu ix (bu gy (bu ix bJ)))
def jV:D fi->List UInt8:=bu gy (bu gy (bu (bS iT) bJ))
def iK:D dE->List UInt8:=bu gy (bu (bS ld) (bu (bS jV) bJ))
def kz:D fZ->List UInt8:=bu ix (bu gy (bu (bS iT) bJ))
def js:D ek->List UInt8:=bu gy (bu (bS kz) bJ)
def g2:D c_->List UInt8:=bu gy (bu ix (bu ix bJ))
def g7:D fV->List UInt8:=bu gy (bu gy (bu (bS iU) bJ))
def e3:D ey->List UInt8:=bu ix (bu ix (bu ix (bu ix (bu gy (bu gy (bu (bS iU) (bu (bS g2) (bu (bS g7) bJ))))))))
def gI:D hU->List UInt8:=bu gy (bu (bS fE) (bu ix (bu (bS e3) bJ)))
def jf:D gX->List UInt8:=bu (bS iK) (bu (bS js) (bu (bS gI) bJ))
def eI {α:Type}(e:α->List UInt8):Prop:=∀a b r s,e a++r=e b++s->a=b/\r=s
theorem En {a b:Int}(cf:-9223372036854775808<=a/\a<=9223372036854775807)(ah:-9223372036854775808<=b/\b<=9223372036854775807){r s}(h:fB a++r=fB b++s):a=b/\r=s:=by
 have aa:=WX a r cf.1 cf.2;rw[h,WX b s ah.1 ah.2] at aa;have e:b=a:=congrArg (λp=>p.1) aa;subst e;exact⟨rfl,List.append_cancel_left h⟩
section
variable{α β:Type}{e:α->List UInt8}{f:β->List UInt8}
theorem eI.u:eI bJ:=λa b r s h=>⟨rfl,h⟩
theorem eI.i:eI ix:=λa b r s h=>by
 obtain⟨aa,af⟩:=En (bc.ry a) (bc.ry b) h;exact⟨Subtype.ext aa,af⟩
theorem eI.s:eI gy:=λa b r s h=>by
 unfold gy at h;rw[cO,cO] at h;have cf:=S.b a;have ah:=S.b b;obtain⟨aa,af⟩:=En ⟨ab,ab⟩ ⟨ab,ab⟩ h;obtain⟨ax,a8⟩:=List.append_inj af (by rw[bd.len,bd.len];omega);exact⟨bd.inj ax,a8⟩
theorem eI.p (h:eI e)(g:eI f):eI (bu e f):=λa b r s q=>by
 unfold bu at q;rw[cO,cO] at q;obtain⟨aa,af⟩:=h _ _ _ _ q;obtain⟨ax,a8⟩:=g _ _ _ _ af;exact⟨Prod.ext aa ax,a8⟩
theorem eI.flat (h:eI e):∀{a b:List α}{r s:List UInt8},a.length=b.length->a.flatMap e++r=b.flatMap e++s->a=b/\r=s
 |[],[],r,s,_,q=>⟨rfl,q⟩
 |x::a,y::b,r,s,aZ,q=>by
  rw[List.flatMap_cons,List.flatMap_cons,cO,cO] at q;obtain⟨aa,af⟩:=h _ _ _ _ q;obtain⟨ax,a8⟩:=eI.flat h (by simpa using aZ) af;exact⟨by rw[aa,ax],a8⟩
 |[],y::b,r,s,aZ,_=>by simp at aZ
 |x::a,[],r,s,aZ,_=>by simp at aZ
theorem eI.l (h:eI e):eI (bS e):=λa b r s q=>by
 unfold bS at q;rw[cO,cO] at q;have cf:=L.b a;have ah:=L.b b;obtain⟨aa,af⟩:=En ⟨ab,ab⟩ ⟨ab,ab⟩ q;obtain⟨ax,a8⟩:=h.flat ab af;exact⟨Subtype.ext ax,a8⟩
end
theorem T3:eI ld:=eI.s.p .u
theorem LY:eI iU:=eI.i.p .u
theorem LX:eI fE:=eI.i.p (eI.s.p .u)
theorem TZ:eI iT:=eI.s.p (eI.i.p (eI.s.p (eI.i.p .u)))
theorem af7:eI jV:=eI.s.p (eI.s.p (TZ.l.p .u))
theorem T2:eI iK:=eI.s.p (T3.l.p (af7.l.p .u))
theorem af8:eI kz:=eI.i.p (eI.s.p (TZ.l.p .u))
theorem T1:eI js:=eI.s.p (af8.l.p .u)
theorem T0:eI g2:=eI.s.p (eI.i.p (eI.i.p .u))
theorem af3:eI g7:=eI.s.p (eI.s.p (LY.l.p .u))
theorem af4:eI e3:=eI.i.p (eI.i.p (eI.i.p (eI.i.p (eI.s.p (eI.s.p (LY.l.p (T0.l.p (af3.l.p .u))))))))
theorem af6:eI gI:=eI.s.p (LX.l.p (eI.i.p (af4.l.p .u)))
theorem af5:eI jf:=T2.l.p (T1.l.p (af6.l.p .u))
def Pos {α:Type}(e:α->List UInt8):Prop:=∀a,0<(e a).length
theorem Eo (n:Int):0<(fB n).length:=aNn 9 _
theorem xn (n:Int):(fB n).length<=10:=aNm 10 _
section
variable{α β:Type}{e:α->List UInt8}{f:β->List UInt8}
theorem Pos.i:Pos ix:=λa=>Eo _
theorem Pos.s:Pos gy:=λa=>by unfold gy;rw[bl];have:=Eo (a.1.size:Nat);omega
theorem Pos.p (h:Pos e):Pos (bu e f):=λa=>by unfold bu;rw[bl];have:=h a.1;omega
theorem Pos.flat (h:Pos e):∀l:List α,l.length<=(l.flatMap e).length
 |[]=>Nat.zero_le _
 |a::l=>by rw[List.flatMap_cons,bl,gS];have:=h a;have:=h.flat l;omega
end
theorem aya:Pos ld:=Pos.s.p
theorem agq:Pos iU:=Pos.i.p
theorem ago:Pos fE:=Pos.i.p
theorem ax8:Pos iT:=Pos.s.p
theorem ax':Pos jV:=Pos.s.p
theorem ax_:Pos iK:=Pos.s.p
theorem ayb:Pos kz:=Pos.i.p
theorem ax9:Pos js:=Pos.s.p
theorem agr:Pos g2:=Pos.s.p
theorem agp:Pos g7:=Pos.s.p
theorem Ui:Pos e3:=Pos.i.p
theorem ags:Pos gI:=Pos.s.p
structure g6 {α:Type}(e:α->List UInt8)(st nx:D [.str,.bool])(a:α):Prop where
  b:st.2.1=true->nx.2.1=true
  g:st.2.1=false->nx.2.1=false->bd st.1=e a++bd nx.1
  n:st.2.1=false->nx.2.1=true->∀x r,bd st.1≠e x++r
  l:nx.1.1.size<=st.1.1.size
section
variable{α β:Type}{e:α->List UInt8}{f:β->List UInt8}{s t u:D [.str,.bool]}{a:α}{b:β}
theorem g6.pair (h:g6 e s t a)(he:eI e)(g:g6 f t u b):g6 (bu e f) s u (a,b):=by
 refine⟨λq=>g.b (h.b q),λq gV=>?_,λq gV x r aW=>?_,jd g.l h.l⟩
 ·have bQ:t.2.1=false:=by
   cases bQ:t.2.1 with
   |false=>rfl
   |true=>rw[g.b bQ] at gV;cases gV
  rw[h.g q bQ,g.g bQ gV];unfold bu;rw[cO]
 ·unfold bu at aW;rw[cO] at aW;cases bQ:t.2.1 with
  |true=>exact h.n q bQ _ _ aW
  |false=>
   rw[h.g q bQ] at aW;exact g.n bQ gV _ _ (he _ _ _ _ aW).2
structure wm {α:Type}(e:α->List UInt8)(s:List UInt8)(acc:List α)(n:Int)(st:D [.str,.bool]):Prop where
  ke:0<=n
  t:s=fB ((acc.length:Nat)+n)++(acc.flatMap e++bd st.1)
  m:(acc.length:Int)+n<=140737488355328
def X7 {α:Type}(e:α->List UInt8)(s:List UInt8):Prop:=∀(l:L α) r,s≠bS e l++r
theorem wm.done {s acc st}(h:wm e s acc 0 st){l:L α}(aZ:l.1=acc):s=bS e l++bd st.1:=by
 rw[h.t];unfold bS;rw[aZ,cO,Int.add_zero]
theorem wm.R6 {s acc n st nx a}(h:wm e s acc n st)(aA:0<n)(ah:st.2.1=false)(g:g6 e st nx a)(yy:nx.2.1=false):wm e s (acc++[a]) (n-1) nx:=by
 refine⟨ab,?_,by rw[bl,List.length_singleton];have:=h.m;omega⟩;rw[h.t,g.g ah yy,bl,List.length_singleton,List.flatMap_append,show((acc.length+1:Nat):Int)+(n-1)=(acc.length:Nat)+n by omega];simp
theorem wm.bad {s acc n st nx a}(h:wm e s acc n st)(he:eI e)(aA:0<n)(ah:st.2.1=false)(g:g6 e st nx a)(yy:nx.2.1=true):X7 e s:=λl r q=>by
 rw[h.t] at q;unfold bS at q;rw[cO] at q;have hm:=h.m;have aZ:=L.b l;have a6:=h.ke;obtain⟨aa,af⟩:=En ⟨ab,ab⟩ ⟨ab,ab⟩ q;have bn:acc.length<l.1.length:=ab;have aD:l.1=l.1.take acc.length++l.1[acc.length]::l.1.drop (acc.length+1):=by simp
 rw[aD,List.flatMap_append,List.flatMap_cons,cO,cO] at af;obtain⟨_,a8⟩:=he.flat (by rw[List.length_take];omega) af;exact g.n ah yy _ _ a8
end
set_option linter.unusedSimpArgs false
theorem r_ {α Z Y:Type}(c:α->List UInt8)(l:L α)(h:Z->Option (Z⊕Y))(row:Z->L (D [.int .u8]))(out:Y->L (D [.int .u8]))(gD:Z->bc .i64)(ok:Z->Prop)(step:∀z,ok z->0<=(gD z).1->∀e,(gD z).1<(l.1.length:Nat)->l.1[(gD z).1.toNat]?=some e->(row z).1.length+(c e).length<=1000000000->aw (h z) (Sum.elim (λfU=>ok fU/\gD fU=bj (gD z) (bc.w .i64 1)/\cN (row fU)=cN (row z)++c e) (λ_=>False)))(stop:∀z,ok z->(l.1.length:Nat)<=(gD z).1->aw (h z) (Sum.elim (λ_=>False) (λy=>out y=row z))):
 ∀cn,ok cn->(gD cn).1=0->(row cn).1.length+(l.1.flatMap c).length<=1000000000->aw (a3 h cn) (λy=>cN (out y)=cN (row cn)++l.1.flatMap c):=by
 intro cn a6 aj aO;have aZ:=L.b l;refine cQ (λz=>ok z/\0<=(gD z).1/\(gD z).1<=(l.1.length:Nat)/\cN (row z)=cN (row cn)++(l.1.take (gD z).1.toNat).flatMap c) (λz=>((l.1.length:Nat)-(gD z).1:Int).toNat) (λz ai=>?_) cn ⟨a6,ab,ab,by rw[aj];simp⟩;obtain⟨ed,eX,gr,gb⟩:=ai;by_cases ah:(gD z).1<(l.1.length:Nat)
 ·have he:=fy (l:=l.1) (i:=(gD z).1.toNat) ab;have aD:l.1.flatMap c=(l.1.take (gD z).1.toNat).flatMap c++(c l.1[(gD z).1.toNat]++(l.1.drop ((gD z).1.toNat+1)).flatMap c):=by
   conv=>lhs;rw[<-List.take_append_drop (gD z).1.toNat l.1,List.drop_eq_getElem_cons (by omega:(gD z).1.toNat<l.1.length)]
   rw[List.flatMap_append,List.flatMap_cons]
  have aQ:=congrArg List.length aD;have bO:=congrArg List.length gb;simp only[bl,cN.len] at aQ bO;refine(step z ed eX _ ah he ab).mono λr aO=>?_;cases r with
  |inl fU=>
   obtain⟨cr,cI,dw⟩:=aO;have aA:=dN (gD z) eX ab;refine⟨⟨cr,by rw[cI,aA];omega,by rw[cI,aA];omega,?_⟩,by rw[cI,aA];omega⟩;rw[dw,gb,cI,aA,Ca eX he,List.flatMap_append,cO];simp
  |inr y=>exact absurd aO id
 ·refine(stop z ed ab).mono λr aO=>?_;cases r with
  |inl fU=>exact absurd aO id
  |inr y=>
   show cN (out y)=_;rw[show out y=row z from aO,gb,zI ab]
theorem afN:∀x:U afL,x.2.1.1.1.length+(ix x.1.2.1).length<=1000000000->aw (EX x) (λy=>cN y.2.1.1=cN x.2.1.1++ix x.1.2.1):=by
 intro x h;unfold EX;refine ae (K6 _ aK) (λaz aa=>?_);have aP:=bd.len az.1.1;have aA:=xn x.1.2.1.1;rw[aa] at aP;dsimp only at aP;refine ae (Rl ab) (λdg af=>?_);refine ae (x2 (by unfold ix at h;omega)) (λbT ax=>?_);exact ak (by dsimp only;rw[ax,af.1,aa];rfl)
theorem mB:∀x:U afI,x.2.1.1.1.length+(ix x.1.2.1).length<=1000000000->aw (lF x) (λy=>cN y.2.1.1=cN x.2.1.1++ix x.1.2.1):=by
 intro x h;unfold lF;exact ae (afN _ h) (λaz aa=>ak aa)
theorem rf:∀x:U afR,x.2.1.1.1.length+(gy x.1.2.1).length<=1000000000->aw (o8 x) (λy=>cN y.2.1.1=cN x.2.1.1++gy x.1.2.1):=by
 intro x h;unfold o8;unfold gy at h;rw[bl,bd.len] at h;refine ae (mB _ (by show x.2.1.1.1.length+(fB (x.1.2.1.1.size:Nat)).length<=_;omega)) (λaz aa=>?_);have aD:=congrArg List.length aa;simp only[bl,cN.len] at aD;have aD:az.2.1.1.1.length=x.2.1.1.1.length+(fB (x.1.2.1.1.size:Nat)).length:=aD;refine ae (Rl ab) (λdg af=>?_);refine ae (x2 ab) (λbT ax=>?_);refine ak ?_;dsimp only
 rw[ax,af.1,aa];show(cN x.2.1.1++fB (x.1.2.1.1.size:Nat))++_=_;unfold gy;rw[cO]
theorem avw:∀x:U aeE,x.2.1.1.1.length+(bS ld x.1.2.1).length<=1000000000->aw (Lj x) (λy=>cN y.2.1.1=cN x.2.1.1++bS ld x.1.2.1):=by
 intro x h;unfold Lj;unfold bS at h;rw[bl] at h;refine ae (mB _ (by show x.2.1.1.1.length+(fB (x.1.2.1.1.length:Nat)).length<=_;omega)) (λaz aa=>?_);have aa:cN az.2.1.1=cN x.2.1.1++fB (x.1.2.1.1.length:Nat):=aa;have aD:=cN.jv aa;dsimp only at aD;refine ae (r_ ld x.1.2.1 EE (λz=>z.2.1.1) (λy=>y.2.1.1) (λz=>z.1.2.2.2.1) (λz=>z.1.2.1=x.1.2.1/\z.1.2.2.1=ba x.1.2.1) (λz ai a6 e bn he aO=>?_) (λz ai hle=>?_) _ ⟨rfl,rfl⟩ rfl (by dsimp only;omega)) (λaY a8=>?_)
 ·unfold EE;rw[ai.1,ai.2];refine aw.gO ?_;refine ae (c5 ⟨a6,bn⟩) (λaQ cM=>?_);obtain rfl:=eD (he.symm.trans cM);refine ae (rf _ (by have aO:z.2.1.1.1.length+(ld e).length<=1000000000:=aO;simp only[fE,iT,jV,iK,kz,js,g2,g7,e3,gI,ld,iU,bu,bJ,bl,bN,dr,cO,cq] at aO;exact aO)) (λaT ax=>?_);exact bz ⟨⟨rfl,rfl⟩,rfl,(by dsimp only;rw[ax];simp only[fE,iT,jV,iK,kz,js,g2,g7,e3,gI,ld,iU,bu,bJ,bl,bN,dr,cO,cq])⟩
 ·unfold EE;rw[ai.1,ai.2];exact aw.jl (a7 rfl)
 ·refine ak ?_;dsimp only at a8⊢;rw[a8,aa];unfold bS;rw[cO]
theorem afE:∀x:U afC,x.2.1.1.1.length+(fE x.1.2.1).length<=1000000000->aw (EW x) (λy=>cN y.2.1.1=cN x.2.1.1++fE x.1.2.1):=by
 intro x h;unfold EW;simp only[fE,bu,bJ,bl,bN,dr,cO,cq] at h;refine ae (mB _ (by(try simp only[fE,bu,bJ,bl,bN,dr,cO,cq]);omega)) (λaz aa=>?_);have aD:=cN.jv aa;dsimp only at aD;refine ae (rf _ (by(try simp only[fE,bu,bJ,bl,bN,dr,cO,cq]);omega)) (λaF af=>?_);refine ak ?_;dsimp only
 rw[af,aa];simp only[fE,bu,bJ,bl,bN,dr,cO,cq]
theorem awY:∀x:U afB,x.2.1.1.1.length+(iT x.1.2.1).length<=1000000000->aw (LF x) (λy=>cN y.2.1.1=cN x.2.1.1++iT x.1.2.1):=by
 intro x h;unfold LF;simp only[iT,fE,bu,bJ,bl,bN,dr,cO,cq] at h;refine ae (rf _ (by(try simp only[iT,fE,bu,bJ,bl,bN,dr,cO,cq]);omega)) (λaz aa=>?_);have aD:=congrArg List.length aa;simp only[fE,bu,bJ,bN,cq,bl,cN.len] at aD;refine ae (afE _ (by(try simp only[iT,fE,bu,bJ,bl,bN,dr,cO,cq]);omega)) (λaF af=>?_);have aQ:=congrArg List.length af;simp only[fE,bu,bJ,bN,cq,bl,cN.len] at aQ;refine ae (mB _ (by(try simp only[iT,fE,bu,bJ,bl,bN,dr,cO,cq]);omega)) (λaT ax=>?_);have bO:=congrArg List.length ax;simp only[fE,bu,bJ,bN,cq,bl,cN.len] at bO;refine ak ?_;dsimp only
 rw[ax,af,aa];simp only[iT,fE,bu,bJ,bl,bN,dr,cO,cq]
theorem ad8:∀x:U ad5,x.2.1.1.1.length+(bS iT x.1.2.1).length<=1000000000->aw (Er x) (λy=>cN y.2.1.1=cN x.2.1.1++bS iT x.1.2.1):=by
 intro x h;unfold Er;unfold bS at h;rw[bl] at h;refine ae (mB _ (by show x.2.1.1.1.length+(fB (x.1.2.1.1.length:Nat)).length<=_;omega)) (λaz aa=>?_);have aa:cN az.2.1.1=cN x.2.1.1++fB (x.1.2.1.1.length:Nat):=aa;have aD:=cN.jv aa;dsimp only at aD;refine ae (r_ iT x.1.2.1 Es (λz=>z.2.1.1) (λy=>y.2.1.1) (λz=>z.1.2.2.2.1) (λz=>z.1.2.1=x.1.2.1/\z.1.2.2.1=ba x.1.2.1) (λz ai a6 e bn he aO=>?_) (λz ai hle=>?_) _ ⟨rfl,rfl⟩ rfl (by dsimp only;omega)) (λaY a8=>?_)
 ·unfold Es;rw[ai.1,ai.2];refine aw.gO ?_;refine ae (c5 ⟨a6,bn⟩) (λaQ cM=>?_);obtain rfl:=eD (he.symm.trans cM);refine ae (awY _ aO) (λaT ax=>?_);exact bz ⟨⟨rfl,rfl⟩,rfl,ax⟩
 ·unfold Es;rw[ai.1,ai.2];exact aw.jl (a7 rfl)
 ·refine ak ?_;dsimp only at a8⊢;rw[a8,aa];unfold bS;rw[cO]
theorem axk:∀x:U afP,x.2.2.1.1.1.length+(jV x.1.1).length<=1000000000->aw (LN x) (λy=>cN y.2.2.1.1=cN x.2.2.1.1++jV x.1.1):=by
 intro x h;unfold LN;simp only[jV,bu,bJ,bl,bN,dr,cO,cq] at h;refine ae (rf _ (by(try simp only[jV,bu,bJ,bl,bN,dr,cO,cq]);omega)) (λaz aa=>?_);have aD:=cN.jv aa;dsimp only at aD;refine ae (rf _ (by(try simp only[jV,bu,bJ,bl,bN,dr,cO,cq]);omega)) (λaF af=>?_);have aQ:=cN.jv af;dsimp only at aQ;refine ae (ad8 _ (by(try simp only[jV,bu,bJ,bl,bN,dr,cO,cq]);omega)) (λaT ax=>?_);refine ak ?_;dsimp only
 rw[ax,af,aa];simp only[jV,bu,bJ,bl,bN,dr,cO,cq]
theorem ave:∀x:U aeq,x.2.1.1.1.length+(bS jV x.1.2.1).length<=1000000000->aw (Lg x) (λy=>cN y.2.1.1=cN x.2.1.1++bS jV x.1.2.1):=by
 intro x h;unfold Lg;unfold bS at h;rw[bl] at h;refine ae (mB _ (by show x.2.1.1.1.length+(fB (x.1.2.1.1.length:Nat)).length<=_;omega)) (λaz aa=>?_);have aa:cN az.2.1.1=cN x.2.1.1++fB (x.1.2.1.1.length:Nat):=aa;have aD:=cN.jv aa;dsimp only at aD;refine ae (r_ jV x.1.2.1 Ez (λz=>z.2.2.1.1) (λy=>y.2.2.1.1) (λz=>z.1.2.2.2.1) (λz=>z.1.2.1=x.1.2.1/\z.1.2.2.1=ba x.1.2.1) (λz ai a6 e bn he aO=>?_) (λz ai hle=>?_) _ ⟨rfl,rfl⟩ rfl (by dsimp only;omega)) (λaY a8=>?_)
 ·unfold Ez;rw[ai.1,ai.2];refine aw.gO ?_;refine ae (c5 ⟨a6,bn⟩) (λaQ cM=>?_);obtain rfl:=eD (he.symm.trans cM);refine ae (axk _ aO) (λaT ax=>?_);exact bz ⟨⟨rfl,rfl⟩,rfl,ax⟩
 ·unfold Ez;rw[ai.1,ai.2];exact aw.jl (a7 rfl)
 ·refine ak ?_;dsimp only at a8⊢;rw[a8,aa];unfold bS;rw[cO]
theorem axn:∀x:U afQ,x.2.1.1.1.length+(iK x.1.2.1).length<=1000000000->aw (LM x) (λy=>cN y.2.1.1=cN x.2.1.1++iK x.1.2.1):=by
 intro x h;unfold LM;simp only[iK,bu,bJ,bl,bN,dr,cO,cq] at h;refine ae (rf _ (by(try simp only[iK,bu,bJ,bl,bN,dr,cO,cq]);omega)) (λaz aa=>?_);have aD:=cN.jv aa;dsimp only at aD;refine ae (avw _ (by(try simp only[iK,bu,bJ,bl,bN,dr,cO,cq]);omega)) (λaF af=>?_);have aQ:=cN.jv af;dsimp only at aQ;refine ae (ave _ (by(try simp only[iK,bu,bJ,bl,bN,dr,cO,cq]);omega)) (λaT ax=>?_);refine ak ?_;dsimp only
 rw[ax,af,aa];simp only[iK,bu,bJ,bl,bN,dr,cO,cq]
theorem avj:∀x:U aet,x.2.1.1.1.length+(bS iK x.1.2.1).length<=1000000000->aw (Lh x) (λy=>cN y.2.1.1=cN x.2.1.1++bS iK x.1.2.1):=by
 intro x h;unfold Lh;unfold bS at h;rw[bl] at h;refine ae (mB _ (by show x.2.1.1.1.length+(fB (x.1.2.1.1.length:Nat)).length<=_;omega)) (λaz aa=>?_);have aa:cN az.2.1.1=cN x.2.1.1++fB (x.1.2.1.1.length:Nat):=aa;have aD:=cN.jv aa;dsimp only at aD;refine ae (r_ iK x.1.2.1 EA (λz=>z.2.1.1) (λy=>y.2.1.1) (λz=>z.1.2.2.2.1) (λz=>z.1.2.1=x.1.2.1/\z.1.2.2.1=ba x.1.2.1) (λz ai a6 e bn he aO=>?_) (λz ai hle=>?_) _ ⟨rfl,rfl⟩ rfl (by dsimp only;omega)) (λaY a8=>?_)
 ·unfold EA;rw[ai.1,ai.2];refine aw.gO ?_;refine ae (c5 ⟨a6,bn⟩) (λaQ cM=>?_);obtain rfl:=eD (he.symm.trans cM);refine ae (axn _ aO) (λaT ax=>?_);exact bz ⟨⟨rfl,rfl⟩,rfl,ax⟩
 ·unfold EA;rw[ai.1,ai.2];exact aw.jl (a7 rfl)
 ·refine ak ?_;dsimp only at a8⊢;rw[a8,aa];unfold bS;rw[cO]
theorem axa:∀x:U afJ,x.2.2.1.1.1.length+(kz x.1.1).length<=1000000000->aw (LK x) (λy=>cN y.2.2.1.1=cN x.2.2.1.1++kz x.1.1):=by
 intro x h;unfold LK;simp only[kz,bu,bJ,bl,bN,dr,cO,cq] at h;refine ae (mB _ (by(try simp only[kz,bu,bJ,bl,bN,dr,cO,cq]);omega)) (λaz aa=>?_);have aD:=cN.jv aa;dsimp only at aD;refine ae (rf _ (by(try simp only[kz,bu,bJ,bl,bN,dr,cO,cq]);omega)) (λaF af=>?_);have aQ:=cN.jv af;dsimp only at aQ;refine ae (ad8 _ (by(try simp only[kz,bu,bJ,bl,bN,dr,cO,cq]);omega)) (λaT ax=>?_);refine ak ?_;dsimp only
 rw[ax,af,aa];simp only[kz,bu,bJ,bl,bN,dr,cO,cq]
theorem avo:∀x:U aew,x.2.1.1.1.length+(bS kz x.1.2.1).length<=1000000000->aw (Li x) (λy=>cN y.2.1.1=cN x.2.1.1++bS kz x.1.2.1):=by
 intro x h;unfold Li;unfold bS at h;rw[bl] at h;refine ae (mB _ (by show x.2.1.1.1.length+(fB (x.1.2.1.1.length:Nat)).length<=_;omega)) (λaz aa=>?_);have aa:cN az.2.1.1=cN x.2.1.1++fB (x.1.2.1.1.length:Nat):=aa;have aD:=cN.jv aa;dsimp only at aD;refine ae (r_ kz x.1.2.1 EB (λz=>z.2.2.1.1) (λy=>y.2.2.1.1) (λz=>z.1.2.2.2.1) (λz=>z.1.2.1=x.1.2.1/\z.1.2.2.1=ba x.1.2.1) (λz ai a6 e bn he aO=>?_) (λz ai hle=>?_) _ ⟨rfl,rfl⟩ rfl (by dsimp only;omega)) (λaY a8=>?_)
 ·unfold EB;rw[ai.1,ai.2];refine aw.gO ?_;refine ae (c5 ⟨a6,bn⟩) (λaQ cM=>?_);obtain rfl:=eD (he.symm.trans cM);refine ae (axa _ aO) (λaT ax=>?_);exact bz ⟨⟨rfl,rfl⟩,rfl,ax⟩
 ·unfold EB;rw[ai.1,ai.2];exact aw.jl (a7 rfl)
 ·refine ak ?_;dsimp only at a8⊢;rw[a8,aa];unfold bS;rw[cO]
theorem axd:∀x:U afK,x.2.1.1.1.length+(js x.1.2.1).length<=1000000000->aw (LJ x) (λy=>cN y.2.1.1=cN x.2.1.1++js x.1.2.1):=by
 intro x h;unfold LJ;simp only[js,bu,bJ,bl,bN,dr,cO,cq] at h;refine ae (rf _ (by(try simp only[js,bu,bJ,bl,bN,dr,cO,cq]);omega)) (λaz aa=>?_);have aD:=cN.jv aa;dsimp only at aD;refine ae (avo _ (by(try simp only[js,bu,bJ,bl,bN,dr,cO,cq]);omega)) (λaF af=>?_);refine ak ?_;dsimp only
 rw[af,aa];simp only[js,bu,bJ,bl,bN,dr,cO,cq]
theorem au':∀x:U aen,x.2.1.1.1.length+(bS js x.1.2.1).length<=1000000000->aw (Lf x) (λy=>cN y.2.1.1=cN x.2.1.1++bS js x.1.2.1):=by
 intro x h;unfold Lf;unfold bS at h;rw[bl] at h;refine ae (mB _ (by show x.2.1.1.1.length+(fB (x.1.2.1.1.length:Nat)).length<=_;omega)) (λaz aa=>?_);have aa:cN az.2.1.1=cN x.2.1.1++fB (x.1.2.1.1.length:Nat):=aa;have aD:=cN.jv aa;dsimp only at aD;refine ae (r_ js x.1.2.1 Ey (λz=>z.2.1.1) (λy=>y.2.1.1) (λz=>z.1.2.2.2.1) (λz=>z.1.2.1=x.1.2.1/\z.1.2.2.1=ba x.1.2.1) (λz ai a6 e bn he aO=>?_) (λz ai hle=>?_) _ ⟨rfl,rfl⟩ rfl (by dsimp only;omega)) (λaY a8=>?_)
 ·unfold Ey;rw[ai.1,ai.2];refine aw.gO ?_;refine ae (c5 ⟨a6,bn⟩) (λaQ cM=>?_);obtain rfl:=eD (he.symm.trans cM);refine ae (axd _ aO) (λaT ax=>?_);exact bz ⟨⟨rfl,rfl⟩,rfl,ax⟩
 ·unfold Ey;rw[ai.1,ai.2];exact aw.jl (a7 rfl)
 ·refine ak ?_;dsimp only at a8⊢;rw[a8,aa];unfold bS;rw[cO]
theorem auM:∀x:U ad_,x.2.1.1.1.length+(bS fE x.1.2.1).length<=1000000000->aw (La x) (λy=>cN y.2.1.1=cN x.2.1.1++bS fE x.1.2.1):=by
 intro x h;unfold La;unfold bS at h;rw[bl] at h;refine ae (mB _ (by show x.2.1.1.1.length+(fB (x.1.2.1.1.length:Nat)).length<=_;omega)) (λaz aa=>?_);have aa:cN az.2.1.1=cN x.2.1.1++fB (x.1.2.1.1.length:Nat):=aa;have aD:=cN.jv aa;dsimp only at aD;refine ae (r_ fE x.1.2.1 Et (λz=>z.2.1.1) (λy=>y.2.1.1) (λz=>z.1.2.2.2.1) (λz=>z.1.2.1=x.1.2.1/\z.1.2.2.1=ba x.1.2.1) (λz ai a6 e bn he aO=>?_) (λz ai hle=>?_) _ ⟨rfl,rfl⟩ rfl (by dsimp only;omega)) (λaY a8=>?_)
 ·unfold Et;rw[ai.1,ai.2];refine aw.gO ?_;refine ae (c5 ⟨a6,bn⟩) (λaQ cM=>?_);obtain rfl:=eD (he.symm.trans cM);refine ae (afE _ aO) (λaT ax=>?_);exact bz ⟨⟨rfl,rfl⟩,rfl,ax⟩
 ·unfold Et;rw[ai.1,ai.2];exact aw.jl (a7 rfl)
 ·refine ak ?_;dsimp only at a8⊢;rw[a8,aa];unfold bS;rw[cO]
theorem aeC:∀x:U aez,x.2.1.1.1.length+(bS iU x.1.2.1).length<=1000000000->aw (EC x) (λy=>cN y.2.1.1=cN x.2.1.1++bS iU x.1.2.1):=by
 intro x h;unfold EC;unfold bS at h;rw[bl] at h;refine ae (mB _ (by show x.2.1.1.1.length+(fB (x.1.2.1.1.length:Nat)).length<=_;omega)) (λaz aa=>?_);have aa:cN az.2.1.1=cN x.2.1.1++fB (x.1.2.1.1.length:Nat):=aa;have aD:=cN.jv aa;dsimp only at aD;refine ae (r_ iU x.1.2.1 ED (λz=>z.2.1.1) (λy=>y.2.1.1) (λz=>z.1.2.2.2.1) (λz=>z.1.2.1=x.1.2.1/\z.1.2.2.1=ba x.1.2.1) (λz ai a6 e bn he aO=>?_) (λz ai hle=>?_) _ ⟨rfl,rfl⟩ rfl (by dsimp only;omega)) (λaY a8=>?_)
 ·unfold ED;rw[ai.1,ai.2];refine aw.gO ?_;refine ae (c5 ⟨a6,bn⟩) (λaQ cM=>?_);obtain rfl:=eD (he.symm.trans cM);refine ae (mB _ (by have aO:z.2.1.1.1.length+(iU e).length<=1000000000:=aO;simp only[fE,iT,jV,iK,kz,js,g2,g7,e3,gI,ld,iU,bu,bJ,bl,bN,dr,cO,cq] at aO;exact aO)) (λaT ax=>?_);exact bz ⟨⟨rfl,rfl⟩,rfl,(by dsimp only;rw[ax];simp only[fE,iT,jV,iK,kz,js,g2,g7,e3,gI,ld,iU,bu,bJ,bl,bN,dr,cO,cq])⟩
 ·unfold ED;rw[ai.1,ai.2];exact aw.jl (a7 rfl)
 ·refine ak ?_;dsimp only at a8⊢;rw[a8,aa];unfold bS;rw[cO]
theorem aw2:∀x:U afF,x.2.2.1.1.1.length+(g2 x.1.1).length<=1000000000->aw (LH x) (λy=>cN y.2.2.1.1=cN x.2.2.1.1++g2 x.1.1):=by
 intro x h;unfold LH;simp only[g2,bu,bJ,bl,bN,dr,cO,cq] at h;refine ae (rf _ (by(try simp only[g2,bu,bJ,bl,bN,dr,cO,cq]);omega)) (λaz aa=>?_);have aD:=cN.jv aa;dsimp only at aD;refine ae (mB _ (by(try simp only[g2,bu,bJ,bl,bN,dr,cO,cq]);omega)) (λaF af=>?_);have aQ:=cN.jv af;dsimp only at aQ;refine ae (mB _ (by(try simp only[g2,bu,bJ,bl,bN,dr,cO,cq]);omega)) (λaT ax=>?_);refine ak ?_;dsimp only
 rw[ax,af,aa];simp only[g2,bu,bJ,bl,bN,dr,cO,cq]
theorem au6:∀x:U aek,x.2.1.1.1.length+(bS g2 x.1.2.1).length<=1000000000->aw (Le x) (λy=>cN y.2.1.1=cN x.2.1.1++bS g2 x.1.2.1):=by
 intro x h;unfold Le;unfold bS at h;rw[bl] at h;refine ae (mB _ (by show x.2.1.1.1.length+(fB (x.1.2.1.1.length:Nat)).length<=_;omega)) (λaz aa=>?_);have aa:cN az.2.1.1=cN x.2.1.1++fB (x.1.2.1.1.length:Nat):=aa;have aD:=cN.jv aa;dsimp only at aD;refine ae (r_ g2 x.1.2.1 Ex (λz=>z.2.2.1.1) (λy=>y.2.2.1.1) (λz=>z.1.2.2.2.1) (λz=>z.1.2.1=x.1.2.1/\z.1.2.2.1=ba x.1.2.1) (λz ai a6 e bn he aO=>?_) (λz ai hle=>?_) _ ⟨rfl,rfl⟩ rfl (by dsimp only;omega)) (λaY a8=>?_)
 ·unfold Ex;rw[ai.1,ai.2];refine aw.gO ?_;refine ae (c5 ⟨a6,bn⟩) (λaQ cM=>?_);obtain rfl:=eD (he.symm.trans cM);refine ae (aw2 _ aO) (λaT ax=>?_);exact bz ⟨⟨rfl,rfl⟩,rfl,ax⟩
 ·unfold Ex;rw[ai.1,ai.2];exact aw.jl (a7 rfl)
 ·refine ak ?_;dsimp only at a8⊢;rw[a8,aa];unfold bS;rw[cO]
theorem aw5:∀x:U afG,x.2.2.1.1.1.length+(g7 x.1.1).length<=1000000000->aw (LI x) (λy=>cN y.2.2.1.1=cN x.2.2.1.1++g7 x.1.1):=by
 intro x h;unfold LI;simp only[g7,bu,bJ,bl,bN,dr,cO,cq] at h;refine ae (rf _ (by(try simp only[g7,bu,bJ,bl,bN,dr,cO,cq]);omega)) (λaz aa=>?_);have aD:=cN.jv aa;dsimp only at aD;refine ae (rf _ (by(try simp only[g7,bu,bJ,bl,bN,dr,cO,cq]);omega)) (λaF af=>?_);have aQ:=cN.jv af;dsimp only at aQ;refine ae (aeC _ (by(try simp only[g7,bu,bJ,bl,bN,dr,cO,cq]);omega)) (λaT ax=>?_);refine ak ?_;dsimp only
 rw[ax,af,aa];simp only[g7,bu,bJ,bl,bN,dr,cO,cq]
theorem auW:∀x:U aee,x.2.1.1.1.length+(bS g7 x.1.2.1).length<=1000000000->aw (Lc x) (λy=>cN y.2.1.1=cN x.2.1.1++bS g7 x.1.2.1):=by
 intro x h;unfold Lc;unfold bS at h;rw[bl] at h;refine ae (mB _ (by show x.2.1.1.1.length+(fB (x.1.2.1.1.length:Nat)).length<=_;omega)) (λaz aa=>?_);have aa:cN az.2.1.1=cN x.2.1.1++fB (x.1.2.1.1.length:Nat):=aa;have aD:=cN.jv aa;dsimp only at aD;refine ae (r_ g7 x.1.2.1 Ev (λz=>z.2.2.1.1) (λy=>y.2.2.1.1) (λz=>z.1.2.2.2.1) (λz=>z.1.2.1=x.1.2.1/\z.1.2.2.1=ba x.1.2.1) (λz ai a6 e bn he aO=>?_) (λz ai hle=>?_) _ ⟨rfl,rfl⟩ rfl (by dsimp only;omega)) (λaY a8=>?_)
 ·unfold Ev;rw[ai.1,ai.2];refine aw.gO ?_;refine ae (c5 ⟨a6,bn⟩) (λaQ cM=>?_);obtain rfl:=eD (he.symm.trans cM);refine ae (aw5 _ aO) (λaT ax=>?_);exact bz ⟨⟨rfl,rfl⟩,rfl,ax⟩
 ·unfold Ev;rw[ai.1,ai.2];exact aw.jl (a7 rfl)
 ·refine ak ?_;dsimp only at a8⊢;rw[a8,aa];unfold bS;rw[cO]
theorem aw8:∀x:U afH,x.2.1.1.1.length+(e3 x.1.2.1).length<=1000000000->aw (LG x) (λy=>cN y.2.1.1=cN x.2.1.1++e3 x.1.2.1):=by
 intro x h;unfold LG;simp only[e3,bu,bJ,bl,bN,dr,cO,cq] at h;refine ae (mB _ (by(try simp only[e3,bu,bJ,bl,bN,dr,cO,cq]);omega)) (λaz aa=>?_);have aD:=cN.jv aa;dsimp only at aD;refine ae (mB _ (by(try simp only[e3,bu,bJ,bl,bN,dr,cO,cq]);omega)) (λaF af=>?_);have aQ:=cN.jv af;dsimp only at aQ;refine ae (mB _ (by(try simp only[e3,bu,bJ,bl,bN,dr,cO,cq]);omega)) (λaT ax=>?_);have bO:=cN.jv ax;dsimp only at bO;refine ae (afN _ (by(try simp only[e3,bu,bJ,bl,bN,dr,cO,cq]);omega)) (λaY a8=>?_);have cP:=cN.jv a8;dsimp only at cP;refine ae (rf _ (by(try simp only[e3,bu,bJ,bl,bN,dr,cO,cq]);omega)) (λa5 cy=>?_);have dP:=cN.jv cy;dsimp only at dP;refine ae (rf _ (by(try simp only[e3,bu,bJ,bl,bN,dr,cO,cq]);omega)) (λbK dm=>?_);have db:=cN.jv dm;dsimp only at db;refine ae (aeC _ (by(try simp only[e3,bu,bJ,bl,bN,dr,cO,cq]);omega)) (λbL dL=>?_);have fk:=cN.jv dL;dsimp only at fk;refine ae (au6 _ (by(try simp only[e3,bu,bJ,bl,bN,dr,cO,cq]);omega)) (λcu dY=>?_);have dG:=cN.jv dY;dsimp only at dG;refine ae (auW _ (by(try simp only[e3,bu,bJ,bl,bN,dr,cO,cq]);omega)) (λbU fa=>?_);refine ak ?_;dsimp only
 rw[fa,dY,dL,dm,cy,a8,ax,af,aa];simp only[e3,bu,bJ,bl,bN,dr,cO,cq]
theorem au1:∀x:U aeh,x.2.1.1.1.length+(bS e3 x.1.2.1).length<=1000000000->aw (Ld x) (λy=>cN y.2.1.1=cN x.2.1.1++bS e3 x.1.2.1):=by
 intro x h;unfold Ld;unfold bS at h;rw[bl] at h;refine ae (mB _ (by show x.2.1.1.1.length+(fB (x.1.2.1.1.length:Nat)).length<=_;omega)) (λaz aa=>?_);have aa:cN az.2.1.1=cN x.2.1.1++fB (x.1.2.1.1.length:Nat):=aa;have aD:=cN.jv aa;dsimp only at aD;refine ae (r_ e3 x.1.2.1 Ew (λz=>z.2.1.1) (λy=>y.2.1.1) (λz=>z.1.2.2.2.1) (λz=>z.1.2.1=x.1.2.1/\z.1.2.2.1=ba x.1.2.1) (λz ai a6 e bn he aO=>?_) (λz ai hle=>?_) _ ⟨rfl,rfl⟩ rfl (by dsimp only;omega)) (λaY a8=>?_)
 ·unfold Ew;rw[ai.1,ai.2];refine aw.gO ?_;refine ae (c5 ⟨a6,bn⟩) (λaQ cM=>?_);obtain rfl:=eD (he.symm.trans cM);refine ae (aw8 _ aO) (λaT ax=>?_);exact bz ⟨⟨rfl,rfl⟩,rfl,ax⟩
 ·unfold Ew;rw[ai.1,ai.2];exact aw.jl (a7 rfl)
 ·refine ak ?_;dsimp only at a8⊢;rw[a8,aa];unfold bS;rw[cO]
theorem axh:∀x:U afO,x.2.1.1.1.length+(gI x.1.2.1).length<=1000000000->aw (LL x) (λy=>cN y.2.1.1=cN x.2.1.1++gI x.1.2.1):=by
 intro x h;unfold LL;simp only[gI,bu,bJ,bl,bN,dr,cO,cq] at h;refine ae (rf _ (by(try simp only[gI,bu,bJ,bl,bN,dr,cO,cq]);omega)) (λaz aa=>?_);have aD:=cN.jv aa;dsimp only at aD;refine ae (auM _ (by(try simp only[gI,bu,bJ,bl,bN,dr,cO,cq]);omega)) (λaF af=>?_);have aQ:=cN.jv af;dsimp only at aQ;refine ae (mB _ (by(try simp only[gI,bu,bJ,bl,bN,dr,cO,cq]);omega)) (λaT ax=>?_);have bO:=cN.jv ax;dsimp only at bO;refine ae (au1 _ (by(try simp only[gI,bu,bJ,bl,bN,dr,cO,cq]);omega)) (λaY a8=>?_);refine ak ?_;dsimp only
 rw[a8,ax,af,aa];simp only[gI,bu,bJ,bl,bN,dr,cO,cq]
theorem auR:∀x:U aeb,x.2.1.1.1.length+(bS gI x.1.2.1).length<=1000000000->aw (Lb x) (λy=>cN y.2.1.1=cN x.2.1.1++bS gI x.1.2.1):=by
 intro x h;unfold Lb;unfold bS at h;rw[bl] at h;refine ae (mB _ (by show x.2.1.1.1.length+(fB (x.1.2.1.1.length:Nat)).length<=_;omega)) (λaz aa=>?_);have aa:cN az.2.1.1=cN x.2.1.1++fB (x.1.2.1.1.length:Nat):=aa;have aD:=cN.jv aa;dsimp only at aD;refine ae (r_ gI x.1.2.1 Eu (λz=>z.2.1.1) (λy=>y.2.1.1) (λz=>z.1.2.2.2.1) (λz=>z.1.2.1=x.1.2.1/\z.1.2.2.1=ba x.1.2.1) (λz ai a6 e bn he aO=>?_) (λz ai hle=>?_) _ ⟨rfl,rfl⟩ rfl (by dsimp only;omega)) (λaY a8=>?_)
 ·unfold Eu;rw[ai.1,ai.2];refine aw.gO ?_;refine ae (c5 ⟨a6,bn⟩) (λaQ cM=>?_);obtain rfl:=eD (he.symm.trans cM);refine ae (axh _ aO) (λaT ax=>?_);exact bz ⟨⟨rfl,rfl⟩,rfl,ax⟩
 ·unfold Eu;rw[ai.1,ai.2];exact aw.jl (a7 rfl)
 ·refine ak ?_;dsimp only at a8⊢;rw[a8,aa];unfold bS;rw[cO]
def wX:List UInt8:=[82,80,84,49]
def iP (m:D gX):List UInt8:=wX++jf m
theorem ad3:∀x:U ad1,(jf x.1.1).length<=900000000->aw (Ep x) (λy=>(if 65536<(iP x.1.1).length+4 then y.1.1=S ⟨#[]⟩/\y.1.2.1.1=3300 else bd y.1.1=iP x.1.1++od (k1 (iP x.1.1))/\y.1.2.1.1=0)):=by
 intro x h;unfold Ep;unfold jf at h;simp only[bu,bJ,bl,bN,cq] at h;have fm:cN (cD [((bc.w .u8 (82)),()),((bc.w .u8 (80)),()),((bc.w .u8 (84)),()),((bc.w .u8 (49)),())])=wX:=by unfold cN;rw[fI (by simp)];rfl
 have Sc:=congrArg List.length fm;rw[cN.len] at Sc;have Sc:(cD [((bc.w .u8 (82)),()),((bc.w .u8 (80)),()),((bc.w .u8 (84)),()),((bc.w .u8 (49)),())]:L (D [.int .u8])).1.length=4:=Sc;refine ae (avj _ (by dsimp only;omega)) (λaz aa=>?_);have aD:=congrArg List.length aa;simp only[bl,cN.len] at aD;refine ae (au' _ (by dsimp only;omega)) (λaF af=>?_);have aQ:=congrArg List.length af;simp only[bl,cN.len] at aQ;refine ae (auR _ (by dsimp only;omega)) (λaT ax=>?_);have bO:=congrArg List.length ax;simp only[bl,cN.len] at bO;have m4:cN aT.2.1.1=iP x.1.1:=by
  rw[ax];dsimp only
  rw[af];dsimp only
  rw[aa];dsimp only
  rw[fm];unfold iP jf;simp only[bu,bJ,dr,cO]
 have hlen:=congrArg List.length m4;rw[cN.len] at hlen;refine ae (TL _ aK) (λaY a8=>?_);have a8:aY.1.1.1=(k1 (iP x.1.1):Nat):=by rw[a8,bd.bytes,m4]
 refine ae (aeI _ aK) (λa5 cy=>?_);have cy:bd a5.1.1=od (k1 (iP x.1.1)):=by rw[cy];dsimp only;rw[a8];rfl
 have iD:=congrArg List.length cy;rw[bd.len] at iD;have iD:a5.1.1.1.size=4:=iD;refine ae (Rl ab) (λmN dm=>?_);refine ae (x2 ab) (λj' dL=>?_);rw[m4,dm.1,cy] at dL;have S7:=congrArg List.length dL;rw[cN.len,bl] at S7;have S7:j'.1.length=(iP x.1.1).length+4:=S7;refine ag (λah=>?_) (λah=>?_)
 ·simp only[cG,aM] at ah;refine ak ?_;dsimp only
  rw[if_pos ab];exact⟨rfl,rfl⟩
 ·simp only[cG,aM] at ah;refine ak ?_;dsimp only
  rw[if_neg ab];exact⟨by rw[bd.bytes,dL],rfl⟩
section
variable{α β Cl:Type}{e:α->List UInt8}{f:β->List UInt8}{g:Cl->List UInt8}{s t u:D [.str,.bool]}{a:α}{b:β}{c:Cl}
theorem g6.one (h:g6 e s t a):g6 (bu e bJ) s t (a,()):=
 ⟨h.b,λq gV=>by rw[h.g q gV];simp[bu,bJ],λq gV z r ai=>h.n q gV z.1 r (by rw[ai];simp[bu,bJ]),h.l⟩
theorem g6.two (h:g6 (bu e (bu f bJ)) s t (a,b,()))(bF:eI (bu e (bu f bJ)))(k:g6 g t u c):g6 (bu e (bu f g)) s u (a,b,c):=by
 have q:=h.pair bF k;exact⟨q.b,λx jn=>by rw[q.g x jn];simp[bu,bJ],λx jn z r ai=>q.n x jn ((z.1,z.2.1,()),z.2.2) r (by rw[ai];simp[bu,bJ]),q.l⟩
end
structure Iu (st nx:D [.str,.bool])(n:Int):Prop where
  b:st.2.1=true->nx.2.1=true
  z:nx.2.1=true->n=0
  ke:0<=n/\n<=nx.1.1.size
  g:st.2.1=false->nx.2.1=false->bd st.1=fB n++bd nx.1
  n:st.2.1=false->nx.2.1=true->∀(m:Nat)(r:List UInt8),m<=r.length->m<=9223372036854775807->bd st.1≠fB m++r
  l:nx.1.1.size<=st.1.1.size
theorem sy {α Z Y:Type}(e:α->List UInt8)(he:eI e)(ay:Pos e)(h:Z->Option (Z⊕Y))(acc:Z->L α)(n:Z->Int)(st:Z->D [.str,.bool])(TG:Y->L α)(os:Y->D [.str,.bool])(ok:Z->Prop)(Q:Y->Prop)(step:∀z,ok z->0<n z->(st z).2.1=false->(acc z).1.length+n z<=100000->(st z).1.1.size<=100000->aw (h z) (Sum.elim (λfU=>ok fU/\n fU=n z-1/\∃a,(acc fU).1=(acc z).1++[a]/\g6 e (st z) (st fU) a) (λ_=>False)))(stop:∀z,ok z->(n z<=0\/(st z).2.1=true)->aw (h z) (Sum.elim (λ_=>False) (λy=>TG y=acc z/\os y=st z/\Q y))):
 ∀(qE:D [.str,.bool]) cn,ok cn->(acc cn).1=[]->Iu qE (st cn) (n cn)->qE.1.1.size<=100000->aw (a3 h cn) (λy=>g6 (bS e) qE (os y) (TG y)/\Q y):=by
 intro qE cn a6 ai an aP;have vv:=an.l;refine cQ (λz=>ok z/\0<=n z/\(acc z).1.length+n z=n cn/\(st z).1.1.size<=qE.1.1.size/\(qE.2.1=true->(st z).2.1=true)/\(qE.2.1=false->(st z).2.1=false->wm e (bd qE.1) (acc z).1 (n z) (st z))/\(qE.2.1=false->(st z).2.1=true->X7 e (bd qE.1))) (λz=>(n z).toNat) (λz ai=>?_) cn ⟨a6,an.ke.1,by rw[ai];simp,vv,an.b,λq gV=>⟨an.ke.1,by rw[ai,an.g q gV];simp,by rw[ai];have:=an.ke.2;simp;omega⟩,λq gV l r aW=>?_⟩
 ·obtain⟨ed,eX,gr,gb,mi,k8,qF⟩:=ai;by_cases ah:0<n z/\(st z).2.1=false
  ·refine(step z ed ah.1 ah.2 (by have:=an.ke.2;omega) ab).mono λr aO=>?_;cases r with
   |inr y=>exact absurd aO id
   |inl fU=>
    obtain⟨cr,cI,a,dw,fe⟩:=aO;have aZ:=fe.l;refine⟨⟨cr,ab,by rw[dw,cI,bl,List.length_singleton];omega,ab,λq=>fe.b (mi q),λq gV=>?_,λq gV=>?_⟩,ab⟩
    ·rw[dw,cI];exact(k8 q ah.2).R6 ah.1 ah.2 fe gV
    ·exact(k8 q ah.2).bad he ah.1 ah.2 fe gV
  ·refine(stop z ed (by cases aP:(st z).2.1 with|true=>exact .inr rfl|false=>exact .inl (by rw[aP] at ah;simp at ah;omega))).mono λr aO=>?_;cases r with
   |inl fU=>exact absurd aO id
   |inr y=>
    obtain⟨cr,cI,dw⟩:=aO;show g6 (bS e) qE (os y) (TG y)/\Q y;refine⟨?_,dw⟩;rw[cr,cI];refine⟨mi,λq gV=>?_,λq gV=>qF q gV,gb⟩;have aA:n z=0:=by
     rw[gV] at ah;simp at ah;omega
    have gC:=k8 q gV;rw[aA] at gC;exact gC.done rfl
 ·unfold bS at aW;rw[cO] at aW;exact an.n q gV _ _ (by rw[bl];have:=ay.flat l.1;omega) (by have:=L.b l;omega) aW
theorem I8 {s:ee}{k:Nat}(h:k<=s.1.size):aw (pF s (k:Nat) s.1.size) (λr=>bd r=(bd s).drop k/\r.1.size=s.1.size-k):=by
 refine(CR ⟨ab,ab,ab⟩).mono λr aO=>?_;have af:bd r=(bd s).drop k:=by
  rw[aO];rw[show((k:Nat):Int).toNat=k by omega];exact List.take_of_length_le (by rw[List.length_drop,bd.len];omega)
 exact⟨af,by rw[<-bd.len,af,List.length_drop,bd.len]⟩
theorem TN:∀x:U afw,True->aw (A3 x) (λy=>g6 ix x.2.1 y.2.1 y.1.1):=by
 intro x _;unfold A3;refine ae (auA _ aK) (λaz cg=>?_);obtain⟨aa,af⟩:=cg;dsimp only at aa;have uw:az.1.2.2.1=false->∀(n:bc .i64) r,bd x.2.1.1≠ix n++r:=λq n r aW=>by
  have ah:=bc.ry n;unfold ix at aW;rw[aW,WX n.1 r ah.1 ah.2] at aa;have:=congrArg (λp=>p.2.2) aa;dsimp only at this;rw[q] at this;cases this
 refine ag (λah=>?_) (λah=>?_)
 ·simp only[cG] at ah;exact ak ⟨λ_=>rfl,λ_ q=>(by cases q),λ_ _=>uw ah,Nat.le_refl _⟩
 ·simp only[cG] at ah;refine ag (λaV=>?_) (λaV=>?_)
  ·exact ak ⟨λ_=>rfl,λ_ q=>(by cases q),λq=>(by rw[show x.2.1.2.1=true from aV] at q;cases q),Nat.le_refl _⟩
  ·rw[ah] at aa;obtain⟨aG,aN,bo,r,cE⟩:=aL0 aa.symm;have aZ:=congrArg List.length cE;rw[bd.len,bl] at aZ;have aU:az.1.2.1.1=((fB az.1.1.1).length:Nat):=ab;rw[aU];refine ae (I8 ab) (λv2 tA=>?_);have aL:bd v2=r:=by rw[tA.1,cE,List.drop_left]
   exact ak ⟨λq=>(by rw[show x.2.1.2.1=false from aV] at q;cases q),λ_ _=>(by dsimp only;rw[aL];exact cE),λ_ q=>(by rw[show x.2.1.2.1=false from aV] at q;cases q),by dsimp only;have:=tA.2;omega⟩
theorem uP:∀x:U afs,True->aw (rM x) (λy=>g6 ix x.2.1 y.2.1 y.1.1):=by
 intro x _;unfold rM;exact ae (TN _ aK) (λaz cg=>ak cg)
theorem anN {st pd:D [.str,.bool]}{n:bc .i64}(h:g6 ix st pd n):(n.1<0\/(pd.1.1.size:Int)<n.1->pd.2.1=false->st.2.1=false->∀(m:Nat)(r:List UInt8),m<=r.length->m<=9223372036854775807->bd st.1≠fB m++r)/\(st.2.1=false->pd.2.1=true->∀(m:Nat)(r:List UInt8),m<=r.length->m<=9223372036854775807->bd st.1≠fB m++r):=by
 refine⟨λaA aa a6 m r hm aZ aW=>?_,λa6 aa m r hm aZ aW=>?_⟩
 ·rw[h.g a6 aa] at aW;unfold ix at aW;obtain⟨aD,aQ⟩:=En (bc.ry n) ⟨ab,ab⟩ aW;have:=bd.len pd.1;rw[aQ] at this;omega
 ·exact h.n a6 aa (⟨(m:Int),by show-9223372036854775808<=(m:Int);omega,by show(m:Int)<=9223372036854775807;omega⟩:bc .i64) r aW
theorem rO:∀x:U afv,True->aw (pW x) (λy=>Iu x.2.1 y.2.1 y.1.1.1):=by
 intro x _;unfold pW;refine ae (TN _ aK) (λaz h=>?_);obtain⟨cW,dA⟩:=anN h;have aZ:=h.l;have i0:(bc.w .i64 0).1=0:=rfl;have Xy:(pd:D [.str,.bool])->pd=(az.2.1.1,true,())->(az.1.1.1<0\/(az.2.1.1.1.size:Int)<az.1.1.1\/az.2.1.2.1=true)->Iu x.2.1 pd (bc.w .i64 0).1:=λpd e hw=>by
  subst e;refine⟨λ_=>rfl,λ_=>rfl,by rw[i0];dsimp only;omega,λ_ q=>(by cases q),λq _=>?_,aZ⟩;cases ah:az.2.1.2.1 with
  |true=>exact dA q ah
  |false=>exact cW (by rw[ah] at hw;simp at hw;exact hw) ah q
 refine ag (λah=>?_) (λah=>?_)
 ·simp only[cG,aM] at ah;exact ak (Xy _ rfl (.inl ab))
 ·simp only[cG,aM] at ah;refine ag (λaV=>?_) (λaV=>?_)
  ·simp only[cG,aM] at aV;exact ak (Xy _ rfl (.inr (.inl aV)))
  ·simp only[cG,aM] at aV;refine ag (λbP=>?_) (λbP=>?_)
   ·have bP:az.2.1.2.1=true:=bP;refine ak (Xy _ ?_ (.inr (.inr bP)));dsimp only
    rw[<-bP]
   ·have bP:az.2.1.2.1=false:=bP;exact ak ⟨h.b,λq=>(by dsimp only at q;rw[bP] at q;cases q),⟨by dsimp only;omega,aV⟩,h.g,λq gV=>(by dsimp only at gV;rw[bP] at gV;cases gV),aZ⟩
theorem aM1 {st pd Xj:D [.str,.bool]}{n:Int}{v:ee}(h:Iu st pd n)(aL:bd v=(bd pd.1).take n.toNat)(hw:bd Xj.1=(bd pd.1).drop n.toNat)(ah:Xj.2.1=pd.2.1):g6 gy st Xj v:=by
 have aA:=h.ke;have aZ:=h.l;have fA:=congrArg List.length hw;rw[bd.len,List.length_drop,bd.len] at fA;have J5:=congrArg List.length aL;rw[bd.len,List.length_take,bd.len] at J5;refine⟨λq=>by rw[ah];exact h.b q,λq gV=>?_,λq gV x r aW=>?_,ab⟩
 ·rw[ah] at gV;rw[h.g q gV,hw];unfold gy;rw[aL,show(v.1.size:Int)=n by omega,cO,List.take_append_drop]
 ·rw[ah] at gV;unfold gy at aW;rw[cO] at aW;exact h.n q gV x.1.size _ (by rw[bl,bd.len];omega) (S.b x) aW
theorem rb:∀x:U afA,True->aw (o7 x) (λy=>g6 gy x.2.1 y.2.1 y.1.1):=by
 intro x _;unfold o7;refine ae (rO _ aK) (λaz h=>?_);have aA:=h.ke;refine ae (CR ⟨Int.le_refl _,aA.1,aA.2⟩) (λv2 af=>?_);have aU:az.1.1.1=((az.1.1.1.toNat:Nat):Int):=ab;refine ae (P:=λr=>bd r=(bd az.2.1.1).drop az.1.1.1.toNat) ?_ (λcK ax=>?_)
 ·rw[aU];exact(I8 ab).mono λr aO=>aO.1
 ·refine ak (aM1 h ?_ ax rfl);dsimp only
  rw[af]
  try simp
theorem awp:∀x:U afj,x.2.1.1.1.size<=100000->aw (Lu x) (λy=>g6 (bS ld) x.2.1 y.2.1 y.1.1):=by
 intro x aP;unfold Lu;refine ae (rO _ aK) (λaz h=>?_);refine ae (sy ld T3 aya EU (λz=>z.1.2.2.1) (λz=>z.1.2.2.2.1.1) (λz=>z.2.1) (λy=>y.1.1) (λy=>y.2.1) (λ_=>True) (λ_=>True) (λz _ aA ah aZ ai=>?_) (λz _ ai=>?_) x.2.1 _ aK rfl h aP) (λaY a8=>ak a8.1)
 ·unfold EU;refine aw.gO ?_;refine ag (λ_=>?_) (λq=>by rw[ah] at q;cases q);refine ae (rb _ aK) (λaF af=>?_);refine ae (du (by simp only[b5];omega)) (λbT ax=>?_);rw[fI (by simp)] at ax;exact bz ⟨aK,by dsimp only;simp only[aM];omega,(aF.1.1,()),ax.1,af.one⟩
 ·unfold EU;refine ag (λaA=>?_) (λ_=>a7 ⟨rfl,rfl,aK⟩);simp only[cG,aM] at aA;have ah:z.2.1.2.1=true:=by rcases ai with q|q;omega;exact q
  exact ag (λq=>by rw[ah] at q;cases q) (λ_=>a7 ⟨rfl,rfl,aK⟩)
theorem afo:∀x:U afm,True->aw (EV x) (λy=>g6 fE x.2.1 y.2.1 y.1.1):=by
 intro x aP;unfold EV;refine ae (uP _ aK) (λaz aa=>?_);refine ae (rb _ aK) (λaF af=>?_);exact ak (aa.pair eI.i (af.one))
theorem aws:∀x:U afl,True->aw (Lv x) (λy=>g6 iT x.2.1 y.2.1 y.1.1):=by
 intro x aP;unfold Lv;refine ae (rb _ aK) (λaz aa=>?_);refine ae (afo _ aK) (λaF af=>?_);refine ae (uP _ aK) (λaT ax=>?_);exact ak (aa.pair eI.s (af.two LX ax.one))
theorem aeN:∀x:U aeK,x.2.1.1.1.size<=100000->aw (EG x) (λy=>g6 (bS iT) x.2.1 y.2.1 y.1.1):=by
 intro x aP;unfold EG;refine ae (rO _ aK) (λaz h=>?_);refine ae (sy iT TZ ax8 EH (λz=>z.1.2.2.1) (λz=>z.1.2.2.2.1.1) (λz=>z.2.1) (λy=>y.1.1) (λy=>y.2.1) (λ_=>True) (λ_=>True) (λz _ aA ah aZ ai=>?_) (λz _ ai=>?_) x.2.1 _ aK rfl h aP) (λaY a8=>ak a8.1)
 ·unfold EH;refine aw.gO ?_;refine ag (λ_=>?_) (λq=>by rw[ah] at q;cases q);refine ae (aws _ aK) (λaF af=>?_);refine ae (du (by simp only[b5];omega)) (λbT ax=>?_);rw[fI (by simp)] at ax;exact bz ⟨aK,by dsimp only;simp only[aM];omega,aF.1.1,ax.1,af⟩
 ·unfold EH;refine ag (λaA=>?_) (λ_=>a7 ⟨rfl,rfl,aK⟩);simp only[cG,aM] at aA;have ah:z.2.1.2.1=true:=by rcases ai with q|q;omega;exact q
  exact ag (λq=>by rw[ah] at q;cases q) (λ_=>a7 ⟨rfl,rfl,aK⟩)
theorem awR:∀x:U afy,x.2.2.1.1.1.size<=100000->aw (LD x) (λy=>g6 jV x.2.2.1 y.2.2.1 y.1.1):=by
 intro x aP;unfold LD;refine ae (rb _ aK) (λaz aa=>?_);have dk:az.2.1.1.1.size<=x.2.2.1.1.1.size:=aa.l;refine ae (rb _ aK) (λaF af=>?_);have dg:aF.2.1.1.1.size<=az.2.1.1.1.size:=af.l;refine ae (aeN _ (by dsimp only;omega)) (λaT ax=>?_);have bT:aT.2.1.1.1.size<=aF.2.1.1.1.size:=ax.l;exact ak (aa.pair eI.s (af.pair eI.s (ax.one)))
theorem av9:∀x:U ae7,x.2.1.1.1.size<=100000->aw (Lr x) (λy=>g6 (bS jV) x.2.1 y.2.1 y.1.1):=by
 intro x aP;unfold Lr;refine ae (rO _ aK) (λaz h=>?_);refine ae (sy jV af7 ax' EO (λz=>z.1.2.2.1) (λz=>z.1.2.2.2.1.1) (λz=>z.2.1) (λy=>y.1.1) (λy=>y.2.1) (λ_=>True) (λ_=>True) (λz _ aA ah aZ ai=>?_) (λz _ ai=>?_) x.2.1 _ aK rfl h aP) (λaY a8=>ak a8.1)
 ·unfold EO;refine aw.gO ?_;refine ag (λ_=>?_) (λq=>by rw[ah] at q;cases q);refine ae (awR _ ai) (λaF af=>?_);refine ae (du (by simp only[b5];omega)) (λbT ax=>?_);rw[fI (by simp)] at ax;exact bz ⟨aK,by dsimp only;simp only[aM];omega,aF.1.1,ax.1,af⟩
 ·unfold EO;refine ag (λaA=>?_) (λ_=>a7 ⟨rfl,rfl,aK⟩);simp only[cG,aM] at aA;have ah:z.2.1.2.1=true:=by rcases ai with q|q;omega;exact q
  exact ag (λq=>by rw[ah] at q;cases q) (λ_=>a7 ⟨rfl,rfl,aK⟩)
theorem awU:∀x:U afz,x.2.1.1.1.size<=100000->aw (LC x) (λy=>g6 iK x.2.1 y.2.1 y.1.1):=by
 intro x aP;unfold LC;refine ae (rb _ aK) (λaz aa=>?_);have dk:az.2.1.1.1.size<=x.2.1.1.1.size:=aa.l;refine ae (awp _ (by dsimp only;omega)) (λaF af=>?_);have dg:aF.2.1.1.1.size<=az.2.1.1.1.size:=af.l;refine ae (av9 _ (by dsimp only;omega)) (λaT ax=>?_);have bT:aT.2.1.1.1.size<=aF.2.1.1.1.size:=ax.l;exact ak (aa.pair eI.s (af.pair T3.l (ax.one)))
theorem awc:∀x:U ae_,x.2.1.1.1.size<=100000->aw (Ls x) (λy=>g6 (bS iK) x.2.1 y.2.1 y.1.1):=by
 intro x aP;unfold Ls;refine ae (rO _ aK) (λaz h=>?_);refine ae (sy iK T2 ax_ EP (λz=>z.1.2.2.1) (λz=>z.1.2.2.2.1.1) (λz=>z.2.1) (λy=>y.1.1) (λy=>y.2.1) (λ_=>True) (λ_=>True) (λz _ aA ah aZ ai=>?_) (λz _ ai=>?_) x.2.1 _ aK rfl h aP) (λaY a8=>ak a8.1)
 ·unfold EP;refine aw.gO ?_;refine ag (λ_=>?_) (λq=>by rw[ah] at q;cases q);refine ae (awU _ ai) (λaF af=>?_);refine ae (du (by simp only[b5];omega)) (λbT ax=>?_);rw[fI (by simp)] at ax;exact bz ⟨aK,by dsimp only;simp only[aM];omega,aF.1.1,ax.1,af⟩
 ·unfold EP;refine ag (λaA=>?_) (λ_=>a7 ⟨rfl,rfl,aK⟩);simp only[cG,aM] at aA;have ah:z.2.1.2.1=true:=by rcases ai with q|q;omega;exact q
  exact ag (λq=>by rw[ah] at q;cases q) (λ_=>a7 ⟨rfl,rfl,aK⟩)
theorem awG:∀x:U aft,x.2.2.1.1.1.size<=100000->aw (LA x) (λy=>g6 kz x.2.2.1 y.2.2.1 y.1.1):=by
 intro x aP;unfold LA;refine ae (uP _ aK) (λaz aa=>?_);have dk:az.2.1.1.1.size<=x.2.2.1.1.1.size:=aa.l;refine ae (rb _ aK) (λaF af=>?_);have dg:aF.2.1.1.1.size<=az.2.1.1.1.size:=af.l;refine ae (aeN _ (by dsimp only;omega)) (λaT ax=>?_);have bT:aT.2.1.1.1.size<=aF.2.1.1.1.size:=ax.l;exact ak (aa.pair eI.i (af.pair eI.s (ax.one)))
theorem awh:∀x:U afb,x.2.1.1.1.size<=100000->aw (Lt x) (λy=>g6 (bS kz) x.2.1 y.2.1 y.1.1):=by
 intro x aP;unfold Lt;refine ae (rO _ aK) (λaz h=>?_);refine ae (sy kz af8 ayb ER (λz=>z.1.2.2.1) (λz=>z.1.2.2.2.1.1) (λz=>z.2.1) (λy=>y.1.1) (λy=>y.2.1) (λ_=>True) (λ_=>True) (λz _ aA ah aZ ai=>?_) (λz _ ai=>?_) x.2.1 _ aK rfl h aP) (λaY a8=>ak a8.1)
 ·unfold ER;refine aw.gO ?_;refine ag (λ_=>?_) (λq=>by rw[ah] at q;cases q);refine ae (awG _ ai) (λaF af=>?_);refine ae (du (by simp only[b5];omega)) (λbT ax=>?_);rw[fI (by simp)] at ax;exact bz ⟨aK,by dsimp only;simp only[aM];omega,aF.1.1,ax.1,af⟩
 ·unfold ER;refine ag (λaA=>?_) (λ_=>a7 ⟨rfl,rfl,aK⟩);simp only[cG,aM] at aA;have ah:z.2.1.2.1=true:=by rcases ai with q|q;omega;exact q
  exact ag (λq=>by rw[ah] at q;cases q) (λ_=>a7 ⟨rfl,rfl,aK⟩)
theorem awJ:∀x:U afu,x.2.1.1.1.size<=100000->aw (Lz x) (λy=>g6 js x.2.1 y.2.1 y.1.1):=by
 intro x aP;unfold Lz;refine ae (rb _ aK) (λaz aa=>?_);have dk:az.2.1.1.1.size<=x.2.1.1.1.size:=aa.l;refine ae (awh _ (by dsimp only;omega)) (λaF af=>?_);have dg:aF.2.1.1.1.size<=az.2.1.1.1.size:=af.l;exact ak (aa.pair eI.s (af.one))
theorem av4:∀x:U ae4,x.2.1.1.1.size<=100000->aw (Lp x) (λy=>g6 (bS js) x.2.1 y.2.1 y.1.1):=by
 intro x aP;unfold Lp;refine ae (rO _ aK) (λaz h=>?_);refine ae (sy js T1 ax9 EN (λz=>z.1.2.2.1) (λz=>z.1.2.2.2.1.1) (λz=>z.2.1) (λy=>y.1.1) (λy=>y.2.1) (λ_=>True) (λ_=>True) (λz _ aA ah aZ ai=>?_) (λz _ ai=>?_) x.2.1 _ aK rfl h aP) (λaY a8=>ak a8.1)
 ·unfold EN;refine aw.gO ?_;refine ag (λ_=>?_) (λq=>by rw[ah] at q;cases q);refine ae (awJ _ ai) (λaF af=>?_);refine ae (du (by simp only[b5];omega)) (λbT ax=>?_);rw[fI (by simp)] at ax;exact bz ⟨aK,by dsimp only;simp only[aM];omega,aF.1.1,ax.1,af⟩
 ·unfold EN;refine ag (λaA=>?_) (λ_=>a7 ⟨rfl,rfl,aK⟩);simp only[cG,aM] at aA;have ah:z.2.1.2.1=true:=by rcases ai with q|q;omega;exact q
  exact ag (λq=>by rw[ah] at q;cases q) (λ_=>a7 ⟨rfl,rfl,aK⟩)
theorem avF:∀x:U aeP,x.2.1.1.1.size<=100000->aw (Lk x) (λy=>g6 (bS fE) x.2.1 y.2.1 y.1.1):=by
 intro x aP;unfold Lk;refine ae (rO _ aK) (λaz h=>?_);refine ae (sy fE LX ago EI (λz=>z.1.2.2.1) (λz=>z.1.2.2.2.1.1) (λz=>z.2.1) (λy=>y.1.1) (λy=>y.2.1) (λ_=>True) (λ_=>True) (λz _ aA ah aZ ai=>?_) (λz _ ai=>?_) x.2.1 _ aK rfl h aP) (λaY a8=>ak a8.1)
 ·unfold EI;refine aw.gO ?_;refine ag (λ_=>?_) (λq=>by rw[ah] at q;cases q);refine ae (afo _ aK) (λaF af=>?_);refine ae (du (by simp only[b5];omega)) (λbT ax=>?_);rw[fI (by simp)] at ax;exact bz ⟨aK,by dsimp only;simp only[aM];omega,aF.1.1,ax.1,af⟩
 ·unfold EI;refine ag (λaA=>?_) (λ_=>a7 ⟨rfl,rfl,aK⟩);simp only[cG,aM] at aA;have ah:z.2.1.2.1=true:=by rcases ai with q|q;omega;exact q
  exact ag (λq=>by rw[ah] at q;cases q) (λ_=>a7 ⟨rfl,rfl,aK⟩)
theorem afh:∀x:U afe,x.2.1.1.1.size<=100000->aw (ES x) (λy=>g6 (bS iU) x.2.1 y.2.1 y.1.1):=by
 intro x aP;unfold ES;refine ae (rO _ aK) (λaz h=>?_);refine ae (sy iU LY agq ET (λz=>z.1.2.2.1) (λz=>z.1.2.2.2.1.1) (λz=>z.2.1) (λy=>y.1.1) (λy=>y.2.1) (λ_=>True) (λ_=>True) (λz _ aA ah aZ ai=>?_) (λz _ ai=>?_) x.2.1 _ aK rfl h aP) (λaY a8=>ak a8.1)
 ·unfold ET;refine aw.gO ?_;refine ag (λ_=>?_) (λq=>by rw[ah] at q;cases q);refine ae (uP _ aK) (λaF af=>?_);refine ae (du (by simp only[b5];omega)) (λbT ax=>?_);rw[fI (by simp)] at ax;exact bz ⟨aK,by dsimp only;simp only[aM];omega,(aF.1.1,()),ax.1,af.one⟩
 ·unfold ET;refine ag (λaA=>?_) (λ_=>a7 ⟨rfl,rfl,aK⟩);simp only[cG,aM] at aA;have ah:z.2.1.2.1=true:=by rcases ai with q|q;omega;exact q
  exact ag (λq=>by rw[ah] at q;cases q) (λ_=>a7 ⟨rfl,rfl,aK⟩)
theorem aww:∀x:U afp,True->aw (Lx x) (λy=>g6 g2 x.2.2.1 y.2.2.1 y.1.1):=by
 intro x aP;unfold Lx;refine ae (rb _ aK) (λaz aa=>?_);refine ae (uP _ aK) (λaF af=>?_);refine ae (uP _ aK) (λaT ax=>?_);exact ak (aa.pair eI.s (af.pair eI.i (ax.one)))
theorem avZ:∀x:U ae1,x.2.1.1.1.size<=100000->aw (Lo x) (λy=>g6 (bS g2) x.2.1 y.2.1 y.1.1):=by
 intro x aP;unfold Lo;refine ae (rO _ aK) (λaz h=>?_);refine ae (sy g2 T0 agr EM (λz=>z.1.2.2.1) (λz=>z.1.2.2.2.1.1) (λz=>z.2.1) (λy=>y.1.1) (λy=>y.2.1) (λ_=>True) (λ_=>True) (λz _ aA ah aZ ai=>?_) (λz _ ai=>?_) x.2.1 _ aK rfl h aP) (λaY a8=>ak a8.1)
 ·unfold EM;refine aw.gO ?_;refine ag (λ_=>?_) (λq=>by rw[ah] at q;cases q);refine ae (aww _ aK) (λaF af=>?_);refine ae (du (by simp only[b5];omega)) (λbT ax=>?_);rw[fI (by simp)] at ax;exact bz ⟨aK,by dsimp only;simp only[aM];omega,aF.1.1,ax.1,af⟩
 ·unfold EM;refine ag (λaA=>?_) (λ_=>a7 ⟨rfl,rfl,aK⟩);simp only[cG,aM] at aA;have ah:z.2.1.2.1=true:=by rcases ai with q|q;omega;exact q
  exact ag (λq=>by rw[ah] at q;cases q) (λ_=>a7 ⟨rfl,rfl,aK⟩)
theorem awz:∀x:U afq,x.2.2.1.1.1.size<=100000->aw (Ly x) (λy=>g6 g7 x.2.2.1 y.2.2.1 y.1.1):=by
 intro x aP;unfold Ly;refine ae (rb _ aK) (λaz aa=>?_);have dk:az.2.1.1.1.size<=x.2.2.1.1.1.size:=aa.l;refine ae (rb _ aK) (λaF af=>?_);have dg:aF.2.1.1.1.size<=az.2.1.1.1.size:=af.l;refine ae (afh _ (by dsimp only;omega)) (λaT ax=>?_);have bT:aT.2.1.1.1.size<=aF.2.1.1.1.size:=ax.l;exact ak (aa.pair eI.s (af.pair eI.s (ax.one)))
theorem avP:∀x:U aeV,x.2.1.1.1.size<=100000->aw (Lm x) (λy=>g6 (bS g7) x.2.1 y.2.1 y.1.1):=by
 intro x aP;unfold Lm;refine ae (rO _ aK) (λaz h=>?_);refine ae (sy g7 af3 agp EK (λz=>z.1.2.2.1) (λz=>z.1.2.2.2.1.1) (λz=>z.2.1) (λy=>y.1.1) (λy=>y.2.1) (λ_=>True) (λ_=>True) (λz _ aA ah aZ ai=>?_) (λz _ ai=>?_) x.2.1 _ aK rfl h aP) (λaY a8=>ak a8.1)
 ·unfold EK;refine aw.gO ?_;refine ag (λ_=>?_) (λq=>by rw[ah] at q;cases q);refine ae (awz _ ai) (λaF af=>?_);refine ae (du (by simp only[b5];omega)) (λbT ax=>?_);rw[fI (by simp)] at ax;exact bz ⟨aK,by dsimp only;simp only[aM];omega,aF.1.1,ax.1,af⟩
 ·unfold EK;refine ag (λaA=>?_) (λ_=>a7 ⟨rfl,rfl,aK⟩);simp only[cG,aM] at aA;have ah:z.2.1.2.1=true:=by rcases ai with q|q;omega;exact q
  exact ag (λq=>by rw[ah] at q;cases q) (λ_=>a7 ⟨rfl,rfl,aK⟩)
theorem awC:∀x:U afr,x.2.1.1.1.size<=100000->aw (Lw x) (λy=>g6 e3 x.2.1 y.2.1 y.1.1):=by
 intro x aP;unfold Lw;refine ae (uP _ aK) (λaz aa=>?_);have dk:az.2.1.1.1.size<=x.2.1.1.1.size:=aa.l;refine ae (uP _ aK) (λaF af=>?_);have dg:aF.2.1.1.1.size<=az.2.1.1.1.size:=af.l;refine ae (uP _ aK) (λaT ax=>?_);have bT:aT.2.1.1.1.size<=aF.2.1.1.1.size:=ax.l;refine ae (TN _ aK) (λaY a8=>?_);have jk:aY.2.1.1.1.size<=aT.2.1.1.1.size:=a8.l;refine ae (rb _ aK) (λa5 cy=>?_);have iD:a5.2.1.1.1.size<=aY.2.1.1.1.size:=cy.l;refine ae (rb _ aK) (λbK dm=>?_);have mN:bK.2.1.1.1.size<=a5.2.1.1.1.size:=dm.l;refine ae (afh _ (by dsimp only;omega)) (λbL dL=>?_);have j':bL.2.1.1.1.size<=bK.2.1.1.1.size:=dL.l;refine ae (avZ _ (by dsimp only;omega)) (λcu dY=>?_);have j0:cu.2.1.1.1.size<=bL.2.1.1.1.size:=dY.l;refine ae (avP _ (by dsimp only;omega)) (λbU fa=>?_);have ow:bU.2.1.1.1.size<=cu.2.1.1.1.size:=fa.l;exact ak (aa.pair eI.i (af.pair eI.i (ax.pair eI.i (a8.pair eI.i (cy.pair eI.s (dm.pair eI.s (dL.pair LY.l (dY.pair T0.l (fa.one)))))))))
theorem avU:∀x:U aeY,x.2.1.1.1.size<=100000->aw (Ln x) (λy=>g6 (bS e3) x.2.1 y.2.1 y.1.1):=by
 intro x aP;unfold Ln;refine ae (rO _ aK) (λaz h=>?_);refine ae (sy e3 af4 Ui EL (λz=>z.1.2.2.1) (λz=>z.1.2.2.2.1.1) (λz=>z.2.1) (λy=>y.1.1) (λy=>y.2.1) (λ_=>True) (λ_=>True) (λz _ aA ah aZ ai=>?_) (λz _ ai=>?_) x.2.1 _ aK rfl h aP) (λaY a8=>ak a8.1)
 ·unfold EL;refine aw.gO ?_;refine ag (λ_=>?_) (λq=>by rw[ah] at q;cases q);refine ae (awC _ ai) (λaF af=>?_);refine ae (du (by simp only[b5];omega)) (λbT ax=>?_);rw[fI (by simp)] at ax;exact bz ⟨aK,by dsimp only;simp only[aM];omega,aF.1.1,ax.1,af⟩
 ·unfold EL;refine ag (λaA=>?_) (λ_=>a7 ⟨rfl,rfl,aK⟩);simp only[cG,aM] at aA;have ah:z.2.1.2.1=true:=by rcases ai with q|q;omega;exact q
  exact ag (λq=>by rw[ah] at q;cases q) (λ_=>a7 ⟨rfl,rfl,aK⟩)
theorem awO:∀x:U afx,x.2.1.1.1.size<=100000->aw (LB x) (λy=>g6 gI x.2.1 y.2.1 y.1.1):=by
 intro x aP;unfold LB;refine ae (rb _ aK) (λaz aa=>?_);have dk:az.2.1.1.1.size<=x.2.1.1.1.size:=aa.l;refine ae (avF _ (by dsimp only;omega)) (λaF af=>?_);have dg:aF.2.1.1.1.size<=az.2.1.1.1.size:=af.l;refine ae (uP _ aK) (λaT ax=>?_);have bT:aT.2.1.1.1.size<=aF.2.1.1.1.size:=ax.l;refine ae (avU _ (by dsimp only;omega)) (λaY a8=>?_);have jk:aY.2.1.1.1.size<=aT.2.1.1.1.size:=a8.l;exact ak (aa.pair eI.s (af.pair LX.l (ax.pair eI.i (a8.one))))
theorem avK:∀x:U aeS,x.2.1.1.1.size<=100000->aw (Ll x) (λy=>g6 (bS gI) x.2.1 y.2.1 y.1.1):=by
 intro x aP;unfold Ll;refine ae (rO _ aK) (λaz h=>?_);refine ae (sy gI af6 ags EJ (λz=>z.1.2.2.1) (λz=>z.1.2.2.2.1.1) (λz=>z.2.1) (λy=>y.1.1) (λy=>y.2.1) (λ_=>True) (λ_=>True) (λz _ aA ah aZ ai=>?_) (λz _ ai=>?_) x.2.1 _ aK rfl h aP) (λaY a8=>ak a8.1)
 ·unfold EJ;refine aw.gO ?_;refine ag (λ_=>?_) (λq=>by rw[ah] at q;cases q);refine ae (awO _ ai) (λaF af=>?_);refine ae (du (by simp only[b5];omega)) (λbT ax=>?_);rw[fI (by simp)] at ax;exact bz ⟨aK,by dsimp only;simp only[aM];omega,aF.1.1,ax.1,af⟩
 ·unfold EJ;refine ag (λaA=>?_) (λ_=>a7 ⟨rfl,rfl,aK⟩);simp only[cG,aM] at aA;have ah:z.2.1.2.1=true:=by rcases ai with q|q;omega;exact q
  exact ag (λq=>by rw[ah] at q;cases q) (λ_=>a7 ⟨rfl,rfl,aK⟩)
def okB (l:List UInt8)(m:D gX):Prop:=l.length<=65536/\l=iP m++od (k1 (iP m))
theorem Jq (n:Nat):(od n).length=4:=rfl
theorem JL:wX.length=4:=rfl
theorem anA (m:D gX):3<=(jf m).length:=by
 unfold jf;simp only[bu,bS,bl];have aa:=Eo (m.1.1.length:Nat);have af:=Eo (m.2.1.1.length:Nat);have ax:=Eo (m.2.2.1.1.length:Nat);omega
theorem okB.len {l m}(h:okB l m):l.length=8+(jf m).length:=by
 have:=congrArg List.length h.2;rw[bl,Jq] at this;unfold iP at this;rw[bl,JL] at this;omega
theorem IG {a:ByteArray}(h:a.size<=9223372036854775807):S a=⟨a,h⟩:=by unfold S;exact dif_pos h
theorem zZ {s:ee}{a:ByteArray}(h:a.size<=9223372036854775807)(q:bd s=a.data.toList):s=S a:=bd.inj (by rw[q,IG h];rfl)
theorem IF {a:ByteArray}(h:a.size<=9223372036854775807):bd (S a)=a.data.toList:=by rw[IG h];rfl
theorem arw {s:ee}(h:4<=s.1.size):(eF (mO s) (W 4)).1=((s.1.size-4:Nat):Int):=by
 have:=S.b s;simp only[aM];omega
theorem adY:∀x:U adW,True->aw (K7 x) (λy=>(y.1.2.1.1=0/\okB (bd x.1.1) y.1.1)\/(y.1.2.1.1=3301/\y.1.1=(L.nil,L.nil,L.nil,())/\∀m,¬okB (bd x.1.1) m)):=by
 intro x _;unfold K7;have aZ:=bd.len x.1.1;have bO:(W 3301).1=3301:=rfl;have bad:(∀m,¬okB (bd x.1.1) m)->aw (some (((L.nil,L.nil,L.nil,()),(W (3301)),()),())) (λy:U adX=>(y.1.2.1.1=0/\okB (bd x.1.1) y.1.1)\/(y.1.2.1.1=3301/\y.1.1=(L.nil,L.nil,L.nil,())/\∀m,¬okB (bd x.1.1) m)):=λh=>ak (.inr ⟨rfl,rfl,h⟩);refine ag (λah=>bad λm hm=>?_) (λah=>?_)
 ·simp only[cG,aM] at ah;have:=hm.len;have:=anA m;omega
 simp only[cG,aM] at ah;refine ag (λaV=>bad λm hm=>?_) (λaV=>?_)
 ·simp only[cG,aM] at aV;have:=hm.1;omega
 simp only[cG,aM] at aV;have i4:(W 4).1=4:=rfl;refine ae (CR (by rw[i4];omega)) (λv1 aa=>?_);have aa:bd v1=(bd x.1.1).take 4:=aa;refine ag (λbP=>bad λm hm=>?_) (λbP=>?_)
 ·simp only[cG] at bP;apply bP;refine zZ bk ?_;rw[aa,hm.2];unfold iP;rw[cO];rfl
 simp only[cG] at bP;have aa:(bd x.1.1).take 4=wX:=by rw[<-aa,bP];exact IF bk
 have aj:=arw (s:=x.1.1) ab;refine ae (CR (by rw[aj];omega)) (λv2 af=>?_);rw[aj] at af;have af:bd v2=(bd x.1.1).take (x.1.1.1.size-4):=by rw[af];simp
 have dg:=congrArg List.length af;rw[bd.len,List.length_take,bd.len] at dg;rw[aj];refine ae (I8 ab) (λcK ax=>?_);refine ae (TL _ aK) (λaY a8=>?_);refine ae (aeI _ aK) (λa5 cy=>?_);have cy:bd a5.1.1=od (k1 (bd v2)):=by rw[cy];dsimp only;rw[a8];rfl
 have parts:∀m,okB (bd x.1.1) m->bd v2=iP m/\bd cK=od (k1 (iP m)):=λm hm=>by
  have aA:=hm.len;have bX:(iP m).length=x.1.1.1.size-4:=by unfold iP;rw[bl,JL];omega
  rw[af,ax.1,<-bX,hm.2,List.take_left,List.drop_left];exact⟨rfl,rfl⟩
 refine ag (λdj=>bad λm hm=>?_) (λdj=>?_)
 ·simp only[cG] at dj;apply dj;obtain⟨eT,fK⟩:=parts m hm;exact bd.inj (by rw[cy,eT,fK])
 simp only[cG] at dj;have ao':bd cK=od (k1 (bd v2)):=by rw[<-dj];exact cy
 refine ae (I8 (k:=4) ab) (λv6 dm=>?_);have tA:bd v2=wX++bd v6:=by
  rw[dm.1,<-aa,af];have:(bd x.1.1).take 4=((bd x.1.1).take (x.1.1.1.size-4)).take 4:=by rw[List.take_take];congr 1;omega
  rw[this,List.take_append_drop]
 have aW:bd x.1.1=wX++bd v6++od (k1 (wX++bd v6)):=by
  rw[<-tA,<-ao',af,ax.1,List.take_append_drop]
 have mN:=dm.2;refine ae (awc _ (by dsimp only;omega)) (λbL gz=>?_);have asf:bL.2.1.1.1.size<=v6.1.size:=gz.l;refine ae (av4 _ (by dsimp only;omega)) (λcu hM=>?_);have aPr:cu.2.1.1.1.size<=bL.2.1.1.1.size:=hM.l;refine ae (avK _ (by dsimp only;omega)) (λbU iV=>?_);have g:g6 jf (v6,false,()) bU.2.1 (bL.1.1,cu.1.1,bU.1.1,()):=gz.pair T2.l (hM.pair T1.l iV.one);have adA:∀m,okB (bd x.1.1) m->bd v6=jf m:=λm hm=>by
  have:=(parts m hm).1;rw[tA] at this;unfold iP at this;exact List.append_cancel_left this
 refine ag (λeb=>bad λm hm=>?_) (λeb=>?_)
 ·have eb:bU.2.1.2.1=true:=eb;exact g.n rfl eb m [] (by rw[dr];exact adA m hm)
 have eb:bU.2.1.2.1=false:=eb;have cm:=g.g rfl eb;dsimp only at cm;refine ag (λgm=>bad λm hm=>?_) (λgm=>?_)
 ·simp only[cG] at gm;apply gm;refine zZ bk ?_;rw[adA m hm] at cm;have Dq:jf m++[]=jf (bL.1.1,cu.1.1,bU.1.1,())++bd bU.2.1.1:=by rw[dr];exact cm
  exact(af5 _ _ _ _ Dq).2.symm
 ·simp only[cG] at gm;rw[gm,IF bk] at cm;refine ak (.inl ⟨rfl,ab,?_⟩);rw[aW];have:bd v6=jf (bL.1.1,cu.1.1,bU.1.1,()):=by rw[cm];simp
  unfold iP;rw[this]
theorem aoE {α:Type}{c:α->List UInt8}{l:List α}{B:Nat}(h:aJ (λa=>(c a).length<=B) l):(l.flatMap c).length<=l.length*B:=by
 induction l with
 |nil=>simp
 |cons a l cj=>
  have aa:(c a).length<=B:=h 0 a rfl;have af:=cj λj e he=>h (j+1) e he;rw[List.flatMap_cons,bl,gS,Nat.succ_mul];omega
theorem td {α:Type}{c:α->List UInt8}{l:L α}{B n:Nat}(h:aJ (λa=>(c a).length<=B) l.1)(aA:l.1.length<=n):(bS c l).length<=10+n*B:=by
 unfold bS;rw[bl];have aa:=xn (l.1.length:Nat);have af:=aoE h;have ax:=nk B aA;omega
theorem rz {s:ee}{n:Nat}(h:s.1.size<=n):(gy s).length<=10+n:=by
 unfold gy;rw[bl,bd.len];have aa:=xn (s.1.size:Nat);omega
theorem tc (n:bc .i64):(ix n).length<=10:=xn _
theorem aby {l:L (D [.int .i64])}{n:Nat}(h:l.1.length<=n):(bS iU l).length<=10+n*10:=
 td (λj e he=>by unfold iU bu bJ;simp;exact tc _) h
theorem ars {x:D ey}(h:wk x):(e3 x).length<=1200:=by
 unfold e3;simp only[bu,bJ,bl,bN];have i1:=tc x.1;have i2:=tc x.2.1;have i3:=tc x.2.2.1;have i4:=tc x.2.2.2.1;have s1:=rz h.s;have s2:=rz h.t;have dM:=aby h.a;have ny:=td (c:=g2) (B:=42) (h.wl.imp λj aq=>by
  unfold g2;simp only[bu,bJ,bl,bN];have:=rz aq;have:=tc j.2.1;have:=tc j.2.2.1
  omega) h.w
 have aa:=td (c:=g7) (B:=114) (h.aP.imp λc an=>by
  unfold g7;simp only[bu,bJ,bl,bN];have:=rz an.1;have:=rz an.2.1;have:=aby an.2.2
  omega) h.h
 omega
theorem mod_le {m:D gX}(h:IB m):(jf m).length<=100000000:=by
 unfold jf;simp only[bu,bJ,bl,bN];have aa:=td (c:=iK) (B:=20000) (h.ck.imp λp bF=>by
  unfold iK;simp only[bu,bJ,bl,bN];have:=rz bF.qy;have:=td (c:=ld) (B:=22) (bF.rs.imp λr aO=>by
   unfold ld;simp only[bu,bJ,bl,bN];have:=rz aO.2
   omega) bF.eQ
  have:=td (c:=jV) (B:=600) (bF.ck.imp λq ay=>by
   unfold jV;simp only[bu,bJ,bl,bN];have:=rz ay.1;have:=rz ay.2.1;have:=td (c:=iT) (B:=77) (ay.2.2.1.2.imp λa cf=>by
    unfold iT;simp only[bu,bJ,bl,bN];have:=rz cf.1;have:=tc a.2.1;have:=rz cf.2.1;have:=tc a.2.2.2.1
    omega) ay.2.2.1.1
   omega) bF.fK
  omega) h.p
 have af:=td (c:=js) (B:=0) (l:=m.2.1) (n:=0) (λj e he=>by have:=(eu.1 he).1;have:=h.l;omega) (by have:=h.l;omega);have ax:=td (c:=gI) (B:=1000000) (h.Ma.imp λq ay=>by
  unfold gI;simp only[bu,bJ,bl,bN];have:=rz ay.n;have:=td (c:=fE) (B:=45) (ay.T7.imp λr aO=>by
   unfold fE;simp only[bu,bJ,bl,bN];have:=tc r.1;have:=rz aO
   omega) ay.p
  have:=tc q.2.2.1;have:=td (c:=e3) (B:=1200) (ay.iy.imp λi aj=>ars aj) ay.k
  omega) h.q
 omega
theorem aMc:∀x:U als,True->aw (P9 x) (λy=>y.1.1=true):=by
 intro x _;unfold P9;have gv:iP (L.nil,L.nil,L.nil,())=[82,80,84,49,0,0,0]:=by decide+kernel
 refine ae (ad3 _ (by show(jf (L.nil,L.nil,L.nil,())).length<=_;decide+kernel)) (λaz aa=>?_);dsimp only at aa;rw[gv,if_neg bk] at aa;obtain⟨ny,eU⟩:=aa;have wl:=congrArg List.length ny;rw[bd.len] at wl;have wl:az.1.1.1.size=11:=wl;refine ae (K6 _ aK) (λaF af=>?_);have af:aF.1.1=S ⟨#[0]⟩:=zZ bk (by rw[af];decide+kernel);refine ag (λ_=>?_) (λq=>by simp only[cG] at q;exact absurd af q);refine ae (K6 _ aK) (λaT ax=>?_);have ax:aT.1.1=S ⟨#[1]⟩:=zZ bk (by rw[ax];decide+kernel);refine ag (λ_=>?_) (λq=>by simp only[cG] at q;exact absurd ax q);refine ae (K6 _ aK) (λaY a8=>?_);have a8:aY.1.1=S ⟨#[128,1]⟩:=zZ bk (by rw[a8];decide+kernel);refine ag (λ_=>?_) (λq=>by simp only[cG] at q;exact absurd a8 q);refine ag (λ_=>?_) (λq=>by simp only[cG] at q;exact absurd eU q);refine ag (λ_=>?_) (λq=>by simp only[cG,aM] at q;omega);have i7:(W 7).1=7:=rfl;refine ae (CR (by rw[i7];omega)) (λcV cy=>?_);have cy:cV=S ⟨#[82,80,84,49,0,0,0]⟩:=zZ bk (by rw[cy,ny];rfl);refine ag (λ_=>?_) (λq=>by simp only[cG] at q;exact absurd cy q);refine ae (TL _ aK) (λbK dm=>?_);refine ak ?_;simp only[cG];rw[dm];dsimp only
 rw[IF bk];rfl
theorem L3:∀x:U agb,1<=x.1.2.1.1->aw (zy x) (λy=>0<=y.1.1.1/\y.1.1.1<x.1.2.1.1):=by
 intro x h;unfold zy;have c4:=bc.ry x.1.1;have fD:=bc.ry x.1.2.1;refine ag (λah=>by simp only[cG,aM] at ah;omega) (λ_=>?_);have aA:(eN .u64 x.1.2.1).1=x.1.2.1.1:=by simp only[aM];omega
 have he:0<=(eN .u64 x.1.1).1:=by simp only[aM];omega
 refine ae (me (by rw[aA];omega)) (λv1 q4=>?_);have hm:=KU he (b:=(eN .u64 x.1.2.1).1) (by rw[aA];omega);rw[aA] at hm q4;have aL:(eN .i64 v1).1=Int.tmod (eN .u64 x.1.1).1 x.1.2.1.1:=by rw[q6,q4,oD,wrap64];omega
 exact ak ⟨by dsimp only;rw[aL];exact hm.1,by dsimp only;rw[aL];exact hm.2⟩
theorem axN:∀x:U aga,(ug x.1.1/\x.1.1.2.1.1.length=0)->aw (L2 x) (λy=>IB y.1.1):=by
 intro x h;unfold L2;exact ae (aEf _ h) (λaz aa=>ak aa)
end cx
open Go.ChangeShapes Go.WideShapes Go.ChangeAt Go.RowKit
theorem own:ownKnob Tryz.prog.godebug=none:=by kernel_rfl
theorem laidOut:laidOutB Tryz.prog=true:=by kernel_rfl
theorem add_plain (b off i:Nat):(⟨b,off,none⟩:Addr).add i=⟨b,off+i,none⟩:=by
 unfold Addr.add;split<;>simp_all
section
variable{H:Type}{enc:TypeId×Value->H}{P:Program}{w:World}{base:Nat}{spare:Nat->Bool}{held:Bool}
theorem aLZ {a:Addr}{xs:List Value}(h:∀i u,xs[i]?=some u->w.cell? (a.add i)=some u):ku w (some a) xs:=λaA=>by
 obtain⟨b,off,spot⟩:=a;have a6:0<xs.length:=List.length_pos_iff.2 aA;have an:=h 0 _ (fy a6);have SK:spot=none:=by simpa[Addr.add] using World.cell?_spot an
 subst SK;refine⟨b,off,rfl,?_,λi u hu=>by rw[<-add_plain];exact h i u hu⟩;rw[add_plain] at an;exact World.block_lt_of_cell? w _ an
end
section
variable{H:Type}{enc:TypeId×Value->H}{P:Program}{w:World}{base:Nat}{spare:Nat->Bool}{held:Bool}
theorem arv {r:Reach}{cR:Nat}{t e:TypeId}{v:Value}{d:DataW H}{p:List MemPlace}(bQ:P.underlying t=some (.slice e))(he:P.underlying e=some (.int .i64))(an:P.cellsOf e=1)(aL:Value.okWide P w r cR t v)(h:DataW.Trod enc P w base spare held t v d p):
 ∃(A:Option Addr) (l:List Int) (c:Nat),v=.slice A l.length c/\l.length<=c/\c<=maxLen/\ku w A (l.map (.int .i64))/\∀n∈l,(Lit.int .i64 n).wf=true:=by
 obtain⟨a0,len,cap,rfl⟩:=okWide_slice bQ aL;obtain⟨fuel,bB⟩:=h;rcases open_ints bQ he an bB with⟨lh,_⟩|⟨x,l,c,ss,lh,_,aZ,hm,ai,_,oh,abi⟩
 ·simp[Value.cells] at lh;obtain⟨rfl,rfl,rfl⟩:=lh;exact⟨none,[],0,rfl,Nat.le_refl _,Nat.zero_le _,ku.nil,by simp⟩
 ·simp[Value.cells] at lh;obtain⟨rfl,rfl,rfl⟩:=lh;have hle:len<=ss.length:=by rw[ai];split<;>omega
  have hlen:(ss.take len).length=len:=by rw[List.length_take,Nat.min_eq_left hle]
  refine⟨some x,ss.take len,cap,by rw[hlen],by rw[hlen];exact aZ,hm,?_,λs aP=>abi s (List.mem_of_mem_take aP)⟩;refine aLZ λi u hu=>?_;rw[List.getElem?_map] at hu;have aj:i<len:=by
   rcases ky i len with aa|aa
   ·exact aa
   ·rw[List.getElem?_eq_none ab] at hu;cases hu
  rw[oh i ab];rw[List.getElem?_take_of_lt aj,fy ab] at hu;rw[<-hu,List.getD,fy ab];rfl
end
namespace cx
open bC (T cL)
set_option linter.unusedVariables false
def Cd (W:World)(b:Nat):List Value:=match W.heap[b]? with
 |some (.cells cur _ _)=>cur.toList
 |_=>[]
def za (W:World):M:=⟨λ_=>none,λ_=>none,λ_ _ _=>none,Cd W,λ_=>none⟩
theorem aqO (W:World):bM (za W) ⟨.nil,0⟩ W where
 fresh i _:=⟨rfl,rfl,λ_ _=>rfl,bC.T.get_nil i⟩
 live i b h:=by rw[bC.T.get_nil] at h;cases h
 inj i j bi mn r h:=by rw[bC.T.get_nil] at h;cases h
 own b R k h:=by cases h
 stay b j v h:=by
  have h:(Cd W b)[j]?=some v:=h;unfold Cd at h;split at h
  ·rename_i cur ty b_ ah;exact⟨cur,ty,b_,ah,by simpa using h⟩
  ·simp at h
theorem amr {W:World}{b o:Nat}{v:Value}(h:W.cell? ⟨b,o,none⟩=some v):(Cd W b)[o]?=some v:=by
 unfold World.cell? at h;unfold Cd;cases ah:W.heap[b]? with
 |none=>simp[ah] at h
 |some x=>
  cases x<;>simp[ah] at h⊢;exact h
theorem Qy {k:IntKind}{n:Int}(h:(Lit.int k n).wf=true):k.min<=n/\n<=k.max:=by
 simpa[Lit.wf] using h
def xA (l:List Int)(h:∀n∈l,(Lit.int .i64 n).wf=true):List (D [.int .i64]):=l.attach.map λn=>(⟨n.1,Qy (h n.1 n.2)⟩,())
theorem Qq (l:List Int)(h:∀n∈l,(Lit.int .i64 n).wf=true):(xA l h).length=l.length:=by simp[xA]
theorem aM3 {l:List Int}{h:∀n∈l,(Lit.int .i64 n).wf=true}{i:Nat}{e:D [.int .i64]}(he:(xA l h)[i]?=some e):l[i]?=some e.1.1:=by
 unfold xA at he;rw[List.getElem?_map] at he;obtain⟨n,aA,rfl⟩:=Option.map_eq_some_iff.1 he;rw[List.getElem?_attach] at aA;obtain⟨a,cf,e⟩:=Option.pmap_eq_some_iff.1 aA;rw[e.1,e.2]
end cx
end Go.Proofs.YtgmdfchkljaooaaGreat
