/- The reference's numbers. -/
import Derived.Deep.Slices
import Derived.ChangeArms
import Derived.Test.YtgmdfchkljaooaaGreatM11
noncomputable section
namespace Go.Proofs.YtgmdfchkljaooaaGreat
open Go.RowKit
namespace cx
set_option linter.unusedVariables false
set_option maxRecDepth 100000
theorem arp (a:bc .u64):(DS a).1=18446744073709551615-a.1:=by
 have a6:0<=a.1:=a.2.1;have aa:a.1<=18446744073709551615:=a.2.2;show IntKind.u64.wrap ((BitVec.ofInt 64 18446744073709551615^^^BitVec.ofInt 64 a.1).toNat:Int)=_;rw[show BitVec.ofInt 64 18446744073709551615=BitVec.allOnes 64 from rfl,BitVec.allOnes_xor,BitVec.toNat_not,BitVec.toNat_ofInt,oD];omega
theorem VL:∀x:U aiZ,True->aw (Bt x) (λy=>bd y.1.1=fB x.1.1.1):=by
 intro x _;unfold Bt;have ah:=bc.ry x.1.1;have bn:=Ir x.1.1.1 ah.1 ah.2;refine ae (SW bk) (λv1 aa=>?_);have aD:v1.1=IntKind.u64.wrap (IntKind.u64.wrap x.1.1.1*2):=aa;refine ae (P:=λaF=>aF.1.1.1=(p2 x.1.1.1:Int)) ?_ (λaF cz=>?_)
 ·unfold aiW;refine ag (λah=>?_) (λah=>?_)
  ·have ah:x.1.1.1<0:=by simp only[cG,aM] at ah;exact ah
   refine ak ?_;dsimp only
   rw[arp,aD,oD,oD];unfold p2;rw[if_neg ab];omega
  ·have ah:0<=x.1.1.1:=by simp only[cG,aM] at ah;exact ah
   refine ak ?_;dsimp only
   rw[aD,oD,oD];unfold p2;rw[if_pos ah];omega
 refine ae (cQ (h:=NV) (R:=λy=>∃f,0<f/\y.1.1.1.toNat<128/\cN y.1.2.1++ll f y.1.1.1.toNat=fB x.1.1.1/\y.1.2.1.1.length<=10) (λz:U VJ=>∃f,0<f/\z.1.1.1<2^(7*f)/\cN z.1.2.1++ll f z.1.1.1.toNat=fB x.1.1.1/\z.1.2.1.1.length+f=10) (λz=>z.1.1.1.toNat) (λz ai=>?_) _ ⟨10,bk,by show aF.1.1.1<_;rw[cz];simp;omega,by show[]++ll 10 aF.1.1.1.toNat=_;rw[cz];rfl,rfl⟩) (λa5 cZ=>?_)
 ·obtain⟨f,f0,f1,f2,f3⟩:=ai;have w9:0<=z.1.1.1:=z.1.1.2.1;have aO_:z.1.1.1<=18446744073709551615:=z.1.1.2.2;have i128:(bc.w .u64 128).1=128:=rfl;unfold NV;refine ag (λah=>?_) (λah=>?_)
  ·have ah:128<=z.1.1.1:=by simp only[cG] at ah;exact ah
   refine ae (me bk) (λcK ax=>?_);refine ae (x2 (by simp only[b5];omega)) (λbT ko=>?_);have bO:cK.1=z.1.1.1%128:=by
    rw[ax,i128,Int.tmod_eq_emod_of_nonneg w9,oD];omega
   have cP:(bj (eN .u8 cK) (bc.w .u8 128)).1=((z.1.1.1.toNat%128+128:Nat):Int):=by
    rw[abr,q6,bO,show(bc.w .u8 128).1=128 from rfl,xG,xG];omega
   rw[cN.one] at ko;dsimp only at ko;rw[cP] at ko;have nr:=congrArg List.length ko;rw[bl,cN.len,cN.len,List.length_singleton] at nr;refine ae (AP bk) (λv4 ot=>?_);have aL:v4.1=z.1.1.1/128:=by
    rw[ot,i128,Int.tdiv_eq_ediv_of_nonneg w9,oD];omega
   have vG:v4.1.toNat=z.1.1.1.toNat/128:=ab;obtain⟨f,rfl⟩:∃g,f=g+1:=⟨f-1,ab⟩;have bF:(2:Int)^(7*(f+1))=2^(7*f)*128:=by rw[show 7*(f+1)=7*f+7 by omega,Int.pow_add];rfl
   rw[bF] at f1;have bB:0<f:=by
    rcases Nat.eq_zero_or_pos f with h|h
    ·subst h;simp at f1;omega
    ·exact h
   refine bz ⟨⟨f,bB,by dsimp only;omega,?_,by dsimp only;omega⟩,by dsimp only;omega⟩;dsimp only
   rw[ko,vG,cO,<-f2,Qx ab];rfl
  ·have ah:z.1.1.1<128:=by simp only[cG] at ah;exact ah
   exact a7 ⟨f,f0,by dsimp only;omega,f2,by dsimp only;omega⟩
 ·obtain⟨f,f0,f1,f2,f3⟩:=cZ;refine ae (x2 (by simp only[b5];omega)) (λmN uv=>?_);refine ak ?_;obtain⟨f,rfl⟩:∃g,f=g+1:=⟨f-1,ab⟩;have w9:0<=a5.1.1.1:=a5.1.1.2.1;dsimp only
  rw[bd.bytes,uv,cN.one,<-f2,Xu f1];dsimp only
  rw[q6,xG,show a5.1.1.1%256=a5.1.1.1 by omega]
set_option linter.unusedSimpArgs false
theorem sK {α Z Y:Type}(c:α->List UInt8)(l:L α)(h:Z->Option (Z⊕Y))(row:Z->ee)(gD:Z->bc .i64)(out:Y->ee)(ok:Z->Prop)(step:∀z,ok z->0<=(gD z).1->∀e,(gD z).1<(l.1.length:Nat)->l.1[(gD z).1.toNat]?=some e->(row z).1.size+(c e).length<=1000000000->aw (h z) (Sum.elim (λfU=>ok fU/\gD fU=bj (gD z) (W 1)/\bd (row fU)=bd (row z)++c e) (λ_=>False)))(stop:∀z,ok z->(l.1.length:Nat)<=(gD z).1->aw (h z) (Sum.elim (λ_=>False) (λy=>out y=row z))):
 ∀cn,ok cn->(gD cn).1=0->(row cn).1.size+(l.1.flatMap c).length<=1000000000->aw (a3 h cn) (λy=>bd (out y)=bd (row cn)++l.1.flatMap c):=by
 intro cn a6 aj aO;have aZ:=L.b l;refine cQ (λz=>ok z/\0<=(gD z).1/\(gD z).1<=(l.1.length:Nat)/\bd (row z)=bd (row cn)++(l.1.take (gD z).1.toNat).flatMap c) (λz=>((l.1.length:Nat)-(gD z).1:Int).toNat) (λz ai=>?_) cn ⟨a6,ab,ab,by rw[aj];simp⟩;obtain⟨ed,eX,gr,gb⟩:=ai;by_cases ah:(gD z).1<(l.1.length:Nat)
 ·have he:=fy (l:=l.1) (i:=(gD z).1.toNat) ab;have aD:l.1.flatMap c=(l.1.take (gD z).1.toNat).flatMap c++(c l.1[(gD z).1.toNat]++(l.1.drop ((gD z).1.toNat+1)).flatMap c):=by
   conv=>lhs;rw[<-List.take_append_drop (gD z).1.toNat l.1,List.drop_eq_getElem_cons (by omega:(gD z).1.toNat<l.1.length)]
   rw[List.flatMap_append,List.flatMap_cons]
  have aQ:=congrArg List.length aD;have bO:=congrArg List.length gb;simp only[bl,bd.len] at aQ bO;refine(step z ed eX _ ah he ab).mono λr aO=>?_;cases r with
  |inl fU=>
   obtain⟨cr,cI,dw⟩:=aO;have aA:=dN (gD z) eX ab;refine⟨⟨cr,by rw[cI,aA];omega,by rw[cI,aA];omega,?_⟩,by rw[cI,aA];omega⟩;rw[dw,gb,cI,aA,Ca eX he,List.flatMap_append,cO];simp
  |inr y=>exact absurd aO id
 ·refine(stop z ed ab).mono λr aO=>?_;cases r with
  |inl fU=>exact absurd aO id
  |inr y=>
   show bd (out y)=_;rw[show out y=row z from aO,gb,zI ab]
theorem mR:∀x:U aiV,True->aw (l3 x) (λy=>bd y.1.1=ix x.1.1):=by
 intro x _;unfold l3;exact ae (VL _ aK) (λaz aa=>ak aa)
theorem rk:∀x:U ai4,(gy x.1.1).length<=1000000000->aw (pb x) (λy=>bd y.1.1=gy x.1.1):=by
 intro x h;unfold pb;unfold gy at h;rw[bl,bd.len] at h;refine ae (VL _ aK) (λaz aa=>?_);have aa:bd az.1.1=fB (x.1.1.1.size:Nat):=aa;have aD:=congrArg List.length aa;rw[bd.len] at aD;refine ae (I5 ab) (λv2 af=>ak ?_);dsimp only
 rw[af,aa];rfl
theorem aHe (a:L (D cl)):∀cn:U Wh,cn.1.1=a->cn.1.2.2.1.1=0->cn.1.2.1.1.size+(a.1.flatMap ld).length<=1000000000->aw (a3 BQ cn) (λy=>bd y.1.1=bd cn.1.2.1++a.1.flatMap ld):=by
 refine sK ld a BQ (λz=>z.1.2.1) (λz=>z.1.2.2.1) (λy=>y.1.1) (λz=>z.1.1=a) (λz ai a6 e bn he aO=>?_) (λz ai hle=>?_)
 ·unfold BQ;rw[ai];simp only[ld,bu,bJ,bS,bl,bN,dr,cO,cq] at aO;refine aw.gO ?_;refine ae (c5 ⟨a6,bn⟩) (λaQ cM=>?_);obtain rfl:=eD (he.symm.trans cM);refine ae (rk _ (by(try simp only[ld,bu,bJ,bS,bl,bN,dr,cO,cq]);(try dsimp only);omega)) (λaT ax=>?_);have ax:bd aT.1.1=gy e.1:=ax;have bo:=congrArg List.length ax;simp only[bu,bJ,bS,bl,bN,cq,bd.len] at bo;refine ae iB (λv4 ⟨a8,cE⟩=>?_);exact bz ⟨rfl,rfl,by dsimp only;rw[a8,ax];simp only[ld,bu,bJ,bS,bl,bN,dr,cO,cq]⟩
 ·unfold BQ;rw[ai];exact aw.jl (a7 rfl)
theorem aHh:∀x:U ajO,(bS ld x.1.1).length<=1000000000->aw (OB x) (λy=>bd y.1.1=bS ld x.1.1):=by
 intro x h;unfold OB;simp only[bu,bJ,bS,bl,bN,dr,cO,cq] at h;refine ae (mR _ aK) (λaz aa=>?_);have aa:bd az.1.1=fB (x.1.1.1.length:Nat):=aa;have aG:=congrArg List.length aa;simp only[bu,bJ,bS,bl,bN,cq,bd.len] at aG;refine ae (aHe x.1.1 _ rfl rfl (by(try dsimp only);omega)) (λa5 cy=>?_);have cy:bd a5.1.1=bd az.1.1++(x.1.1.1).flatMap ld:=cy;have eM:=congrArg List.length cy;simp only[bu,bJ,bS,bl,bN,cq,bd.len] at eM;refine ak ?_;dsimp only
 rw[cy,aa];simp only[bu,bJ,bS,bl,bN,dr,cO,cq]
theorem ajb:∀x:U ai',(fE x.1.1).length<=1000000000->aw (GC x) (λy=>bd y.1.1=fE x.1.1):=by
 intro x h;unfold GC;simp only[fE,bu,bJ,bS,bl,bN,dr,cO,cq] at h;refine ae (mR _ aK) (λaz aa=>?_);have aa:bd az.1.1=ix x.1.1.1:=aa;have aG:=congrArg List.length aa;simp only[fE,bu,bJ,bS,bl,bN,cq,bd.len] at aG;refine ae (rk _ (by(try simp only[fE,bu,bJ,bS,bl,bN,dr,cO,cq]);(try dsimp only);omega)) (λaF af=>?_);have af:bd aF.1.1=gy x.1.1.2.1:=af;have aN:=congrArg List.length af;simp only[fE,bu,bJ,bS,bl,bN,cq,bd.len] at aN;refine ae iB (λcK ⟨ax,bo⟩=>?_);refine ak ?_;dsimp only
 rw[ax,af,aa];simp only[fE,bu,bJ,bS,bl,bN,dr,cO,cq]
theorem aE1 (a:L (D dR)):∀cn:U VU,cn.1.1=a->cn.1.2.2.1.1=0->cn.1.2.1.1.size+(a.1.flatMap iT).length<=1000000000->aw (a3 BA cn) (λy=>bd y.1.1=bd cn.1.2.1++a.1.flatMap iT):=by
 refine sK iT a BA (λz=>z.1.2.1) (λz=>z.1.2.2.1) (λy=>y.1.1) (λz=>z.1.1=a) (λz ai a6 e bn he aO=>?_) (λz ai hle=>?_)
 ·unfold BA;rw[ai];simp only[iT,fE,bu,bJ,bS,bl,bN,dr,cO,cq] at aO;refine aw.gO ?_;refine ae (c5 ⟨a6,bn⟩) (λaQ cM=>?_);obtain rfl:=eD (he.symm.trans cM);refine ae (rk _ (by(try simp only[iT,fE,bu,bJ,bS,bl,bN,dr,cO,cq]);(try dsimp only);omega)) (λaT ax=>?_);have ax:bd aT.1.1=gy e.1:=ax;have bo:=congrArg List.length ax;simp only[fE,bu,bJ,bS,bl,bN,cq,bd.len] at bo;refine ae iB (λv4 ⟨a8,cE⟩=>?_);refine ae (c5 ⟨a6,bn⟩) (λdP fL=>?_);obtain rfl:=eD (he.symm.trans fL);refine ae (ajb _ (by(try simp only[iT,fE,bu,bJ,bS,bl,bN,dr,cO,cq]);(try dsimp only);omega)) (λbK dm=>?_);have dm:bd bK.1.1=fE (e.2.1,e.2.2.1,()):=dm;have fH:=congrArg List.length dm;simp only[fE,bu,bJ,bS,bl,bN,cq,bd.len] at fH;refine ae iB (λdU ⟨dL,gz⟩=>?_);refine ae (c5 ⟨a6,bn⟩) (λdG g_=>?_);obtain rfl:=eD (he.symm.trans g_);refine ae (mR _ aK) (λbU fa=>?_);have fa:bd bU.1.1=ix e.2.2.2.1:=fa;have iV:=congrArg List.length fa;simp only[fE,bu,bJ,bS,bl,bN,cq,bd.len] at iV;refine ae iB (λv10 ⟨gJ,qT⟩=>?_);exact bz ⟨rfl,rfl,by dsimp only;rw[gJ,fa,dL,dm,a8,ax];simp only[iT,fE,bu,bJ,bS,bl,bN,dr,cO,cq]⟩
 ·unfold BA;rw[ai];exact aw.jl (a7 rfl)
theorem ai9:∀x:U ai6,(bS iT x.1.1).length<=1000000000->aw (GB x) (λy=>bd y.1.1=bS iT x.1.1):=by
 intro x h;unfold GB;simp only[bu,bJ,bS,bl,bN,dr,cO,cq] at h;refine ae (mR _ aK) (λaz aa=>?_);have aa:bd az.1.1=fB (x.1.1.1.length:Nat):=aa;have aG:=congrArg List.length aa;simp only[bu,bJ,bS,bl,bN,cq,bd.len] at aG;refine ae (aE1 x.1.1 _ rfl rfl (by(try dsimp only);omega)) (λbY j7=>?_);have j7:bd bY.1.1=bd az.1.1++(x.1.1.1).flatMap iT:=j7;have kQ:=congrArg List.length j7;simp only[bu,bJ,bS,bl,bN,cq,bd.len] at kQ;refine ak ?_;dsimp only
 rw[j7,aa];simp only[bu,bJ,bS,bl,bN,dr,cO,cq]
theorem aGq (a:D dE):∀cn:U Wa,cn.1.1=a->cn.1.2.2.1.1=0->cn.1.2.1.1.size+(a.2.2.1.1.flatMap jV).length<=1000000000->aw (a3 BN cn) (λy=>bd y.1.1=bd cn.1.2.1++a.2.2.1.1.flatMap jV):=by
 refine sK jV a.2.2.1 BN (λz=>z.1.2.1) (λz=>z.1.2.2.1) (λy=>y.1.1) (λz=>z.1.1=a) (λz ai a6 e bn he aO=>?_) (λz ai hle=>?_)
 ·unfold BN;rw[ai];simp only[jV,bu,bJ,bS,bl,bN,dr,cO,cq] at aO;refine aw.gO ?_;refine ae (c5 ⟨a6,bn⟩) (λdb fX=>?_);obtain rfl:=eD (he.symm.trans fX);refine ae (rk _ (by(try simp only[jV,bu,bJ,bS,bl,bN,dr,cO,cq]);(try dsimp only);omega)) (λbL dL=>?_);have dL:bd bL.1.1=gy e.1:=dL;have gz:=congrArg List.length dL;simp only[bu,bJ,bS,bl,bN,cq,bd.len] at gz;refine ae iB (λdz ⟨dY,hM⟩=>?_);refine ae (c5 ⟨a6,bn⟩) (λeS kG=>?_);obtain rfl:=eD (he.symm.trans kG);refine ae (rk _ (by(try simp only[jV,bu,bJ,bS,bl,bN,dr,cO,cq]);(try dsimp only);omega)) (λcd gJ=>?_);have gJ:bd cd.1.1=gy e.2.1:=gJ;have qT:=congrArg List.length gJ;simp only[bu,bJ,bS,bl,bN,cq,bd.len] at qT;refine ae iB (λv11 ⟨j7,kQ⟩=>?_);refine ae (c5 ⟨a6,bn⟩) (λiC kF=>?_);obtain rfl:=eD (he.symm.trans kF);refine ae (ai9 _ (by(try simp only[jV,bu,bJ,bS,bl,bN,dr,cO,cq]);(try dsimp only);omega)) (λcA jt=>?_);have jt:bd cA.1.1=bS iT e.2.2.1:=jt;have kR:=congrArg List.length jt;simp only[bu,bJ,bS,bl,bN,cq,bd.len] at kR;refine ae iB (λic ⟨nL,wR⟩=>?_);exact bz ⟨rfl,rfl,by dsimp only;rw[nL,jt,j7,gJ,dY,dL];simp only[jV,bu,bJ,bS,bl,bN,dr,cO,cq]⟩
 ·unfold BN;rw[ai];exact aw.jl (a7 rfl)
theorem aGt:∀x:U ajA,(iK x.1.1).length<=1000000000->aw (Ol x) (λy=>bd y.1.1=iK x.1.1):=by
 intro x h;unfold Ol;simp only[iK,bu,bJ,bS,bl,bN,dr,cO,cq] at h;refine ae (rk _ (by(try simp only[iK,bu,bJ,bS,bl,bN,dr,cO,cq]);(try dsimp only);omega)) (λaz aa=>?_);have aa:bd az.1.1=gy x.1.1.1:=aa;have aG:=congrArg List.length aa;simp only[bu,bJ,bS,bl,bN,cq,bd.len] at aG;refine ae (aHh _ (by(try simp only[iK,bu,bJ,bS,bl,bN,dr,cO,cq]);(try dsimp only);omega)) (λaF af=>?_);have af:bd aF.1.1=bS ld x.1.1.2.1:=af;have aN:=congrArg List.length af;simp only[bu,bJ,bS,bl,bN,cq,bd.len] at aN;refine ae iB (λcK ⟨ax,bo⟩=>?_);refine ae (mR _ aK) (λaY a8=>?_);have a8:bd aY.1.1=fB (x.1.1.2.2.1.1.length:Nat):=a8;have cE:=congrArg List.length a8;simp only[bu,bJ,bS,bl,bN,cq,bd.len] at cE;refine ae iB (λcV ⟨cy,eM⟩=>?_);refine ae (aGq x.1.1 _ rfl rfl (by(try dsimp only);omega)) (λdF nM=>?_);have nM:bd dF.1.1=bd cV++(x.1.1.2.2.1.1).flatMap jV:=nM;have sa:=congrArg List.length nM;simp only[bu,bJ,bS,bl,bN,cq,bd.len] at sa;refine ak ?_;dsimp only
 rw[nM,cy,a8,ax,af,aa];simp only[iK,bu,bJ,bS,bl,bN,dr,cO,cq]
theorem aF1 (a:D ek):∀cn:U V5,cn.1.1=a->cn.1.2.2.1.1=0->cn.1.2.1.1.size+(a.2.1.1.flatMap kz).length<=1000000000->aw (a3 BH cn) (λy=>bd y.1.1=bd cn.1.2.1++a.2.1.1.flatMap kz):=by
 refine sK kz a.2.1 BH (λz=>z.1.2.1) (λz=>z.1.2.2.1) (λy=>y.1.1) (λz=>z.1.1=a) (λz ai a6 e bn he aO=>?_) (λz ai hle=>?_)
 ·unfold BH;rw[ai];simp only[kz,bu,bJ,bS,bl,bN,dr,cO,cq] at aO;refine aw.gO ?_;refine ae (c5 ⟨a6,bn⟩) (λcP fb=>?_);obtain rfl:=eD (he.symm.trans fb);refine ae (mR _ aK) (λa5 cy=>?_);have cy:bd a5.1.1=ix e.1:=cy;have eM:=congrArg List.length cy;simp only[bu,bJ,bS,bl,bN,cq,bd.len] at eM;refine ae iB (λv6 ⟨dm,fH⟩=>?_);refine ae (c5 ⟨a6,bn⟩) (λfk jZ=>?_);obtain rfl:=eD (he.symm.trans jZ);refine ae (rk _ (by(try simp only[kz,bu,bJ,bS,bl,bN,dr,cO,cq]);(try dsimp only);omega)) (λcu dY=>?_);have dY:bd cu.1.1=gy e.2.1:=dY;have hM:=congrArg List.length dY;simp only[bu,bJ,bS,bl,bN,cq,bd.len] at hM;refine ae iB (λe8 ⟨fa,iV⟩=>?_);refine ae (c5 ⟨a6,bn⟩) (λea lB=>?_);obtain rfl:=eD (he.symm.trans lB);refine ae (ai9 _ (by(try simp only[kz,bu,bJ,bS,bl,bN,dr,cO,cq]);(try dsimp only);omega)) (λbY j7=>?_);have j7:bd bY.1.1=bS iT e.2.2.1:=j7;have kQ:=congrArg List.length j7;simp only[bu,bJ,bS,bl,bN,cq,bd.len] at kQ;refine ae iB (λeB ⟨nK,l_⟩=>?_);exact bz ⟨rfl,rfl,by dsimp only;rw[nK,j7,fa,dY,dm,cy];simp only[kz,bu,bJ,bS,bl,bN,dr,cO,cq]⟩
 ·unfold BH;rw[ai];exact aw.jl (a7 rfl)
theorem aF4:∀x:U ajw,(js x.1.1).length<=1000000000->aw (Oh x) (λy=>bd y.1.1=js x.1.1):=by
 intro x h;unfold Oh;simp only[js,bu,bJ,bS,bl,bN,dr,cO,cq] at h;refine ae (rk _ (by(try simp only[js,bu,bJ,bS,bl,bN,dr,cO,cq]);(try dsimp only);omega)) (λaz aa=>?_);have aa:bd az.1.1=gy x.1.1.1:=aa;have aG:=congrArg List.length aa;simp only[bu,bJ,bS,bl,bN,cq,bd.len] at aG;refine ae (mR _ aK) (λaF af=>?_);have af:bd aF.1.1=fB (x.1.1.2.1.1.length:Nat):=af;have aN:=congrArg List.length af;simp only[bu,bJ,bS,bl,bN,cq,bd.len] at aN;refine ae iB (λcK ⟨ax,bo⟩=>?_);refine ae (aF1 x.1.1 _ rfl rfl (by(try dsimp only);omega)) (λcA jt=>?_);have jt:bd cA.1.1=bd cK++(x.1.1.2.1.1).flatMap kz:=jt;have kR:=congrArg List.length jt;simp only[bu,bJ,bS,bl,bN,cq,bd.len] at kR;refine ak ?_;dsimp only
 rw[jt,ax,af,aa];simp only[js,bu,bJ,bS,bl,bN,dr,cO,cq]
theorem aFN (a:L (D bp)):∀cn:U V4,cn.1.1=a->cn.1.2.2.1.1=0->cn.1.2.1.1.size+(a.1.flatMap iU).length<=1000000000->aw (a3 BG cn) (λy=>bd y.1.1=bd cn.1.2.1++a.1.flatMap iU):=by
 refine sK iU a BG (λz=>z.1.2.1) (λz=>z.1.2.2.1) (λy=>y.1.1) (λz=>z.1.1=a) (λz ai a6 e bn he aO=>?_) (λz ai hle=>?_)
 ·unfold BG;rw[ai];simp only[iU,bu,bJ,bS,bl,bN,dr,cO,cq] at aO;refine aw.gO ?_;refine ae (c5 ⟨a6,bn⟩) (λaQ cM=>?_);obtain rfl:=eD (he.symm.trans cM);refine ae (mR _ aK) (λaT ax=>?_);have ax:bd aT.1.1=ix e.1:=ax;have bo:=congrArg List.length ax;simp only[bu,bJ,bS,bl,bN,cq,bd.len] at bo;refine ae iB (λv4 ⟨a8,cE⟩=>?_);exact bz ⟨rfl,rfl,by dsimp only;rw[a8,ax];simp only[iU,bu,bJ,bS,bl,bN,dr,cO,cq]⟩
 ·unfold BG;rw[ai];exact aw.jl (a7 rfl)
theorem aju:∀x:U ajs,(bS iU x.1.1).length<=1000000000->aw (GL x) (λy=>bd y.1.1=bS iU x.1.1):=by
 intro x h;unfold GL;simp only[bu,bJ,bS,bl,bN,dr,cO,cq] at h;refine ae (mR _ aK) (λaz aa=>?_);have aa:bd az.1.1=fB (x.1.1.1.length:Nat):=aa;have aG:=congrArg List.length aa;simp only[bu,bJ,bS,bl,bN,cq,bd.len] at aG;refine ae (aFN x.1.1 _ rfl rfl (by(try dsimp only);omega)) (λa5 cy=>?_);have cy:bd a5.1.1=bd az.1.1++(x.1.1.1).flatMap iU:=cy;have eM:=congrArg List.length cy;simp only[bu,bJ,bS,bl,bN,cq,bd.len] at eM;refine ak ?_;dsimp only
 rw[cy,aa];simp only[bu,bJ,bS,bl,bN,dr,cO,cq]
theorem aFr (a:D ey):∀cn:U VZ,cn.1.1=a->cn.1.2.2.1.1=0->cn.1.2.1.1.size+(a.2.2.2.2.2.2.2.1.1.flatMap g2).length<=1000000000->aw (a3 BE cn) (λy=>bd y.1.1=bd cn.1.2.1++a.2.2.2.2.2.2.2.1.1.flatMap g2):=by
 refine sK g2 a.2.2.2.2.2.2.2.1 BE (λz=>z.1.2.1) (λz=>z.1.2.2.1) (λy=>y.1.1) (λz=>z.1.1=a) (λz ai a6 e bn he aO=>?_) (λz ai hle=>?_)
 ·unfold BE;rw[ai];simp only[g2,bu,bJ,bS,bl,bN,dr,cO,cq] at aO;refine aw.gO ?_;refine ae (c5 ⟨a6,bn⟩) (λg8 jY=>?_);obtain rfl:=eD (he.symm.trans jY);refine ae (rk _ (by(try simp only[g2,bu,bJ,bS,bl,bN,dr,cO,cq]);(try dsimp only);omega)) (λfg vp=>?_);have vp:bd fg.1.1=gy e.1:=vp;have tj:=congrArg List.length vp;simp only[bu,bJ,bS,bl,bN,cq,bd.len] at tj;refine ae iB (λxC ⟨Ap,C'⟩=>?_);refine ae (c5 ⟨a6,bn⟩) (λoa qo=>?_);obtain rfl:=eD (he.symm.trans qo);refine ae (mR _ aK) (λfY wT=>?_);have wT:bd fY.1.1=ix e.2.1:=wT;have Jt:=congrArg List.length wT;simp only[bu,bJ,bS,bl,bN,cq,bd.len] at Jt;refine ae iB (λxD ⟨R9,R4⟩=>?_);refine ae (c5 ⟨a6,bn⟩) (λqP Av=>?_);obtain rfl:=eD (he.symm.trans Av);refine ae (mR _ aK) (λlI Aq=>?_);have Aq:bd lI.1.1=ix e.2.2.1:=Aq;have aoU:=congrArg List.length Aq;simp only[bu,bJ,bS,bl,bN,cq,bd.len] at aoU;refine ae iB (λami ⟨R_,aN4⟩=>?_);exact bz ⟨rfl,rfl,by dsimp only;rw[R_,Aq,R9,wT,Ap,vp];simp only[g2,bu,bJ,bS,bl,bN,dr,cO,cq]⟩
 ·unfold BE;rw[ai];exact aw.jl (a7 rfl)
theorem aFu (a:D ey):∀cn:U V0,cn.1.1=a->cn.1.2.2.1.1=0->cn.1.2.1.1.size+(a.2.2.2.2.2.2.2.2.1.1.flatMap g7).length<=1000000000->aw (a3 BF cn) (λy=>bd y.1.1=bd cn.1.2.1++a.2.2.2.2.2.2.2.2.1.1.flatMap g7):=by
 refine sK g7 a.2.2.2.2.2.2.2.2.1 BF (λz=>z.1.2.1) (λz=>z.1.2.2.1) (λy=>y.1.1) (λz=>z.1.1=a) (λz ai a6 e bn he aO=>?_) (λz ai hle=>?_)
 ·unfold BF;rw[ai];simp only[g7,bu,bJ,bS,bl,bN,dr,cO,cq] at aO;refine aw.gO ?_;refine ae (c5 ⟨a6,bn⟩) (λZi apT=>?_);obtain rfl:=eD (he.symm.trans apT);refine ae (rk _ (by(try simp only[g7,bu,bJ,bS,bl,bN,dr,cO,cq]);(try dsimp only);omega)) (λxH Jy=>?_);have Jy:bd xH.1.1=gy e.1:=Jy;have aoW:=congrArg List.length Jy;simp only[bu,bJ,bS,bl,bN,cq,bd.len] at aoW;refine ae iB (λv30 ⟨ao8,aN6⟩=>?_);refine ae (c5 ⟨a6,bn⟩) (λCZ aah=>?_);obtain rfl:=eD (he.symm.trans aah);refine ae (rk _ (by(try simp only[g7,bu,bJ,bS,bl,bN,dr,cO,cq]);(try dsimp only);omega)) (λtP Jz=>?_);have Jz:bd tP.1.1=gy e.2.1:=Jz;have aoY:=congrArg List.length Jz;simp only[bu,bJ,bS,bl,bN,cq,bd.len] at aoY;refine ae iB (λamj ⟨ao9,aN7⟩=>?_);refine ae (c5 ⟨a6,bn⟩) (λZj apU=>?_);obtain rfl:=eD (he.symm.trans apU);refine ae (aju _ (by(try simp only[g7,bu,bJ,bS,bl,bN,dr,cO,cq]);(try dsimp only);omega)) (λCh JA=>?_);have JA:bd Ch.1.1=bS iU e.2.2.1:=JA;have aoZ:=congrArg List.length JA;simp only[bu,bJ,bS,bl,bN,cq,bd.len] at aoZ;refine ae iB (λamk ⟨ao_,aN8⟩=>?_);exact bz ⟨rfl,rfl,by dsimp only;rw[ao_,JA,ao9,Jz,ao8,Jy];simp only[g7,bu,bJ,bS,bl,bN,dr,cO,cq]⟩
 ·unfold BF;rw[ai];exact aw.jl (a7 rfl)
theorem aFx:∀x:U ajp,(e3 x.1.1).length<=1000000000->aw (N' x) (λy=>bd y.1.1=e3 x.1.1):=by
 intro x h;unfold N';simp only[e3,bu,bJ,bS,bl,bN,dr,cO,cq] at h;refine ae (mR _ aK) (λaz aa=>?_);have aa:bd az.1.1=ix x.1.1.1:=aa;have aG:=congrArg List.length aa;simp only[bu,bJ,bS,bl,bN,cq,bd.len] at aG;refine ae (mR _ aK) (λaF af=>?_);have af:bd aF.1.1=ix x.1.1.2.1:=af;have aN:=congrArg List.length af;simp only[bu,bJ,bS,bl,bN,cq,bd.len] at aN;refine ae iB (λcK ⟨ax,bo⟩=>?_);refine ae (mR _ aK) (λaY a8=>?_);have a8:bd aY.1.1=ix x.1.1.2.2.1:=a8;have cE:=congrArg List.length a8;simp only[bu,bJ,bS,bl,bN,cq,bd.len] at cE;refine ae iB (λcV ⟨cy,eM⟩=>?_);refine ae (VL _ aK) (λbK dm=>?_);have dm:bd bK.1.1=ix x.1.1.2.2.2.1:=dm;have fH:=congrArg List.length dm;simp only[bu,bJ,bS,bl,bN,cq,bd.len] at fH;refine ae iB (λdU ⟨dL,gz⟩=>?_);refine ae (rk _ (by(try simp only[e3,bu,bJ,bS,bl,bN,dr,cO,cq]);(try dsimp only);omega)) (λcu dY=>?_);have dY:bd cu.1.1=gy x.1.1.2.2.2.2.1:=dY;have hM:=congrArg List.length dY;simp only[bu,bJ,bS,bl,bN,cq,bd.len] at hM;refine ae iB (λe8 ⟨fa,iV⟩=>?_);refine ae (rk _ (by(try simp only[e3,bu,bJ,bS,bl,bN,dr,cO,cq]);(try dsimp only);omega)) (λcd gJ=>?_);have gJ:bd cd.1.1=gy x.1.1.2.2.2.2.2.1:=gJ;have qT:=congrArg List.length gJ;simp only[bu,bJ,bS,bl,bN,cq,bd.len] at qT;refine ae iB (λv11 ⟨j7,kQ⟩=>?_);refine ae (aju _ (by(try simp only[e3,bu,bJ,bS,bl,bN,dr,cO,cq]);(try dsimp only);omega)) (λcT nK=>?_);have nK:bd cT.1.1=bS iU x.1.1.2.2.2.2.2.2.1:=nK;have l_:=congrArg List.length nK;simp only[bu,bJ,bS,bl,bN,cq,bd.len] at l_;refine ae iB (λjQ ⟨jt,kR⟩=>?_);refine ae (mR _ aK) (λep nL=>?_);have nL:bd ep.1.1=fB (x.1.1.2.2.2.2.2.2.2.1.1.length:Nat):=nL;have wR:=congrArg List.length nL;simp only[bu,bJ,bS,bl,bN,cq,bd.len] at wR;refine ae iB (λu0 ⟨nM,sa⟩=>?_);refine ae (aFr x.1.1 _ rfl rfl (by(try dsimp only);omega)) (λkg Jw=>?_);have Jw:bd kg.1.1=bd u0++(x.1.1.2.2.2.2.2.2.2.1.1).flatMap g2:=Jw;have aoV:=congrArg List.length Jw;simp only[bu,bJ,bS,bl,bN,cq,bd.len] at aoV;refine ae (mR _ aK) (λmS Jx=>?_);have Jx:bd mS.1.1=fB (x.1.1.2.2.2.2.2.2.2.2.1.1.length:Nat):=Jx;have Da:=congrArg List.length Jx;simp only[bu,bJ,bS,bl,bN,cq,bd.len] at Da;refine ae iB (λXt ⟨Sa,aN5⟩=>?_);refine ae (aFu x.1.1 _ rfl rfl (by(try dsimp only);omega)) (λIo JB=>?_);have JB:bd Io.1.1=bd Xt++(x.1.1.2.2.2.2.2.2.2.2.1.1).flatMap g7:=JB;have ao0:=congrArg List.length JB;simp only[bu,bJ,bS,bl,bN,cq,bd.len] at ao0;refine ak ?_;dsimp only
 rw[JB,Sa,Jx,Jw,nM,nL,jt,nK,j7,gJ,fa,dY,dL,dm,cy,a8,ax,af,aa];simp only[e3,bu,bJ,bS,bl,bN,dr,cO,cq]
theorem aGh (a:D hU):∀cn:U V9,cn.1.1=a->cn.1.2.2.1.1=0->cn.1.2.1.1.size+(a.2.1.1.flatMap fE).length<=1000000000->aw (a3 BL cn) (λy=>bd y.1.1=bd cn.1.2.1++a.2.1.1.flatMap fE):=by
 refine sK fE a.2.1 BL (λz=>z.1.2.1) (λz=>z.1.2.2.1) (λy=>y.1.1) (λz=>z.1.1=a) (λz ai a6 e bn he aO=>?_) (λz ai hle=>?_)
 ·unfold BL;rw[ai];refine aw.gO ?_;refine ae (c5 ⟨a6,bn⟩) (λcP fb=>?_);obtain rfl:=eD (he.symm.trans fb);refine ae (ajb _ (by(try simp only[bu,bJ,bS,bl,bN,dr,cO,cq]);(try dsimp only);omega)) (λa5 cy=>?_);have cy:bd a5.1.1=fE e:=cy;have eM:=congrArg List.length cy;simp only[bu,bJ,bS,bl,bN,cq,bd.len] at eM;refine ae iB (λv6 ⟨dm,fH⟩=>?_);exact bz ⟨rfl,rfl,by dsimp only;rw[dm,cy]⟩
 ·unfold BL;rw[ai];exact aw.jl (a7 rfl)
theorem aGk (a:D hU):∀cn:U V_,cn.1.1=a->cn.1.2.2.1.1=0->cn.1.2.1.1.size+(a.2.2.2.1.1.flatMap e3).length<=1000000000->aw (a3 BM cn) (λy=>bd y.1.1=bd cn.1.2.1++a.2.2.2.1.1.flatMap e3):=by
 refine sK e3 a.2.2.2.1 BM (λz=>z.1.2.1) (λz=>z.1.2.2.1) (λy=>y.1.1) (λz=>z.1.1=a) (λz ai a6 e bn he aO=>?_) (λz ai hle=>?_)
 ·unfold BM;rw[ai];refine aw.gO ?_;refine ae (c5 ⟨a6,bn⟩) (λiC kF=>?_);obtain rfl:=eD (he.symm.trans kF);refine ae (aFx _ (by(try simp only[bu,bJ,bS,bl,bN,dr,cO,cq]);(try dsimp only);omega)) (λcA jt=>?_);have jt:bd cA.1.1=e3 e:=jt;have kR:=congrArg List.length jt;simp only[bu,bJ,bS,bl,bN,cq,bd.len] at kR;refine ae iB (λic ⟨nL,wR⟩=>?_);exact bz ⟨rfl,rfl,by dsimp only;rw[nL,jt]⟩
 ·unfold BM;rw[ai];exact aw.jl (a7 rfl)
theorem aGn:∀x:U ajz,(gI x.1.1).length<=1000000000->aw (Ok x) (λy=>bd y.1.1=gI x.1.1):=by
 intro x h;unfold Ok;simp only[gI,bu,bJ,bS,bl,bN,dr,cO,cq] at h;refine ae (rk _ (by(try simp only[gI,bu,bJ,bS,bl,bN,dr,cO,cq]);(try dsimp only);omega)) (λaz aa=>?_);have aa:bd az.1.1=gy x.1.1.1:=aa;have aG:=congrArg List.length aa;simp only[bu,bJ,bS,bl,bN,cq,bd.len] at aG;refine ae (mR _ aK) (λaF af=>?_);have af:bd aF.1.1=fB (x.1.1.2.1.1.length:Nat):=af;have aN:=congrArg List.length af;simp only[bu,bJ,bS,bl,bN,cq,bd.len] at aN;refine ae iB (λcK ⟨ax,bo⟩=>?_);refine ae (aGh x.1.1 _ rfl rfl (by(try dsimp only);omega)) (λbL dL=>?_);have dL:bd bL.1.1=bd cK++(x.1.1.2.1.1).flatMap fE:=dL;have gz:=congrArg List.length dL;simp only[bu,bJ,bS,bl,bN,cq,bd.len] at gz;refine ae (mR _ aK) (λcu dY=>?_);have dY:bd cu.1.1=ix x.1.1.2.2.1:=dY;have hM:=congrArg List.length dY;simp only[bu,bJ,bS,bl,bN,cq,bd.len] at hM;refine ae iB (λe8 ⟨fa,iV⟩=>?_);refine ae (mR _ aK) (λcd gJ=>?_);have gJ:bd cd.1.1=fB (x.1.1.2.2.2.1.1.length:Nat):=gJ;have qT:=congrArg List.length gJ;simp only[bu,bJ,bS,bl,bN,cq,bd.len] at qT;refine ae iB (λv11 ⟨j7,kQ⟩=>?_);refine ae (aGk x.1.1 _ rfl rfl (by(try dsimp only);omega)) (λdF nM=>?_);have nM:bd dF.1.1=bd v11++(x.1.1.2.2.2.1.1).flatMap e3:=nM;have sa:=congrArg List.length nM;simp only[bu,bJ,bS,bl,bN,cq,bd.len] at sa;refine ak ?_;dsimp only
 rw[nM,j7,gJ,fa,dY,dL,ax,af,aa];simp only[gI,bu,bJ,bS,bl,bN,dr,cO,cq]
theorem aF7 (a:D gX):∀cn:U V6,cn.1.1=a->cn.1.2.2.1.1=0->cn.1.2.1.1.size+(a.1.1.flatMap iK).length<=1000000000->aw (a3 BI cn) (λy=>bd y.1.1=bd cn.1.2.1++a.1.1.flatMap iK):=by
 refine sK iK a.1 BI (λz=>z.1.2.1) (λz=>z.1.2.2.1) (λy=>y.1.1) (λz=>z.1.1=a) (λz ai a6 e bn he aO=>?_) (λz ai hle=>?_)
 ·unfold BI;rw[ai];refine aw.gO ?_;refine ae (c5 ⟨a6,bn⟩) (λaQ cM=>?_);obtain rfl:=eD (he.symm.trans cM);refine ae (aGt _ (by(try simp only[bu,bJ,bS,bl,bN,dr,cO,cq]);(try dsimp only);omega)) (λaT ax=>?_);have ax:bd aT.1.1=iK e:=ax;have bo:=congrArg List.length ax;simp only[bu,bJ,bS,bl,bN,cq,bd.len] at bo;refine ae iB (λv4 ⟨a8,cE⟩=>?_);exact bz ⟨rfl,rfl,by dsimp only;rw[a8,ax]⟩
 ·unfold BI;rw[ai];exact aw.jl (a7 rfl)
theorem aF_ (a:D gX):∀cn:U V7,cn.1.1=a->cn.1.2.2.1.1=0->cn.1.2.1.1.size+(a.2.1.1.flatMap js).length<=1000000000->aw (a3 BJ cn) (λy=>bd y.1.1=bd cn.1.2.1++a.2.1.1.flatMap js):=by
 refine sK js a.2.1 BJ (λz=>z.1.2.1) (λz=>z.1.2.2.1) (λy=>y.1.1) (λz=>z.1.1=a) (λz ai a6 e bn he aO=>?_) (λz ai hle=>?_)
 ·unfold BJ;rw[ai];refine aw.gO ?_;refine ae (c5 ⟨a6,bn⟩) (λdG g_=>?_);obtain rfl:=eD (he.symm.trans g_);refine ae (aF4 _ (by(try simp only[bu,bJ,bS,bl,bN,dr,cO,cq]);(try dsimp only);omega)) (λbU fa=>?_);have fa:bd bU.1.1=js e:=fa;have iV:=congrArg List.length fa;simp only[bu,bJ,bS,bl,bN,cq,bd.len] at iV;refine ae iB (λv10 ⟨gJ,qT⟩=>?_);exact bz ⟨rfl,rfl,by dsimp only;rw[gJ,fa]⟩
 ·unfold BJ;rw[ai];exact aw.jl (a7 rfl)
theorem aGb (a:D gX):∀cn:U V8,cn.1.1=a->cn.1.2.2.1.1=0->cn.1.2.1.1.size+(a.2.2.1.1.flatMap gI).length<=1000000000->aw (a3 BK cn) (λy=>bd y.1.1=bd cn.1.2.1++a.2.2.1.1.flatMap gI):=by
 refine sK gI a.2.2.1 BK (λz=>z.1.2.1) (λz=>z.1.2.2.1) (λy=>y.1.1) (λz=>z.1.1=a) (λz ai a6 e bn he aO=>?_) (λz ai hle=>?_)
 ·unfold BK;rw[ai];refine aw.gO ?_;refine ae (c5 ⟨a6,bn⟩) (λgM lC=>?_);obtain rfl:=eD (he.symm.trans lC);refine ae (aGn _ (by(try simp only[bu,bJ,bS,bl,bN,dr,cO,cq]);(try dsimp only);omega)) (λdF nM=>?_);have nM:bd dF.1.1=gI e:=nM;have sa:=congrArg List.length nM;simp only[bu,bJ,bS,bl,bN,cq,bd.len] at sa;refine ae iB (λkX ⟨Jv,R3⟩=>?_);exact bz ⟨rfl,rfl,by dsimp only;rw[Jv,nM]⟩
 ·unfold BK;rw[ai];exact aw.jl (a7 rfl)
theorem aGe:∀x:U ajy,(jf x.1.1).length<=1000000000->aw (Oi x) (λy=>bd y.1.1=jf x.1.1):=by
 intro x h;unfold Oi;simp only[jf,bu,bJ,bS,bl,bN,dr,cO,cq] at h;refine ae (mR _ aK) (λaz aa=>?_);have aa:bd az.1.1=fB (x.1.1.1.1.length:Nat):=aa;have aG:=congrArg List.length aa;simp only[bu,bJ,bS,bl,bN,cq,bd.len] at aG;refine ae (aF7 x.1.1 _ rfl rfl (by(try dsimp only);omega)) (λa5 cy=>?_);have cy:bd a5.1.1=bd az.1.1++(x.1.1.1.1).flatMap iK:=cy;have eM:=congrArg List.length cy;simp only[bu,bJ,bS,bl,bN,cq,bd.len] at eM;refine ae (mR _ aK) (λbK dm=>?_);have dm:bd bK.1.1=fB (x.1.1.2.1.1.length:Nat):=dm;have fH:=congrArg List.length dm;simp only[bu,bJ,bS,bl,bN,cq,bd.len] at fH;refine ae iB (λdU ⟨dL,gz⟩=>?_);refine ae (aF_ x.1.1 _ rfl rfl (by(try dsimp only);omega)) (λbY j7=>?_);have j7:bd bY.1.1=bd dU++(x.1.1.2.1.1).flatMap js:=j7;have kQ:=congrArg List.length j7;simp only[bu,bJ,bS,bl,bN,cq,bd.len] at kQ;refine ae (mR _ aK) (λcT nK=>?_);have nK:bd cT.1.1=fB (x.1.1.2.2.1.1.length:Nat):=nK;have l_:=congrArg List.length nK;simp only[bu,bJ,bS,bl,bN,cq,bd.len] at l_;refine ae iB (λjQ ⟨jt,kR⟩=>?_);refine ae (aGb x.1.1 _ rfl rfl (by(try dsimp only);omega)) (λfg vp=>?_);have vp:bd fg.1.1=bd jQ++(x.1.1.2.2.1.1).flatMap gI:=vp;have tj:=congrArg List.length vp;simp only[bu,bJ,bS,bl,bN,cq,bd.len] at tj;refine ak ?_;dsimp only
 rw[vp,jt,nK,j7,dL,dm,cy,aa];simp only[jf,bu,bJ,bS,bl,bN,dr,cO,cq]
theorem aEY:∀x:U ai5,(jf x.1.1).length<=900000000->aw (N3 x) (λy=>(if 65536<(iP x.1.1).length+4 then y.1.1=S ⟨#[]⟩/\y.1.2.1.1=3300 else bd y.1.1=iP x.1.1++od (k1 (iP x.1.1))/\y.1.2.1.1=0)):=by
 intro x h;unfold N3;refine ae (aGe _ (by dsimp only;omega)) (λaz aa=>?_);have aa:bd az.1.1=jf x.1.1:=aa;have aG:=congrArg List.length aa;rw[bd.len] at aG;have bg:bd (S ⟨#[82,80,84,49]⟩)=wX:=IF bk;have ao1:=congrArg List.length bg;rw[bd.len,JL] at ao1;refine ae (I5 ab) (λv2 af=>?_);have af:bd v2=iP x.1.1:=by rw[af,bg,aa];rfl
 have aN:=congrArg List.length af;rw[bd.len] at aN;have go:(iP x.1.1).length=4+(jf x.1.1).length:=by unfold iP;rw[bl,JL]
 refine ae (aEQ _ aK) (λaT ax=>?_);have ax:bd aT.1.1=od (k1 (iP x.1.1)):=by rw[ax];dsimp only;rw[af]
 have bo:=congrArg List.length ax;rw[bd.len,Jq] at bo;refine ae (I5 ab) (λv4 a8=>?_);rw[af,ax] at a8;have cE:=congrArg List.length a8;rw[bd.len,bl,Jq] at cE;refine ag (λah=>?_) (λah=>?_)
 ·simp only[cG,aM] at ah;refine ak ?_;dsimp only
  rw[if_pos ab];exact⟨rfl,rfl⟩
 ·simp only[cG,aM] at ah;refine ak ?_;dsimp only
  rw[if_neg ab];exact⟨a8,rfl⟩
theorem aL1 {l:List UInt8}{aD aQ:Int}{ga dc:D gX}(aa:(aD=0/\okB l ga)\/(aD=3301/\ga=(L.nil,L.nil,L.nil,())/\∀m,¬okB l m))(af:(aQ=0/\okB l dc)\/(aQ=3301/\dc=(L.nil,L.nil,L.nil,())/\∀m,¬okB l m)):aD=aQ/\ga=dc:=by
 rcases aa with⟨a,b⟩|⟨a,b,c⟩<;>rcases af with⟨c6,f_⟩|⟨c6,f_,c'⟩
 ·refine⟨by rw[a,c6],?_⟩;have e:iP ga++od (k1 (iP ga))=iP dc++od (k1 (iP dc)):=by rw[<-b.2,f_.2]
  unfold iP at e;rw[cO,cO] at e;exact(af5 _ _ _ _ (List.append_cancel_left e)).1
 ·exact absurd b (c' _)
 ·exact absurd f_ (c _)
 ·exact⟨by rw[a,c6],by rw[b,f_]⟩
theorem j9 {k:IntKind}(a:bc k):a9 a a=true:=by rw[abv]
theorem jF (s:ee):cB s s=true:=by rw[Zy]
theorem aw.no {α:Type}{b:Bool}{x y:Option α}{P:α->Prop}(ah:b=false)(h:aw y P):aw (cond b x y) P:=by rw[ah];exact h
theorem aw.yes {α:Type}{b:Bool}{x y:Option α}{P:α->Prop}(ah:b=true)(h:aw x P):aw (cond b x y) P:=by rw[ah];exact h
theorem sI {Z dJ de:Type}(h:Z->Option (Z⊕(dJ⊕de)))(n:Nat)(aA:n<=9223372036854775806)(gD:Z->bc .i64)(ok:Z->Prop)(step:∀z,ok z->0<=(gD z).1->(gD z).1<(n:Nat)->aw (h z) (Sum.elim (λfU=>ok fU/\gD fU=bj (gD z) (W 1)) (λ_=>False)))(stop:∀z,ok z->(n:Nat)<=(gD z).1->aw (h z) (Sum.elim (λ_=>False) (λy=>∃u,y=.inl u))):
 ∀cn,ok cn->(gD cn).1=0->aw (a3 h cn) (λy=>∃u,y=.inl u):=by
 intro cn a6 aj;refine cQ (λz=>ok z/\0<=(gD z).1) (λz=>((n:Nat)-(gD z).1:Int).toNat) (λz ai=>?_) cn ⟨a6,ab⟩;obtain⟨ed,eX⟩:=ai;by_cases ah:(gD z).1<(n:Nat)
 ·refine(step z ed eX ah).mono λr aO=>?_;cases r with
  |inl fU=>
   have aW:=dN (gD z) eX ab;exact⟨⟨aO.1,by rw[aO.2,aW];omega⟩,by rw[aO.2,aW];omega⟩
  |inr y=>exact absurd aO id
 ·refine(stop z ed ab).mono λr aO=>?_;cases r with
  |inl fU=>exact absurd aO id
  |inr y=>exact aO
theorem aIw (a:L (D cl)):∀cn:U Ww,cn.1.1=a/\cn.1.2.1=a->cn.1.2.2.1.1=0->aw (a3 BX cn) (λy=>∃u,y=.inl u):=by
 have aZ:=L.b a;refine sI BX a.1.length ab (λz=>z.1.2.2.1) (λz=>z.1.1=a/\z.1.2.1=a) (λz ai a6 bn=>?_) (λz ai hle=>?_)
 ·unfold BX;rw[ai.1,ai.2];refine aw.gO ?_;refine ae (c5 ⟨a6,bn⟩) (λaD ct=>?_);refine ae (c5 ⟨a6,bn⟩) (λaQ cM=>?_);obtain rfl:=eD (ct.symm.trans cM);refine aw.no (by simp[j9,jF]) ?_;exact bz ⟨⟨rfl,rfl⟩,rfl⟩
 ·unfold BX;rw[ai.1,ai.2];exact aw.jl (a7 ⟨_,rfl⟩)
theorem aIv (a:L (D cl)):aw (OZ ((a,a,()),())) (λy=>y.1.1=true):=by
 unfold OZ;refine aw.no (by simp[j9,jF]) ?_;refine ae (aIw a _ ⟨rfl,rfl⟩ rfl) (λy h=>?_);obtain⟨u,rfl⟩:=h;dsimp only[Sum.elim_inl];exact ak rfl
theorem aIq (a:L (D dR)):∀cn:U Wv,cn.1.1=a/\cn.1.2.1=a->cn.1.2.2.1.1=0->aw (a3 BW cn) (λy=>∃u,y=.inl u):=by
 have aZ:=L.b a;refine sI BW a.1.length ab (λz=>z.1.2.2.1) (λz=>z.1.1=a/\z.1.2.1=a) (λz ai a6 bn=>?_) (λz ai hle=>?_)
 ·unfold BW;rw[ai.1,ai.2];refine aw.gO ?_;refine ae (c5 ⟨a6,bn⟩) (λaD ct=>?_);refine ae (c5 ⟨a6,bn⟩) (λaQ cM=>?_);obtain rfl:=eD (ct.symm.trans cM);refine aw.no (by simp[j9,jF]) ?_;exact bz ⟨⟨rfl,rfl⟩,rfl⟩
 ·unfold BW;rw[ai.1,ai.2];exact aw.jl (a7 ⟨_,rfl⟩)
theorem aj' (a:L (D dR)):aw (Hd ((a,a,()),())) (λy=>y.1.1=true):=by
 unfold Hd;refine aw.no (by simp[j9,jF]) ?_;refine ae (aIq a _ ⟨rfl,rfl⟩ rfl) (λy h=>?_);obtain⟨u,rfl⟩:=h;dsimp only[Sum.elim_inl];exact ak rfl
theorem aID (a:L (D fZ)):∀cn:U Wx,cn.1.1=a/\cn.1.2.1=a->cn.1.2.2.1.1=0->aw (a3 BY cn) (λy=>∃u,y=.inl u):=by
 have aZ:=L.b a;refine sI BY a.1.length ab (λz=>z.1.2.2.1) (λz=>z.1.1=a/\z.1.2.1=a) (λz ai a6 bn=>?_) (λz ai hle=>?_)
 ·unfold BY;rw[ai.1,ai.2];refine aw.gO ?_;refine ae (c5 ⟨a6,bn⟩) (λaD ct=>?_);refine ae (c5 ⟨a6,bn⟩) (λaQ cM=>?_);obtain rfl:=eD (ct.symm.trans cM);refine aw.no (by simp[j9,jF]) ?_;refine ae (c5 ⟨a6,bn⟩) (λbO eG=>?_);obtain rfl:=eD (ct.symm.trans eG);refine ae (c5 ⟨a6,bn⟩) (λcP fb=>?_);obtain rfl:=eD (ct.symm.trans fb);refine aw.no (by simp[j9,jF]) ?_;refine ae (c5 ⟨a6,bn⟩) (λdP fL=>?_);obtain rfl:=eD (ct.symm.trans fL);refine ae (c5 ⟨a6,bn⟩) (λdb fX=>?_);obtain rfl:=eD (ct.symm.trans fX);refine ae (aj' _) (λy h=>?_);refine aw.no (by rw[h];rfl) ?_;exact bz ⟨⟨rfl,rfl⟩,rfl⟩
 ·unfold BY;rw[ai.1,ai.2];exact aw.jl (a7 ⟨_,rfl⟩)
theorem aIC (a:L (D fZ)):aw (O0 ((a,a,()),())) (λy=>y.1.1=true):=by
 unfold O0;refine aw.no (by simp[j9,jF]) ?_;refine ae (aID a _ ⟨rfl,rfl⟩ rfl) (λy h=>?_);obtain⟨u,rfl⟩:=h;dsimp only[Sum.elim_inl];exact ak rfl
theorem azn (a:D dE):∀cn:U Uu,cn.1.1=a/\cn.1.2.1=a->cn.1.2.2.1.1=0->aw (a3 Bi cn) (λy=>∃u,y=.inl u):=by
 have aZ:=L.b a.2.2.1;refine sI Bi a.2.2.1.1.length ab (λz=>z.1.2.2.1) (λz=>z.1.1=a/\z.1.2.1=a) (λz ai a6 bn=>?_) (λz ai hle=>?_)
 ·unfold Bi;rw[ai.1,ai.2];refine aw.gO ?_;refine ae (c5 ⟨a6,bn⟩) (λaD ct=>?_);refine ae (c5 ⟨a6,bn⟩) (λaQ cM=>?_);obtain rfl:=eD (ct.symm.trans cM);refine aw.no (by simp[j9,jF]) ?_;refine ae (c5 ⟨a6,bn⟩) (λbO eG=>?_);obtain rfl:=eD (ct.symm.trans eG);refine ae (c5 ⟨a6,bn⟩) (λcP fb=>?_);obtain rfl:=eD (ct.symm.trans fb);refine aw.no (by simp[j9,jF]) ?_;refine ae (c5 ⟨a6,bn⟩) (λdP fL=>?_);obtain rfl:=eD (ct.symm.trans fL);refine ae (c5 ⟨a6,bn⟩) (λdb fX=>?_);obtain rfl:=eD (ct.symm.trans fX);refine ae (aj' _) (λy h=>?_);refine aw.no (by rw[h];rfl) ?_;exact bz ⟨⟨rfl,rfl⟩,rfl⟩
 ·unfold Bi;rw[ai.1,ai.2];exact aw.jl (a7 ⟨_,rfl⟩)
theorem azm (a:D dE):aw (Mw ((a,a,()),())) (λy=>y.1.1=true):=by
 unfold Mw;refine aw.no (by simp[j9,jF]) ?_;refine ae (aIv _) (λy h=>?_);refine aw.no (by rw[h];rfl) ?_;refine aw.no (by simp[j9,jF]) ?_;refine ae (azn a _ ⟨rfl,rfl⟩ rfl) (λy h=>?_);obtain⟨u,rfl⟩:=h;dsimp only[Sum.elim_inl];exact ak rfl
theorem azg (a:L (D bp)):∀cn:U Ut,cn.1.1=a/\cn.1.2.1=a->cn.1.2.2.1.1=0->aw (a3 Bh cn) (λy=>∃u,y=.inl u):=by
 have aZ:=L.b a;refine sI Bh a.1.length ab (λz=>z.1.2.2.1) (λz=>z.1.1=a/\z.1.2.1=a) (λz ai a6 bn=>?_) (λz ai hle=>?_)
 ·unfold Bh;rw[ai.1,ai.2];refine aw.gO ?_;refine ae (c5 ⟨a6,bn⟩) (λaD ct=>?_);refine ae (c5 ⟨a6,bn⟩) (λaQ cM=>?_);obtain rfl:=eD (ct.symm.trans cM);refine aw.no (by simp[j9,jF]) ?_;exact bz ⟨⟨rfl,rfl⟩,rfl⟩
 ·unfold Bh;rw[ai.1,ai.2];exact aw.jl (a7 ⟨_,rfl⟩)
theorem agO (a:L (D bp)):aw (Fq ((a,a,()),())) (λy=>y.1.1=true):=by
 unfold Fq;refine aw.no (by simp[j9,jF]) ?_;refine ae (azg a _ ⟨rfl,rfl⟩ rfl) (λy h=>?_);obtain⟨u,rfl⟩:=h;dsimp only[Sum.elim_inl];exact ak rfl
theorem aGX (a:D ek):aw (Ox ((a,a,()),())) (λy=>y.1.1=true):=by
 unfold Ox;refine aw.yes (jF _) ?_;exact ae (aIC _) (λy h=>ak h)
theorem aEs (a:D ey):∀cn:U VN,cn.1.1=a/\cn.1.2.1=a->cn.1.2.2.1.1=0->aw (a3 Bv cn) (λy=>∃u,y=.inl u):=by
 have aZ:=L.b a.2.2.2.2.2.2.2.1;refine sI Bv a.2.2.2.2.2.2.2.1.1.length ab (λz=>z.1.2.2.1) (λz=>z.1.1=a/\z.1.2.1=a) (λz ai a6 bn=>?_) (λz ai hle=>?_)
 ·unfold Bv;rw[ai.1,ai.2];refine aw.gO ?_;refine ae (c5 ⟨a6,bn⟩) (λaD ct=>?_);refine ae (c5 ⟨a6,bn⟩) (λaQ cM=>?_);obtain rfl:=eD (ct.symm.trans cM);refine aw.no (by simp[j9,jF]) ?_;exact bz ⟨⟨rfl,rfl⟩,rfl⟩
 ·unfold Bv;rw[ai.1,ai.2];exact aw.jl (a7 ⟨_,rfl⟩)
theorem aEv (a:D ey):∀cn:U VO,cn.1.1=a/\cn.1.2.1=a->cn.1.2.2.1.1=0->aw (a3 Bw cn) (λy=>∃u,y=.inl u):=by
 have aZ:=L.b a.2.2.2.2.2.2.2.2.1;refine sI Bw a.2.2.2.2.2.2.2.2.1.1.length ab (λz=>z.1.2.2.1) (λz=>z.1.1=a/\z.1.2.1=a) (λz ai a6 bn=>?_) (λz ai hle=>?_)
 ·unfold Bw;rw[ai.1,ai.2];refine aw.gO ?_;refine ae (c5 ⟨a6,bn⟩) (λaD ct=>?_);refine ae (c5 ⟨a6,bn⟩) (λaQ cM=>?_);obtain rfl:=eD (ct.symm.trans cM);refine aw.no (by simp[j9,jF]) ?_;refine ae (c5 ⟨a6,bn⟩) (λbO eG=>?_);obtain rfl:=eD (ct.symm.trans eG);refine ae (c5 ⟨a6,bn⟩) (λcP fb=>?_);obtain rfl:=eD (ct.symm.trans fb);refine aw.no (by simp[j9,jF]) ?_;refine ae (c5 ⟨a6,bn⟩) (λdP fL=>?_);obtain rfl:=eD (ct.symm.trans fL);refine ae (c5 ⟨a6,bn⟩) (λdb fX=>?_);obtain rfl:=eD (ct.symm.trans fX);refine ae (agO _) (λy h=>?_);refine aw.no (by rw[h];rfl) ?_;exact bz ⟨⟨rfl,rfl⟩,rfl⟩
 ·unfold Bw;rw[ai.1,ai.2];exact aw.jl (a7 ⟨_,rfl⟩)
theorem aEr (a:D ey):aw (NX ((a,a,()),())) (λy=>y.1.1=true):=by
 unfold NX;refine aw.no (by simp[j9,jF]) ?_;refine aw.no (by simp[j9,jF]) ?_;refine aw.no (by simp[j9,jF]) ?_;refine aw.no (by simp[j9,jF]) ?_;refine aw.no (by simp[j9,jF]) ?_;refine aw.no (by simp[j9,jF]) ?_;refine ae (agO _) (λy h=>?_);refine aw.no (by rw[h];rfl) ?_;refine aw.no (by simp[j9,jF]) ?_;refine aw.no (by simp[j9,jF]) ?_;refine ae (aEs a _ ⟨rfl,rfl⟩ rfl) (λy h=>?_);obtain⟨u,rfl⟩:=h;dsimp only[Sum.elim_inl];refine ae (aEv a _ ⟨rfl,rfl⟩ rfl) (λy h=>?_);obtain⟨u,rfl⟩:=h;dsimp only[Sum.elim_inl];exact ak rfl
theorem aEl (a:L (D ey)):∀cn:U VM,cn.1.1=a/\cn.1.2.1=a->cn.1.2.2.1.1=0->aw (a3 Bu cn) (λy=>∃u,y=.inl u):=by
 have aZ:=L.b a;refine sI Bu a.1.length ab (λz=>z.1.2.2.1) (λz=>z.1.1=a/\z.1.2.1=a) (λz ai a6 bn=>?_) (λz ai hle=>?_)
 ·unfold Bu;rw[ai.1,ai.2];refine aw.gO ?_;refine ae (c5 ⟨a6,bn⟩) (λaD ct=>?_);refine ae (c5 ⟨a6,bn⟩) (λaQ cM=>?_);obtain rfl:=eD (ct.symm.trans cM);refine ae (aEr _) (λy h=>?_);refine aw.no (by rw[h];rfl) ?_;exact bz ⟨⟨rfl,rfl⟩,rfl⟩
 ·unfold Bu;rw[ai.1,ai.2];exact aw.jl (a7 ⟨_,rfl⟩)
theorem aEk (a:L (D ey)):aw (NW ((a,a,()),())) (λy=>y.1.1=true):=by
 unfold NW;refine aw.no (by simp[j9,jF]) ?_;refine ae (aEl a _ ⟨rfl,rfl⟩ rfl) (λy h=>?_);obtain⟨u,rfl⟩:=h;dsimp only[Sum.elim_inl];exact ak rfl
theorem aG2 (a:D hU):∀cn:U Wg,cn.1.1=a/\cn.1.2.1=a->cn.1.2.2.1.1=0->aw (a3 BP cn) (λy=>∃u,y=.inl u):=by
 have aZ:=L.b a.2.1;refine sI BP a.2.1.1.length ab (λz=>z.1.2.2.1) (λz=>z.1.1=a/\z.1.2.1=a) (λz ai a6 bn=>?_) (λz ai hle=>?_)
 ·unfold BP;rw[ai.1,ai.2];refine aw.gO ?_;refine ae (c5 ⟨a6,bn⟩) (λaD ct=>?_);refine ae (c5 ⟨a6,bn⟩) (λaQ cM=>?_);obtain rfl:=eD (ct.symm.trans cM);refine aw.no (by simp[j9,jF]) ?_;exact bz ⟨⟨rfl,rfl⟩,rfl⟩
 ·unfold BP;rw[ai.1,ai.2];exact aw.jl (a7 ⟨_,rfl⟩)
theorem aG1 (a:D hU):aw (Oy ((a,a,()),())) (λy=>y.1.1=true):=by
 unfold Oy;refine aw.no (by simp[j9,jF]) ?_;refine aw.no (by simp[j9,jF]) ?_;refine aw.no (by simp[j9,jF]) ?_;refine ae (aG2 a _ ⟨rfl,rfl⟩ rfl) (λy h=>?_);obtain⟨u,rfl⟩:=h;dsimp only[Sum.elim_inl];exact ae (aEk _) (λy h=>ak h)
theorem aEC (a:D gX):∀cn:U VQ,cn.1.1=a/\cn.1.2.1=a->cn.1.2.2.1.1=0->aw (a3 Bx cn) (λy=>∃u,y=.inl u):=by
 have aZ:=L.b a.1;refine sI Bx a.1.1.length ab (λz=>z.1.2.2.1) (λz=>z.1.1=a/\z.1.2.1=a) (λz ai a6 bn=>?_) (λz ai hle=>?_)
 ·unfold Bx;rw[ai.1,ai.2];refine aw.gO ?_;refine ae (c5 ⟨a6,bn⟩) (λaD ct=>?_);refine ae (c5 ⟨a6,bn⟩) (λaQ cM=>?_);obtain rfl:=eD (ct.symm.trans cM);refine ae (azm _) (λy h=>?_);refine aw.no (by rw[h];rfl) ?_;exact bz ⟨⟨rfl,rfl⟩,rfl⟩
 ·unfold Bx;rw[ai.1,ai.2];exact aw.jl (a7 ⟨_,rfl⟩)
theorem aEF (a:D gX):∀cn:U VR,cn.1.1=a/\cn.1.2.1=a->cn.1.2.2.1.1=0->aw (a3 By cn) (λy=>∃u,y=.inl u):=by
 have aZ:=L.b a.2.1;refine sI By a.2.1.1.length ab (λz=>z.1.2.2.1) (λz=>z.1.1=a/\z.1.2.1=a) (λz ai a6 bn=>?_) (λz ai hle=>?_)
 ·unfold By;rw[ai.1,ai.2];refine aw.gO ?_;refine ae (c5 ⟨a6,bn⟩) (λaD ct=>?_);refine ae (c5 ⟨a6,bn⟩) (λaQ cM=>?_);obtain rfl:=eD (ct.symm.trans cM);refine ae (aGX _) (λy h=>?_);refine aw.no (by rw[h];rfl) ?_;exact bz ⟨⟨rfl,rfl⟩,rfl⟩
 ·unfold By;rw[ai.1,ai.2];exact aw.jl (a7 ⟨_,rfl⟩)
theorem aEI (a:D gX):∀cn:U VS,cn.1.1=a/\cn.1.2.1=a->cn.1.2.2.1.1=0->aw (a3 Bz cn) (λy=>∃u,y=.inl u):=by
 have aZ:=L.b a.2.2.1;refine sI Bz a.2.2.1.1.length ab (λz=>z.1.2.2.1) (λz=>z.1.1=a/\z.1.2.1=a) (λz ai a6 bn=>?_) (λz ai hle=>?_)
 ·unfold Bz;rw[ai.1,ai.2];refine aw.gO ?_;refine ae (c5 ⟨a6,bn⟩) (λaD ct=>?_);refine ae (c5 ⟨a6,bn⟩) (λaQ cM=>?_);obtain rfl:=eD (ct.symm.trans cM);refine ae (aG1 _) (λy h=>?_);refine aw.no (by rw[h];rfl) ?_;exact bz ⟨⟨rfl,rfl⟩,rfl⟩
 ·unfold Bz;rw[ai.1,ai.2];exact aw.jl (a7 ⟨_,rfl⟩)
theorem aEB (a:D gX):aw (NY ((a,a,()),())) (λy=>y.1.1=true):=by
 unfold NY;refine aw.no (by simp[j9,jF]) ?_;refine aw.no (by simp[j9,jF]) ?_;refine aw.no (by simp[j9,jF]) ?_;refine ae (aEC a _ ⟨rfl,rfl⟩ rfl) (λy h=>?_);obtain⟨u,rfl⟩:=h;dsimp only[Sum.elim_inl];refine ae (aEF a _ ⟨rfl,rfl⟩ rfl) (λy h=>?_);obtain⟨u,rfl⟩:=h;dsimp only[Sum.elim_inl];refine ae (aEI a _ ⟨rfl,rfl⟩ rfl) (λy h=>?_);obtain⟨u,rfl⟩:=h;dsimp only[Sum.elim_inl];exact ak rfl
section
variable{α:Type}{c:α->List UInt8}
def dC (c:α->List UInt8)(l:List α):Nat:=(l.flatMap c).length
theorem ZI:dC c []=0:=rfl
theorem vn (a:α)(l:List α):dC c (a::l)=(c a).length+dC c l:=by unfold dC;rw[List.flatMap_cons,bl]
theorem Jo (l r:List α):dC c (l++r)=dC c l+dC c r:=by unfold dC;rw[List.flatMap_append,bl]
theorem wP:∀(l:List α)(i:Nat)(a:α),dC c (l.set i a)<=dC c l+(c a).length
 |[],i,a=>by simp[dC]
 |x::l,0,a=>by rw[Ys,vn,vn];omega
 |x::l,i+1,a=>by
  have:=wP l i a;rw[Q0,vn,vn];omega
theorem yh:∀{l:List α}{i:Nat}{e:α},l[i]?=some e->(c e).length<=dC c l
 |[],i,e,h=>by simp at h
 |x::l,0,e,h=>by cases h;rw[vn];omega
 |x::l,i+1,e,h=>by
  have:=yh (l:=l) (i:=i) (e:=e) (by simpa using h);rw[vn];omega
theorem aoB (l:List α)(n:Nat):dC c (l.take n)<=dC c l:=by
 have:=Jo (c:=c) (l.take n) (l.drop n);rw[List.take_append_drop] at this;omega
theorem aoA (l:List α)(n:Nat):dC c (l.drop n)<=dC c l:=by
 have:=Jo (c:=c) (l.take n) (l.drop n);rw[List.take_append_drop] at this;omega
theorem ZJ (l:L α)(i n:Nat):dC c (nf l i n).1<=dC c l.1:=jd (aoB _ _) (aoA _ _)
theorem vl (l:L α):(bS c l).length<=10+dC c l.1:=by unfold bS;rw[bl];have:=xn (l.1.length:Nat);unfold dC;omega
theorem wN (l:L α):dC c l.1<=(bS c l).length:=by unfold bS;rw[bl];unfold dC;omega
theorem y7 (h:Pos c)(l:List α):l.length<=dC c l:=h.flat l
end
theorem Aj (s:ee):(gy s).length<=10+s.1.size:=by unfold gy;rw[bl,bd.len];have:=xn (s.1.size:Nat);omega
theorem RF (s:ee):s.1.size<=(gy s).length:=by unfold gy;rw[bl,bd.len];omega
theorem wM (n:bc .i64):(ix n).length<=10:=xn _
theorem YT (e:D [.int .i64]):(iU e).length<=10:=by unfold iU;simp only[bu,bJ,dr];exact xn _
def Ci (e:D ey):Nat:=e.2.2.2.2.1.1.size+e.2.2.2.2.2.1.1.size+dC iU e.2.2.2.2.2.2.1.1+dC g2 e.2.2.2.2.2.2.2.1.1+dC g7 e.2.2.2.2.2.2.2.2.1.1
theorem art (e:D ey):(e3 e).length<=90+Ci e:=by
 unfold e3 Ci;simp only[bu,bJ,bl,bN];have aa:=wM e.1;have af:=wM e.2.1;have ax:=wM e.2.2.1;have a8:=wM e.2.2.2.1;have cy:=Aj e.2.2.2.2.1;have dm:=Aj e.2.2.2.2.2.1;have dL:=vl (c:=iU) e.2.2.2.2.2.2.1;have dY:=vl (c:=g2) e.2.2.2.2.2.2.2.1;have fa:=vl (c:=g7) e.2.2.2.2.2.2.2.2.1;omega
theorem arq (e:D ey):Ci e<=(e3 e).length:=by
 unfold e3 Ci;simp only[bu,bJ,bl,bN];have cy:=RF e.2.2.2.2.1;have dm:=RF e.2.2.2.2.2.1;have dL:=wN (c:=iU) e.2.2.2.2.2.2.1;have dY:=wN (c:=g2) e.2.2.2.2.2.2.2.1;have fa:=wN (c:=g7) e.2.2.2.2.2.2.2.2.1;omega
def Ck (e:D hU):Nat:=e.1.1.size+dC fE e.2.1.1+dC e3 e.2.2.2.1.1
theorem ax0 (e:D hU):(gI e).length<=40+Ck e:=by
 unfold gI Ck;simp only[bu,bJ,bl,bN];have aa:=Aj e.1;have af:=vl (c:=fE) e.2.1;have ax:=wM e.2.2.1;have a8:=vl (c:=e3) e.2.2.2.1;omega
theorem axZ (e:D hU):Ck e<=(gI e).length:=by
 unfold gI Ck;simp only[bu,bJ,bl,bN];have aa:=RF e.1;have af:=wN (c:=fE) e.2.1;have a8:=wN (c:=e3) e.2.2.2.1;omega
def Cj (m:D gX):Nat:=dC iK m.1.1+dC js m.2.1.1+dC gI m.2.2.1.1
theorem at3 (m:D gX):(jf m).length<=30+Cj m:=by
 unfold jf Cj;simp only[bu,bJ,bl,bN];have aa:=vl (c:=iK) m.1;have af:=vl (c:=js) m.2.1;have a8:=vl (c:=gI) m.2.2.1;omega
theorem at2 (m:D gX):Cj m<=(jf m).length:=by
 unfold jf Cj;simp only[bu,bJ,bl,bN];have aa:=wN (c:=iK) m.1;have af:=wN (c:=js) m.2.1;have a8:=wN (c:=gI) m.2.2.1;omega
theorem B5 {a c v:bc .i64}(cf:0<=a.1)(an:0<c.1)(h:v.1=IntKind.i64.wrap (Int.tmod a.1 c.1)):0<=v.1/\v.1<c.1:=by
 have ah:=bc.ry c;have aa:=Int.emod_nonneg a.1 (show c.1≠0 by omega);have af:=Int.emod_lt_of_pos a.1 an;rw[Int.tmod_eq_emod_of_nonneg cf] at h;have e:v.1=a.1%c.1:=by
  generalize a.1%c.1=q at h aa af;rw[h,wrap64];omega
 omega
theorem xF {n:Nat}(h:n<=9223372036854775807):(W (n:Nat)).1=n:=by
 rw[abC,wrap64];omega
theorem Kp {α:Type}{p:α->Prop}{l:List α}(aZ:l.length<=100)(h:∀e∈l,p e){i:Nat}{e:α}(he:(cD l).1[i]?=some e):p e:=by
 rw[fI ab] at he;exact h e (List.mem_of_getElem? he)
theorem Qo {a:ByteArray}(h:a.size<=4):(S a).1.size<=4:=by rw[IG ab];exact h
theorem axT:∀x:U age,(0<=x.1.2.2.1.1/\(e3 x.1.1).length<=200000000)->aw (L5 x) (λy=>(e3 y.1.1).length<=3*(e3 x.1.1).length+400):=by
 rintro x ⟨hw,aW⟩;unfold L5;have ai:=arq x.1.1;unfold Ci at ai;have k4:=y7 agq x.1.1.2.2.2.2.2.2.1.1;have qy:=y7 agr x.1.1.2.2.2.2.2.2.2.1.1;have KV:=y7 agp x.1.1.2.2.2.2.2.2.2.2.1.1;refine ae (du (by simp only[b5,xl];omega)) (λdk aa=>?_);refine ae (du (by simp only[b5,xl];omega)) (λdg af=>?_);refine ae (du (by simp only[b5,xl];omega)) (λbT ax=>?_);have fQ:dk.1=x.1.1.2.2.2.2.2.2.1.1:=aa.1;have eQ:dg.1=x.1.1.2.2.2.2.2.2.2.1.1:=af.1;have gq:bT.1=x.1.1.2.2.2.2.2.2.2.2.1.1:=ax.1;clear aa af ax;have fin:∀(a b c d:bc .i64)(s t:ee)(l:L (D [.int .i64]))(j:L (D c_))(h:L (D fV)),s.1.size+t.1.size+dC iU l.1+dC g2 j.1+dC g7 h.1<=3*(e3 x.1.1).length+310->
  aw (some (((a,b,c,d,s,t,l,j,h,()),()),()):Option (U agf)) (λy=>(e3 y.1.1).length<=3*(e3 x.1.1).length+400):=λa b c d s t l j h hle=>by
  refine ak ?_;have:=art (a,b,c,d,s,t,l,j,h,());unfold Ci at this;dsimp only at this⊢;omega
 have i0:(W 0).1=0:=rfl;have i1:(W 1).1=1:=rfl;have ga:=L.b dk;have dc:=L.b dg;have fw:=L.b bT;refine ag (λ_=>?_) (λ_=>?_)
 ·exact ae (me bk) (λv4 _=>fin _ _ _ _ _ _ _ _ _ (by rw[fQ,eQ,gq];omega))
 refine ag (λ_=>?_) (λ_=>?_)
 ·exact ae (me bk) (λv4 _=>fin _ _ _ _ _ _ _ _ _ (by rw[fQ,eQ,gq];omega))
 refine ag (λ_=>?_) (λ_=>?_)
 ·exact ae (me bk) (λv4 _=>fin _ _ _ _ _ _ _ _ _ (by rw[fQ,eQ,gq];omega))
 refine ag (λ_=>?_) (λ_=>?_)
 ·exact ae (me bk) (λv4 _=>fin _ _ _ _ _ _ _ _ _ (by rw[fQ,eQ,gq];omega))
 refine ag (λ_=>?_) (λ_=>?_)
 ·refine ae (me bk) (λv aL=>?_);have aO:=B5 hw bk aL;have i7:(W 7).1=7:=rfl;refine ae (c5 (by rw[fI (by simp)];simp;omega)) (λe he=>?_);have aP:e.1.1.size<=4:=Kp (p:=λe:D [.str]=>e.1.1.size<=4) (by simp) (by
   intro e he;simp only[List.mem_cons,List.not_mem_nil,or_false] at he;rcases he with rfl|rfl|rfl|rfl|rfl|rfl|rfl<;>exact Qo bk) he
  exact fin _ _ _ _ _ _ _ _ _ (by rw[fQ,eQ,gq];omega)
 refine ag (λ_=>?_) (λ_=>?_)
 ·refine ae (me bk) (λv aL=>?_);have aO:=B5 hw bk aL;have i6:(W 6).1=6:=rfl;refine ae (c5 (by rw[fI (by simp)];simp;omega)) (λe he=>?_);have aP:e.1.1.size<=4:=Kp (p:=λe:D [.str]=>e.1.1.size<=4) (by simp) (by
   intro e he;simp only[List.mem_cons,List.not_mem_nil,or_false] at he;rcases he with rfl|rfl|rfl|rfl|rfl|rfl<;>exact Qo bk) he
  exact fin _ _ _ _ _ _ _ _ _ (by rw[fQ,eQ,gq];omega)
 refine ag (λ_=>?_) (λ_=>?_)
 ·refine ae (me bk) (λv aL=>?_);refine ae (du (by simp only[b5];rw[fQ];omega)) (λmz jt=>?_);refine fin _ _ _ _ _ _ _ _ _ ?_;rw[jt.1,fI (by simp),Jo,vn,ZI,fQ,eQ,gq];have:=YT (eF v (W 1),());omega
 refine ag (λ_=>?_) (λ_=>?_)
 ·refine ag (λah=>?_) (λ_=>fin _ _ _ _ _ _ _ _ _ (by rw[fQ,eQ,gq];omega));simp only[cG] at ah;rw[xF ab,i0] at ah;refine ae (me bk) (λv aL=>?_);refine aw.yes (by rw[i0];simp;omega) ?_;refine ae (j_ (by rw[i0];simp;omega)) (λe he=>?_);refine fin _ _ _ _ _ _ _ _ _ ?_;have cr:=wP (c:=iU) dk.1 ((W 0).1).toNat (eF v (W 1),());have cI:=YT (eF v (W 1),());have tL:dC iU dk.1=dC iU x.1.1.2.2.2.2.2.2.1.1:=by rw[fQ]
  have e:(dO dk ((W 0).1).toNat (eF v (W 1),())).1=dk.1.set ((W 0).1).toNat (eF v (W 1),()):=rfl;rw[e,eQ,gq];omega
 refine ag (λ_=>?_) (λ_=>?_)
 ·refine ag (λah=>?_) (λ_=>fin _ _ _ _ _ _ _ _ _ (by rw[fQ,eQ,gq];omega));simp only[cG] at ah;have wl:=xF (n:=dg.1.length) ab;rw[wl,i0] at ah;refine ae (me (by rw[wl];omega)) (λv aL=>?_);have aO:=B5 hw (by rw[wl];omega) aL;rw[wl] at aO;refine ae (me bk) (λjy aq0=>?_);refine aw.yes (by simp;omega) ?_;refine ae (j_ ab) (λe he=>?_);refine fin _ _ _ _ _ _ _ _ _ ?_;have cr:=wP (c:=g2) dg.1 (v.1).toNat (e.1,eF jy (W 1),e.2.2.1,());have cI:=yh (c:=g2) he;have dw:(g2 (e.1,eF jy (W 1),e.2.2.1,())).length<=(g2 e).length+10:=by
   unfold g2;simp only[bu,bJ,bl,bN];have:=wM (eF jy (W 1));omega
  have e:(dO dg (v.1).toNat (e.1,eF jy (W 1),e.2.2.1,())).1=dg.1.set (v.1).toNat (e.1,eF jy (W 1),e.2.2.1,()):=rfl;have tL:dC g2 dg.1=dC g2 x.1.1.2.2.2.2.2.2.2.1.1:=by rw[eQ]
  rw[e,fQ,gq];omega
 refine ag (λ_=>?_) (λ_=>?_)
 ·refine ag (λah=>?_) (λ_=>fin _ _ _ _ _ _ _ _ _ (by rw[fQ,eQ,gq];omega));simp only[cG] at ah;rw[xF ab,i0] at ah;refine aw.yes (by rw[i1];simp;omega) ?_;refine fin _ _ _ _ _ _ _ _ _ ?_;have cr:=ZJ (c:=g2) dg (((W 1)).1).toNat ((dg.1.length:Int)-((W 1)).1).toNat;rw[fQ,gq];have cI:dC g2 dg.1=dC g2 x.1.1.2.2.2.2.2.2.2.1.1:=by rw[eQ]
  omega
 refine ag (λah=>?_) (λ_=>fin _ _ _ _ _ _ _ _ _ (by rw[fQ,eQ,gq];omega));simp only[cG] at ah;have wl:=xF (n:=bT.1.length) ab;rw[wl,i0] at ah;refine ae (me (by rw[wl];omega)) (λv aL=>?_);have aO:=B5 hw (by rw[wl];omega) aL;rw[wl] at aO;refine ae (me bk) (λxD aq1=>?_);have aa7:=B5 hw bk aq1;have i3:(W 3).1=3:=rfl;refine ae (c5 (by rw[fI (by simp)];simp;omega)) (λqP Av=>?_);have aP:qP.1.1.size<=4:=Kp (p:=λe:D [.str]=>e.1.1.size<=4) (by simp) (by
  intro e he;simp only[List.mem_cons,List.not_mem_nil,or_false] at he;rcases he with rfl|rfl|rfl<;>exact Qo bk) Av
 refine aw.yes (by simp;omega) ?_;refine ae (j_ ab) (λe he=>?_);refine fin _ _ _ _ _ _ _ _ _ ?_;have cr:=wP (c:=g7) bT.1 (v.1).toNat (qP.1,e.2.1,e.2.2.1,());have cI:=yh (c:=g7) he;have dw:(g7 (qP.1,e.2.1,e.2.2.1,())).length<=(g7 e).length+20:=by
  unfold g7;simp only[bu,bJ,bl,bN];have:=Aj qP.1;omega
 have e:(dO bT (v.1).toNat (qP.1,e.2.1,e.2.2.1,())).1=bT.1.set (v.1).toNat (qP.1,e.2.1,e.2.2.1,()):=rfl;have tL:dC g7 bT.1=dC g7 x.1.1.2.2.2.2.2.2.2.2.1.1:=by rw[gq]
 rw[e,fQ,eQ];omega
theorem alY {n:Nat}(h:0<n)(af:n<=140737488355328):(eF (W (n:Nat)) (W 1)).1=((n-1:Nat):Int):=by
 rw[abB,xF ab,show(W 1).1=1 from rfl,wrap64];omega
theorem anj:∀x:U T',(0<=x.1.2.2.2.1.1/\x.2.2.1.1=x.1.2.2.1.2.2.2.1.1/\dC e3 x.2.2.1.1<=150000000/\x.1.2.2.2.2.1.1.length<=150000000)->aw (T9 x) (λy=>y.2.2.2.1.1.1.size<=x.2.2.2.1.1.1.size+4/\dC fE y.1.1.1<=dC fE x.1.2.2.2.2.1.1+30/\dC e3 y.1.2.1.1<=4*dC e3 x.2.2.1.1+400):=by
 rintro x ⟨hw,J1,lU,w7⟩;unfold T9;have ay:=y7 Ui x.2.2.1.1;have i0:(W 0).1=0:=rfl;have i1:(W 1).1=1:=rfl;have fin:∀(p:L (D ig))(q:L (D ey))(n:ee)(k:bc .i64),n.1.size<=x.2.2.2.1.1.1.size+4->dC fE p.1<=dC fE x.1.2.2.2.2.1.1+30->dC e3 q.1<=4*dC e3 x.2.2.1.1+400->
  aw (some ((p,q,()),((),(),(n,(),k,(),()),(),())):Option (bq T_)) (λy=>y.2.2.2.1.1.1.size<=x.2.2.2.1.1.1.size+4/\dC fE y.1.1.1<=dC fE x.1.2.2.2.2.1.1+30/\dC e3 y.1.2.1.1<=4*dC e3 x.2.2.1.1+400):=λp q n k aa af ax=>ak ⟨aa,af,ax⟩
 refine ae (me bk) (λcV _=>?_);refine ag (λ_=>?_) (λ_=>?_)
 ·exact ae (me bk) (λv6 _=>fin _ _ _ _ (Nat.le_add_right _ _) ab ab)
 refine ag (λ_=>?_) (λ_=>?_)
 ·refine ae (me bk) (λv aL=>?_);have aO:=B5 hw bk aL;have i5:(W 5).1=5:=rfl;refine ae (c5 (by rw[fI (by simp)];simp<;>omega)) (λe he=>?_);have aP:e.1.1.size<=4:=Kp (p:=λe:D [.str]=>e.1.1.size<=4) (by simp) (by
   intro e he;simp only[List.mem_cons,List.not_mem_nil,or_false] at he;rcases he with rfl|rfl|rfl|rfl|rfl<;>exact Qo bk) he
  exact fin _ _ _ _ ab ab ab
 refine ag (λ_=>?_) (λ_=>?_)
 ·refine ae (me bk) (λv aL=>?_);refine ae (du (by simp only[b5];omega)) (λnu gJ=>?_);refine fin _ _ _ _ (Nat.le_add_right _ _) ?_ ab;rw[gJ.1,fI (by simp),Jo,vn,ZI];have aa:(fE (v,S ⟨#[]⟩,())).length<=20:=by
   unfold fE;simp only[bu,bJ,bl,bN];have:=wM v;have af:=Aj (S ⟨#[]⟩);have ax:(S ⟨#[]⟩).1.size=0:=by rw[IG bk];rfl
   omega
  omega
 refine ag (λ_=>?_) (λ_=>?_)
 ·refine ag (λah=>?_) (λ_=>fin _ _ _ _ (Nat.le_add_right _ _) ab ab);simp only[cG] at ah;rw[xF ab,i0] at ah;have aP:=alY (n:=x.2.2.1.1.length) ab ab;refine aw.yes (by rw[aP];simp<;>omega) ?_;refine fin _ _ _ _ (Nat.le_add_right _ _) ab ?_;have cr:=ZJ (c:=e3) x.2.2.1 ((0:Int)).toNat (((eF (W (x.2.2.1.1.length:Nat)) (W 1))).1-(0:Int)).toNat;omega
 refine ag (λ_=>?_) (λ_=>?_)
 ·refine ag (λah=>?_) (λ_=>fin _ _ _ _ (Nat.le_add_right _ _) ab ab);simp only[cG] at ah;have wl:=xF (n:=x.2.2.1.1.length) ab;rw[wl,i0] at ah;have aP:=alY (n:=x.2.2.1.1.length) ab ab;refine ae (AP bk) (λeB _=>?_);refine ae (L3 _ (by dsimp only;rw[wl];omega)) (λcA jt=>?_);dsimp only at jt;rw[wl] at jt;refine aw.yes (by rw[aP];simp<;>omega) ?_;refine ae (j_ (by rw[aP];simp<;>omega)) (λgM lC=>?_);refine aw.yes (by simp<;>omega) ?_;refine ae (j_ ab) (λiw nN=>?_);refine aw.yes (by simp<;>omega) ?_;refine ae (j_ ab) (λg8 jY=>?_);refine aw.yes (by rw[aP];simp<;>omega) ?_;refine ae (j_ (by rw[aP,b5.2.2.2.1];simp<;>omega)) (λkA lT=>?_);refine fin _ _ _ _ (Nat.le_add_right _ _) ab ?_;have cr:=yh (c:=e3) lC;have cI:=yh (c:=e3) nN;have dw:=wP (c:=e3) x.2.2.1.1 ((cA.1.1).1).toNat gM;have fe:=wP (c:=e3) (x.2.2.1.1.set ((cA.1.1).1).toNat gM) (((eF (W (x.2.2.1.1.length:Nat)) (W 1))).1).toNat iw;have e:(dO (dO x.2.2.1 ((cA.1.1).1).toNat gM) (((eF (W (x.2.2.1.1.length:Nat)) (W 1))).1).toNat iw).1=(x.2.2.1.1.set ((cA.1.1).1).toNat gM).set (((eF (W (x.2.2.1.1.length:Nat)) (W 1))).1).toNat iw:=rfl;rw[e];omega
 refine ag (λah=>?_) (λ_=>fin _ _ _ _ (Nat.le_add_right _ _) ab ab);simp only[cG] at ah;have wl:=xF (n:=x.2.2.1.1.length) ab;rw[wl,i0] at ah;refine ae (AP bk) (λxC _=>?_);refine ae (L3 _ (by dsimp only;rw[wl];omega)) (λfo yp=>?_);dsimp only at yp;rw[wl] at yp;refine ae (c5 (by rw[<-J1];omega)) (λoc rC=>?_);rw[<-J1] at rC;have cr:=yh (c:=e3) rC;refine ae (me bk) (λxD _=>?_);refine ae (axT _ ⟨hw,by dsimp only;omega⟩) (λeV wU=>?_);dsimp only at wU;refine aw.yes (by simp<;>omega) ?_;refine ae (j_ ab) (λlv qV=>?_);refine fin _ _ _ _ (Nat.le_add_right _ _) ab ?_;have dw:=wP (c:=e3) x.2.2.1.1 ((fo.1.1).1).toNat eV.1.1;have e:(dO x.2.2.1 ((fo.1.1).1).toNat eV.1.1).1=x.2.2.1.1.set ((fo.1.1).1).toNat eV.1.1:=rfl;rw[e];omega
theorem axW:∀x:U agh,(gI x.1.1).length<=150000000->aw (L6 x) (λy=>(gI y.1.1).length<=4*(gI x.1.1).length+500):=by
 intro x aW;unfold L6;have bg:=axZ x.1.1;unfold Ck at bg;have k4:=y7 ago x.1.1.2.1.1;have qy:=y7 Ui x.1.1.2.2.2.1.1;refine ae (AP bk) (λv1 _=>?_);refine ae (L3 _ (by show 1<=(W 60).1;decide)) (λaF af=>?_);refine ae (du (by simp only[b5,xl];omega)) (λbT ax=>?_);refine ae (du (by simp only[b5,xl];omega)) (λjk a8=>?_);have gq:bT.1=x.1.1.2.1.1:=ax.1;have k7:jk.1=x.1.1.2.2.2.1.1:=a8.1;refine ae (anj _ ⟨af.1,k7,by show dC e3 jk.1<=_;rw[k7];omega,by show bT.1.length<=_;rw[gq];omega⟩) (λy h=>?_);obtain⟨dM,di,gL⟩:=h;have dM:y.2.2.2.1.1.1.size<=x.1.1.1.1.size+4:=dM;have di:dC fE y.1.1.1<=dC fE bT.1+30:=di;have gL:dC e3 y.1.2.1.1<=4*dC e3 jk.1+400:=gL;rw[gq] at di;rw[k7] at gL;refine ak ?_;have hu:=ax0 (y.2.2.2.1.1,y.1.1,y.2.2.2.1.2.2.1,y.1.2.1,());unfold Ck at hu;dsimp only at hu⊢;omega
theorem axK:∀x:U af',(jf x.1.1).length<=100000000->aw (L1 x) (λy=>(jf y.1.1).length<=900000000):=by
 intro x aW;unfold L1;have bg:=at2 x.1.1;unfold Cj at bg;have k4:=y7 ags x.1.1.2.2.1.1;refine ag (λ_=>ak (by dsimp only;omega)) (λah=>?_);simp only[cG,aM] at ah;have i0:(W 0).1=0:=rfl;refine ae (L3 _ (by show 1<=(ba x.1.1.2.2.1).1;rw[Tc];omega)) (λaz aa=>?_);have aa:0<=az.1.1.1/\az.1.1.1<(ba x.1.1.2.2.1).1:=aa;rw[Tc] at aa;refine ae (du (by simp only[b5,xl];omega)) (λdg af=>?_);have eQ:dg.1=x.1.1.2.2.1.1:=af.1;refine ae (c5 ab) (λbO eG=>?_);have cr:=yh (c:=gI) eG;refine ae (axW _ (by dsimp only;omega)) (λaY a8=>?_);dsimp only at a8;refine aw.yes (by rw[eQ];simp<;>omega) ?_;refine ae (j_ (by rw[eQ];omega)) (λdP fL=>?_);refine ak ?_;have hu:=at3 (x.1.1.1,x.1.1.2.1,dO dg ((az.1.1).1).toNat aY.1.1,());unfold Cj at hu;have dw:=wP (c:=gI) dg.1 ((az.1.1).1).toNat aY.1.1;have e:(dO dg ((az.1.1).1).toNat aY.1.1).1=dg.1.set ((az.1.1).1).toNat aY.1.1:=rfl;dsimp only at hu⊢;rw[e] at hu;have tL:dC gI dg.1=dC gI x.1.1.2.2.1.1:=by rw[eQ]
 omega
theorem aoo:∀x:U alq,True->aw (P7 x) (λ_=>True):=by
 intro x _;unfold P7;have aZ:=L.b x.1.1.2.2.1;have i0:(W 0).1=0:=rfl;refine ae (cQ (h:=P8) (R:=λ_=>True) (λz:U W3=>z.1.1=x.1.1/\0<=z.1.2.2.1.1/\z.1.2.2.1.1<=x.1.1.2.2.1.1.length) (λz=>(x.1.1.2.2.1.1.length-z.1.2.2.1.1:Int).toNat) (λz ai=>?_) _ ⟨rfl,by show 0<=(W 0).1;decide,by show(W 0).1<=_;rw[i0];omega⟩) (λaT _=>?_)
 ·obtain⟨ed,eX,gr⟩:=ai;unfold P8;rw[ed];refine ag (λah=>?_) (λ_=>a7 aK);simp only[cG,aM] at ah;refine ag (λ_=>?_) (λ_=>a7 aK);refine ae (c5 ⟨eX,ah⟩) (λaD _=>?_);refine ae (c5 ⟨eX,ah⟩) (λaQ _=>?_);have aA:=dN z.1.2.2.1 eX ab;exact bz ⟨⟨rfl,by dsimp only;rw[aA];omega,by dsimp only;rw[aA];omega⟩,by dsimp only;rw[aA];omega⟩
 ·refine ag (λ_=>?_) (λ_=>ak aK);refine ag (λ_=>?_) (λ_=>ak aK);exact ag (λ_=>ak aK) (λ_=>ak aK)
theorem aMY:∀x:U W2,(x.1.1.1.length<=1000000000/\(jf x.2.1).length<=900000000)->aw (W1 x) (λy=>(jf y.2.1).length<=900000000):=by
 rintro x ⟨aW,hm⟩;unfold W1;refine ag (λ_=>?_) (λ_=>ak hm);refine ae (axR _ ⟨aW,rfl⟩) (λaF af=>?_);refine ae (axN _ ⟨af.1,by rw[af.2];rfl⟩) (λaT ax=>?_);have aqr:=mod_le ax;refine ag (λ_=>?_) (λ_=>ak (by show(jf aT.1.1).length<=_;omega));exact ae (axK _ aqr) (λaY a8=>ak a8)
theorem aMZ:∀x:U alp,(x.1.1.1.length<=1000000000/\(jf x.1.2.2.2.1).length<=900000000)->aw (W0 x) (λy=>y.1.1=true):=by
 rintro x ⟨aW,hm⟩;unfold W0;refine ae (aMc _ aK) (λaz aa=>?_);refine ag (λq=>by rw[aa] at q;cases q) (λ_=>?_);refine ae (aMY _ ⟨aW,hm⟩) (λa5 cy=>?_);refine ae (aoo _ aK) (λbK _=>?_);refine ag (λ_=>ak rfl) (λ_=>?_);refine ae (ad3 _ cy) (λbL dL=>?_);refine ae (aEY _ cy) (λcu dY=>?_);have dL:(if 65536<(iP a5.2.1).length+4 then bL.1.1=S ⟨#[]⟩/\bL.1.2.1.1=3300 else bd bL.1.1=iP a5.2.1++od (k1 (iP a5.2.1))/\bL.1.2.1.1=0):=dL;have dY:(if 65536<(iP a5.2.1).length+4 then cu.1.1=S ⟨#[]⟩/\cu.1.2.1.1=3300 else bd cu.1.1=iP a5.2.1++od (k1 (iP a5.2.1))/\cu.1.2.1.1=0):=dY;have i0:(W 0).1=0:=rfl;have i3:(W 3300).1=3300:=rfl;by_cases an:65536<(iP a5.2.1).length+4
 ·rw[if_pos an] at dL dY;refine ag (λq=>?_) (λ_=>?_)
  ·simp only[cG] at q;rw[dL.2,dY.2] at q;exact absurd rfl q
  refine ag (λq=>?_) (λ_=>?_)
  ·simp only[cG] at q;rw[dL.1,dY.1] at q;exact absurd rfl q
  refine ae (adY _ aK) (λbU fa=>?_);refine ag (λ_=>?_) (λq=>?_)
  ·refine aw.yes (by simp only[cG];rw[dL.2,i3]) ?_;refine ak ?_;dsimp only
   rw[dL.1,jF]
  ·simp only[cG] at q;rw[dL.2,i0] at q;cases q
 ·rw[if_neg an] at dL dY;refine ag (λq=>?_) (λ_=>?_)
  ·simp only[cG] at q;rw[dL.2,dY.2] at q;exact absurd rfl q
  refine ag (λq=>?_) (λ_=>?_)
  ·simp only[cG] at q;exact absurd (bd.inj (dL.1.trans dY.1.symm)) q
  refine ae (adY _ aK) (λbU fa=>?_);have aU:okB (bd bL.1.1) a5.2.1:=⟨by rw[dL.1,bl,Jq];omega,dL.1⟩;obtain⟨s1,s2⟩:=aL1 fa (.inl ⟨rfl,aU⟩);refine ag (λq=>?_) (λ_=>?_)
  ·simp only[cG] at q;rw[dL.2,i0] at q;exact absurd rfl q
  refine aw.yes (by simp only[cG];rw[s1,i0]) ?_;rw[s2];exact ae (aEB _) (λcd gJ=>ak gJ)
end cx
open Go.ChangeShapes Go.WideShapes Go.ChangeAt Go.RowKit Go.Deep
namespace cx
open bC (T cL)
set_option linter.unusedVariables false
mutual
inductive kx (P:Program):List eL->TypeId->Prop
  |int {k:IntKind} {tid:TypeId}:P.underlying tid=some (.int k)->kx P [.int k] tid
  |bool {tid:TypeId}:P.underlying tid=some .bool->kx P [.bool] tid
  |str {tid:TypeId}:P.underlying tid=some .string->kx P [.str] tid
  |aR {t:List eL} {tid e:TypeId}:P.underlying tid=some (.slice e)->P.cellsOf e=t.length->0<t.length->kx P t e->kx P [.aR t] tid
  |st {ts:List (List eL)} {fs:List Field} {tid:TypeId}:P.underlying tid=some (.struct fs.toArray)->Cx P 0 ts fs->P.cellsOf tid=ts.flatten.length->kx P ts.flatten tid
inductive Cx (P:Program):Nat->List (List eL)->List Field->Prop
  |nil {o:Nat}:Cx P o [] []
  |cons {o:Nat} {t:List eL} {f:Field} {ts:List (List eL)} {fs:List Field}:f.offset=o->P.cellsOf f.type=t.length->kx P t f.type->Cx P (o+t.length) ts fs->Cx P o (t::ts) (f::fs)
end
mutual
def sJ:(l:eL)->nA l->Nat
  |.int _,_=>1
  |.bool,_=>1
  |.str,s=>s.1.size+1
  |.aR t,l=>(l.1.map λe:D t=>gx t e).sum+1
def gx:(t:List eL)->D t->Nat
  |[],_=>0
  |l::t,x=>sJ l x.1+gx t x.2
end
def CD:(t:List eL)->{u:List eL}->D t->D u->D (t++u)
 |[],_,_,z=>z
 |_::t,_,y,z=>(y.1,CD t y.2 z)
theorem amo:∀(t:List eL){u:List eL}(y:D t)(z:D u),gx (t++u) (CD t y z)=gx t y+gx u z
 |[],_,_,z=>by show gx _ z=gx [] _+gx _ z;simp[gx]
 |l::t,u,y,z=>by
  show gx (l::(t++u)) (y.1,CD t y.2 z)=_;simp only[gx];rw[amo t y.2 z];omega
theorem XO {fz:Nat->List Value}:∀{t u:List eL}{y:D t}{z:D u}{vs ws:List Value},j5 fz t y vs->j5 fz u z ws->j5 fz (t++u) (CD t y z) (vs++ws)
 |[],_,_,_,_,_,h,g=>by rw[show _=[] from h];exact g
 |l::t,_,y,z,_,_,⟨v,r,aa,af,ax⟩,g=>⟨v,r++_,by rw[aa,List.cons_append],af,XO ax g⟩
theorem ar4 {α:Type}(p:Nat->α->Prop)(n:Nat)(h:∀i,i<n->∃x,p i x):∃l:List α,l.length=n/\∀i x,l[i]?=some x->p i x:=by
 induction n with
 |zero=>exact⟨[],rfl,λi x aj=>by simp at aj⟩
 |succ n cj=>
  obtain⟨l,aZ,bF⟩:=cj λi aj=>h i ab;obtain⟨x,aW⟩:=h n ab;refine⟨l++[x],by simp[aZ],λi y aj=>?_⟩;rcases ky i l.length with aa|aa
  ·rw[ml aa] at aj;exact bF i y aj
  ·rw[mm aa] at aj;have:i-l.length=0:=by
    rcases Nat.eq_zero_or_pos (i-l.length) with q|q
    ·exact q
    ·rw[List.getElem?_eq_none (by simp;omega)] at aj;cases aj
   rw[this] at aj;cases aj;rw[show i=n by omega];exact aW
theorem al2 {α:Type}{f:α->Nat}{g:Nat->Nat}:∀(l:List α)(a:Nat),(∀i x,l[i]?=some x->f x<=g (a+i))->(l.map f).sum<=((List.range' a l.length).map g).sum
 |[],a,h=>by simp
 |x::l,a,h=>by
  have a6:=h 0 x rfl;have aa:=al2 (f:=f) (g:=g) l (a+1) (λi y aj=>by
   have:=h (i+1) y (by simpa using aj)
   rwa [show a+(i+1)=a+1+i by omega] at this)
  simp only[List.map_cons,List.sum_cons,gS,List.range'_succ];rw[cq] at a6;omega
section
variable{H:Type}{enc:TypeId×Value->H}{P:Program}{W:World}{base:Nat}{spare:Nat->Bool}{held:Bool}
theorem YQ:∀l:List (DataW H),Rows.uptoBulkAll l=(l.map Rows.uptoBulk).sum
 |[]=>by simp[Rows.uptoBulkAll]
 |d::l=>by simp only[Rows.uptoBulkAll,List.map_cons,List.sum_cons];rw[YQ l]
theorem anw (d:DataW H):1<=Rows.uptoBulk d:=by
 cases d with
 |lit l=>cases l<;>simp[Rows.uptoBulk]
 |_=>simp[Rows.uptoBulk]
theorem YR:∀l:List (DataW H),l.length<=Rows.uptoBulkAll l
 |[]=>by simp[Rows.uptoBulkAll]
 |x::r=>by
  have:=anw x;have:=YR r;simp only[Rows.uptoBulkAll,gS];omega
theorem YS {d:DataW H}:∀{l:List (DataW H)},d∈l->Rows.uptoBulk d<=Rows.uptoBulkAll l
 |x::r,h=>by
  simp only[Rows.uptoBulkAll];rcases List.mem_cons.1 h with rfl|h
  ·omega
  ·have:=YS h;omega
mutual
theorem TU:∀{t:List eL}{tid:TypeId},kx P t tid->∀{fuel:Nat}{cs:List Value}{x:DataW H×List MemPlace},DataW.trod enc P W base spare held fuel tid cs=some x->Rows.uptoBulk x.1<=1048576->∃y:D t,j5 (za W).fz t y cs/\gx t y<=Rows.uptoBulk x.1
 |_,_,.int (k:=k) hu,fuel,cs,x,h,ah=>by
  obtain⟨n,rfl,rfl,hw⟩:=DataW.trod_int hu h;exact⟨(⟨n,Qy hw⟩,()),⟨_,[],rfl,by simp only[dQ],rfl⟩,by simp[gx,sJ,Rows.uptoBulk]⟩
 |_,_,.bool hu,fuel,cs,x,h,ah=>by
  obtain⟨b,rfl,rfl⟩:=DataW.trod_bool hu h;exact⟨(b,()),⟨_,[],rfl,by simp only[dQ],rfl⟩,by simp[gx,sJ,Rows.uptoBulk]⟩
 |_,_,.str hu,fuel,cs,x,h,ah=>by
  obtain⟨s,rfl,rfl,aP⟩:=DataW.trod_string hu h;have hm:maxLen=9223372036854775807:=rfl;refine⟨(⟨s,ab⟩,()),⟨_,[],rfl,by simp only[dQ],rfl⟩,?_⟩;have:s.data.toList.length=s.size:=by rw[Array.length_toList];rfl
  simp only[gx,sJ,Rows.uptoBulk];omega
 |_,_,.aR (t:=t) (e:=e) hu an bF aP,fuel,cs,x,h,ah=>by
  rcases open_slice hu h with⟨rfl,rfl⟩|⟨a,len,cap,m,n,sP,aNK,rfl,aOg,aZ,hm,DE,rfl,aW⟩
  ·exact⟨(L.nil,()),⟨_,[],rfl,dQ.nil _ _,rfl⟩,by simp[gx,sJ,Rows.uptoBulk,xl]⟩
  ·have hle:len<=m:=by rw[DE];split<;>omega
   have tl:Rows.uptoBulkAll ((List.range len).map sP)+1<=Rows.uptoBulk (DataW.slice ((List.range len).map sP) ((List.range (m-len)).map λj=>sP (len+j))):=by simp only[Rows.uptoBulk];omega
   have tn:Rows.uptoBulkAll ((List.range len).map sP)<=1048576:=by
    have ah:Rows.uptoBulk (DataW.slice ((List.range len).map sP) ((List.range (m-len)).map λj=>sP (len+j)))<=1048576:=ah;omega
   have hlen:len<=1048576:=by
    have:=YR ((List.range len).map sP);rw[List.length_map,List.length_range] at this;omega
   obtain⟨l,nr,Sx⟩:=ar4 (λi (y:D t)=>gx t y<=Rows.uptoBulk (sP i)/\∃vs,j5 (za W).fz t y vs/\∀j v,vs[j]?=some v->W.cell? ((a.add (i*t.length)).add j)=some v) len (λi aj=>by
    obtain⟨lf,Sh,sj⟩:=aW i ab;obtain⟨y,cg,cz⟩:=TU aP sj (jd (YS (List.mem_map.2 ⟨i,List.mem_range.2 aj,rfl⟩)) tn);obtain⟨_,vv,ju⟩:=World.cells?_some Sh;refine⟨y,cz,lf,cg,λj v aq=>?_⟩;have AB:=(eu.1 aq).1;rw[<-an,ju j ab,aq])
   refine⟨(⟨l,ab⟩,()),⟨_,[],rfl,?_,rfl⟩,?_⟩
   ·simp only[dQ];refine⟨some a,cap,by rw[nr],by rw[nr];exact aZ,λeJ=>?_⟩;have w7:0<l.length:=List.length_pos_iff.2 eJ;obtain⟨_,aNo,AJ,apQ⟩:=Sx 0 _ (fy w7);have J5:=AJ.length;have yo:=apQ 0 _ (fy ab);obtain⟨b,off,spot⟩:=a;have SK:spot=none:=by
     have:=World.cell?_spot yo;simpa[Addr.add] using this
    subst SK;refine⟨b,off,rfl,λi e he=>?_⟩;obtain⟨_,vs,aL,oh⟩:=Sx i e he;refine j5.Ae aL λj v aq=>?_;have:=oh j v aq;rw[add_plain,add_plain] at this;exact amr this
   ·have af:=al2 (f:=λe:D t=>gx t e) (g:=λi=>Rows.uptoBulk (sP i)) l 0 (λi x aj=>by rw[fW];exact(Sx i x aj).1);have ax:Rows.uptoBulkAll ((List.range len).map sP)=((List.range' 0 l.length).map λi=>Rows.uptoBulk (sP i)).sum:=by
     rw[YQ,List.map_map,nr,List.range_eq_range'];rfl
    simp only[gx,sJ];show(l.map λe:D t=>gx t e).sum+1+0<=Rows.uptoBulk (DataW.slice _ _);omega
 |_,_,.st (ts:=ts) (fs:=fs) hu bB an,fuel,cs,x,h,ah=>by
  obtain⟨xs,n,_,rfl,aZ,hlen,ju⟩:=DataW.trod_struct hu h;have ah:Rows.uptoBulkAll (xs.map (·.1))+1<=1048576:=by simpa[Rows.uptoBulk] using ah
  obtain⟨y,cg,cz⟩:=afZ bB (cs:=cs) (xs:=xs) (n:=n) (λi f aj=>ju i f (by simpa using aj)) (by simpa using hlen) (by rw[aZ,an,fW]) ab;refine⟨y,by simpa using cg,?_⟩;simp only[Rows.uptoBulk];omega
theorem afZ:∀{o:Nat}{ts:List (List eL)}{fs:List Field},Cx P o ts fs->∀{cs:List Value}{xs:List (DataW H×List MemPlace)}{n:Nat},(∀(i:Nat)(f:Field),fs[i]?=some f->DataW.trod enc P W base spare held n f.type ((cs.drop f.offset).take (P.cellsOf f.type))=xs[i]?)->xs.length=fs.length->cs.length=o+ts.flatten.length->Rows.uptoBulkAll (xs.map (·.1))<=1048576->
 ∃y:D ts.flatten,j5 (za W).fz ts.flatten y (cs.drop o)/\gx ts.flatten y<=Rows.uptoBulkAll (xs.map (·.1))
 |o,_,_,.nil,cs,xs,n,ju,SP,vv,ah=>by
  refine⟨(),?_,by simp[gx]⟩;show cs.drop o=[];exact List.drop_of_length_le (by simp at vv;omega)
 |o,_,_,.cons (t:=t) (f:=f) (ts:=ts) (fs:=fs) bX an aP aO,cs,xs,n,ju,SP,vv,ah=>by
  cases xs with
  |nil=>simp at SP
  |cons amv xs=>
   simp only[List.map_cons,Rows.uptoBulkAll] at ah⊢;have a6:=ju 0 f rfl;rw[bX,an] at a6;obtain⟨QB,aG,aN⟩:=TU aP a6 ab;have aOi:cs.length=o+(t.length+ts.flatten.length):=by rw[vv,List.flatten_cons,bl]
   obtain⟨z,bA,bI⟩:=afZ aO (cs:=cs) (xs:=xs) (n:=n) (λi f aj=>by
    have:=ju (i+1) f (by simpa using aj);simpa using this) (by simpa using SP) ab ab
   refine⟨CD t QB z,?_,?_⟩
   ·show j5 _ (t++ts.flatten) _ _;have e:cs.drop o=(cs.drop o).take t.length++cs.drop (o+t.length):=by
     rw[<-List.drop_drop,List.take_append_drop]
    rw[e];exact XO aG bA
   ·show gx (t++ts.flatten) _<=_;rw[amo];omega
end
end
theorem al3 {α:Type}{c:α->List UInt8}{w:α->Nat}(h:∀a,(c a).length<=10*w a):∀l:List α,dC c l<=10*(l.map w).sum
 |[]=>by simp[dC]
 |a::l=>by
  have:=al3 h l;have:=h a;rw[vn,List.map_cons,List.sum_cons];omega
theorem qQ {t:List eL}{c:D t->List UInt8}(h:∀a,(c a).length<=10*gx t a)(l:L (D t)):(bS c l).length<=10*sJ (.aR t) l:=by
 have aa:=vl (c:=c) l;have af:=al3 (w:=λe:D t=>gx t e) h l.1;simp only[sJ];omega
theorem qf (s:ee):(gy s).length<=10*sJ .str s:=by
 have:=Aj s;simp only[sJ];omega
theorem r9 (n:bc .i64):(ix n).length<=10*sJ (.int .i64) n:=by
 have:=wM n;simp only[sJ];omega
theorem aNj (e:D cl):(ld e).length<=10*gx cl e:=by
 unfold ld;simp only[bu,bJ,bl,bN,gx];have:=qf e.1;omega
theorem amm (e:D bp):(iU e).length<=10*gx bp e:=by
 unfold iU;simp only[bu,bJ,bl,bN,gx];have:=r9 e.1;omega
theorem aNa (e:D ig):(fE e).length<=10*gx ig e:=by
 unfold fE;simp only[bu,bJ,bl,bN,gx];have:=r9 e.1;have:=qf e.2.1;omega
theorem aml (e:D dR):(iT e).length<=10*gx dR e:=by
 unfold iT;simp only[bu,bJ,bl,bN,gx];have:=qf e.1;have:=r9 e.2.1;have:=qf e.2.2.1;have:=r9 e.2.2.2.1;omega
theorem aNi (e:D fi):(jV e).length<=10*gx fi e:=by
 unfold jV;simp only[bu,bJ,bl,bN,gx];have:=qf e.1;have:=qf e.2.1;have:=qQ aml e.2.2.1;omega
theorem aNh (e:D dE):(iK e).length<=10*gx dE e:=by
 unfold iK;simp only[bu,bJ,bl,bN,gx];have:=qf e.1;have:=qQ aNj e.2.1;have:=qQ aNi e.2.2.1;omega
theorem aNk (e:D fZ):(kz e).length<=10*gx fZ e:=by
 unfold kz;simp only[bu,bJ,bl,bN,gx];have:=r9 e.1;have:=qf e.2.1;have:=qQ aml e.2.2.1;omega
theorem aNe (e:D ek):(js e).length<=10*gx ek e:=by
 unfold js;simp only[bu,bJ,bl,bN,gx];have:=qf e.1;have:=qQ aNk e.2.1;omega
theorem aNd (e:D c_):(g2 e).length<=10*gx c_ e:=by
 unfold g2;simp only[bu,bJ,bl,bN,gx];have:=qf e.1;have:=r9 e.2.1;have:=r9 e.2.2.1;omega
theorem aNb (e:D fV):(g7 e).length<=10*gx fV e:=by
 unfold g7;simp only[bu,bJ,bl,bN,gx];have:=qf e.1;have:=qf e.2.1;have:=qQ amm e.2.2.1;omega
theorem aNc (e:D ey):(e3 e).length<=10*gx ey e:=by
 unfold e3;simp only[bu,bJ,bl,bN,gx];have:=r9 e.1;have:=r9 e.2.1;have:=r9 e.2.2.1;have:=r9 e.2.2.2.1;have:=qf e.2.2.2.2.1;have:=qf e.2.2.2.2.2.1;have:=qQ amm e.2.2.2.2.2.2.1;have:=qQ aNd e.2.2.2.2.2.2.2.1;have:=qQ aNb e.2.2.2.2.2.2.2.2.1;omega
theorem aNg (e:D hU):(gI e).length<=10*gx hU e:=by
 unfold gI;simp only[bu,bJ,bl,bN,gx];have:=qf e.1;have:=qQ aNa e.2.1;have:=r9 e.2.2.1;have:=qQ aNc e.2.2.2.1;omega
theorem aNf (e:D gX):(jf e).length<=10*gx gX e:=by
 unfold jf;simp only[bu,bJ,bl,bN,gx];have:=qQ aNh e.1;have:=qQ aNe e.2.1;have:=qQ aNg e.2.2.1;omega
theorem XP {m:M}:∀{t:List eL}{x:D t}{vs:List Value},j5 m.fz t x vs->cL (dv m) (lA t x) vs
 |[],_,_,h=>by rw[show _=[] from h];exact trivial
 |l::t,x,_,⟨v,r,aa,af,ax⟩=>by
  rw[aa,uk];exact⟨af.cell,XP ax⟩
end cx
open Go.ChangeShapes Go.WideShapes Go.ChangeAt Go.RowKit
namespace cx
open bC (T cL)
set_option linter.unusedVariables false
set_option maxRecDepth 100000
theorem aME:kx Tryz.prog fV 223:=kx.st (ts:=[[.str],[.str],[.aR [.int .i64]]]) Tryz.underlying223 (.cons rfl (by kernel_rfl) (.str Tryz.underlying9) (.cons rfl (by kernel_rfl) (.str Tryz.underlying9) (.cons rfl (by kernel_rfl) (.aR Tryz.underlying22 (by kernel_rfl) bk (.int Tryz.underlying3)) .nil))) (by kernel_rfl)
theorem aMD:kx Tryz.prog c_ 205:=kx.st (ts:=[[.str],[.int .i64],[.int .i64]]) Tryz.underlying205 (.cons rfl (by kernel_rfl) (.str Tryz.underlying9) (.cons rfl (by kernel_rfl) (.int Tryz.underlying3) (.cons rfl (by kernel_rfl) (.int Tryz.underlying3) .nil))) (by kernel_rfl)
theorem aMA:kx Tryz.prog ey 141:=kx.st (ts:=[[.int .i64],[.int .i64],[.int .i64],[.int .i64],[.str],[.str],[.aR [.int .i64]],[.aR [.str,.int .i64,.int .i64]],[.aR [.str,.str,.aR [.int .i64]]]]) Tryz.underlying141 (.cons rfl (by kernel_rfl) (.int Tryz.underlying3) (.cons rfl (by kernel_rfl) (.int Tryz.underlying3) (.cons rfl (by kernel_rfl) (.int Tryz.underlying3) (.cons rfl (by kernel_rfl) (.int Tryz.underlying2) (.cons rfl (by kernel_rfl) (.str Tryz.underlying9) (.cons rfl (by kernel_rfl) (.str Tryz.underlying9) (.cons rfl (by kernel_rfl) (.aR Tryz.underlying22 (by kernel_rfl) bk (.int Tryz.underlying3)) (.cons rfl (by kernel_rfl) (.aR Tryz.underlying138 (by kernel_rfl) bk aMD) (.cons rfl (by kernel_rfl) (.aR Tryz.underlying139 (by kernel_rfl) bk aME) .nil))))))))) (by kernel_rfl)
theorem alR:kx Tryz.prog ig 120:=kx.st (ts:=[[.int .i64],[.str]]) Tryz.underlying120 (.cons rfl (by kernel_rfl) (.int Tryz.underlying3) (.cons rfl (by kernel_rfl) (.str Tryz.underlying9) .nil)) (by kernel_rfl)
theorem aMG:kx Tryz.prog hU 59:=kx.st (ts:=[[.str],[.aR [.int .i64,.str]],[.int .i64],[.aR [.int .i64,.int .i64,.int .i64,.int .i64,.str,.str,.aR [.int .i64],.aR [.str,.int .i64,.int .i64],.aR [.str,.str,.aR [.int .i64]]]]]) Tryz.underlying59 (.cons rfl (by kernel_rfl) (.str Tryz.underlying9) (.cons rfl (by kernel_rfl) (.aR Tryz.underlying56 (by kernel_rfl) bk alR) (.cons rfl (by kernel_rfl) (.int Tryz.underlying3) (.cons rfl (by kernel_rfl) (.aR Tryz.underlying57 (by kernel_rfl) bk aMA) .nil)))) (by kernel_rfl)
theorem alS:kx Tryz.prog dR 151:=kx.st (ts:=[[.str],[.int .i64,.str],[.int .i64]]) Tryz.underlying151 (.cons rfl (by kernel_rfl) (.str Tryz.underlying9) (.cons rfl (by kernel_rfl) alR (.cons rfl (by kernel_rfl) (.int Tryz.underlying3) .nil))) (by kernel_rfl)
theorem aMC:kx Tryz.prog fZ 156:=kx.st (ts:=[[.int .i64],[.str],[.aR [.str,.int .i64,.str,.int .i64]]]) Tryz.underlying156 (.cons rfl (by kernel_rfl) (.int Tryz.underlying3) (.cons rfl (by kernel_rfl) (.str Tryz.underlying9) (.cons rfl (by kernel_rfl) (.aR Tryz.underlying146 (by kernel_rfl) bk alS) .nil))) (by kernel_rfl)
theorem aMI:kx Tryz.prog ek 73:=kx.st (ts:=[[.str],[.aR [.int .i64,.str,.aR [.str,.int .i64,.str,.int .i64]]]]) Tryz.underlying73 (.cons rfl (by kernel_rfl) (.str Tryz.underlying9) (.cons rfl (by kernel_rfl) (.aR Tryz.underlying71 (by kernel_rfl) bk aMC) .nil)) (by kernel_rfl)
theorem aMB:kx Tryz.prog fi 148:=kx.st (ts:=[[.str],[.str],[.aR [.str,.int .i64,.str,.int .i64]]]) Tryz.underlying148 (.cons rfl (by kernel_rfl) (.str Tryz.underlying9) (.cons rfl (by kernel_rfl) (.str Tryz.underlying9) (.cons rfl (by kernel_rfl) (.aR Tryz.underlying146 (by kernel_rfl) bk alS) .nil))) (by kernel_rfl)
theorem aMH:kx Tryz.prog dE 68:=kx.st (ts:=[[.str],[.aR [.str]],[.aR [.str,.str,.aR [.str,.int .i64,.str,.int .i64]]]]) Tryz.underlying68 (.cons rfl (by kernel_rfl) (.str Tryz.underlying9) (.cons rfl (by kernel_rfl) (.aR Tryz.underlying65 (by kernel_rfl) bk (.str Tryz.underlying9)) (.cons rfl (by kernel_rfl) (.aR Tryz.underlying66 (by kernel_rfl) bk aMB) .nil))) (by kernel_rfl)
theorem aMF:kx Tryz.prog gX 27:=kx.st (ts:=[[.aR [.str,.aR [.str],.aR [.str,.str,.aR [.str,.int .i64,.str,.int .i64]]]],[.aR [.str,.aR [.int .i64,.str,.aR [.str,.int .i64,.str,.int .i64]]]],[.aR [.str,.aR [.int .i64,.str],.int .i64,.aR [.int .i64,.int .i64,.int .i64,.int .i64,.str,.str,.aR [.int .i64],.aR [.str,.int .i64,.int .i64],.aR [.str,.str,.aR [.int .i64]]]]]]) Tryz.underlying27 (.cons rfl (by kernel_rfl) (.aR Tryz.underlying23 (by kernel_rfl) bk aMH) (.cons rfl (by kernel_rfl) (.aR Tryz.underlying24 (by kernel_rfl) bk aMI) (.cons rfl (by kernel_rfl) (.aR Tryz.underlying25 (by kernel_rfl) bk aMG) .nil))) (by kernel_rfl)
theorem aM0 {W:World}{A:Option Addr}{l:List Int}{c:Nat}(aZ:l.length<=c)(dH:ku W A (l.map (.int .i64)))(aP:∀n∈l,(Lit.int .i64 n).wf=true)(aA:l.length<=1048576){sL nW:Int}{raw:Bool}(ny:(Lit.int .i64 sL).wf=true)(eU:(Lit.int .i64 nW).wf=true){q:D gX}{cs:Array Value}(ay:j5 (za W).fz gX q cs.toList)(hm:(jf q).length<=900000000):
 Calls Tryz.prog 3 #[.slice A l.length c,.int .i64 sL,.int .i64 nW,.agg cs,.bool raw] W λe Yk=>e=.returned (.bool true)/\Below W.heap.size W Yk:=by
 have hlen:(xA l aP).length<=140737488355328:=by rw[Qq];omega
 obtain⟨y,b7,bQ⟩:=aMZ ((⟨xA l aP,hlen⟩,⟨sL,Qy ny⟩,⟨nW,Qy eU⟩,q,raw,()),()) ⟨by show(xA l aP).length<=_;rw[Qq];omega,hm⟩;have k2:dQ (za W).fz (.aR [.int .i64]) (⟨xA l aP,hlen⟩:L (D [.int .i64])) (.slice A l.length c):=by
  simp only[dQ];refine⟨A,c,by rw[Qq],by rw[Qq];exact aZ,λeJ=>?_⟩;have aqw:l.map (Value.int .i64)≠[]:=λe=>eJ (by
   have:l=[]:=List.map_eq_nil_iff.1 e;subst this;rfl)
  obtain⟨b,o,rfl,_,an⟩:=dH aqw;refine⟨b,o,rfl,λi e he=>?_⟩;simp only[iz,dQ,and_true];have hw:=amr (an i (.int .i64 e.1.1) (by rw[List.getElem?_map,aM3 he];rfl));refine⟨_,?_,rfl⟩;show(Cd W b)[o+i*1]?=_;rw[Nat.mul_one];exact hw
 obtain⟨_,um⟩:=aL6 _ y b7 (za W) W #[.slice A l.length c,.int .i64 sL,.int .i64 nW,.agg cs,.bool raw] (aqO W) (λj iy aq=>by cases aq) ⟨⟨k2,trivial⟩,rfl,rfl,⟨cs,rfl,XP ay⟩,rfl,trivial⟩;refine um.mono ?_;rintro ex w' ⟨m',bb,us,rfl,st,aO,f,anH⟩;have aL:=anH.Im
 match us,aL with
 |[v],⟨aa,_⟩=>
  have aa:v=.bool y.1.1:=aa;refine⟨by rw[aa,bQ];rfl,st.gE.os,st.gE.tape,st.gE.output,st.gE.size,λb ah=>(st.gE.kept b ah ?_).1⟩;rintro⟨R,k,i,x,af,_⟩;cases af
end cx
end Go.Proofs.YtgmdfchkljaooaaGreat
