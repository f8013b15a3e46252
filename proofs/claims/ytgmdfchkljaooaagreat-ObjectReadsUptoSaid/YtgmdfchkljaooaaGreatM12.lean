/- The statement ObjectReadsUptoSaid: for any bytes, all functions of object return what the document's answer returns, also for a module's bytes with a changed byte and a right sum; whatever the input is, where it is of bulk at most 1048576. -/
import Derived.ChangeMaps
import Derived.JoinedCond
import Derived.Test.YtgmdfchkljaooaaGreatM07
import Derived.Test.YtgmdfchkljaooaaGreatM11
noncomputable section
namespace Go.Proofs.YtgmdfchkljaooaaGreat
open Go.ChangeShapes Go.WideShapes Go.ChangeAt Go.RowKit
namespace cF
open bI (T cO)
set_option linter.unusedVariables false
def Cn (W:World)(b:Nat):List Value:=match W.heap[b]? with
 |some (.cells cur _ _)=>cur.toList
 |_=>[]
def TQ (W:World):M:=⟨λ_=>none,λ_=>none,λ_ _ _=>none,Cn W,λ_=>none⟩
theorem arY (W:World):bQ (TQ W) ⟨.nil,0⟩ W where
 fresh i _:=⟨rfl,rfl,λ_ _=>rfl,bI.T.get_nil i⟩
 live i b h:=by rw[bI.T.get_nil] at h;cases h
 inj i j bi mo r h:=by rw[bI.T.get_nil] at h;cases h
 own b R k h:=by cases h
 stay b j v h:=by
  have h:(Cn W b)[j]?=some v:=h;unfold Cn at h;split at h
  ·rename_i cur ty cm ah;exact⟨cur,ty,cm,ah,by simpa using h⟩
  ·simp at h
theorem aOR {W:World}{b o:Nat}{v:Value}(h:W.cell? ⟨b,o,none⟩=some v):(Cn W b)[o]?=some v:=by
 unfold World.cell? at h;unfold Cn;cases ah:W.heap[b]? with
 |none=>simp[ah] at h
 |some x=>
  cases x<;>simp[ah] at h⊢;exact h
theorem Q9 {k:IntKind}{n:Int}(h:(Lit.int k n).wf=true):k.min<=n/\n<=k.max:=by
 simpa[Lit.wf] using h
def xF (l:List Int)(h:∀n∈l,(Lit.int .i64 n).wf=true):List (D [.int .i64]):=l.attach.map λn=>(⟨n.1,Q9 (h n.1 n.2)⟩,())
theorem Q1 (l:List Int)(h:∀n∈l,(Lit.int .i64 n).wf=true):(xF l h).length=l.length:=by simp[xF]
theorem aOB {l:List Int}{h:∀n∈l,(Lit.int .i64 n).wf=true}{i:Nat}{e:D [.int .i64]}(he:(xF l h)[i]?=some e):l[i]?=some e.1.1:=by
 unfold xF at he;rw[List.getElem?_map] at he;obtain⟨n,az,rfl⟩:=Option.map_eq_some_iff.1 he;rw[List.getElem?_attach] at az;obtain⟨a,bZ,e⟩:=Option.pmap_eq_some_iff.1 az;rw[e.1,e.2]
end cF
open Go.RowKit
namespace cF
set_option linter.unusedVariables false
set_option maxRecDepth 100000
theorem asz (a:a_ .u64):(vM a).1=18446744073709551615-a.1:=by
 have ba:0<=a.1:=a.2.1;have aa:a.1<=18446744073709551615:=a.2.2;show IntKind.u64.wrap ((BitVec.ofInt 64 18446744073709551615^^^BitVec.ofInt 64 a.1).toNat:Int)=_;rw[show BitVec.ofInt 64 18446744073709551615=BitVec.allOnes 64 from rfl,BitVec.allOnes_xor,BitVec.toNat_not,BitVec.toNat_ofInt,mH];omega
theorem asy (a:a_ .i64):(vM a).1=-1-a.1:=by
 have ah:=a_.qm a;show IntKind.i64.wrap ((BitVec.ofInt 64 (-1)^^^BitVec.ofInt 64 a.1).toNat:Int)=_;rw[show BitVec.ofInt 64 (-1)=BitVec.allOnes 64 from rfl,BitVec.allOnes_xor,BitVec.toNat_not,BitVec.toNat_ofInt,wrap64];omega
theorem GZ:∀x:U ajD,True->av (u1 x) (λy=>a7 y.1.1=eW x.1.1.1):=by
 intro x _;unfold u1;have ah:=a_.qm x.1.1;have bl:=Cu x.1.1.1 ah.1 ah.2;refine ae (KJ bu) (λv1 aa=>?_);have aE:v1.1=IntKind.u64.wrap (IntKind.u64.wrap x.1.1.1*2):=aa;refine ae (P:=λaB=>aB.1.1.1=(jA x.1.1.1:Int)) ?_ (λaB cE=>?_)
 ·unfold ajA;refine ag (λah=>?_) (λah=>?_)
  ·have ah:x.1.1.1<0:=by simp only[b8,aL] at ah;exact ah
   refine ak ?_;dsimp only
   rw[asz,aE,mH,mH];unfold jA;rw[if_neg ab];omega
  ·have ah:0<=x.1.1.1:=by simp only[b8,aL] at ah;exact ah
   refine ak ?_;dsimp only
   rw[aE,mH,mH];unfold jA;rw[if_pos ah];omega
 refine ae (cS (h:=Oq) (R:=λy=>∃f,0<f/\y.1.1.1.toNat<128/\cM y.1.2.1++kN f y.1.1.1.toNat=eW x.1.1.1/\y.1.2.1.1.length<=10) (λz:U Wc=>∃f,0<f/\z.1.1.1<2^(7*f)/\cM z.1.2.1++kN f z.1.1.1.toNat=eW x.1.1.1/\z.1.2.1.1.length+f=10) (λz=>z.1.1.1.toNat) (λz ai=>?_) _ ⟨10,bu,by show aB.1.1.1<_;rw[cE];simp;omega,by show[]++kN 10 aB.1.1.1.toNat=_;rw[cE];rfl,rfl⟩) (λa9 c5=>?_)
 ·obtain⟨f,f0,f1,f2,f3⟩:=ai;have w9:0<=z.1.1.1:=z.1.1.2.1;have aQr:z.1.1.1<=18446744073709551615:=z.1.1.2.2;have i128:(a_.w .u64 128).1=128:=rfl;unfold Oq;refine ag (λah=>?_) (λah=>?_)
  ·have ah:128<=z.1.1.1:=by simp only[b8] at ah;exact ah
   refine ae (vO bu) (λcH ax=>?_);refine ae (x3 (by simp only[b7];omega)) (λcg kq=>?_);have bS:cH.1=z.1.1.1%128:=by
    rw[ax,i128,Int.tmod_eq_emod_of_nonneg w9,mH];omega
   have cR:(bc (ey .u8 cH) (a_.w .u8 128)).1=((z.1.1.1.toNat%128+128:Nat):Int):=by
    rw[Ts,o8,bS,show(a_.w .u8 128).1=128 from rfl,wu,wu];omega
   rw[cM.one] at kq;dsimp only at kq;rw[cR] at kq;have pU:=congrArg List.length kq;rw[bw,cM.len,cM.len,List.length_singleton] at pU;refine ae (Tt bu) (λv4 nz=>?_);have aT:v4.1=z.1.1.1/128:=by
    rw[nz,i128,Int.tdiv_eq_ediv_of_nonneg w9,mH];omega
   have vK:v4.1.toNat=z.1.1.1.toNat/128:=ab;obtain⟨f,rfl⟩:∃g,f=g+1:=⟨f-1,ab⟩;have bL:(2:Int)^(7*(f+1))=2^(7*f)*128:=by rw[show 7*(f+1)=7*f+7 by omega,Int.pow_add];rfl
   rw[bL] at f1;have bE:0<f:=by
    rcases Nat.eq_zero_or_pos f with h|h
    ·subst h;simp at f1;omega
    ·exact h
   refine bz ⟨⟨f,bE,by dsimp only;omega,?_,by dsimp only;omega⟩,by dsimp only;omega⟩;dsimp only
   rw[kq,vK,cN,<-f2,IZ ab];rfl
  ·have ah:z.1.1.1<128:=by simp only[b8] at ah;exact ah
   exact a6 ⟨f,f0,by dsimp only;omega,f2,by dsimp only;omega⟩
 ·obtain⟨f,f0,f1,f2,f3⟩:=c5;refine ae (x3 (by simp only[b7];omega)) (λiB uF=>?_);refine ak ?_;obtain⟨f,rfl⟩:∃g,f=g+1:=⟨f-1,ab⟩;have w9:0<=a9.1.1.1:=a9.1.1.2.1;dsimp only
  rw[a7.bytes,uF,cM.one,<-f2,Q8 f1];dsimp only
  rw[o8,wu,show a9.1.1.1%256=a9.1.1.1 by omega]
def Ro (n:Int):Prop:=-9223372036854775808<=n/\n<=9223372036854775807
def zY (l:List UInt8)(i a:Nat):Prop:=∀n r,Ro n->l=eW n++r->i<10/\l.drop i=kN (10-i) (jA n/2^(7*i))++r/\a=jA n%2^(7*i)
theorem zY.none {l i a}(h:zY l i a)(aj:l.length<=i\/10<=i):mg l=(0,0,false):=by
 rcases amD l with q|⟨n,k,q⟩
 ·exact q
 ·obtain⟨dK,dh,gT,r,j7⟩:=QH q;obtain⟨cY,eT,_⟩:=h n r ⟨dK,dh⟩ j7;rcases aj with aj|aj
  ·rw[List.drop_of_length_le aj] at eT;have:=congrArg List.length eT;obtain⟨f,bE⟩:∃f,10-i=f+1:=⟨9-i,ab⟩;rw[bE,bw] at this;have bL:=anB f (jA n/2^(7*i));simp only[cd] at this;omega
  ·omega
theorem zY.byte {l i a}(h:zY l i a){c:UInt8}(an:l[i]?=some c){n r}(az:Ro n)(aW:l=eW n++r):(c.toNat<128->jA n=a+c.toNat*2^(7*i)/\eW n=l.take (i+1))/\(128<=c.toNat->i<9/\l.drop (i+1)=kN (10-(i+1)) (jA n/2^(7*(i+1)))++r/\a+c.toNat%128*2^(7*i)=jA n%2^(7*(i+1)))/\a<2^(7*i)/\a+c.toNat%128*2^(7*i)<18446744073709551616:=by
 obtain⟨cY,eT,gY⟩:=h n r az aW;have bl:=(ep.1 an).1;have ai:=Cu n az.1 az.2;rw[List.drop_eq_getElem_cons bl,(ep.1 an).2] at eT;obtain⟨f,bE⟩:∃f,10-i=f+1:=⟨9-i,ab⟩;have uC:10-(i+1)=f:=ab;have arS:0<2^(7*i):=Nat.pow_pos bu;have aPD:=Nat.div_add_mod (jA n) (2^(7*i));have abN:a<2^(7*i):=by rw[gY];exact Nat.mod_lt _ arS
 rw[bE] at eT;have SO:=c.toNat_lt;have Tb:2^(7*(i+1))=2^(7*i)*128:=by rw[show 7*(i+1)=7*i+7 by omega,Nat.pow_add]
 by_cases hw:jA n/2^(7*i)<128
 ·rw[Q8 hw,List.singleton_append] at eT;injection eT with cW dv
  have SU:c.toNat=jA n/2^(7*i):=by rw[cW];simp;omega
  have aE:jA n=a+c.toNat*2^(7*i):=by rw[SU,gY,Nat.mul_comm (jA n/2^(7*i)) (2^(7*i))];omega
  refine⟨λ_=>⟨aE,?_⟩,λq=>by omega,abN,by rw[Nat.mod_eq_of_lt ab];omega⟩;have aP:l=l.take (i+1)++r:=by
   conv=>lhs;rw[<-List.take_append_drop (i+1) l]
   rw[dv]
  rw[aW] at aP;have:=List.append_cancel_right aP;rw[<-aW] at this;exact this
 ·rw[IZ hw,List.cons_append] at eT;injection eT with cW dv
  have SU:c.toNat=jA n/2^(7*i)%128+128:=by rw[cW];simp;omega
  have abr:i<9:=by
   rcases kz i 9 with q|q
   ·exact q
   ·exfalso;have aj:i=9:=ab;subst aj;simp at hw;omega
  have aqY:jA n/2^(7*i)/128=jA n/2^(7*(i+1)):=by rw[Tb,Nat.div_div_eq_div_mul]
  have aE:a+c.toNat%128*2^(7*i)=jA n%2^(7*(i+1)):=by
   rw[Tb,Nat.mod_mul,gY,SU,Nat.add_mod_right,Nat.mod_mod,Nat.mul_comm (jA n/2^(7*i)%128) (2^(7*i))]
  refine⟨λq=>by omega,λ_=>⟨abr,by rw[dv,aqY,uC],aE⟩,abN,?_⟩;rw[aE];have:=Nat.mod_le (jA n) (2^(7*(i+1)));omega
theorem ant {u:Nat}:rY u=if u%2=1 then-1-((u/2:Nat):Int) else((u/2:Nat):Int):=by
 unfold rY;split<;>split<;>omega
theorem ajI:∀x:U ajF,True->av (G0 x) (λy=>(y.1.1.1,y.1.2.1.1.toNat,y.1.2.2.1)=mg (a7 x.1.1)/\0<=y.1.2.1.1):=by
 intro x _;unfold G0;have aM:=S.b x.1.1;have rJ:=a7.len x.1.1;have i0:(W 0).1=0:=rfl;have i1:(W 1).1=1:=rfl;refine ae (cS (h:=Ou) (R:=Sum.elim (λy=>mg (a7 x.1.1)=(0,0,false)) (λy=>(y.1.1.1,y.1.2.1.1.toNat,y.1.2.2.1)=mg (a7 x.1.1)/\0<=y.1.2.1.1)) (λz:U G1=>z.1.1=x.1.1/\0<=z.1.2.2.1.1/\0<=z.1.2.1.1/\zY (a7 x.1.1) z.1.2.2.1.1.toNat z.1.2.1.1.toNat) (λz=>(10-z.1.2.2.1.1:Int).toNat) (λz ai=>?_) _ ⟨rfl,by show 0<=(W 0).1;decide,by show 0<=(a_.w .u64 0).1;decide,λn r az aW=>⟨by show(W 0).1.toNat<10;decide,by show(a7 x.1.1).drop 0=kN 10 (jA n/2^(7*0))++r;rw[List.drop_zero,aW];simp[eW],by show(0:Nat)=jA n%1;omega⟩⟩) (λcl e8=>?_)
 ·obtain⟨eg,e3,gq,fJ⟩:=ai;unfold Ou;rw[eg];refine ag (λah=>?_) (λah=>?_)
  ·simp only[b8,aL] at ah;refine ag (λaR=>?_) (λaR=>?_)
   ·simp only[b8,aL] at aR;refine ae (vP ⟨e3,ah⟩) (λv1 pY=>?_);obtain⟨c,an,SS⟩:=QO pY;have SO:=c.toNat_lt;refine ae (vO bu) (λv2 pZ=>?_);have aP:v2.1=((c.toNat%128:Nat):Int):=by
     rw[pZ,SS,show(a_.w .u8 128).1=128 from rfl,Int.tmod_eq_emod_of_nonneg ab,wu];omega
    have dS:(sC (a_.w .u64 7) (ey .u64 z.1.2.2.1)).1=7*z.1.2.2.1.1:=by
     rw[KE,o8,mH,mH,show(a_.w .u64 7).1=7 from rfl];omega
    refine ae (KJ (by rw[dS];omega)) (λcH w_=>?_);have bS:cH.1=IntKind.u64.wrap (((c.toNat%128:Nat):Int)*(2^(7*z.1.2.2.1.1.toNat):Nat)):=by
     have Sf:(ey .u64 v2).1=((c.toNat%128:Nat):Int):=by rw[o8,aP,mH];omega
     have Da:min ((sC (a_.w .u64 7) (ey .u64 z.1.2.2.1)).1).toNat IntKind.u64.bits=7*z.1.2.2.1.1.toNat:=by rw[dS];show min _ 64=_;omega
     rw[w_,Sf,Da]
    have az:=dG z.1.2.2.1 e3 ab;have AK:(z.1.2.2.1.1+1).toNat=z.1.2.2.1.1.toNat+1:=ab;have aQZ:z.1.2.1.1<=18446744073709551615:=z.1.2.1.2.2;have yh:∀n r,Ro n->a7 x.1.1=eW n++r->(ox z.1.2.1 cH).1=((z.1.2.1.1.toNat+c.toNat%128*2^(7*z.1.2.2.1.1.toNat):Nat):Int):=λn r aa af=>by
     obtain⟨_,_,dw,fh⟩:=fJ.byte an aa af;exact agJ ab bS dw ab ab
    generalize ox z.1.2.1 cH=wo at yh;have aQ0:wo.1<=18446744073709551615:=wo.2.2;have ano:0<=wo.1:=wo.2.1;refine ae (vP ⟨e3,ah⟩) (λv4 nz=>?_);obtain⟨c',kp,aa7⟩:=QO nz;obtain rfl:c=c':=eF (an.symm.trans kp);refine ag (λmu=>?_) (λmu=>?_)
    ·have mu:c.toNat<128:=by simp only[b8] at mu;rw[aa7] at mu;have:(a_.w .u8 128).1=128:=rfl;omega
     refine ae (tE bu) (λcQ Ky=>?_);have dO:(ey .i64 cQ).1=((wo.1.toNat/2:Nat):Int):=by
      have:Int.fdiv wo.1 ((2^(min ((a_.w .u64 1).1).toNat IntKind.u64.bits):Nat):Int)=wo.1/2:=Int.fdiv_eq_ediv_of_nonneg _ bu;rw[o8,Ky,this,mH,wrap64];omega
     refine ae (vO bu) (λv6 xa=>?_);have db:v6.1=((wo.1.toNat%2:Nat):Int):=by
      rw[xa,show(a_.w .u64 2).1=2 from rfl,Int.tmod_eq_emod_of_nonneg ano,mH];omega
     have key:∀m:a_ .i64,m.1=rY wo.1.toNat->av (((u1 ((m,()),())).bind λbK=>
      (lM x.1.1 0 ((bc z.1.2.2.1 (W 1))).1).bind λdx=>
      cond (!cz bK.1.1 dx)
       (some (.inr (.inr (((W 0),(W 0),false,()),()))))
       (some (.inr (.inr ((m,(bc z.1.2.2.1 (W 1)),true,()),()))))):Option (U G1⊕bo ajE)) (Sum.elim (λfB:U G1=>(fB.1.1=x.1.1/\0<=fB.1.2.2.1.1/\0<=fB.1.2.1.1/\zY (a7 x.1.1) fB.1.2.2.1.1.toNat fB.1.2.1.1.toNat)/\(10-fB.1.2.2.1.1:Int).toNat<(10-z.1.2.2.1.1:Int).toNat) (Sum.elim (λy=>mg (a7 x.1.1)=(0,0,false)) (λy=>(y.1.1.1,y.1.2.1.1.toNat,y.1.2.2.1)=mg (a7 x.1.1)/\0<=y.1.2.1.1))):=λm hm=>by
      have abL:=a_.qm m;refine ae (GZ _ aG) (λbK ew=>?_);refine ae (ur (by rw[az];omega)) (λdx Kz=>?_);rw[az,Int.toNat_zero,List.drop_zero,Int.sub_zero,AK] at Kz;refine ag (λhe=>?_) (λhe=>?_)
      ·simp only[b8] at he;refine a6 ?_;show((W 0).1,(W 0).1.toNat,false)=_/\0<=(W 0).1;refine⟨?_,bu⟩;rcases amD (a7 x.1.1) with q|⟨n,k,q⟩
       ·rw[q];rfl
       ·exfalso;obtain⟨dK,dh,gT,r,j7⟩:=QH q;obtain⟨cx,_⟩:=fJ.byte an ⟨dK,dh⟩ j7;obtain⟨cx,cI⟩:=cx mu;have hu:=yh n r ⟨dK,dh⟩ j7;rw[Nat.mod_eq_of_lt mu,<-cx] at hu;have AF:m.1=n:=by rw[hm,hu,Int.toNat_natCast,anu]
        apply he;apply a7.inj;rw[ew,Kz,AF,cI]
      ·simp only[b8] at he;refine a6 ?_;show(m.1,(bc z.1.2.2.1 (W 1)).1.toNat,true)=_/\0<=(bc z.1.2.2.1 (W 1)).1;rw[az];refine⟨?_,ab⟩;have dD:eW m.1=(a7 x.1.1).take (z.1.2.2.1.1.toNat+1):=by rw[<-Kz,<-he,ew]
       have eV:=congrArg List.length dD;rw[List.length_take,rJ] at eV;have d_:a7 x.1.1=eW m.1++(a7 x.1.1).drop (z.1.2.2.1.1.toNat+1):=by rw[dD,List.take_append_drop]
       rw[d_,IF _ _ abL.1 abL.2,AK];rw[show(eW m.1).length=z.1.2.2.1.1.toNat+1 by omega]
     refine ag (λaa=>?_) (λaa=>?_)
     ·simp only[b8] at aa;refine key (vM (ey .i64 cQ)) ?_;rw[asy,dO,ant,if_pos (by rw[db] at aa;have:(a_.w .u64 1).1=1:=rfl;omega)]
     ·simp only[b8] at aa;refine key (ey .i64 cQ) ?_;rw[dO,ant,if_neg (by rw[db] at aa;have:(a_.w .u64 1).1=1:=rfl;omega)]
    ·have mu:128<=c.toNat:=by simp only[b8] at mu;rw[aa7] at mu;have:(a_.w .u8 128).1=128:=rfl;omega
     refine bz ⟨⟨rfl,by dsimp only;rw[az];omega,ano,?_⟩,by dsimp only;rw[az];omega⟩;dsimp only
     rw[az,AK];intro n r aa af;obtain⟨_,cI,_,_⟩:=fJ.byte an aa af;obtain⟨eS,fI,gL⟩:=cI mu;have hu:=yh n r aa af;exact⟨ab,fI,by rw[hu,Int.toNat_natCast,gL]⟩
   ·simp only[b8,aL] at aR;exact a6 (fJ.none (.inr ab))
  ·simp only[b8,aL] at ah;exact a6 (fJ.none (.inl (by rw[rJ];omega)))
 ·refine ee e8 (λy q=>ak ?_) (λy q=>ak q);rw[q];exact⟨rfl,bu⟩
set_option linter.unusedSimpArgs false
theorem sR {α Z Y:Type}(c:α->List UInt8)(l:L α)(h:Z->Option (Z⊕Y))(row:Z->dY)(gE:Z->a_ .i64)(out:Y->dY)(ok:Z->Prop)(step:∀z,ok z->0<=(gE z).1->∀e,(gE z).1<(l.1.length:Nat)->l.1[(gE z).1.toNat]?=some e->(row z).1.size+(c e).length<=1000000000->av (h z) (Sum.elim (λfB=>ok fB/\gE fB=bc (gE z) (W 1)/\a7 (row fB)=a7 (row z)++c e) (λ_=>False)))(stop:∀z,ok z->(l.1.length:Nat)<=(gE z).1->av (h z) (Sum.elim (λ_=>False) (λy=>out y=row z))):
 ∀bk,ok bk->(gE bk).1=0->(row bk).1.size+(l.1.flatMap c).length<=1000000000->av (a2 h bk) (λy=>a7 (out y)=a7 (row bk)++l.1.flatMap c):=by
 intro bk ba aj aU;have aW:=L.b l;refine cS (λz=>ok z/\0<=(gE z).1/\(gE z).1<=(l.1.length:Nat)/\a7 (row z)=a7 (row bk)++(l.1.take (gE z).1.toNat).flatMap c) (λz=>((l.1.length:Nat)-(gE z).1:Int).toNat) (λz ai=>?_) bk ⟨ba,ab,ab,by rw[aj];simp⟩;obtain⟨eg,e3,gq,fJ⟩:=ai;by_cases ah:(gE z).1<(l.1.length:Nat)
 ·have he:=fG (l:=l.1) (i:=(gE z).1.toNat) ab;have aE:l.1.flatMap c=(l.1.take (gE z).1.toNat).flatMap c++(c l.1[(gE z).1.toNat]++(l.1.drop ((gE z).1.toNat+1)).flatMap c):=by
   conv=>lhs;rw[<-List.take_append_drop (gE z).1.toNat l.1,List.drop_eq_getElem_cons (by omega:(gE z).1.toNat<l.1.length)]
   rw[List.flatMap_append,List.flatMap_cons]
  have aP:=congrArg List.length aE;have bS:=congrArg List.length fJ;simp only[bw,a7.len] at aP bS;refine(step z eg e3 _ ah he ab).mono λr aU=>?_;cases r with
  |inl fB=>
   obtain⟨cx,cI,dw⟩:=aU;have az:=dG (gE z) e3 ab;refine⟨⟨cx,by rw[cI,az];omega,by rw[cI,az];omega,?_⟩,by rw[cI,az];omega⟩;rw[dw,fJ,cI,az,Cj e3 he,List.flatMap_append,cN];simp
  |inr y=>exact absurd aU id
 ·refine(stop z eg ab).mono λr aU=>?_;cases r with
  |inl fB=>exact absurd aU id
  |inr y=>
   show a7 (out y)=_;rw[show out y=row z from aU,fJ,zI ab]
theorem mV:∀x:U ajz,True->av (lY x) (λy=>a7 y.1.1=g6 x.1.1):=by
 intro x _;unfold lY;exact ae (GZ _ aG) (λaq aa=>ak aa)
theorem rr:∀x:U akg,(gJ x.1.1).length<=1000000000->av (pj x) (λy=>a7 y.1.1=gJ x.1.1):=by
 intro x h;unfold pj;unfold gJ at h;rw[bw,a7.len] at h;refine ae (GZ _ aG) (λaq aa=>?_);have aa:a7 aq.1.1=eW (x.1.1.1.size:Nat):=aa;have aE:=congrArg List.length aa;rw[a7.len] at aE;refine ae (CU ab) (λv2 af=>ak ?_);dsimp only
 rw[af,aa];rfl
theorem aI1 (a:L (D ck)):∀bk:U W0,bk.1.1=a->bk.1.2.2.1.1=0->bk.1.2.1.1.size+(a.1.flatMap k0).length<=1000000000->av (a2 B1 bk) (λy=>a7 y.1.1=a7 bk.1.2.1++a.1.flatMap k0):=by
 refine sR k0 a B1 (λz=>z.1.2.1) (λz=>z.1.2.2.1) (λy=>y.1.1) (λz=>z.1.1=a) (λz ai ba e bl he aU=>?_) (λz ai hle=>?_)
 ·unfold B1;rw[ai];simp only[k0,bH,bX,bP,bw,cd,dr,cN,cv] at aU;refine av.fX ?_;refine ae (dg ⟨ba,bl⟩) (λaP cP=>?_);obtain rfl:=eF (he.symm.trans cP);refine ae (rr _ (by(try simp only[k0,bH,bX,bP,bw,cd,dr,cN,cv]);(try dsimp only);omega)) (λaK ax=>?_);have ax:a7 aK.1.1=gJ e.1:=ax;have bq:=congrArg List.length ax;simp only[bH,bX,bP,bw,cd,cv,a7.len] at bq;refine ae iz (λv4 ⟨a8,cA⟩=>?_);exact bz ⟨rfl,rfl,by dsimp only;rw[a8,ax];simp only[k0,bH,bX,bP,bw,cd,dr,cN,cv]⟩
 ·unfold B1;rw[ai];exact av.jk (a6 rfl)
theorem aI4:∀x:U ak4,(bP k0 x.1.1).length<=1000000000->av (Pb x) (λy=>a7 y.1.1=bP k0 x.1.1):=by
 intro x h;unfold Pb;simp only[bH,bX,bP,bw,cd,dr,cN,cv] at h;refine ae (mV _ aG) (λaq aa=>?_);have aa:a7 aq.1.1=eW (x.1.1.1.length:Nat):=aa;have aI:=congrArg List.length aa;simp only[bH,bX,bP,bw,cd,cv,a7.len] at aI;refine ae (aI1 x.1.1 _ rfl rfl (by(try dsimp only);omega)) (λa9 cn=>?_);have cn:a7 a9.1.1=a7 aq.1.1++(x.1.1.1).flatMap k0:=cn;have eP:=congrArg List.length cn;simp only[bH,bX,bP,bw,cd,cv,a7.len] at eP;refine ak ?_;dsimp only
 rw[cn,aa];simp only[bH,bX,bP,bw,cd,dr,cN,cv]
theorem akr:∀x:U akp,(gx x.1.1).length<=1000000000->av (G_ x) (λy=>a7 y.1.1=gx x.1.1):=by
 intro x h;unfold G_;simp only[gx,bH,bX,bP,bw,cd,dr,cN,cv] at h;refine ae (mV _ aG) (λaq aa=>?_);have aa:a7 aq.1.1=g6 x.1.1.1:=aa;have aI:=congrArg List.length aa;simp only[gx,bH,bX,bP,bw,cd,cv,a7.len] at aI;refine ae (rr _ (by(try simp only[gx,bH,bX,bP,bw,cd,dr,cN,cv]);(try dsimp only);omega)) (λaB af=>?_);have af:a7 aB.1.1=gJ x.1.1.2.1:=af;have aQ:=congrArg List.length af;simp only[gx,bH,bX,bP,bw,cd,cv,a7.len] at aQ;refine ae iz (λcH ⟨ax,bq⟩=>?_);refine ak ?_;dsimp only
 rw[ax,af,aa];simp only[gx,bH,bX,bP,bw,cd,dr,cN,cv]
theorem aGM (a:L (D dN)):∀bk:U Wz,bk.1.1=a->bk.1.2.2.1.1=0->bk.1.2.1.1.size+(a.1.flatMap iJ).length<=1000000000->av (a2 BL bk) (λy=>a7 y.1.1=a7 bk.1.2.1++a.1.flatMap iJ):=by
 refine sR iJ a BL (λz=>z.1.2.1) (λz=>z.1.2.2.1) (λy=>y.1.1) (λz=>z.1.1=a) (λz ai ba e bl he aU=>?_) (λz ai hle=>?_)
 ·unfold BL;rw[ai];simp only[iJ,gx,bH,bX,bP,bw,cd,dr,cN,cv] at aU;refine av.fX ?_;refine ae (dg ⟨ba,bl⟩) (λaP cP=>?_);obtain rfl:=eF (he.symm.trans cP);refine ae (rr _ (by(try simp only[iJ,gx,bH,bX,bP,bw,cd,dr,cN,cv]);(try dsimp only);omega)) (λaK ax=>?_);have ax:a7 aK.1.1=gJ e.1:=ax;have bq:=congrArg List.length ax;simp only[gx,bH,bX,bP,bw,cd,cv,a7.len] at bq;refine ae iz (λv4 ⟨a8,cA⟩=>?_);refine ae (dg ⟨ba,bl⟩) (λdO fV=>?_);obtain rfl:=eF (he.symm.trans fV);refine ae (akr _ (by(try simp only[iJ,gx,bH,bX,bP,bw,cd,dr,cN,cv]);(try dsimp only);omega)) (λbJ da=>?_);have da:a7 bJ.1.1=gx (e.2.1,e.2.2.1,()):=da;have fy:=congrArg List.length da;simp only[gx,bH,bX,bP,bw,cd,cv,a7.len] at fy;refine ae iz (λdW ⟨dS,gz⟩=>?_);refine ae (dg ⟨ba,bl⟩) (λdD g7=>?_);obtain rfl:=eF (he.symm.trans g7);refine ae (mV _ aG) (λbO dM=>?_);have dM:a7 bO.1.1=g6 e.2.2.2.1:=dM;have ic:=congrArg List.length dM;simp only[gx,bH,bX,bP,bw,cd,cv,a7.len] at ic;refine ae iz (λv10 ⟨gK,q2⟩=>?_);exact bz ⟨rfl,rfl,by dsimp only;rw[gK,dM,dS,da,a8,ax];simp only[iJ,gx,bH,bX,bP,bw,cd,dr,cN,cv]⟩
 ·unfold BL;rw[ai];exact av.jk (a6 rfl)
theorem akn:∀x:U akk,(bP iJ x.1.1).length<=1000000000->av (G9 x) (λy=>a7 y.1.1=bP iJ x.1.1):=by
 intro x h;unfold G9;simp only[bH,bX,bP,bw,cd,dr,cN,cv] at h;refine ae (mV _ aG) (λaq aa=>?_);have aa:a7 aq.1.1=eW (x.1.1.1.length:Nat):=aa;have aI:=congrArg List.length aa;simp only[bH,bX,bP,bw,cd,cv,a7.len] at aI;refine ae (aGM x.1.1 _ rfl rfl (by(try dsimp only);omega)) (λbT iS=>?_);have iS:a7 bT.1.1=a7 aq.1.1++(x.1.1.1).flatMap iJ:=iS;have kn:=congrArg List.length iS;simp only[bH,bX,bP,bw,cd,cv,a7.len] at kn;refine ak ?_;dsimp only
 rw[iS,aa];simp only[bH,bX,bP,bw,cd,dr,cN,cv]
theorem aIb (a:D du):∀bk:U WT,bk.1.1=a->bk.1.2.2.1.1=0->bk.1.2.1.1.size+(a.2.2.1.1.flatMap jX).length<=1000000000->av (a2 BY bk) (λy=>a7 y.1.1=a7 bk.1.2.1++a.2.2.1.1.flatMap jX):=by
 refine sR jX a.2.2.1 BY (λz=>z.1.2.1) (λz=>z.1.2.2.1) (λy=>y.1.1) (λz=>z.1.1=a) (λz ai ba e bl he aU=>?_) (λz ai hle=>?_)
 ·unfold BY;rw[ai];simp only[jX,bH,bX,bP,bw,cd,dr,cN,cv] at aU;refine av.fX ?_;refine ae (dg ⟨ba,bl⟩) (λdb fY=>?_);obtain rfl:=eF (he.symm.trans fY);refine ae (rr _ (by(try simp only[jX,bH,bX,bP,bw,cd,dr,cN,cv]);(try dsimp only);omega)) (λbK dS=>?_);have dS:a7 bK.1.1=gJ e.1:=dS;have gz:=congrArg List.length dS;simp only[bH,bX,bP,bw,cd,cv,a7.len] at gz;refine ae iz (λdx ⟨ez,hJ⟩=>?_);refine ae (dg ⟨ba,bl⟩) (λeV kG=>?_);obtain rfl:=eF (he.symm.trans kG);refine ae (rr _ (by(try simp only[jX,bH,bX,bP,bw,cd,dr,cN,cv]);(try dsimp only);omega)) (λcc gK=>?_);have gK:a7 cc.1.1=gJ e.2.1:=gK;have q2:=congrArg List.length gK;simp only[bH,bX,bP,bw,cd,cv,a7.len] at q2;refine ae iz (λv11 ⟨iS,kn⟩=>?_);refine ae (dg ⟨ba,bl⟩) (λiA kF=>?_);obtain rfl:=eF (he.symm.trans kF);refine ae (akn _ (by(try simp only[jX,bH,bX,bP,bw,cd,dr,cN,cv]);(try dsimp only);omega)) (λcy j9=>?_);have j9:a7 cy.1.1=bP iJ e.2.2.1:=j9;have kT:=congrArg List.length j9;simp only[bH,bX,bP,bw,cd,cv,a7.len] at kT;refine ae iz (λiw ⟨m9,wU⟩=>?_);exact bz ⟨rfl,rfl,by dsimp only;rw[m9,j9,iS,gK,ez,dS];simp only[jX,bH,bX,bP,bw,cd,dr,cN,cv]⟩
 ·unfold BY;rw[ai];exact av.jk (a6 rfl)
theorem aIe:∀x:U akQ,(je x.1.1).length<=1000000000->av (O0 x) (λy=>a7 y.1.1=je x.1.1):=by
 intro x h;unfold O0;simp only[je,bH,bX,bP,bw,cd,dr,cN,cv] at h;refine ae (rr _ (by(try simp only[je,bH,bX,bP,bw,cd,dr,cN,cv]);(try dsimp only);omega)) (λaq aa=>?_);have aa:a7 aq.1.1=gJ x.1.1.1:=aa;have aI:=congrArg List.length aa;simp only[bH,bX,bP,bw,cd,cv,a7.len] at aI;refine ae (aI4 _ (by(try simp only[je,bH,bX,bP,bw,cd,dr,cN,cv]);(try dsimp only);omega)) (λaB af=>?_);have af:a7 aB.1.1=bP k0 x.1.1.2.1:=af;have aQ:=congrArg List.length af;simp only[bH,bX,bP,bw,cd,cv,a7.len] at aQ;refine ae iz (λcH ⟨ax,bq⟩=>?_);refine ae (mV _ aG) (λaS a8=>?_);have a8:a7 aS.1.1=eW (x.1.1.2.2.1.1.length:Nat):=a8;have cA:=congrArg List.length a8;simp only[bH,bX,bP,bw,cd,cv,a7.len] at cA;refine ae iz (λcQ ⟨cn,eP⟩=>?_);refine ae (aIb x.1.1 _ rfl rfl (by(try dsimp only);omega)) (λdy m_=>?_);have m_:a7 dy.1.1=a7 cQ++(x.1.1.2.2.1.1).flatMap jX:=m_;have sj:=congrArg List.length m_;simp only[bH,bX,bP,bw,cd,cv,a7.len] at sj;refine ak ?_;dsimp only
 rw[m_,cn,a8,ax,af,aa];simp only[je,bH,bX,bP,bw,cd,dr,cN,cv]
theorem aHM (a:D dZ):∀bk:U WL,bk.1.1=a->bk.1.2.2.1.1=0->bk.1.2.1.1.size+(a.2.1.1.flatMap kA).length<=1000000000->av (a2 BS bk) (λy=>a7 y.1.1=a7 bk.1.2.1++a.2.1.1.flatMap kA):=by
 refine sR kA a.2.1 BS (λz=>z.1.2.1) (λz=>z.1.2.2.1) (λy=>y.1.1) (λz=>z.1.1=a) (λz ai ba e bl he aU=>?_) (λz ai hle=>?_)
 ·unfold BS;rw[ai];simp only[kA,bH,bX,bP,bw,cd,dr,cN,cv] at aU;refine av.fX ?_;refine ae (dg ⟨ba,bl⟩) (λcR fg=>?_);obtain rfl:=eF (he.symm.trans fg);refine ae (mV _ aG) (λa9 cn=>?_);have cn:a7 a9.1.1=g6 e.1:=cn;have eP:=congrArg List.length cn;simp only[bH,bX,bP,bw,cd,cv,a7.len] at eP;refine ae iz (λv6 ⟨da,fy⟩=>?_);refine ae (dg ⟨ba,bl⟩) (λfm j1=>?_);obtain rfl:=eF (he.symm.trans j1);refine ae (rr _ (by(try simp only[kA,bH,bX,bP,bw,cd,dr,cN,cv]);(try dsimp only);omega)) (λcl ez=>?_);have ez:a7 cl.1.1=gJ e.2.1:=ez;have hJ:=congrArg List.length ez;simp only[bH,bX,bP,bw,cd,cv,a7.len] at hJ;refine ae iz (λfi ⟨dM,ic⟩=>?_);refine ae (dg ⟨ba,bl⟩) (λd_ lu=>?_);obtain rfl:=eF (he.symm.trans lu);refine ae (akn _ (by(try simp only[kA,bH,bX,bP,bw,cd,dr,cN,cv]);(try dsimp only);omega)) (λbT iS=>?_);have iS:a7 bT.1.1=bP iJ e.2.2.1:=iS;have kn:=congrArg List.length iS;simp only[bH,bX,bP,bw,cd,cv,a7.len] at kn;refine ae iz (λeL ⟨nP,l6⟩=>?_);exact bz ⟨rfl,rfl,by dsimp only;rw[nP,iS,dM,ez,da,cn];simp only[kA,bH,bX,bP,bw,cd,dr,cN,cv]⟩
 ·unfold BS;rw[ai];exact av.jk (a6 rfl)
theorem aHP:∀x:U akM,(jW x.1.1).length<=1000000000->av (OW x) (λy=>a7 y.1.1=jW x.1.1):=by
 intro x h;unfold OW;simp only[jW,bH,bX,bP,bw,cd,dr,cN,cv] at h;refine ae (rr _ (by(try simp only[jW,bH,bX,bP,bw,cd,dr,cN,cv]);(try dsimp only);omega)) (λaq aa=>?_);have aa:a7 aq.1.1=gJ x.1.1.1:=aa;have aI:=congrArg List.length aa;simp only[bH,bX,bP,bw,cd,cv,a7.len] at aI;refine ae (mV _ aG) (λaB af=>?_);have af:a7 aB.1.1=eW (x.1.1.2.1.1.length:Nat):=af;have aQ:=congrArg List.length af;simp only[bH,bX,bP,bw,cd,cv,a7.len] at aQ;refine ae iz (λcH ⟨ax,bq⟩=>?_);refine ae (aHM x.1.1 _ rfl rfl (by(try dsimp only);omega)) (λcy j9=>?_);have j9:a7 cy.1.1=a7 cH++(x.1.1.2.1.1).flatMap kA:=j9;have kT:=congrArg List.length j9;simp only[bH,bX,bP,bw,cd,cv,a7.len] at kT;refine ak ?_;dsimp only
 rw[j9,ax,af,aa];simp only[jW,bH,bX,bP,bw,cd,dr,cN,cv]
theorem aHy (a:L (D bp)):∀bk:U WK,bk.1.1=a->bk.1.2.2.1.1=0->bk.1.2.1.1.size+(a.1.flatMap kR).length<=1000000000->av (a2 BR bk) (λy=>a7 y.1.1=a7 bk.1.2.1++a.1.flatMap kR):=by
 refine sR kR a BR (λz=>z.1.2.1) (λz=>z.1.2.2.1) (λy=>y.1.1) (λz=>z.1.1=a) (λz ai ba e bl he aU=>?_) (λz ai hle=>?_)
 ·unfold BR;rw[ai];simp only[kR,bH,bX,bP,bw,cd,dr,cN,cv] at aU;refine av.fX ?_;refine ae (dg ⟨ba,bl⟩) (λaP cP=>?_);obtain rfl:=eF (he.symm.trans cP);refine ae (mV _ aG) (λaK ax=>?_);have ax:a7 aK.1.1=g6 e.1:=ax;have bq:=congrArg List.length ax;simp only[bH,bX,bP,bw,cd,cv,a7.len] at bq;refine ae iz (λv4 ⟨a8,cA⟩=>?_);exact bz ⟨rfl,rfl,by dsimp only;rw[a8,ax];simp only[kR,bH,bX,bP,bw,cd,dr,cN,cv]⟩
 ·unfold BR;rw[ai];exact av.jk (a6 rfl)
theorem akK:∀x:U akI,(bP kR x.1.1).length<=1000000000->av (Hg x) (λy=>a7 y.1.1=bP kR x.1.1):=by
 intro x h;unfold Hg;simp only[bH,bX,bP,bw,cd,dr,cN,cv] at h;refine ae (mV _ aG) (λaq aa=>?_);have aa:a7 aq.1.1=eW (x.1.1.1.length:Nat):=aa;have aI:=congrArg List.length aa;simp only[bH,bX,bP,bw,cd,cv,a7.len] at aI;refine ae (aHy x.1.1 _ rfl rfl (by(try dsimp only);omega)) (λa9 cn=>?_);have cn:a7 a9.1.1=a7 aq.1.1++(x.1.1.1).flatMap kR:=cn;have eP:=congrArg List.length cn;simp only[bH,bX,bP,bw,cd,cv,a7.len] at eP;refine ak ?_;dsimp only
 rw[cn,aa];simp only[bH,bX,bP,bw,cd,dr,cN,cv]
theorem aHc (a:D eI):∀bk:U WE,bk.1.1=a->bk.1.2.2.1.1=0->bk.1.2.1.1.size+(a.2.2.2.2.2.2.2.1.1.flatMap kj).length<=1000000000->av (a2 BP bk) (λy=>a7 y.1.1=a7 bk.1.2.1++a.2.2.2.2.2.2.2.1.1.flatMap kj):=by
 refine sR kj a.2.2.2.2.2.2.2.1 BP (λz=>z.1.2.1) (λz=>z.1.2.2.1) (λy=>y.1.1) (λz=>z.1.1=a) (λz ai ba e bl he aU=>?_) (λz ai hle=>?_)
 ·unfold BP;rw[ai];simp only[kj,bH,bX,bP,bw,cd,dr,cN,cv] at aU;refine av.fX ?_;refine ae (dg ⟨ba,bl⟩) (λhY j_=>?_);obtain rfl:=eF (he.symm.trans j_);refine ae (rr _ (by(try simp only[kj,bH,bX,bP,bw,cd,dr,cN,cv]);(try dsimp only);omega)) (λeO tr=>?_);have tr:a7 eO.1.1=gJ e.1:=tr;have tq:=congrArg List.length tr;simp only[bH,bX,bP,bw,cd,cv,a7.len] at tq;refine ae iz (λIW ⟨wW,Dp⟩=>?_);refine ae (dg ⟨ba,bl⟩) (λoh qz=>?_);obtain rfl:=eF (he.symm.trans qz);refine ae (mV _ aG) (λfM uv=>?_);have uv:a7 fM.1.1=g6 e.2.1:=uv;have JW:=congrArg List.length uv;simp only[bH,bX,bP,bw,cd,cv,a7.len] at JW;refine ae iz (λanv ⟨Dv,SB⟩=>?_);refine ae (dg ⟨ba,bl⟩) (λC7 Ke=>?_);obtain rfl:=eF (he.symm.trans Ke);refine ae (mV _ aG) (λlD As=>?_);have As:a7 lD.1.1=g6 e.2.2.1:=As;have ap0:=congrArg List.length As;simp only[bH,bX,bP,bw,cd,cv,a7.len] at ap0;refine ae iz (λanx ⟨SG,aPo⟩=>?_);exact bz ⟨rfl,rfl,by dsimp only;rw[SG,As,Dv,uv,wW,tr];simp only[kj,bH,bX,bP,bw,cd,dr,cN,cv]⟩
 ·unfold BP;rw[ai];exact av.jk (a6 rfl)
theorem aHf (a:D eI):∀bk:U WG,bk.1.1=a->bk.1.2.2.1.1=0->bk.1.2.1.1.size+(a.2.2.2.2.2.2.2.2.1.1.flatMap jV).length<=1000000000->av (a2 BQ bk) (λy=>a7 y.1.1=a7 bk.1.2.1++a.2.2.2.2.2.2.2.2.1.1.flatMap jV):=by
 refine sR jV a.2.2.2.2.2.2.2.2.1 BQ (λz=>z.1.2.1) (λz=>z.1.2.2.1) (λy=>y.1.1) (λz=>z.1.1=a) (λz ai ba e bl he aU=>?_) (λz ai hle=>?_)
 ·unfold BQ;rw[ai];simp only[jV,bH,bX,bP,bw,cd,dr,cN,cv] at aU;refine av.fX ?_;refine ae (dg ⟨ba,bl⟩) (λZU aqZ=>?_);obtain rfl:=eF (he.symm.trans aqZ);refine ae (rr _ (by(try simp only[jV,bH,bX,bP,bw,cd,dr,cN,cv]);(try dsimp only);omega)) (λxI J0=>?_);have J0:a7 xI.1.1=gJ e.1:=J0;have ap2:=congrArg List.length J0;simp only[bH,bX,bP,bw,cd,cv,a7.len] at ap2;refine ae iz (λv30 ⟨aqe,aPq⟩=>?_);refine ae (dg ⟨ba,bl⟩) (λC9 aa_=>?_);obtain rfl:=eF (he.symm.trans aa_);refine ae (rr _ (by(try simp only[jV,bH,bX,bP,bw,cd,dr,cN,cv]);(try dsimp only);omega)) (λtU J1=>?_);have J1:a7 tU.1.1=gJ e.2.1:=J1;have ap4:=congrArg List.length J1;simp only[bH,bX,bP,bw,cd,cv,a7.len] at ap4;refine ae iz (λanz ⟨aqf,aPr⟩=>?_);refine ae (dg ⟨ba,bl⟩) (λZV aq0=>?_);obtain rfl:=eF (he.symm.trans aq0);refine ae (akK _ (by(try simp only[jV,bH,bX,bP,bw,cd,dr,cN,cv]);(try dsimp only);omega)) (λCt J2=>?_);have J2:a7 Ct.1.1=bP kR e.2.2.1:=J2;have ap5:=congrArg List.length J2;simp only[bH,bX,bP,bw,cd,cv,a7.len] at ap5;refine ae iz (λanA ⟨aqg,aPs⟩=>?_);exact bz ⟨rfl,rfl,by dsimp only;rw[aqg,J2,aqf,J1,aqe,J0];simp only[jV,bH,bX,bP,bw,cd,dr,cN,cv]⟩
 ·unfold BQ;rw[ai];exact av.jk (a6 rfl)
theorem aHi:∀x:U akF,(g5 x.1.1).length<=1000000000->av (OO x) (λy=>a7 y.1.1=g5 x.1.1):=by
 intro x h;unfold OO;simp only[g5,bH,bX,bP,bw,cd,dr,cN,cv] at h;refine ae (mV _ aG) (λaq aa=>?_);have aa:a7 aq.1.1=g6 x.1.1.1:=aa;have aI:=congrArg List.length aa;simp only[bH,bX,bP,bw,cd,cv,a7.len] at aI;refine ae (mV _ aG) (λaB af=>?_);have af:a7 aB.1.1=g6 x.1.1.2.1:=af;have aQ:=congrArg List.length af;simp only[bH,bX,bP,bw,cd,cv,a7.len] at aQ;refine ae iz (λcH ⟨ax,bq⟩=>?_);refine ae (mV _ aG) (λaS a8=>?_);have a8:a7 aS.1.1=g6 x.1.1.2.2.1:=a8;have cA:=congrArg List.length a8;simp only[bH,bX,bP,bw,cd,cv,a7.len] at cA;refine ae iz (λcQ ⟨cn,eP⟩=>?_);refine ae (GZ _ aG) (λbJ da=>?_);have da:a7 bJ.1.1=g6 x.1.1.2.2.2.1:=da;have fy:=congrArg List.length da;simp only[bH,bX,bP,bw,cd,cv,a7.len] at fy;refine ae iz (λdW ⟨dS,gz⟩=>?_);refine ae (rr _ (by(try simp only[g5,bH,bX,bP,bw,cd,dr,cN,cv]);(try dsimp only);omega)) (λcl ez=>?_);have ez:a7 cl.1.1=gJ x.1.1.2.2.2.2.1:=ez;have hJ:=congrArg List.length ez;simp only[bH,bX,bP,bw,cd,cv,a7.len] at hJ;refine ae iz (λfi ⟨dM,ic⟩=>?_);refine ae (rr _ (by(try simp only[g5,bH,bX,bP,bw,cd,dr,cN,cv]);(try dsimp only);omega)) (λcc gK=>?_);have gK:a7 cc.1.1=gJ x.1.1.2.2.2.2.2.1:=gK;have q2:=congrArg List.length gK;simp only[bH,bX,bP,bw,cd,cv,a7.len] at q2;refine ae iz (λv11 ⟨iS,kn⟩=>?_);refine ae (akK _ (by(try simp only[g5,bH,bX,bP,bw,cd,dr,cN,cv]);(try dsimp only);omega)) (λcL nP=>?_);have nP:a7 cL.1.1=bP kR x.1.1.2.2.2.2.2.2.1:=nP;have l6:=congrArg List.length nP;simp only[bH,bX,bP,bw,cd,cv,a7.len] at l6;refine ae iz (λjQ ⟨j9,kT⟩=>?_);refine ae (mV _ aG) (λdX m9=>?_);have m9:a7 dX.1.1=eW (x.1.1.2.2.2.2.2.2.2.1.1.length:Nat):=m9;have wU:=congrArg List.length m9;simp only[bH,bX,bP,bw,cd,cv,a7.len] at wU;refine ae iz (λu6 ⟨m_,sj⟩=>?_);refine ae (aHc x.1.1 _ rfl rfl (by(try dsimp only);omega)) (λki JY=>?_);have JY:a7 ki.1.1=a7 u6++(x.1.1.2.2.2.2.2.2.2.1.1).flatMap kj:=JY;have ap1:=congrArg List.length JY;simp only[bH,bX,bP,bw,cd,cv,a7.len] at ap1;refine ae (mV _ aG) (λmW JZ=>?_);have JZ:a7 mW.1.1=eW (x.1.1.2.2.2.2.2.2.2.2.1.1.length:Nat):=JZ;have Dq:=congrArg List.length JZ;simp only[bH,bX,bP,bw,cd,cv,a7.len] at Dq;refine ae iz (λX8 ⟨SH,aPp⟩=>?_);refine ae (aHf x.1.1 _ rfl rfl (by(try dsimp only);omega)) (λI1 J3=>?_);have J3:a7 I1.1.1=a7 X8++(x.1.1.2.2.2.2.2.2.2.2.1.1).flatMap jV:=J3;have ap6:=congrArg List.length J3;simp only[bH,bX,bP,bw,cd,cv,a7.len] at ap6;refine ak ?_;dsimp only
 rw[J3,SH,JZ,JY,m_,m9,j9,nP,iS,gK,dM,ez,dS,da,cn,a8,ax,af,aa];simp only[g5,bH,bX,bP,bw,cd,dr,cN,cv]
theorem aH4 (a:D iP):∀bk:U WQ,bk.1.1=a->bk.1.2.2.1.1=0->bk.1.2.1.1.size+(a.2.1.1.flatMap gx).length<=1000000000->av (a2 BW bk) (λy=>a7 y.1.1=a7 bk.1.2.1++a.2.1.1.flatMap gx):=by
 refine sR gx a.2.1 BW (λz=>z.1.2.1) (λz=>z.1.2.2.1) (λy=>y.1.1) (λz=>z.1.1=a) (λz ai ba e bl he aU=>?_) (λz ai hle=>?_)
 ·unfold BW;rw[ai];refine av.fX ?_;refine ae (dg ⟨ba,bl⟩) (λcR fg=>?_);obtain rfl:=eF (he.symm.trans fg);refine ae (akr _ (by(try simp only[bH,bX,bP,bw,cd,dr,cN,cv]);(try dsimp only);omega)) (λa9 cn=>?_);have cn:a7 a9.1.1=gx e:=cn;have eP:=congrArg List.length cn;simp only[bH,bX,bP,bw,cd,cv,a7.len] at eP;refine ae iz (λv6 ⟨da,fy⟩=>?_);exact bz ⟨rfl,rfl,by dsimp only;rw[da,cn]⟩
 ·unfold BW;rw[ai];exact av.jk (a6 rfl)
theorem aH7 (a:D iP):∀bk:U WR,bk.1.1=a->bk.1.2.2.1.1=0->bk.1.2.1.1.size+(a.2.2.2.1.1.flatMap g5).length<=1000000000->av (a2 BX bk) (λy=>a7 y.1.1=a7 bk.1.2.1++a.2.2.2.1.1.flatMap g5):=by
 refine sR g5 a.2.2.2.1 BX (λz=>z.1.2.1) (λz=>z.1.2.2.1) (λy=>y.1.1) (λz=>z.1.1=a) (λz ai ba e bl he aU=>?_) (λz ai hle=>?_)
 ·unfold BX;rw[ai];refine av.fX ?_;refine ae (dg ⟨ba,bl⟩) (λiA kF=>?_);obtain rfl:=eF (he.symm.trans kF);refine ae (aHi _ (by(try simp only[bH,bX,bP,bw,cd,dr,cN,cv]);(try dsimp only);omega)) (λcy j9=>?_);have j9:a7 cy.1.1=g5 e:=j9;have kT:=congrArg List.length j9;simp only[bH,bX,bP,bw,cd,cv,a7.len] at kT;refine ae iz (λiw ⟨m9,wU⟩=>?_);exact bz ⟨rfl,rfl,by dsimp only;rw[m9,j9]⟩
 ·unfold BX;rw[ai];exact av.jk (a6 rfl)
theorem aH_:∀x:U akP,(jd x.1.1).length<=1000000000->av (OZ x) (λy=>a7 y.1.1=jd x.1.1):=by
 intro x h;unfold OZ;simp only[jd,bH,bX,bP,bw,cd,dr,cN,cv] at h;refine ae (rr _ (by(try simp only[jd,bH,bX,bP,bw,cd,dr,cN,cv]);(try dsimp only);omega)) (λaq aa=>?_);have aa:a7 aq.1.1=gJ x.1.1.1:=aa;have aI:=congrArg List.length aa;simp only[bH,bX,bP,bw,cd,cv,a7.len] at aI;refine ae (mV _ aG) (λaB af=>?_);have af:a7 aB.1.1=eW (x.1.1.2.1.1.length:Nat):=af;have aQ:=congrArg List.length af;simp only[bH,bX,bP,bw,cd,cv,a7.len] at aQ;refine ae iz (λcH ⟨ax,bq⟩=>?_);refine ae (aH4 x.1.1 _ rfl rfl (by(try dsimp only);omega)) (λbK dS=>?_);have dS:a7 bK.1.1=a7 cH++(x.1.1.2.1.1).flatMap gx:=dS;have gz:=congrArg List.length dS;simp only[bH,bX,bP,bw,cd,cv,a7.len] at gz;refine ae (mV _ aG) (λcl ez=>?_);have ez:a7 cl.1.1=g6 x.1.1.2.2.1:=ez;have hJ:=congrArg List.length ez;simp only[bH,bX,bP,bw,cd,cv,a7.len] at hJ;refine ae iz (λfi ⟨dM,ic⟩=>?_);refine ae (mV _ aG) (λcc gK=>?_);have gK:a7 cc.1.1=eW (x.1.1.2.2.2.1.1.length:Nat):=gK;have q2:=congrArg List.length gK;simp only[bH,bX,bP,bw,cd,cv,a7.len] at q2;refine ae iz (λv11 ⟨iS,kn⟩=>?_);refine ae (aH7 x.1.1 _ rfl rfl (by(try dsimp only);omega)) (λdy m_=>?_);have m_:a7 dy.1.1=a7 v11++(x.1.1.2.2.2.1.1).flatMap g5:=m_;have sj:=congrArg List.length m_;simp only[bH,bX,bP,bw,cd,cv,a7.len] at sj;refine ak ?_;dsimp only
 rw[m_,iS,gK,dM,ez,dS,ax,af,aa];simp only[jd,bH,bX,bP,bw,cd,dr,cN,cv]
theorem aHS (a:D jD):∀bk:U WM,bk.1.1=a->bk.1.2.2.1.1=0->bk.1.2.1.1.size+(a.1.1.flatMap je).length<=1000000000->av (a2 BT bk) (λy=>a7 y.1.1=a7 bk.1.2.1++a.1.1.flatMap je):=by
 refine sR je a.1 BT (λz=>z.1.2.1) (λz=>z.1.2.2.1) (λy=>y.1.1) (λz=>z.1.1=a) (λz ai ba e bl he aU=>?_) (λz ai hle=>?_)
 ·unfold BT;rw[ai];refine av.fX ?_;refine ae (dg ⟨ba,bl⟩) (λaP cP=>?_);obtain rfl:=eF (he.symm.trans cP);refine ae (aIe _ (by(try simp only[bH,bX,bP,bw,cd,dr,cN,cv]);(try dsimp only);omega)) (λaK ax=>?_);have ax:a7 aK.1.1=je e:=ax;have bq:=congrArg List.length ax;simp only[bH,bX,bP,bw,cd,cv,a7.len] at bq;refine ae iz (λv4 ⟨a8,cA⟩=>?_);exact bz ⟨rfl,rfl,by dsimp only;rw[a8,ax]⟩
 ·unfold BT;rw[ai];exact av.jk (a6 rfl)
theorem aHV (a:D jD):∀bk:U WN,bk.1.1=a->bk.1.2.2.1.1=0->bk.1.2.1.1.size+(a.2.1.1.flatMap jW).length<=1000000000->av (a2 BU bk) (λy=>a7 y.1.1=a7 bk.1.2.1++a.2.1.1.flatMap jW):=by
 refine sR jW a.2.1 BU (λz=>z.1.2.1) (λz=>z.1.2.2.1) (λy=>y.1.1) (λz=>z.1.1=a) (λz ai ba e bl he aU=>?_) (λz ai hle=>?_)
 ·unfold BU;rw[ai];refine av.fX ?_;refine ae (dg ⟨ba,bl⟩) (λdD g7=>?_);obtain rfl:=eF (he.symm.trans g7);refine ae (aHP _ (by(try simp only[bH,bX,bP,bw,cd,dr,cN,cv]);(try dsimp only);omega)) (λbO dM=>?_);have dM:a7 bO.1.1=jW e:=dM;have ic:=congrArg List.length dM;simp only[bH,bX,bP,bw,cd,cv,a7.len] at ic;refine ae iz (λv10 ⟨gK,q2⟩=>?_);exact bz ⟨rfl,rfl,by dsimp only;rw[gK,dM]⟩
 ·unfold BU;rw[ai];exact av.jk (a6 rfl)
theorem aHY (a:D jD):∀bk:U WO,bk.1.1=a->bk.1.2.2.1.1=0->bk.1.2.1.1.size+(a.2.2.1.1.flatMap jd).length<=1000000000->av (a2 BV bk) (λy=>a7 y.1.1=a7 bk.1.2.1++a.2.2.1.1.flatMap jd):=by
 refine sR jd a.2.2.1 BV (λz=>z.1.2.1) (λz=>z.1.2.2.1) (λy=>y.1.1) (λz=>z.1.1=a) (λz ai ba e bl he aU=>?_) (λz ai hle=>?_)
 ·unfold BV;rw[ai];refine av.fX ?_;refine ae (dg ⟨ba,bl⟩) (λiu l8=>?_);obtain rfl:=eF (he.symm.trans l8);refine ae (aH_ _ (by(try simp only[bH,bX,bP,bw,cd,dr,cN,cv]);(try dsimp only);omega)) (λdy m_=>?_);have m_:a7 dy.1.1=jd e:=m_;have sj:=congrArg List.length m_;simp only[bH,bX,bP,bw,cd,cv,a7.len] at sj;refine ae iz (λml ⟨Aq,SA⟩=>?_);exact bz ⟨rfl,rfl,by dsimp only;rw[Aq,m_]⟩
 ·unfold BV;rw[ai];exact av.jk (a6 rfl)
theorem aH1:∀x:U akO,(jG x.1.1).length<=1000000000->av (OX x) (λy=>a7 y.1.1=jG x.1.1):=by
 intro x h;unfold OX;simp only[jG,bH,bX,bP,bw,cd,dr,cN,cv] at h;refine ae (mV _ aG) (λaq aa=>?_);have aa:a7 aq.1.1=eW (x.1.1.1.1.length:Nat):=aa;have aI:=congrArg List.length aa;simp only[bH,bX,bP,bw,cd,cv,a7.len] at aI;refine ae (aHS x.1.1 _ rfl rfl (by(try dsimp only);omega)) (λa9 cn=>?_);have cn:a7 a9.1.1=a7 aq.1.1++(x.1.1.1.1).flatMap je:=cn;have eP:=congrArg List.length cn;simp only[bH,bX,bP,bw,cd,cv,a7.len] at eP;refine ae (mV _ aG) (λbJ da=>?_);have da:a7 bJ.1.1=eW (x.1.1.2.1.1.length:Nat):=da;have fy:=congrArg List.length da;simp only[bH,bX,bP,bw,cd,cv,a7.len] at fy;refine ae iz (λdW ⟨dS,gz⟩=>?_);refine ae (aHV x.1.1 _ rfl rfl (by(try dsimp only);omega)) (λbT iS=>?_);have iS:a7 bT.1.1=a7 dW++(x.1.1.2.1.1).flatMap jW:=iS;have kn:=congrArg List.length iS;simp only[bH,bX,bP,bw,cd,cv,a7.len] at kn;refine ae (mV _ aG) (λcL nP=>?_);have nP:a7 cL.1.1=eW (x.1.1.2.2.1.1.length:Nat):=nP;have l6:=congrArg List.length nP;simp only[bH,bX,bP,bw,cd,cv,a7.len] at l6;refine ae iz (λjQ ⟨j9,kT⟩=>?_);refine ae (aHY x.1.1 _ rfl rfl (by(try dsimp only);omega)) (λeO tr=>?_);have tr:a7 eO.1.1=a7 jQ++(x.1.1.2.2.1.1).flatMap jd:=tr;have tq:=congrArg List.length tr;simp only[bH,bX,bP,bw,cd,cv,a7.len] at tq;refine ak ?_;dsimp only
 rw[tr,j9,nP,iS,dS,da,cn,aa];simp only[jG,bH,bX,bP,bw,cd,dr,cN,cv]
theorem akj:∀x:U akh,(jG x.1.1).length<=900000000->av (G8 x) (λy=>(if 65536<(jv x.1.1).length+4 then y.1.1=S ⟨#[]⟩/\y.1.2.1.1=3300 else a7 y.1.1=jv x.1.1++oX (ld (jv x.1.1))/\y.1.2.1.1=0)):=by
 intro x h;unfold G8;refine ae (aH1 _ (by dsimp only;omega)) (λaq aa=>?_);have aa:a7 aq.1.1=jG x.1.1:=aa;have aI:=congrArg List.length aa;rw[a7.len] at aI;have bj:a7 (S ⟨#[82,80,84,49]⟩)=tu:=z0 bu;have ap8:=congrArg List.length bj;rw[a7.len,Kc] at ap8;refine ae (CU ab) (λv2 af=>?_);have af:a7 v2=jv x.1.1:=by rw[af,bj,aa];rfl
 have aQ:=congrArg List.length af;rw[a7.len] at aQ;have go:(jv x.1.1).length=4+(jG x.1.1).length:=by unfold jv;rw[bw,Kc]
 refine ae (akb _ aG) (λaK ax=>?_);have ax:a7 aK.1.1=oX (ld (jv x.1.1)):=by rw[ax];dsimp only;rw[af]
 have bq:=congrArg List.length ax;rw[a7.len,Am] at bq;refine ae (CU ab) (λv4 a8=>?_);rw[af,ax] at a8;have cA:=congrArg List.length a8;rw[a7.len,bw,Am] at cA;refine ag (λah=>?_) (λah=>?_)
 ·simp only[b8,aL] at ah;refine ak ?_;dsimp only
  rw[if_pos ab];exact⟨rfl,rfl⟩
 ·simp only[b8,aL] at ah;refine ak ?_;dsimp only
  rw[if_neg ab];exact⟨a8,rfl⟩
theorem ajP:∀x:U ajN,True->av (G2 x) (λy=>fb g6 x.2.1 y.2.1 y.1.1):=by
 intro x _;unfold G2;refine ae (ajI _ aG) (λaq cr=>?_);obtain⟨aa,af⟩:=cr;dsimp only at aa;have sy:aq.1.2.2.1=false->∀(n:a_ .i64) r,a7 x.2.1.1≠g6 n++r:=λq n r aO=>by
  have ah:=a_.qm n;unfold g6 at aO;rw[aO,IF n.1 r ah.1 ah.2] at aa;have:=congrArg (λp=>p.2.2) aa;dsimp only at this;rw[q] at this;cases this
 refine ag (λaR=>?_) (λaR=>?_)
 ·exact ak ⟨λ_=>rfl,λ_ q=>(by cases q),λq=>(by rw[show x.2.1.2.1=true from aR] at q;cases q),Nat.le_refl _⟩
 ·refine ag (λah=>?_) (λah=>?_)
  ·simp only[b8] at ah;exact ak ⟨λ_=>rfl,λ_ q=>(by cases q),λ_ _=>sy ah,Nat.le_refl _⟩
  ·simp only[b8] at ah;rw[ah] at aa;obtain⟨aI,aQ,bq,r,cA⟩:=QH aa.symm;have aW:=congrArg List.length cA;rw[a7.len,bw] at aW;have aX:aq.1.2.1.1=((eW aq.1.1.1).length:Nat):=ab;rw[aX];refine ae (Af ab) (λv2 pZ=>?_);have aT:a7 v2=r:=by rw[pZ.1,cA,List.drop_left]
   exact ak ⟨λq=>(by rw[show x.2.1.2.1=false from aR] at q;cases q),λ_ _=>(by dsimp only;rw[aT];exact cA),λ_ q=>(by dsimp only at q;rw[show x.2.1.2.1=false from aR] at q;cases q),by dsimp only;have:=pZ.2;omega⟩
theorem sO:∀x:U ajM,True->av (qK x) (λy=>fb g6 x.2.1 y.2.1 y.1.1):=by
 intro x _;unfold qK;exact ae (ajP _ aG) (λaq cr=>ak cr)
theorem Ae {st k7 u5:D [.str,.bool]}{n:a_ .i64}(h:fb g6 st k7 n)(e:u5=(k7.1,true,()))(hw:n.1<0\/(k7.1.1.size:Int)<n.1\/k7.2.1=true):nq st u5 0:=by
 obtain⟨cW,dv⟩:=ZA h;have aW:=h.l;subst e;refine⟨λ_=>rfl,λ_=>rfl,by dsimp only;omega,λ_ q=>(by cases q),λq _=>?_,aW⟩;cases ah:k7.2.1 with
 |true=>exact dv q ah
 |false=>exact cW (by rw[ah] at hw;simp at hw;exact hw) ah q
theorem Zz {st k7:D [.str,.bool]}{n:a_ .i64}(h:fb g6 st k7 n)(ba:¬n.1<0)(aa:¬(k7.1.1.size:Int)<n.1)(ah:k7.2.1=false):nq st k7 n.1:=
 ⟨h.b,λq=>(by rw[ah] at q;cases q),⟨ab,ab⟩,h.g,λq gy=>(by rw[ah] at gy;cases gy),h.l⟩
theorem sN:∀x:U ajL,True->av (qJ x) (λy=>nq x.2.1 y.2.1 y.1.1.1):=by
 intro x _;unfold qJ;refine ae (sO _ aG) (λaq h=>?_);refine ag (λah=>?_) (λah=>?_)
 ·exact ak (Ae h rfl (.inr (.inr ah)))
 ·refine ag (λaR=>?_) (λaR=>?_)
  ·simp only[b8,aL] at aR;exact ak (Ae h rfl (.inl aR))
  ·simp only[b8,aL] at aR;refine ag (λbM=>?_) (λbM=>?_)
   ·simp only[b8,aL] at bM;exact ak (Ae h rfl (.inr (.inl bM)))
   ·simp only[b8,aL] at bM;have an:=Zz h ab ab ah;exact ak an
theorem X4 {st u5:D [.str,.bool]}{v:dY}(h:nq st u5 0)(ah:u5.2.1=true):fb gJ st u5 v:=by
 refine⟨λ_=>ah,λ_ q=>(by rw[ah] at q;cases q),λq gy x r aO=>?_,h.l⟩;unfold gJ at aO;rw[cN] at aO;exact h.n q gy x.1.size _ (by rw[bw,a7.len];omega) (S.b x) aO
theorem rq:∀x:U ajQ,True->av (ph x) (λy=>fb gJ x.2.1 y.2.1 y.1.1):=by
 intro x _;unfold ph;refine ae (sO _ aG) (λaq h=>?_);refine ag (λah=>?_) (λah=>?_)
 ·exact ak (X4 (Ae h rfl (.inr (.inr ah))) rfl)
 ·refine ag (λaR=>?_) (λaR=>?_)
  ·simp only[b8,aL] at aR;exact ak (X4 (Ae h rfl (.inl aR)) rfl)
  ·simp only[b8,aL] at aR;refine ag (λbM=>?_) (λbM=>?_)
   ·simp only[b8,aL] at bM;exact ak (X4 (Ae h rfl (.inr (.inl bM))) rfl)
   ·simp only[b8,aL] at bM;have an:=Zz h ab ab ah;refine ae (ur ⟨Int.le_refl _,ab,ab⟩) (λv2 af=>?_);have aX:aq.1.1.1=((aq.1.1.1.toNat:Nat):Int):=ab;refine ae (P:=λr=>a7 r=(a7 aq.2.1.1).drop aq.1.1.1.toNat) ?_ (λcH ax=>?_)
    ·rw[aX];exact(Af ab).mono λr aU=>aU.1
    ·refine ak (ang an ?_ ax rfl);dsimp only
     rw[af]
     try simp
theorem ajX:∀x:U ajV,True->av (G4 x) (λy=>fb gx x.2.1 y.2.1 y.1.1):=by
 intro x aM;unfold G4;refine ae (sO _ aG) (λaq aa=>?_);refine ae (rq _ aG) (λaB af=>?_);refine ak ?_;exact aa.pair dQ.i (af.one)
theorem aF9:∀(eC:D [.str,.bool])(bk:U Wq),bk.1.2.2.2.1.1=0->(bk.1.2.1).1=[]->nq eC bk.2.1 bk.1.2.2.1.1->eC.1.1.size<=100000->av (a2 BE bk) (λy=>fb (bP k0) eC y.2.1 (y.1.1)/\(True)):=by
 intro eC bk aj bZ an aM;have az:=an.g9;have aW:=an.l;refine me k0 Fm ag7 BE (λz=>z.1.2.1) (λz=>z.1.2.2.1.1-z.1.2.2.2.1.1) (λz=>z.2.1) (λy=>y.1.1) (λy=>y.2.1) (λz=>0<=z.1.2.2.2.1.1/\z.1.2.2.1.1<=100000) (λy=>True) (λz ok az ah aW ai=>?_) (λz ok ai=>?_) eC bk ⟨ab,ab⟩ bZ (by rw[aj,Int.sub_zero];exact an) aM
 ·obtain⟨bn,bB⟩:=ok;unfold BE;have aO:=dG z.1.2.2.2.1 bn ab;refine av.fX ?_;refine ag (λ_=>?_) (λq=>by rw[ah] at q;cases q);refine ae (rq _ aG) (λaq aa=>?_);refine ae (dq (by simp only[b7];omega)) (λj2 dM=>?_);rw[fu (by simp)] at dM;exact bz ⟨⟨by dsimp only;rw[aO];omega,bB⟩,by dsimp only;rw[aO];omega,(aq.1.1,()),dM.1,aa.one⟩
 ·obtain⟨bn,bB⟩:=ok;unfold BE;refine ag (λaz=>?_) (λ_=>a6 ⟨rfl,rfl,aG⟩);simp only[b8,aL] at az;have ah:z.2.1.2.1=true:=by rcases ai with q|q;omega;exact q
  exact ag (λq=>by rw[ah] at q;cases q) (λ_=>a6 ⟨rfl,rfl,aG⟩)
theorem aGa:∀x:U aj8,x.2.1.1.1.size<=100000->av (OB x) (λy=>fb (bP k0) x.2.1 y.2.1 y.1.1):=by
 intro x aM;unfold OB;refine ae (sN _ aG) (λaq aa=>?_);exact ae (aF9 x.2.1 _ rfl rfl aa aM) (λaB af=>ak af.1)
theorem aFj:∀(eC:D [.str,.bool])(bk:U Wd),bk.1.2.2.2.1.1=0->(bk.1.2.1).1=[]->nq eC bk.2.1 bk.1.2.2.1.1->eC.1.1.size<=100000->av (a2 Bt bk) (λy=>fb (bP iJ) eC y.2.1 (y.1.1)/\(True)):=by
 intro eC bk aj bZ an aM;have az:=an.g9;have aW:=an.l;refine me iJ Mu agX Bt (λz=>z.1.2.1) (λz=>z.1.2.2.1.1-z.1.2.2.2.1.1) (λz=>z.2.1) (λy=>y.1.1) (λy=>y.2.1) (λz=>0<=z.1.2.2.2.1.1/\z.1.2.2.1.1<=100000) (λy=>True) (λz ok az ah aW ai=>?_) (λz ok ai=>?_) eC bk ⟨ab,ab⟩ bZ (by rw[aj,Int.sub_zero];exact an) aM
 ·obtain⟨bn,bB⟩:=ok;unfold Bt;have aO:=dG z.1.2.2.2.1 bn ab;refine av.fX ?_;refine ag (λ_=>?_) (λq=>by rw[ah] at q;cases q);refine ae (rq _ aG) (λaq aa=>?_);refine ae (ajX _ aG) (λaB af=>?_);refine ae (sO _ aG) (λaK ax=>?_);refine ae (dq (by simp only[b7];omega)) (λj2 dM=>?_);rw[fu (by simp)] at dM;exact bz ⟨⟨by dsimp only;rw[aO];omega,bB⟩,by dsimp only;rw[aO];omega,(aq.1.1,aB.1.1.1,aB.1.1.2.1,aK.1.1,()),dM.1,aa.pair dQ.s (af.two zv ax.one)⟩
 ·obtain⟨bn,bB⟩:=ok;unfold Bt;refine ag (λaz=>?_) (λ_=>a6 ⟨rfl,rfl,aG⟩);simp only[b8,aL] at az;have ah:z.2.1.2.1=true:=by rcases ai with q|q;omega;exact q
  exact ag (λq=>by rw[ah] at q;cases q) (λ_=>a6 ⟨rfl,rfl,aG⟩)
theorem ajU:∀x:U ajR,x.2.1.1.1.size<=100000->av (G3 x) (λy=>fb (bP iJ) x.2.1 y.2.1 y.1.1):=by
 intro x aM;unfold G3;refine ae (sN _ aG) (λaq aa=>?_);exact ae (aFj x.2.1 _ rfl rfl aa aM) (λaB af=>ak af.1)
theorem aFx:∀(eC:D [.str,.bool])(bk:U Wh),bk.1.2.2.2.1.1=0->(bk.1.2.1).1=[]->nq eC bk.2.1 bk.1.2.2.1.1->eC.1.1.size<=100000->av (a2 Bw bk) (λy=>fb (bP kR) eC y.2.1 (y.1.1)/\(True)):=by
 intro eC bk aj bZ an aM;have az:=an.g9;have aW:=an.l;refine me kR A8 ag1 Bw (λz=>z.1.2.1) (λz=>z.1.2.2.1.1-z.1.2.2.2.1.1) (λz=>z.2.1) (λy=>y.1.1) (λy=>y.2.1) (λz=>0<=z.1.2.2.2.1.1/\z.1.2.2.1.1<=100000) (λy=>True) (λz ok az ah aW ai=>?_) (λz ok ai=>?_) eC bk ⟨ab,ab⟩ bZ (by rw[aj,Int.sub_zero];exact an) aM
 ·obtain⟨bn,bB⟩:=ok;unfold Bw;have aO:=dG z.1.2.2.2.1 bn ab;refine av.fX ?_;refine ag (λ_=>?_) (λq=>by rw[ah] at q;cases q);refine ae (sO _ aG) (λaq aa=>?_);refine ae (dq (by simp only[b7];omega)) (λj2 dM=>?_);rw[fu (by simp)] at dM;exact bz ⟨⟨by dsimp only;rw[aO];omega,bB⟩,by dsimp only;rw[aO];omega,(aq.1.1,()),dM.1,aa.one⟩
 ·obtain⟨bn,bB⟩:=ok;unfold Bw;refine ag (λaz=>?_) (λ_=>a6 ⟨rfl,rfl,aG⟩);simp only[b8,aL] at az;have ah:z.2.1.2.1=true:=by rcases ai with q|q;omega;exact q
  exact ag (λq=>by rw[ah] at q;cases q) (λ_=>a6 ⟨rfl,rfl,aG⟩)
theorem aj1:∀x:U ajZ,x.2.1.1.1.size<=100000->av (G5 x) (λy=>fb (bP kR) x.2.1 y.2.1 y.1.1):=by
 intro x aM;unfold G5;refine ae (sN _ aG) (λaq aa=>?_);exact ae (aFx x.2.1 _ rfl rfl aa aM) (λaB af=>ak af.1)
theorem aF3 (b:dY×L (D ck)×L (D ff)×Unit):∀(eC:D [.str,.bool])(bk:U Wp),bk.1.2.2.2.1.1=0->bk.2.2.1.1=b.1->bk.2.2.1.2.1=b.2.1->(bk.2.2.1.2.2.1).1=[]->nq eC bk.2.1 bk.1.2.2.1.1->eC.1.1.size<=100000->av (a2 BD bk) (λy=>fb (bP jX) eC y.2.1 (y.2.2.1.2.2.1)/\(True/\y.2.2.1.1=b.1/\y.2.2.1.2.1=b.2.1)):=by
 intro eC bk aj f0 f1 bZ an aM;have az:=an.g9;have aW:=an.l;refine me jX Uz ag6 BD (λz=>z.2.2.1.2.2.1) (λz=>z.1.2.2.1.1-z.1.2.2.2.1.1) (λz=>z.2.1) (λy=>y.2.2.1.2.2.1) (λy=>y.2.1) (λz=>0<=z.1.2.2.2.1.1/\z.1.2.2.1.1<=100000/\z.2.2.1.1=b.1/\z.2.2.1.2.1=b.2.1) (λy=>True/\y.2.2.1.1=b.1/\y.2.2.1.2.1=b.2.1) (λz ok az ah aW ai=>?_) (λz ok ai=>?_) eC bk ⟨ab,ab,f0,f1⟩ bZ (by rw[aj,Int.sub_zero];exact an) aM
 ·obtain⟨bn,bB,c8,eB⟩:=ok;unfold BD;have aO:=dG z.1.2.2.2.1 bn ab;refine av.fX ?_;refine ag (λ_=>?_) (λq=>by rw[ah] at q;cases q);refine ae (rq _ aG) (λaq aa=>?_);have dF:aq.2.1.1.1.size<=z.2.1.1.1.size:=aa.l;refine ae (rq _ aG) (λaB af=>?_);have ea:aB.2.1.1.1.size<=aq.2.1.1.1.size:=af.l;refine ae (ajU _ (by(try dsimp only);omega)) (λaK ax=>?_);have cg:aK.2.1.1.1.size<=aB.2.1.1.1.size:=ax.l;refine ae (dq (by simp only[b7];omega)) (λj2 dM=>?_);rw[fu (by simp)] at dM;exact bz ⟨⟨by dsimp only;rw[aO];omega,bB,c8,eB⟩,by dsimp only;rw[aO];omega,(aq.1.1,aB.1.1,aK.1.1,()),dM.1,aa.pair dQ.s (af.pair dQ.s (ax.one))⟩
 ·obtain⟨bn,bB,c8,eB⟩:=ok;unfold BD;refine ag (λaz=>?_) (λ_=>a6 ⟨rfl,rfl,aG,c8,eB⟩);simp only[b8,aL] at az;have ah:z.2.1.2.1=true:=by rcases ai with q|q;omega;exact q
  exact ag (λq=>by rw[ah] at q;cases q) (λ_=>a6 ⟨rfl,rfl,aG,c8,eB⟩)
theorem aF6:∀x:U aj6,x.2.1.1.1.size<=100000->av (OA x) (λy=>fb je x.2.1 y.2.1 y.1.1):=by
 intro x aM;unfold OA;refine ae (rq _ aG) (λaq aa=>?_);have dF:aq.2.1.1.1.size<=x.2.1.1.1.size:=aa.l;refine ae (aGa _ (by(try dsimp only);omega)) (λaB af=>?_);have ea:aB.2.1.1.1.size<=aq.2.1.1.1.size:=af.l;refine ae (sN _ aG) (λaK ax=>?_);have cg:aK.2.1.1.1.size<=aB.2.1.1.1.size:=ax.l;refine ae (aF3 _ aB.2.1 _ rfl rfl rfl rfl ax (by(try dsimp only);omega)) (λaS cA=>?_);obtain⟨a8,_,Dh,aan⟩:=cA;have jj:aS.2.1.1.1.size<=aB.2.1.1.1.size:=a8.l;refine ak ?_;dsimp only at Dh aan⊢;rw[Dh];rw[aan];exact aa.pair dQ.s (af.pair Fm.l (a8.one))
theorem aFC (b:dY×L (D fS)×Unit):∀(eC:D [.str,.bool])(bk:U Wi),bk.1.2.2.2.1.1=0->bk.2.2.1.1=b.1->(bk.2.2.1.2.1).1=[]->nq eC bk.2.1 bk.1.2.2.1.1->eC.1.1.size<=100000->av (a2 Bx bk) (λy=>fb (bP kA) eC y.2.1 (y.2.2.1.2.1)/\(True/\y.2.2.1.1=b.1)):=by
 intro eC bk aj f0 bZ an aM;have az:=an.g9;have aW:=an.l;refine me kA UA ag8 Bx (λz=>z.2.2.1.2.1) (λz=>z.1.2.2.1.1-z.1.2.2.2.1.1) (λz=>z.2.1) (λy=>y.2.2.1.2.1) (λy=>y.2.1) (λz=>0<=z.1.2.2.2.1.1/\z.1.2.2.1.1<=100000/\z.2.2.1.1=b.1) (λy=>True/\y.2.2.1.1=b.1) (λz ok az ah aW ai=>?_) (λz ok ai=>?_) eC bk ⟨ab,ab,f0⟩ bZ (by rw[aj,Int.sub_zero];exact an) aM
 ·obtain⟨bn,bB,c8⟩:=ok;unfold Bx;have aO:=dG z.1.2.2.2.1 bn ab;refine av.fX ?_;refine ag (λ_=>?_) (λq=>by rw[ah] at q;cases q);refine ae (sO _ aG) (λaq aa=>?_);have dF:aq.2.1.1.1.size<=z.2.1.1.1.size:=aa.l;refine ae (rq _ aG) (λaB af=>?_);have ea:aB.2.1.1.1.size<=aq.2.1.1.1.size:=af.l;refine ae (ajU _ (by(try dsimp only);omega)) (λaK ax=>?_);have cg:aK.2.1.1.1.size<=aB.2.1.1.1.size:=ax.l;refine ae (dq (by simp only[b7];omega)) (λj2 dM=>?_);rw[fu (by simp)] at dM;exact bz ⟨⟨by dsimp only;rw[aO];omega,bB,c8⟩,by dsimp only;rw[aO];omega,(aq.1.1,aB.1.1,aK.1.1,()),dM.1,aa.pair dQ.i (af.pair dQ.s (ax.one))⟩
 ·obtain⟨bn,bB,c8⟩:=ok;unfold Bx;refine ag (λaz=>?_) (λ_=>a6 ⟨rfl,rfl,aG,c8⟩);simp only[b8,aL] at az;have ah:z.2.1.2.1=true:=by rcases ai with q|q;omega;exact q
  exact ag (λq=>by rw[ah] at q;cases q) (λ_=>a6 ⟨rfl,rfl,aG,c8⟩)
theorem aFF:∀x:U aj2,x.2.1.1.1.size<=100000->av (Ow x) (λy=>fb jW x.2.1 y.2.1 y.1.1):=by
 intro x aM;unfold Ow;refine ae (rq _ aG) (λaq aa=>?_);have dF:aq.2.1.1.1.size<=x.2.1.1.1.size:=aa.l;refine ae (sN _ aG) (λaB af=>?_);have ea:aB.2.1.1.1.size<=aq.2.1.1.1.size:=af.l;refine ae (aFC _ aq.2.1 _ rfl rfl rfl af (by(try dsimp only);omega)) (λaK bq=>?_);obtain⟨ax,_,Dg⟩:=bq;have cg:aK.2.1.1.1.size<=aq.2.1.1.1.size:=ax.l;refine ak ?_;dsimp only at Dg⊢;rw[Dg];exact aa.pair dQ.s (ax.one)
theorem aFo (b:a_ .i64×a_ .i64×a_ .i64×a_ .i64×dY×dY×L (D bp)×L (D c7)×Unit×Unit):∀(eC:D [.str,.bool])(bk:U We),bk.1.2.2.2.1.1=0->bk.2.2.1.1=b.1->bk.2.2.1.2.1=b.2.1->bk.2.2.1.2.2.1=b.2.2.1->bk.2.2.1.2.2.2.1=b.2.2.2.1->bk.2.2.1.2.2.2.2.1=b.2.2.2.2.1->bk.2.2.1.2.2.2.2.2.1=b.2.2.2.2.2.1->bk.2.2.1.2.2.2.2.2.2.1=b.2.2.2.2.2.2.1->(bk.2.2.1.2.2.2.2.2.2.2.1).1=[]->nq eC bk.2.1 bk.1.2.2.1.1->eC.1.1.size<=100000->av (a2 Bu bk) (λy=>fb (bP kj) eC y.2.1 (y.2.2.1.2.2.2.2.2.2.2.1)/\(True/\y.2.2.1.1=b.1/\y.2.2.1.2.1=b.2.1/\y.2.2.1.2.2.1=b.2.2.1/\y.2.2.1.2.2.2.1=b.2.2.2.1/\y.2.2.1.2.2.2.2.1=b.2.2.2.2.1/\y.2.2.1.2.2.2.2.2.1=b.2.2.2.2.2.1/\y.2.2.1.2.2.2.2.2.2.1=b.2.2.2.2.2.2.1)):=by
 intro eC bk aj f0 f1 f2 f3 f4 f5 f6 bZ an aM;have az:=an.g9;have aW:=an.l;refine me kj Fj ag2 Bu (λz=>z.2.2.1.2.2.2.2.2.2.2.1) (λz=>z.1.2.2.1.1-z.1.2.2.2.1.1) (λz=>z.2.1) (λy=>y.2.2.1.2.2.2.2.2.2.2.1) (λy=>y.2.1) (λz=>0<=z.1.2.2.2.1.1/\z.1.2.2.1.1<=100000/\z.2.2.1.1=b.1/\z.2.2.1.2.1=b.2.1/\z.2.2.1.2.2.1=b.2.2.1/\z.2.2.1.2.2.2.1=b.2.2.2.1/\z.2.2.1.2.2.2.2.1=b.2.2.2.2.1/\z.2.2.1.2.2.2.2.2.1=b.2.2.2.2.2.1/\z.2.2.1.2.2.2.2.2.2.1=b.2.2.2.2.2.2.1) (λy=>True/\y.2.2.1.1=b.1/\y.2.2.1.2.1=b.2.1/\y.2.2.1.2.2.1=b.2.2.1/\y.2.2.1.2.2.2.1=b.2.2.2.1/\y.2.2.1.2.2.2.2.1=b.2.2.2.2.1/\y.2.2.1.2.2.2.2.2.1=b.2.2.2.2.2.1/\y.2.2.1.2.2.2.2.2.2.1=b.2.2.2.2.2.2.1) (λz ok az ah aW ai=>?_) (λz ok ai=>?_) eC bk ⟨ab,ab,f0,f1,f2,f3,f4,f5,f6⟩ bZ (by rw[aj,Int.sub_zero];exact an) aM
 ·obtain⟨bn,bB,c8,eB,cX,eR,mS,nS,sG⟩:=ok;unfold Bu;have aO:=dG z.1.2.2.2.1 bn ab;refine av.fX ?_;refine ag (λ_=>?_) (λq=>by rw[ah] at q;cases q);refine ae (rq _ aG) (λaq aa=>?_);refine ae (sO _ aG) (λaB af=>?_);refine ae (sO _ aG) (λaK ax=>?_);refine ae (dq (by simp only[b7];omega)) (λj2 dM=>?_);rw[fu (by simp)] at dM;exact bz ⟨⟨by dsimp only;rw[aO];omega,bB,c8,eB,cX,eR,mS,nS,sG⟩,by dsimp only;rw[aO];omega,(aq.1.1,aB.1.1,aK.1.1,()),dM.1,aa.pair dQ.s (af.pair dQ.i (ax.one))⟩
 ·obtain⟨bn,bB,c8,eB,cX,eR,mS,nS,sG⟩:=ok;unfold Bu;refine ag (λaz=>?_) (λ_=>a6 ⟨rfl,rfl,aG,c8,eB,cX,eR,mS,nS,sG⟩);simp only[b8,aL] at az;have ah:z.2.1.2.1=true:=by rcases ai with q|q;omega;exact q
  exact ag (λq=>by rw[ah] at q;cases q) (λ_=>a6 ⟨rfl,rfl,aG,c8,eB,cX,eR,mS,nS,sG⟩)
theorem aFr (b:a_ .i64×a_ .i64×a_ .i64×a_ .i64×dY×dY×L (D bp)×L (D c7)×L (D fR)×Unit):∀(eC:D [.str,.bool])(bk:U Wf),bk.1.2.2.2.1.1=0->bk.2.2.1.1=b.1->bk.2.2.1.2.1=b.2.1->bk.2.2.1.2.2.1=b.2.2.1->bk.2.2.1.2.2.2.1=b.2.2.2.1->bk.2.2.1.2.2.2.2.1=b.2.2.2.2.1->bk.2.2.1.2.2.2.2.2.1=b.2.2.2.2.2.1->bk.2.2.1.2.2.2.2.2.2.1=b.2.2.2.2.2.2.1->bk.2.2.1.2.2.2.2.2.2.2.1=b.2.2.2.2.2.2.2.1->(bk.2.2.1.2.2.2.2.2.2.2.2.1).1=[]->nq eC bk.2.1 bk.1.2.2.1.1->eC.1.1.size<=100000->av (a2 Bv bk) (λy=>fb (bP jV) eC y.2.1 (y.2.2.1.2.2.2.2.2.2.2.2.1)/\(True/\y.2.2.1.1=b.1/\y.2.2.1.2.1=b.2.1/\y.2.2.1.2.2.1=b.2.2.1/\y.2.2.1.2.2.2.1=b.2.2.2.1/\y.2.2.1.2.2.2.2.1=b.2.2.2.2.1/\y.2.2.1.2.2.2.2.2.1=b.2.2.2.2.2.1/\y.2.2.1.2.2.2.2.2.2.1=b.2.2.2.2.2.2.1/\y.2.2.1.2.2.2.2.2.2.2.1=b.2.2.2.2.2.2.2.1)):=by
 intro eC bk aj f0 f1 f2 f3 f4 f5 f6 f7 bZ an aM;have az:=an.g9;have aW:=an.l;refine me jV Uw agZ Bv (λz=>z.2.2.1.2.2.2.2.2.2.2.2.1) (λz=>z.1.2.2.1.1-z.1.2.2.2.1.1) (λz=>z.2.1) (λy=>y.2.2.1.2.2.2.2.2.2.2.2.1) (λy=>y.2.1) (λz=>0<=z.1.2.2.2.1.1/\z.1.2.2.1.1<=100000/\z.2.2.1.1=b.1/\z.2.2.1.2.1=b.2.1/\z.2.2.1.2.2.1=b.2.2.1/\z.2.2.1.2.2.2.1=b.2.2.2.1/\z.2.2.1.2.2.2.2.1=b.2.2.2.2.1/\z.2.2.1.2.2.2.2.2.1=b.2.2.2.2.2.1/\z.2.2.1.2.2.2.2.2.2.1=b.2.2.2.2.2.2.1/\z.2.2.1.2.2.2.2.2.2.2.1=b.2.2.2.2.2.2.2.1) (λy=>True/\y.2.2.1.1=b.1/\y.2.2.1.2.1=b.2.1/\y.2.2.1.2.2.1=b.2.2.1/\y.2.2.1.2.2.2.1=b.2.2.2.1/\y.2.2.1.2.2.2.2.1=b.2.2.2.2.1/\y.2.2.1.2.2.2.2.2.1=b.2.2.2.2.2.1/\y.2.2.1.2.2.2.2.2.2.1=b.2.2.2.2.2.2.1/\y.2.2.1.2.2.2.2.2.2.2.1=b.2.2.2.2.2.2.2.1) (λz ok az ah aW ai=>?_) (λz ok ai=>?_) eC bk ⟨ab,ab,f0,f1,f2,f3,f4,f5,f6,f7⟩ bZ (by rw[aj,Int.sub_zero];exact an) aM
 ·obtain⟨bn,bB,c8,eB,cX,eR,mS,nS,sG,AR⟩:=ok;unfold Bv;have aO:=dG z.1.2.2.2.1 bn ab;refine av.fX ?_;refine ag (λ_=>?_) (λq=>by rw[ah] at q;cases q);refine ae (rq _ aG) (λaq aa=>?_);have dF:aq.2.1.1.1.size<=z.2.1.1.1.size:=aa.l;refine ae (rq _ aG) (λaB af=>?_);have ea:aB.2.1.1.1.size<=aq.2.1.1.1.size:=af.l;refine ae (aj1 _ (by(try dsimp only);omega)) (λaK ax=>?_);have cg:aK.2.1.1.1.size<=aB.2.1.1.1.size:=ax.l;refine ae (dq (by simp only[b7];omega)) (λj2 dM=>?_);rw[fu (by simp)] at dM;exact bz ⟨⟨by dsimp only;rw[aO];omega,bB,c8,eB,cX,eR,mS,nS,sG,AR⟩,by dsimp only;rw[aO];omega,(aq.1.1,aB.1.1,aK.1.1,()),dM.1,aa.pair dQ.s (af.pair dQ.s (ax.one))⟩
 ·obtain⟨bn,bB,c8,eB,cX,eR,mS,nS,sG,AR⟩:=ok;unfold Bv;refine ag (λaz=>?_) (λ_=>a6 ⟨rfl,rfl,aG,c8,eB,cX,eR,mS,nS,sG,AR⟩);simp only[b8,aL] at az;have ah:z.2.1.2.1=true:=by rcases ai with q|q;omega;exact q
  exact ag (λq=>by rw[ah] at q;cases q) (λ_=>a6 ⟨rfl,rfl,aG,c8,eB,cX,eR,mS,nS,sG,AR⟩)
theorem aFu:∀x:U ajY,x.2.1.1.1.size<=100000->av (Ov x) (λy=>fb g5 x.2.1 y.2.1 y.1.1):=by
 intro x aM;unfold Ov;refine ae (sO _ aG) (λaq aa=>?_);have dF:aq.2.1.1.1.size<=x.2.1.1.1.size:=aa.l;refine ae (sO _ aG) (λaB af=>?_);have ea:aB.2.1.1.1.size<=aq.2.1.1.1.size:=af.l;refine ae (sO _ aG) (λaK ax=>?_);have cg:aK.2.1.1.1.size<=aB.2.1.1.1.size:=ax.l;refine ae (ajP _ aG) (λaS a8=>?_);have jj:aS.2.1.1.1.size<=aK.2.1.1.1.size:=a8.l;refine ae (rq _ aG) (λa9 cn=>?_);have gV:a9.2.1.1.1.size<=aS.2.1.1.1.size:=cn.l;refine ae (rq _ aG) (λbJ da=>?_);have iB:bJ.2.1.1.1.size<=a9.2.1.1.1.size:=da.l;refine ae (aj1 _ (by(try dsimp only);omega)) (λbK dS=>?_);have iV:bK.2.1.1.1.size<=bJ.2.1.1.1.size:=dS.l;refine ae (sN _ aG) (λcl ez=>?_);have jK:cl.2.1.1.1.size<=bK.2.1.1.1.size:=ez.l;refine ae (aFo _ bK.2.1 _ rfl rfl rfl rfl rfl rfl rfl rfl rfl ez (by(try dsimp only);omega)) (λbO ic=>?_);obtain⟨dM,_,aap,aaq,aar,aas,aat,aau,aav⟩:=ic;have j2:bO.2.1.1.1.size<=bK.2.1.1.1.size:=dM.l;refine ae (sN _ aG) (λcc gK=>?_);have oz:cc.2.1.1.1.size<=bO.2.1.1.1.size:=gK.l;refine ae (aFr _ bO.2.1 _ rfl rfl rfl rfl rfl rfl rfl rfl rfl rfl gK (by(try dsimp only);omega)) (λbT kn=>?_);obtain⟨iS,_,aae,aaf,aag,aah,aai,aaj,aak,aal⟩:=kn;have p2:bT.2.1.1.1.size<=bO.2.1.1.1.size:=iS.l;refine ak ?_;dsimp only at aap aaq aar aas aat aau aav aae aaf aag aah aai aaj aak aal⊢;rw[aae];rw[aaf];rw[aag];rw[aah];rw[aai];rw[aaj];rw[aak];rw[aal];rw[aap];rw[aaq];rw[aar];rw[aas];rw[aat];rw[aau];rw[aav];exact aa.pair dQ.i (af.pair dQ.i (ax.pair dQ.i (a8.pair dQ.i (cn.pair dQ.s (da.pair dQ.s (dS.pair A8.l (dM.pair Fj.l (iS.one))))))))
theorem aFU (b:dY×L (D g4)×a_ .i64×Unit×Unit):∀(eC:D [.str,.bool])(bk:U Wm),bk.1.2.2.2.1.1=0->bk.2.2.1.1=b.1->bk.2.2.1.2.2.1=b.2.2.1->(bk.2.2.1.2.1).1=[]->nq eC bk.2.1 bk.1.2.2.1.1->eC.1.1.size<=100000->av (a2 BB bk) (λy=>fb (bP gx) eC y.2.1 (y.2.2.1.2.1)/\(True/\y.2.2.1.1=b.1/\y.2.2.1.2.2.1=b.2.2.1)):=by
 intro eC bk aj f0 f1 bZ an aM;have az:=an.g9;have aW:=an.l;refine me gx zv agY BB (λz=>z.2.2.1.2.1) (λz=>z.1.2.2.1.1-z.1.2.2.2.1.1) (λz=>z.2.1) (λy=>y.2.2.1.2.1) (λy=>y.2.1) (λz=>0<=z.1.2.2.2.1.1/\z.1.2.2.1.1<=100000/\z.2.2.1.1=b.1/\z.2.2.1.2.2.1=b.2.2.1) (λy=>True/\y.2.2.1.1=b.1/\y.2.2.1.2.2.1=b.2.2.1) (λz ok az ah aW ai=>?_) (λz ok ai=>?_) eC bk ⟨ab,ab,f0,f1⟩ bZ (by rw[aj,Int.sub_zero];exact an) aM
 ·obtain⟨bn,bB,c8,eB⟩:=ok;unfold BB;have aO:=dG z.1.2.2.2.1 bn ab;refine av.fX ?_;refine ag (λ_=>?_) (λq=>by rw[ah] at q;cases q);refine ae (ajX _ aG) (λaq aa=>?_);refine ae (dq (by simp only[b7];omega)) (λj2 dM=>?_);rw[fu (by simp)] at dM;exact bz ⟨⟨by dsimp only;rw[aO];omega,bB,c8,eB⟩,by dsimp only;rw[aO];omega,aq.1.1,dM.1,aa⟩
 ·obtain⟨bn,bB,c8,eB⟩:=ok;unfold BB;refine ag (λaz=>?_) (λ_=>a6 ⟨rfl,rfl,aG,c8,eB⟩);simp only[b8,aL] at az;have ah:z.2.1.2.1=true:=by rcases ai with q|q;omega;exact q
  exact ag (λq=>by rw[ah] at q;cases q) (λ_=>a6 ⟨rfl,rfl,aG,c8,eB⟩)
theorem aFX (b:dY×L (D g4)×a_ .i64×L (D eI)×Unit):∀(eC:D [.str,.bool])(bk:U Wn),bk.1.2.2.2.1.1=0->bk.2.2.1.1=b.1->bk.2.2.1.2.1=b.2.1->bk.2.2.1.2.2.1=b.2.2.1->(bk.2.2.1.2.2.2.1).1=[]->nq eC bk.2.1 bk.1.2.2.1.1->eC.1.1.size<=100000->av (a2 BC bk) (λy=>fb (bP g5) eC y.2.1 (y.2.2.1.2.2.2.1)/\(True/\y.2.2.1.1=b.1/\y.2.2.1.2.1=b.2.1/\y.2.2.1.2.2.1=b.2.2.1)):=by
 intro eC bk aj f0 f1 f2 bZ an aM;have az:=an.g9;have aW:=an.l;refine me g5 Ux ag0 BC (λz=>z.2.2.1.2.2.2.1) (λz=>z.1.2.2.1.1-z.1.2.2.2.1.1) (λz=>z.2.1) (λy=>y.2.2.1.2.2.2.1) (λy=>y.2.1) (λz=>0<=z.1.2.2.2.1.1/\z.1.2.2.1.1<=100000/\z.2.2.1.1=b.1/\z.2.2.1.2.1=b.2.1/\z.2.2.1.2.2.1=b.2.2.1) (λy=>True/\y.2.2.1.1=b.1/\y.2.2.1.2.1=b.2.1/\y.2.2.1.2.2.1=b.2.2.1) (λz ok az ah aW ai=>?_) (λz ok ai=>?_) eC bk ⟨ab,ab,f0,f1,f2⟩ bZ (by rw[aj,Int.sub_zero];exact an) aM
 ·obtain⟨bn,bB,c8,eB,cX⟩:=ok;unfold BC;have aO:=dG z.1.2.2.2.1 bn ab;refine av.fX ?_;refine ag (λ_=>?_) (λq=>by rw[ah] at q;cases q);refine ae (aFu _ (by(try dsimp only);omega)) (λaq aa=>?_);have dF:aq.2.1.1.1.size<=z.2.1.1.1.size:=aa.l;refine ae (dq (by simp only[b7];omega)) (λj2 dM=>?_);rw[fu (by simp)] at dM;exact bz ⟨⟨by dsimp only;rw[aO];omega,bB,c8,eB,cX⟩,by dsimp only;rw[aO];omega,aq.1.1,dM.1,aa⟩
 ·obtain⟨bn,bB,c8,eB,cX⟩:=ok;unfold BC;refine ag (λaz=>?_) (λ_=>a6 ⟨rfl,rfl,aG,c8,eB,cX⟩);simp only[b8,aL] at az;have ah:z.2.1.2.1=true:=by rcases ai with q|q;omega;exact q
  exact ag (λq=>by rw[ah] at q;cases q) (λ_=>a6 ⟨rfl,rfl,aG,c8,eB,cX⟩)
theorem aF0:∀x:U aj5,x.2.1.1.1.size<=100000->av (Oz x) (λy=>fb jd x.2.1 y.2.1 y.1.1):=by
 intro x aM;unfold Oz;refine ae (rq _ aG) (λaq aa=>?_);have dF:aq.2.1.1.1.size<=x.2.1.1.1.size:=aa.l;refine ae (sN _ aG) (λaB af=>?_);have ea:aB.2.1.1.1.size<=aq.2.1.1.1.size:=af.l;refine ae (aFU _ aq.2.1 _ rfl rfl rfl rfl af (by(try dsimp only);omega)) (λaK bq=>?_);obtain⟨ax,_,Dg,aam⟩:=bq;have cg:aK.2.1.1.1.size<=aq.2.1.1.1.size:=ax.l;refine ae (sO _ aG) (λaS a8=>?_);have jj:aS.2.1.1.1.size<=aK.2.1.1.1.size:=a8.l;refine ae (sN _ aG) (λa9 cn=>?_);have gV:a9.2.1.1.1.size<=aS.2.1.1.1.size:=cn.l;refine ae (aFX _ aS.2.1 _ rfl rfl rfl rfl rfl cn (by(try dsimp only);omega)) (λbJ fy=>?_);obtain⟨da,_,Di,Dj,aao⟩:=fy;have iB:bJ.2.1.1.1.size<=aS.2.1.1.1.size:=da.l;refine ak ?_;dsimp only at Dg aam Di Dj aao⊢
 try rw[Di]
 try rw[Dj]
 try rw[aao]
 try rw[Dg]
 try rw[aam]
 exact aa.pair dQ.s (ax.pair zv.l (a8.pair dQ.i (da.one)))
theorem aFI:∀(eC:D [.str,.bool])(bk:U Wj),bk.1.2.2.2.1.1=0->(bk.2.2.1.1).1=[]->nq eC bk.2.1 bk.1.2.2.1.1->eC.1.1.size<=100000->av (a2 By bk) (λy=>fb (bP je) eC y.2.1 (y.2.2.1.1)/\(True)):=by
 intro eC bk aj bZ an aM;have az:=an.g9;have aW:=an.l;refine me je Fl ag5 By (λz=>z.2.2.1.1) (λz=>z.1.2.2.1.1-z.1.2.2.2.1.1) (λz=>z.2.1) (λy=>y.2.2.1.1) (λy=>y.2.1) (λz=>0<=z.1.2.2.2.1.1/\z.1.2.2.1.1<=100000) (λy=>True) (λz ok az ah aW ai=>?_) (λz ok ai=>?_) eC bk ⟨ab,ab⟩ bZ (by rw[aj,Int.sub_zero];exact an) aM
 ·obtain⟨bn,bB⟩:=ok;unfold By;have aO:=dG z.1.2.2.2.1 bn ab;refine av.fX ?_;refine ag (λ_=>?_) (λq=>by rw[ah] at q;cases q);refine ae (aF6 _ (by(try dsimp only);omega)) (λaq aa=>?_);have dF:aq.2.1.1.1.size<=z.2.1.1.1.size:=aa.l;refine ae (dq (by simp only[b7];omega)) (λj2 dM=>?_);rw[fu (by simp)] at dM;exact bz ⟨⟨by dsimp only;rw[aO];omega,bB⟩,by dsimp only;rw[aO];omega,aq.1.1,dM.1,aa⟩
 ·obtain⟨bn,bB⟩:=ok;unfold By;refine ag (λaz=>?_) (λ_=>a6 ⟨rfl,rfl,aG⟩);simp only[b8,aL] at az;have ah:z.2.1.2.1=true:=by rcases ai with q|q;omega;exact q
  exact ag (λq=>by rw[ah] at q;cases q) (λ_=>a6 ⟨rfl,rfl,aG⟩)
theorem aFL (b:L (D du)×L (D dZ)×Unit×Unit):∀(eC:D [.str,.bool])(bk:U Wk),bk.1.2.2.2.1.1=0->bk.2.2.1.1=b.1->(bk.2.2.1.2.1).1=[]->nq eC bk.2.1 bk.1.2.2.1.1->eC.1.1.size<=100000->av (a2 Bz bk) (λy=>fb (bP jW) eC y.2.1 (y.2.2.1.2.1)/\(True/\y.2.2.1.1=b.1)):=by
 intro eC bk aj f0 bZ an aM;have az:=an.g9;have aW:=an.l;refine me jW Fk ag3 Bz (λz=>z.2.2.1.2.1) (λz=>z.1.2.2.1.1-z.1.2.2.2.1.1) (λz=>z.2.1) (λy=>y.2.2.1.2.1) (λy=>y.2.1) (λz=>0<=z.1.2.2.2.1.1/\z.1.2.2.1.1<=100000/\z.2.2.1.1=b.1) (λy=>True/\y.2.2.1.1=b.1) (λz ok az ah aW ai=>?_) (λz ok ai=>?_) eC bk ⟨ab,ab,f0⟩ bZ (by rw[aj,Int.sub_zero];exact an) aM
 ·obtain⟨bn,bB,c8⟩:=ok;unfold Bz;have aO:=dG z.1.2.2.2.1 bn ab;refine av.fX ?_;refine ag (λ_=>?_) (λq=>by rw[ah] at q;cases q);refine ae (aFF _ (by(try dsimp only);omega)) (λaq aa=>?_);have dF:aq.2.1.1.1.size<=z.2.1.1.1.size:=aa.l;refine ae (dq (by simp only[b7];omega)) (λj2 dM=>?_);rw[fu (by simp)] at dM;exact bz ⟨⟨by dsimp only;rw[aO];omega,bB,c8⟩,by dsimp only;rw[aO];omega,aq.1.1,dM.1,aa⟩
 ·obtain⟨bn,bB,c8⟩:=ok;unfold Bz;refine ag (λaz=>?_) (λ_=>a6 ⟨rfl,rfl,aG,c8⟩);simp only[b8,aL] at az;have ah:z.2.1.2.1=true:=by rcases ai with q|q;omega;exact q
  exact ag (λq=>by rw[ah] at q;cases q) (λ_=>a6 ⟨rfl,rfl,aG,c8⟩)
theorem aFO (b:L (D du)×L (D dZ)×L (D iP)×Unit):∀(eC:D [.str,.bool])(bk:U Wl),bk.1.2.2.2.1.1=0->bk.2.2.1.1=b.1->bk.2.2.1.2.1=b.2.1->(bk.2.2.1.2.2.1).1=[]->nq eC bk.2.1 bk.1.2.2.1.1->eC.1.1.size<=100000->av (a2 BA bk) (λy=>fb (bP jd) eC y.2.1 (y.2.2.1.2.2.1)/\(True/\y.2.2.1.1=b.1/\y.2.2.1.2.1=b.2.1)):=by
 intro eC bk aj f0 f1 bZ an aM;have az:=an.g9;have aW:=an.l;refine me jd Uy ag4 BA (λz=>z.2.2.1.2.2.1) (λz=>z.1.2.2.1.1-z.1.2.2.2.1.1) (λz=>z.2.1) (λy=>y.2.2.1.2.2.1) (λy=>y.2.1) (λz=>0<=z.1.2.2.2.1.1/\z.1.2.2.1.1<=100000/\z.2.2.1.1=b.1/\z.2.2.1.2.1=b.2.1) (λy=>True/\y.2.2.1.1=b.1/\y.2.2.1.2.1=b.2.1) (λz ok az ah aW ai=>?_) (λz ok ai=>?_) eC bk ⟨ab,ab,f0,f1⟩ bZ (by rw[aj,Int.sub_zero];exact an) aM
 ·obtain⟨bn,bB,c8,eB⟩:=ok;unfold BA;have aO:=dG z.1.2.2.2.1 bn ab;refine av.fX ?_;refine ag (λ_=>?_) (λq=>by rw[ah] at q;cases q);refine ae (aF0 _ (by(try dsimp only);omega)) (λaq aa=>?_);have dF:aq.2.1.1.1.size<=z.2.1.1.1.size:=aa.l;refine ae (dq (by simp only[b7];omega)) (λj2 dM=>?_);rw[fu (by simp)] at dM;exact bz ⟨⟨by dsimp only;rw[aO];omega,bB,c8,eB⟩,by dsimp only;rw[aO];omega,aq.1.1,dM.1,aa⟩
 ·obtain⟨bn,bB,c8,eB⟩:=ok;unfold BA;refine ag (λaz=>?_) (λ_=>a6 ⟨rfl,rfl,aG,c8,eB⟩);simp only[b8,aL] at az;have ah:z.2.1.2.1=true:=by rcases ai with q|q;omega;exact q
  exact ag (λq=>by rw[ah] at q;cases q) (λ_=>a6 ⟨rfl,rfl,aG,c8,eB⟩)
theorem aFR:∀x:U aj4,x.2.1.1.1.size<=100000->av (Ox x) (λy=>fb jG x.2.1 y.2.1 y.1.1):=by
 intro x aM;unfold Ox;refine ae (sN _ aG) (λaq aa=>?_);have dF:aq.2.1.1.1.size<=x.2.1.1.1.size:=aa.l;refine ae (aFI x.2.1 _ rfl rfl aa (by(try dsimp only);omega)) (λaB aQ=>?_);obtain⟨af,_⟩:=aQ;have ea:aB.2.1.1.1.size<=x.2.1.1.1.size:=af.l;refine ae (sN _ aG) (λaK ax=>?_);have cg:aK.2.1.1.1.size<=aB.2.1.1.1.size:=ax.l;refine ae (aFL _ aB.2.1 _ rfl rfl rfl ax (by(try dsimp only);omega)) (λaS cA=>?_);obtain⟨a8,_,Dh⟩:=cA;have jj:aS.2.1.1.1.size<=aB.2.1.1.1.size:=a8.l;refine ae (sN _ aG) (λa9 cn=>?_);have gV:a9.2.1.1.1.size<=aS.2.1.1.1.size:=cn.l;refine ae (aFO _ aS.2.1 _ rfl rfl rfl rfl cn (by(try dsimp only);omega)) (λbJ fy=>?_);obtain⟨da,_,Di,Dj⟩:=fy;have iB:bJ.2.1.1.1.size<=aS.2.1.1.1.size:=da.l;refine ak ?_;dsimp only at Dh Di Dj⊢;rw[Di];rw[Dj];rw[Dh];exact af.pair Fl.l (a8.pair Fk.l (da.one))
theorem aFc:∀x:U ajJ,True->av (Ot x) (λy=>(y.1.2.1.1=0/\okB (a7 x.1.1) y.1.1)\/(y.1.2.1.1=3301/\y.1.1=(L.nil,L.nil,L.nil,())/\∀m,¬okB (a7 x.1.1) m)):=by
 intro x _;unfold Ot;have aW:=a7.len x.1.1;have bad:(∀m,¬okB (a7 x.1.1) m)->av (some (((L.nil,L.nil,L.nil,()),(W 3301),()),())) (λy:U ajK=>(y.1.2.1.1=0/\okB (a7 x.1.1) y.1.1)\/(y.1.2.1.1=3301/\y.1.1=(L.nil,L.nil,L.nil,())/\∀m,¬okB (a7 x.1.1) m)):=λh=>ak (.inr ⟨rfl,rfl,h⟩);refine ag (λah=>bad λm hm=>?_) (λah=>?_)
 ·simp only[b8,aL] at ah;have:=hm.len;have:=Zr m;omega
 simp only[b8,aL] at ah;refine ag (λaR=>bad λm hm=>?_) (λaR=>?_)
 ·simp only[b8,aL] at aR;have:=hm.1;omega
 simp only[b8,aL] at aR;have i4:(W 4).1=4:=rfl;refine ae (ur (by rw[i4];omega)) (λv1 aa=>?_);have aa:a7 v1=(a7 x.1.1).take 4:=aa;refine ag (λbM=>bad λm hm=>?_) (λbM=>?_)
 ·simp only[b8] at bM;apply bM;refine wB bu ?_;rw[aa,hm.2];unfold jv;rw[cN];rfl
 simp only[b8] at bM;have aa:(a7 x.1.1).take 4=tu:=by rw[<-aa,bM];exact z0 bu
 have aj:=Tv (s:=x.1.1) ab;refine ae (ur (by rw[aj,i4];omega)) (λv2 af=>?_);have af:a7 v2=((a7 x.1.1).drop 4).take (x.1.1.1.size-8):=by
  rw[af,aj,i4];rw[show(((x.1.1.1.size-4:Nat):Int)-4).toNat=x.1.1.1.size-8 by omega];rfl
 have ea:=congrArg List.length af;rw[a7.len,List.length_take,List.length_drop,a7.len] at ea;have A1:∀m,okB (a7 x.1.1) m->a7 v2=jG m:=λm hm=>by
  have az:=hm.len;have e:a7 x.1.1=tu++(jG m++oX (ld (jv m))):=by rw[hm.2];unfold jv;rw[cN]
  rw[af,e,show(4:Nat)=tu.length from rfl,List.drop_left,show x.1.1.1.size-8=(jG m).length by omega,List.take_left]
 refine ae (aFR _ (by dsimp only;omega)) (λaK g=>?_);have g:fb jG (v2,false,()) aK.2.1 aK.1.1:=g;refine ag (λdP=>bad λm hm=>?_) (λdP=>?_)
 ·have dP:aK.2.1.2.1=true:=dP;exact g.n rfl dP m [] (by rw[dr];exact A1 m hm)
 have dP:aK.2.1.2.1=false:=dP;have cj:=g.g rfl dP;dsimp only at cj;refine ag (λfO=>bad λm hm=>?_) (λfO=>?_)
 ·simp only[b8] at fO;apply fO;refine wB bu ?_;rw[A1 m hm] at cj;have yH:jG m++[]=jG aK.1.1++a7 aK.2.1.1:=by rw[dr];exact cj
  exact(Mv _ _ _ _ yH).2.symm
 simp only[b8] at fO;rw[fO,z0 bu] at cj;have cj:a7 v2=jG aK.1.1:=by rw[cj];simp
 have ap_:=congrArg List.length cj;rw[a7.len] at ap_;have same:∀m,okB (a7 x.1.1) m->m=aK.1.1:=λm hm=>by
  have e:jG m++[]=jG aK.1.1++[]:=by rw[<-A1 m hm,cj]
  exact(Mv _ _ _ _ e).1
 refine ae (akj _ (by dsimp only;omega)) (λaS a8=>?_);dsimp only at a8;refine ag (λgD=>bad λm hm=>?_) (λgD=>?_)
 ·simp only[b8] at gD;apply gD;have AF:=hm;rw[same m hm] at AF;have hle:=AF.1;rw[AF.2,bw,Am] at hle;rw[if_neg ab] at a8;rw[a8.2];rfl
 simp only[b8] at gD;have ba:aS.1.2.1.1=0:=gD;by_cases an:65536<(jv aK.1.1).length+4
 ·rw[if_pos an] at a8;have:=a8.2;omega
 rw[if_neg an] at a8;refine ag (λie=>bad λm hm=>?_) (λie=>?_)
 ·simp only[b8] at ie;apply ie;apply a7.inj;rw[a8.1,hm.2,same m hm]
 ·simp only[b8] at ie;refine ak (.inl ⟨rfl,?_,?_⟩)
  ·rw[<-ie,a8.1,bw,Am];omega
  ·rw[<-ie];exact a8.1
theorem aNM {l:List UInt8}{aE aP:Int}{eB cX:D jD}(aa:(aE=0/\okB l eB)\/(aE=3301/\eB=(L.nil,L.nil,L.nil,())/\∀m,¬okB l m))(af:(aP=0/\okB l cX)\/(aP=3301/\cX=(L.nil,L.nil,L.nil,())/\∀m,¬okB l m)):aE=aP/\eB=cX:=by
 rcases aa with⟨a,b⟩|⟨a,b,c⟩<;>rcases af with⟨c9,fZ⟩|⟨c9,fZ,c'⟩
 ·refine⟨by rw[a,c9],?_⟩;have e:jv eB++oX (ld (jv eB))=jv cX++oX (ld (jv cX)):=by rw[<-b.2,fZ.2]
  unfold jv at e;rw[cN,cN] at e;exact(Mv _ _ _ _ (List.append_cancel_left e)).1
 ·exact absurd b (c' _)
 ·exact absurd fZ (c _)
 ·exact⟨by rw[a,c9],by rw[b,fZ]⟩
theorem ke {k:IntKind}(a:a_ k):bb a a=true:=by rw[acj]
theorem jH (s:dY):cz s s=true:=by rw[Z_]
theorem av.no {α:Type}{b:Bool}{x y:Option α}{P:α->Prop}(ah:b=false)(h:av y P):av (cond b x y) P:=by rw[ah];exact h
theorem av.yes {α:Type}{b:Bool}{x y:Option α}{P:α->Prop}(ah:b=true)(h:av x P):av (cond b x y) P:=by rw[ah];exact h
theorem sQ {Z dJ di:Type}(h:Z->Option (Z⊕(dJ⊕di)))(n:Nat)(az:n<=9223372036854775806)(gE:Z->a_ .i64)(ok:Z->Prop)(step:∀z,ok z->0<=(gE z).1->(gE z).1<(n:Nat)->av (h z) (Sum.elim (λfB=>ok fB/\gE fB=bc (gE z) (W 1)) (λ_=>False)))(stop:∀z,ok z->(n:Nat)<=(gE z).1->av (h z) (Sum.elim (λ_=>False) (λy=>∃u,y=.inl u))):
 ∀bk,ok bk->(gE bk).1=0->av (a2 h bk) (λy=>∃u,y=.inl u):=by
 intro bk ba aj;refine cS (λz=>ok z/\0<=(gE z).1) (λz=>((n:Nat)-(gE z).1:Int).toNat) (λz ai=>?_) bk ⟨ba,ab⟩;obtain⟨eg,e3⟩:=ai;by_cases ah:(gE z).1<(n:Nat)
 ·refine(step z eg e3 ah).mono λr aU=>?_;cases r with
  |inl fB=>
   have aO:=dG (gE z) e3 ab;exact⟨⟨aU.1,by rw[aU.2,aO];omega⟩,by rw[aU.2,aO];omega⟩
  |inr y=>exact absurd aU id
 ·refine(stop z eg ab).mono λr aU=>?_;cases r with
  |inl fB=>exact absurd aU id
  |inr y=>exact aU
theorem aKi (a:L (D ck)):∀bk:U Xe,bk.1.1=a/\bk.1.2.1=a->bk.1.2.2.1.1=0->av (a2 B7 bk) (λy=>∃u,y=.inl u):=by
 have aW:=L.b a;refine sQ B7 a.1.length ab (λz=>z.1.2.2.1) (λz=>z.1.1=a/\z.1.2.1=a) (λz ai ba bl=>?_) (λz ai hle=>?_)
 ·unfold B7;rw[ai.1,ai.2];refine av.fX ?_;refine ae (dg ⟨ba,bl⟩) (λaE cw=>?_);refine ae (dg ⟨ba,bl⟩) (λaP cP=>?_);obtain rfl:=eF (cw.symm.trans cP);refine av.no (by simp[ke,jH]) ?_;exact bz ⟨⟨rfl,rfl⟩,rfl⟩
 ·unfold B7;rw[ai.1,ai.2];exact av.jk (a6 ⟨_,rfl⟩)
theorem aKh (a:L (D ck)):av (PA ((a,a,()),())) (λy=>y.1.1=true):=by
 unfold PA;refine av.no (by simp[ke,jH]) ?_;refine ae (aKi a _ ⟨rfl,rfl⟩ rfl) (λy h=>?_);obtain⟨u,rfl⟩:=h;dsimp only[Sum.elim_inl];exact ak rfl
theorem aKc (a:L (D dN)):∀bk:U Xd,bk.1.1=a/\bk.1.2.1=a->bk.1.2.2.1.1=0->av (a2 B6 bk) (λy=>∃u,y=.inl u):=by
 have aW:=L.b a;refine sQ B6 a.1.length ab (λz=>z.1.2.2.1) (λz=>z.1.1=a/\z.1.2.1=a) (λz ai ba bl=>?_) (λz ai hle=>?_)
 ·unfold B6;rw[ai.1,ai.2];refine av.fX ?_;refine ae (dg ⟨ba,bl⟩) (λaE cw=>?_);refine ae (dg ⟨ba,bl⟩) (λaP cP=>?_);obtain rfl:=eF (cw.symm.trans cP);refine av.no (by simp[ke,jH]) ?_;exact bz ⟨⟨rfl,rfl⟩,rfl⟩
 ·unfold B6;rw[ai.1,ai.2];exact av.jk (a6 ⟨_,rfl⟩)
theorem alq (a:L (D dN)):av (HJ ((a,a,()),())) (λy=>y.1.1=true):=by
 unfold HJ;refine av.no (by simp[ke,jH]) ?_;refine ae (aKc a _ ⟨rfl,rfl⟩ rfl) (λy h=>?_);obtain⟨u,rfl⟩:=h;dsimp only[Sum.elim_inl];exact ak rfl
theorem aKp (a:L (D fS)):∀bk:U Xf,bk.1.1=a/\bk.1.2.1=a->bk.1.2.2.1.1=0->av (a2 B8 bk) (λy=>∃u,y=.inl u):=by
 have aW:=L.b a;refine sQ B8 a.1.length ab (λz=>z.1.2.2.1) (λz=>z.1.1=a/\z.1.2.1=a) (λz ai ba bl=>?_) (λz ai hle=>?_)
 ·unfold B8;rw[ai.1,ai.2];refine av.fX ?_;refine ae (dg ⟨ba,bl⟩) (λaE cw=>?_);refine ae (dg ⟨ba,bl⟩) (λaP cP=>?_);obtain rfl:=eF (cw.symm.trans cP);refine av.no (by simp[ke,jH]) ?_;refine ae (dg ⟨ba,bl⟩) (λbS eM=>?_);obtain rfl:=eF (cw.symm.trans eM);refine ae (dg ⟨ba,bl⟩) (λcR fg=>?_);obtain rfl:=eF (cw.symm.trans fg);refine av.no (by simp[ke,jH]) ?_;refine ae (dg ⟨ba,bl⟩) (λdO fV=>?_);obtain rfl:=eF (cw.symm.trans fV);refine ae (dg ⟨ba,bl⟩) (λdb fY=>?_);obtain rfl:=eF (cw.symm.trans fY);refine ae (alq _) (λy h=>?_);refine av.no (by rw[h];rfl) ?_;exact bz ⟨⟨rfl,rfl⟩,rfl⟩
 ·unfold B8;rw[ai.1,ai.2];exact av.jk (a6 ⟨_,rfl⟩)
theorem aKo (a:L (D fS)):av (PB ((a,a,()),())) (λy=>y.1.1=true):=by
 unfold PB;refine av.no (by simp[ke,jH]) ?_;refine ae (aKp a _ ⟨rfl,rfl⟩ rfl) (λy h=>?_);obtain⟨u,rfl⟩:=h;dsimp only[Sum.elim_inl];exact ak rfl
theorem aAc (a:D du):∀bk:U U0,bk.1.1=a/\bk.1.2.1=a->bk.1.2.2.1.1=0->av (a2 Bi bk) (λy=>∃u,y=.inl u):=by
 have aW:=L.b a.2.2.1;refine sQ Bi a.2.2.1.1.length ab (λz=>z.1.2.2.1) (λz=>z.1.1=a/\z.1.2.1=a) (λz ai ba bl=>?_) (λz ai hle=>?_)
 ·unfold Bi;rw[ai.1,ai.2];refine av.fX ?_;refine ae (dg ⟨ba,bl⟩) (λaE cw=>?_);refine ae (dg ⟨ba,bl⟩) (λaP cP=>?_);obtain rfl:=eF (cw.symm.trans cP);refine av.no (by simp[ke,jH]) ?_;refine ae (dg ⟨ba,bl⟩) (λbS eM=>?_);obtain rfl:=eF (cw.symm.trans eM);refine ae (dg ⟨ba,bl⟩) (λcR fg=>?_);obtain rfl:=eF (cw.symm.trans fg);refine av.no (by simp[ke,jH]) ?_;refine ae (dg ⟨ba,bl⟩) (λdO fV=>?_);obtain rfl:=eF (cw.symm.trans fV);refine ae (dg ⟨ba,bl⟩) (λdb fY=>?_);obtain rfl:=eF (cw.symm.trans fY);refine ae (alq _) (λy h=>?_);refine av.no (by rw[h];rfl) ?_;exact bz ⟨⟨rfl,rfl⟩,rfl⟩
 ·unfold Bi;rw[ai.1,ai.2];exact av.jk (a6 ⟨_,rfl⟩)
theorem aAb (a:D du):av (M3 ((a,a,()),())) (λy=>y.1.1=true):=by
 unfold M3;refine av.no (by simp[ke,jH]) ?_;refine ae (aKh _) (λy h=>?_);refine av.no (by rw[h];rfl) ?_;refine av.no (by simp[ke,jH]) ?_;refine ae (aAc a _ ⟨rfl,rfl⟩ rfl) (λy h=>?_);obtain⟨u,rfl⟩:=h;dsimp only[Sum.elim_inl];exact ak rfl
theorem az7 (a:L (D bp)):∀bk:U UZ,bk.1.1=a/\bk.1.2.1=a->bk.1.2.2.1.1=0->av (a2 Bh bk) (λy=>∃u,y=.inl u):=by
 have aW:=L.b a;refine sQ Bh a.1.length ab (λz=>z.1.2.2.1) (λz=>z.1.1=a/\z.1.2.1=a) (λz ai ba bl=>?_) (λz ai hle=>?_)
 ·unfold Bh;rw[ai.1,ai.2];refine av.fX ?_;refine ae (dg ⟨ba,bl⟩) (λaE cw=>?_);refine ae (dg ⟨ba,bl⟩) (λaP cP=>?_);obtain rfl:=eF (cw.symm.trans cP);refine av.no (by simp[ke,jH]) ?_;exact bz ⟨⟨rfl,rfl⟩,rfl⟩
 ·unfold Bh;rw[ai.1,ai.2];exact av.jk (a6 ⟨_,rfl⟩)
theorem ahs (a:L (D bp)):av (FM ((a,a,()),())) (λy=>y.1.1=true):=by
 unfold FM;refine av.no (by simp[ke,jH]) ?_;refine ae (az7 a _ ⟨rfl,rfl⟩ rfl) (λy h=>?_);obtain⟨u,rfl⟩:=h;dsimp only[Sum.elim_inl];exact ak rfl
theorem aII (a:D dZ):av (O9 ((a,a,()),())) (λy=>y.1.1=true):=by
 unfold O9;refine av.yes (jH _) ?_;exact ae (aKo _) (λy h=>ak h)
theorem aGj (a:D eI):∀bk:U Ws,bk.1.1=a/\bk.1.2.1=a->bk.1.2.2.1.1=0->av (a2 BG bk) (λy=>∃u,y=.inl u):=by
 have aW:=L.b a.2.2.2.2.2.2.2.1;refine sQ BG a.2.2.2.2.2.2.2.1.1.length ab (λz=>z.1.2.2.1) (λz=>z.1.1=a/\z.1.2.1=a) (λz ai ba bl=>?_) (λz ai hle=>?_)
 ·unfold BG;rw[ai.1,ai.2];refine av.fX ?_;refine ae (dg ⟨ba,bl⟩) (λaE cw=>?_);refine ae (dg ⟨ba,bl⟩) (λaP cP=>?_);obtain rfl:=eF (cw.symm.trans cP);refine av.no (by simp[ke,jH]) ?_;exact bz ⟨⟨rfl,rfl⟩,rfl⟩
 ·unfold BG;rw[ai.1,ai.2];exact av.jk (a6 ⟨_,rfl⟩)
theorem aGm (a:D eI):∀bk:U Wt,bk.1.1=a/\bk.1.2.1=a->bk.1.2.2.1.1=0->av (a2 BH bk) (λy=>∃u,y=.inl u):=by
 have aW:=L.b a.2.2.2.2.2.2.2.2.1;refine sQ BH a.2.2.2.2.2.2.2.2.1.1.length ab (λz=>z.1.2.2.1) (λz=>z.1.1=a/\z.1.2.1=a) (λz ai ba bl=>?_) (λz ai hle=>?_)
 ·unfold BH;rw[ai.1,ai.2];refine av.fX ?_;refine ae (dg ⟨ba,bl⟩) (λaE cw=>?_);refine ae (dg ⟨ba,bl⟩) (λaP cP=>?_);obtain rfl:=eF (cw.symm.trans cP);refine av.no (by simp[ke,jH]) ?_;refine ae (dg ⟨ba,bl⟩) (λbS eM=>?_);obtain rfl:=eF (cw.symm.trans eM);refine ae (dg ⟨ba,bl⟩) (λcR fg=>?_);obtain rfl:=eF (cw.symm.trans fg);refine av.no (by simp[ke,jH]) ?_;refine ae (dg ⟨ba,bl⟩) (λdO fV=>?_);obtain rfl:=eF (cw.symm.trans fV);refine ae (dg ⟨ba,bl⟩) (λdb fY=>?_);obtain rfl:=eF (cw.symm.trans fY);refine ae (ahs _) (λy h=>?_);refine av.no (by rw[h];rfl) ?_;exact bz ⟨⟨rfl,rfl⟩,rfl⟩
 ·unfold BH;rw[ai.1,ai.2];exact av.jk (a6 ⟨_,rfl⟩)
theorem aGi (a:D eI):av (OD ((a,a,()),())) (λy=>y.1.1=true):=by
 unfold OD;refine av.no (by simp[ke,jH]) ?_;refine av.no (by simp[ke,jH]) ?_;refine av.no (by simp[ke,jH]) ?_;refine av.no (by simp[ke,jH]) ?_;refine av.no (by simp[ke,jH]) ?_;refine av.no (by simp[ke,jH]) ?_;refine ae (ahs _) (λy h=>?_);refine av.no (by rw[h];rfl) ?_;refine av.no (by simp[ke,jH]) ?_;refine av.no (by simp[ke,jH]) ?_;refine ae (aGj a _ ⟨rfl,rfl⟩ rfl) (λy h=>?_);obtain⟨u,rfl⟩:=h;dsimp only[Sum.elim_inl];refine ae (aGm a _ ⟨rfl,rfl⟩ rfl) (λy h=>?_);obtain⟨u,rfl⟩:=h;dsimp only[Sum.elim_inl];exact ak rfl
theorem aGc (a:L (D eI)):∀bk:U Wr,bk.1.1=a/\bk.1.2.1=a->bk.1.2.2.1.1=0->av (a2 BF bk) (λy=>∃u,y=.inl u):=by
 have aW:=L.b a;refine sQ BF a.1.length ab (λz=>z.1.2.2.1) (λz=>z.1.1=a/\z.1.2.1=a) (λz ai ba bl=>?_) (λz ai hle=>?_)
 ·unfold BF;rw[ai.1,ai.2];refine av.fX ?_;refine ae (dg ⟨ba,bl⟩) (λaE cw=>?_);refine ae (dg ⟨ba,bl⟩) (λaP cP=>?_);obtain rfl:=eF (cw.symm.trans cP);refine ae (aGi _) (λy h=>?_);refine av.no (by rw[h];rfl) ?_;exact bz ⟨⟨rfl,rfl⟩,rfl⟩
 ·unfold BF;rw[ai.1,ai.2];exact av.jk (a6 ⟨_,rfl⟩)
theorem aGb (a:L (D eI)):av (OC ((a,a,()),())) (λy=>y.1.1=true):=by
 unfold OC;refine av.no (by simp[ke,jH]) ?_;refine ae (aGc a _ ⟨rfl,rfl⟩ rfl) (λy h=>?_);obtain⟨u,rfl⟩:=h;dsimp only[Sum.elim_inl];exact ak rfl
theorem aIN (a:D iP):∀bk:U WZ,bk.1.1=a/\bk.1.2.1=a->bk.1.2.2.1.1=0->av (a2 B0 bk) (λy=>∃u,y=.inl u):=by
 have aW:=L.b a.2.1;refine sQ B0 a.2.1.1.length ab (λz=>z.1.2.2.1) (λz=>z.1.1=a/\z.1.2.1=a) (λz ai ba bl=>?_) (λz ai hle=>?_)
 ·unfold B0;rw[ai.1,ai.2];refine av.fX ?_;refine ae (dg ⟨ba,bl⟩) (λaE cw=>?_);refine ae (dg ⟨ba,bl⟩) (λaP cP=>?_);obtain rfl:=eF (cw.symm.trans cP);refine av.no (by simp[ke,jH]) ?_;exact bz ⟨⟨rfl,rfl⟩,rfl⟩
 ·unfold B0;rw[ai.1,ai.2];exact av.jk (a6 ⟨_,rfl⟩)
theorem aIM (a:D iP):av (O_ ((a,a,()),())) (λy=>y.1.1=true):=by
 unfold O_;refine av.no (by simp[ke,jH]) ?_;refine av.no (by simp[ke,jH]) ?_;refine av.no (by simp[ke,jH]) ?_;refine ae (aIN a _ ⟨rfl,rfl⟩ rfl) (λy h=>?_);obtain⟨u,rfl⟩:=h;dsimp only[Sum.elim_inl];exact ae (aGb _) (λy h=>ak h)
theorem aGt (a:D jD):∀bk:U Wv,bk.1.1=a/\bk.1.2.1=a->bk.1.2.2.1.1=0->av (a2 BI bk) (λy=>∃u,y=.inl u):=by
 have aW:=L.b a.1;refine sQ BI a.1.1.length ab (λz=>z.1.2.2.1) (λz=>z.1.1=a/\z.1.2.1=a) (λz ai ba bl=>?_) (λz ai hle=>?_)
 ·unfold BI;rw[ai.1,ai.2];refine av.fX ?_;refine ae (dg ⟨ba,bl⟩) (λaE cw=>?_);refine ae (dg ⟨ba,bl⟩) (λaP cP=>?_);obtain rfl:=eF (cw.symm.trans cP);refine ae (aAb _) (λy h=>?_);refine av.no (by rw[h];rfl) ?_;exact bz ⟨⟨rfl,rfl⟩,rfl⟩
 ·unfold BI;rw[ai.1,ai.2];exact av.jk (a6 ⟨_,rfl⟩)
theorem aGw (a:D jD):∀bk:U Ww,bk.1.1=a/\bk.1.2.1=a->bk.1.2.2.1.1=0->av (a2 BJ bk) (λy=>∃u,y=.inl u):=by
 have aW:=L.b a.2.1;refine sQ BJ a.2.1.1.length ab (λz=>z.1.2.2.1) (λz=>z.1.1=a/\z.1.2.1=a) (λz ai ba bl=>?_) (λz ai hle=>?_)
 ·unfold BJ;rw[ai.1,ai.2];refine av.fX ?_;refine ae (dg ⟨ba,bl⟩) (λaE cw=>?_);refine ae (dg ⟨ba,bl⟩) (λaP cP=>?_);obtain rfl:=eF (cw.symm.trans cP);refine ae (aII _) (λy h=>?_);refine av.no (by rw[h];rfl) ?_;exact bz ⟨⟨rfl,rfl⟩,rfl⟩
 ·unfold BJ;rw[ai.1,ai.2];exact av.jk (a6 ⟨_,rfl⟩)
theorem aGz (a:D jD):∀bk:U Wx,bk.1.1=a/\bk.1.2.1=a->bk.1.2.2.1.1=0->av (a2 BK bk) (λy=>∃u,y=.inl u):=by
 have aW:=L.b a.2.2.1;refine sQ BK a.2.2.1.1.length ab (λz=>z.1.2.2.1) (λz=>z.1.1=a/\z.1.2.1=a) (λz ai ba bl=>?_) (λz ai hle=>?_)
 ·unfold BK;rw[ai.1,ai.2];refine av.fX ?_;refine ae (dg ⟨ba,bl⟩) (λaE cw=>?_);refine ae (dg ⟨ba,bl⟩) (λaP cP=>?_);obtain rfl:=eF (cw.symm.trans cP);refine ae (aIM _) (λy h=>?_);refine av.no (by rw[h];rfl) ?_;exact bz ⟨⟨rfl,rfl⟩,rfl⟩
 ·unfold BK;rw[ai.1,ai.2];exact av.jk (a6 ⟨_,rfl⟩)
theorem aGs (a:D jD):av (OE ((a,a,()),())) (λy=>y.1.1=true):=by
 unfold OE;refine av.no (by simp[ke,jH]) ?_;refine av.no (by simp[ke,jH]) ?_;refine av.no (by simp[ke,jH]) ?_;refine ae (aGt a _ ⟨rfl,rfl⟩ rfl) (λy h=>?_);obtain⟨u,rfl⟩:=h;dsimp only[Sum.elim_inl];refine ae (aGw a _ ⟨rfl,rfl⟩ rfl) (λy h=>?_);obtain⟨u,rfl⟩:=h;dsimp only[Sum.elim_inl];refine ae (aGz a _ ⟨rfl,rfl⟩ rfl) (λy h=>?_);obtain⟨u,rfl⟩:=h;dsimp only[Sum.elim_inl];exact ak rfl
theorem aOw {s n:Nat}(h:12<=s)(af:s<=6000)(az:n=s-4):(gf (W (n:Nat)) (W 4)).1=((s-8:Nat):Int):=by
 rw[acq,show(W 4).1=4 from rfl,acr,wrap64,wrap64];omega
theorem aok {y:a_ .i64}(ba:0<=y.1)(h:y.1<10000):(bc (W 4) y).1=4+y.1:=by
 rw[Ts,show(W 4).1=4 from rfl,wrap64];omega
theorem aNO:∀x:U XH,x.1.1.1.length<=1000000000->av (XG x) (Sum.elim (λ_=>True) (λy=>y.1.1=true)):=by
 intro x aO;unfold XG;refine ag (λ_=>?_) (λ_=>bz aG);refine ae (ayT _ ⟨aO,rfl⟩) (λaB af=>?_);refine ae (ayN _ ⟨af.1,by rw[af.2];rfl⟩) (λaK ax=>?_);have aQj:=mod_le ax;refine ae (akj _ (by show(jG aK.1.1).length<=_;omega)) (λaS a8=>?_);have aM:=S.b aS.1.1;refine ag (λ_=>a6 rfl) (λah=>?_);simp only[b8,aL] at ah;refine ag (λ_=>a6 rfl) (λaR=>?_);simp only[b8,aL] at aR;have aj:=Tv (s:=aS.1.1) ab;refine ae (ur (by rw[aj];omega)) (λcQ cn=>?_);rw[aj] at cn;have gV:=congrArg List.length cn;simp only[List.length_take,List.length_drop,a7.len] at gV;refine ae (Jy ab) (λiB da=>?_);obtain⟨aI5,Ls⟩:=da;have i4:(W 4).1=4:=rfl;have hlen:iB.1.length=aS.1.1.1.size-4:=ab;have aE:(gf (W (iB.1.length:Nat)) (W 4)).1=((aS.1.1.1.size-8:Nat):Int):=aOw ab ab hlen;refine ae (ayQ _ (by show 1<=(gf (W (iB.1.length:Nat)) (W 4)).1;rw[aE];omega)) (λbK dS=>?_);dsimp only at dS;rw[aE] at dS;have aP:(bc (W 4) bK.1.1).1=4+bK.1.1.1:=aok dS.1 ab;refine av.yes (by simp only[b8,decide_eq_true_eq];rw[aP];omega) ?_;refine ae (mc (by rw[aP];omega)) (λdD ez=>?_);refine ae (akb _ aG) (λbO dM=>?_);have ic:=congrArg List.length dM;rw[a7.len,Am] at ic;have ap7:(nK (ej iB ((bc (W 4) bK.1.1).1).toNat ((ey .u8 x.1.2.2.1),()))).1.size=iB.1.length:=by
  rw[<-a7.len,a7.bytes,an',List.length_set,cM.len]
 refine ae (CU (by rw[ap7];omega)) (λv10 gK=>?_);exact bz aG
theorem aNP:∀x:U amH,x.1.1.1.length<=1000000000->av (XF x) (λy=>y.1.1=true):=by
 intro x aO;unfold XF;refine ae (aNY _ aG) (λaq aa=>?_);refine ag (λq=>by rw[aa] at q;cases q) (λ_=>?_);refine ag (λ_=>ak rfl) (λ_=>?_);refine ae (aNO _ aO) (λbT iS=>?_);refine ee iS (λcL _=>?_) (λcy j9=>ak j9);refine ae (avD _ aG) (λdX m9=>?_);refine ae (aFc _ aG) (λdy m_=>?_);refine ae (aeG _ aG) (λeD Aq=>?_);refine ae (ajI _ aG) (λeO tr=>?_);obtain⟨s1,s2⟩:=aNM m9 m_;obtain⟨dK,dh⟩:=Aq;obtain⟨cY,eT⟩:=tr;have Rx:=dK.trans cY.symm;have cx:=congrArg (λp=>p.1) Rx;have cI:=congrArg (λp=>p.2.1) Rx;have dw:=congrArg (λp=>p.2.2) Rx;dsimp only at cx cI dw;refine av.yes (by simp only[b8];exact s1) ?_;rw[<-s2];refine ae (aGs _) (λeY wW=>?_);refine av.yes wW ?_;refine av.yes (by simp only[b8];exact cx) ?_;refine av.yes (by simp only[b8];omega) ?_;refine av.yes (by rw[dw];exact beq_self_eq_true _) ?_;refine ae (LJ _ aG) (λfe Ar=>?_);refine ae (akf _ aG) (λfM uv=>?_);refine av.yes (by simp only[b8];exact Ar.trans uv.symm) ?_;refine ae (EG _ aG) (λiD Dv=>?_);refine ae (GZ _ aG) (λfa wX=>?_);refine ak ?_;have e:iD.1.1=fa.1.1:=a7.inj (Dv.trans wX.symm);dsimp only
 rw[e,jH]
open bI (T cO)
theorem aNQ {W:World}{A:Option Addr}{l:List Int}{c:Nat}(aW:l.length<=c)(dH:kx W A (l.map (.int .i64)))(aM:∀n∈l,(Lit.int .i64 n).wf=true)(az:l.length<=1048576){s:ByteArray}(ws:s.size<=9223372036854775807){n3 Cq I0:Int}{raw:Bool}(eX:(Lit.int .i64 n3).wf=true)(gj:(Lit.int .i64 Cq).wf=true)(Cl:(Lit.int .i64 I0).wf=true):
 Calls Tryz.prog 4 #[.slice A l.length c,.string s,.int .i64 n3,.int .i64 Cq,.bool raw,.int .i64 I0] W λe YX=>e=.returned (.bool true)/\Below W.heap.size W YX:=by
 have hlen:(xF l aM).length<=140737488355328:=by rw[Q1];omega
 obtain⟨y,cf,bR⟩:=aNP ((⟨xF l aM,hlen⟩,⟨s,ws⟩,⟨n3,Q9 eX⟩,⟨Cq,Q9 gj⟩,raw,⟨I0,Q9 Cl⟩,()),()) (by show(xF l aM).length<=_;rw[Q1];omega);have k3:dU (TQ W).fz (.a4 [.int .i64]) (⟨xF l aM,hlen⟩:L (D [.int .i64])) (.slice A l.length c):=by
  simp only[dU];refine⟨A,c,by rw[Q1],by rw[Q1];exact aW,λeN=>?_⟩;have arE:l.map (Value.int .i64)≠[]:=λe=>eN (by
   have:l=[]:=List.map_eq_nil_iff.1 e;subst this;rfl)
  obtain⟨b,o,rfl,_,an⟩:=dH arE;refine⟨b,o,rfl,λi e he=>?_⟩;simp only[ix,dU,and_true];have hw:=aOR (an i (.int .i64 e.1.1) (by rw[List.getElem?_map,aOB he];rfl));refine⟨_,?_,rfl⟩;show(Cn W b)[o+i*1]?=_;rw[Nat.mul_one];exact hw
 obtain⟨_,uw⟩:=aNU _ y cf (TQ W) W #[.slice A l.length c,.string s,.int .i64 n3,.int .i64 Cq,.bool raw,.int .i64 I0] (arY W) (λj iv aw=>by cases aw) ⟨⟨k3,trivial⟩,rfl,rfl,rfl,rfl,rfl,trivial⟩;refine uw.mono ?_;rintro ex w' ⟨m',bd,us,rfl,st,aU,f,aoR⟩;have aT:=aoR.IY
 match us,aT with
 |[v],⟨aa,_⟩=>
  have aa:v=.bool y.1.1:=aa;refine⟨by rw[aa,bR];rfl,st.gF.os,st.gF.tape,st.gF.output,st.gF.size,λb ah=>(st.gF.kept b ah ?_).1⟩;rintro⟨R,k,i,x,af,_⟩;cases af
end cF
end Go.Proofs.YtgmdfchkljaooaaGreat
namespace Go.Proofs.YtgmdfchkljaooaaGreat.objectReads
open Go.ChangeShapes Go.WideShapes Go.ChangeAt Go.RowKit
open Go.ChangeMaps (open_string shut_string)
theorem one_le {H:Type}(d:DataW H):1<=Rows.uptoBulk d:=by
 cases d with
 |lit l=>cases l<;>simp[Rows.uptoBulk]
 |_=>simp[Rows.uptoBulk]
theorem acU {H:Type}:∀l:List (DataW H),l.length<=Rows.uptoBulkAll l
 |[]=>by simp[Rows.uptoBulkAll]
 |x::r=>by
  have:=one_le x;have:=acU r;simp only[Rows.uptoBulkAll,gX];omega
theorem asB {H:Type}{enc:TypeId×Value->H}{P:Program}{w:World}{base:Nat}{spare:Nat->Bool}{held:Bool}{r:Reach}{cT:Nat}{t e:TypeId}{v:Value}{d:DataW H}{p:List MemPlace}(bR:P.underlying t=some (.slice e))(he:P.underlying e=some (.int .i64))(an:P.cellsOf e=1)(aT:Value.okWide P w r cT t v)(h:DataW.Trod enc P w base spare held t v d p){A:Option Addr}{n c:Nat}(rJ:v=.slice A n c):n<=Rows.uptoBulk d:=by
 obtain⟨a0,len,cap,rfl⟩:=okWide_slice bR aT;obtain⟨fuel,bE⟩:=h;injection rJ with _ aP _
 subst aP;rcases open_ints bR he an bE with⟨lg,_⟩|⟨x,l,c,ss,lg,_,aW,hm,ai,aO,_,_⟩
 ·simp[Value.cells] at lg;omega
 ·simp[Value.cells] at lg;obtain⟨rfl,rfl,rfl⟩:=lg;have bj:=congrArg Prod.fst aO;have bj:d=.slice (lits .i64 (ss.take len)) (lits .i64 (ss.drop len)):=bj;rw[bj];have aa:=acU (lits (H:=H) .i64 (ss.take len));have af:(lits (H:=H) .i64 (ss.take len)).length=len:=by
   have:len<=ss.length:=by rw[ai];split<;>omega
   simp[lits];omega
  simp only[Rows.uptoBulk];omega
set_option maxRecDepth 100000 in
theorem lifted (os:Os)(started:os.Started)(H:Type)(enc:TypeId×Value->H)(F:Stop.Interp):
 ReturnsInHanded {} Tryz.checked os 4 .any ((Rows.OpenSpec.upto Rows.objectReadsSpec).pre6 enc Tryz.prog Tryz.f4 Rows.objectReadsUptoRow.domain false) (((Rows.OpenSpec.upto Rows.objectReadsSpec).at F).post enc Tryz.prog Tryz.f4 false true false false):=by
 refine returnsInHanded_of_cond (C:=Tryz.checked) (s:=Rows.OpenSpec.upto Rows.objectReadsSpec) (k:=Rows.uptoSmall) rfl own started (by kernel_rfl) Tryz.func4
  (OpenSpec.witness (enc:=enc) (C:=Tryz.checked) (s:=Rows.OpenSpec.upto Rows.objectReadsSpec) (k:=Rows.uptoSmall) rfl false ⟨#[],#[.slice none 0 0,.string ⟨#[]⟩,.int .i64 0,.int .i64 0,.bool true,.int .i64 0],[]⟩ 8 (by kernel_rfl) (by kernel_rfl) (by kernel_rfl)
   (x:=([.nil,.lit (.string []),.lit (.int .i64 0),.lit (.int .i64 0),.lit (.bool true),.lit (.int .i64 0)],[],[])) (by kernel_rfl) rfl (by kernel_rfl)) ?_
 intro W base args ds gs before ab8 sk _ aX _;have xb:∀(j:Nat) t v,Tryz.f4.params[j]?=some t->args[j]?=some v->Value.okWide Tryz.prog W .any base t v:=ab8;have aqz:=sk;obtain⟨p,q,aaP,ny,rfl,aPH,AG⟩:=sk;have dH:DataW.TrodAll enc Tryz.prog W 0 (λ_=>true) true Tryz.f4.params.toList args.toList ds p:=aaP;rw[Tryz.params4] at dH xb;obtain⟨v0,aQ1,d0,aPh,Mt,zy,aPA,rfl,rfl,ba,Fu⟩:=trodAll_cons dH;obtain⟨v1,aQ2,d1,mq,eS,cx,rfl,rfl,rfl,aa,g_⟩:=trodAll_cons Fu;obtain⟨v2,aQ3,d2,yc,fI,cI,rfl,rfl,rfl,af,gl⟩:=trodAll_cons g_;obtain⟨cH,aQ4,d3,aPi,gL,dw,rfl,rfl,rfl,ax,jl⟩:=trodAll_cons gl;obtain⟨v4,aQ5,d4,aPj,lV,fh,rfl,rfl,rfl,a8,mf⟩:=trodAll_cons jl;obtain⟨cQ,aQ6,d5,aPk,jx,kJ,rfl,rfl,rfl,cn,xz⟩:=trodAll_cons mf;obtain⟨rfl,rfl,rfl⟩:=trodAll_nil xz;obtain rfl:args=#[v0,v1,v2,cH,v4,cQ]:=by cases args;simp_all
 obtain⟨rfl,rfl⟩:=trodVars_none ny;have qE:=ba;have atd:∀x∈Mt,x.block<W.heap.size:=by obtain⟨m,hm⟩:=qE;exact DataW.trod_lt m _ _ _ hm
 obtain⟨anQ,xe,pI,gv,q6,Au,aqu,D3⟩:=asC Tryz.underlying22 Tryz.underlying3 (by kernel_rfl) (xb 0 22 v0 rfl rfl) ba;have aPB:=asB Tryz.underlying22 Tryz.underlying3 (by kernel_rfl) (xb 0 22 v0 rfl rfl) ba gv;subst gv;have bn:=aa;have ate:∀x∈eS,x.block<W.heap.size:=by obtain⟨m,hm⟩:=bn;exact DataW.trod_lt m _ _ _ hm
 obtain⟨s1,rfl,_,_,Tg⟩:=open_string Tryz.underlying9 (xb 1 9 v1 rfl rfl) aa;have bB:=af;have Ef:∀x∈fI,x.block<W.heap.size:=by obtain⟨m,hm⟩:=bB;exact DataW.trod_lt m _ _ _ hm
 obtain⟨n3,rfl,_,_,eX⟩:=open_int Tryz.underlying3 (xb 2 3 v2 rfl rfl) af;have dc:=ax;have atf:∀x∈gL,x.block<W.heap.size:=by obtain⟨m,hm⟩:=dc;exact DataW.trod_lt m _ _ _ hm
 obtain⟨Cq,rfl,_,_,gj⟩:=open_int Tryz.underlying3 (xb 3 3 cH rfl rfl) ax;have ek:=a8;have atg:∀x∈lV,x.block<W.heap.size:=by obtain⟨m,hm⟩:=ek;exact DataW.trod_lt m _ _ _ hm
 obtain⟨aOW,rfl,_,_⟩:=open_bool Tryz.underlying4 (xb 4 4 v4 rfl rfl) a8;have iU:=cn;have ath:∀x∈jx,x.block<W.heap.size:=by obtain⟨m,hm⟩:=iU;exact DataW.trod_lt m _ _ _ hm
 obtain⟨I0,rfl,_,_,Cl⟩:=open_int Tryz.underlying2 (xb 5 2 cQ rfl rfl) cn;have ar6:xe.length<=1048576:=by
  have h:Rows.uptoBulkAll (d0::_)<=1048576:=of_decide_eq_true aX;simp only[Rows.uptoBulkAll] at h;omega
 clear aaP ab8;refine(cF.aNQ q6 aqu D3 ar6 (by have:maxLen=9223372036854775807:=rfl;omega) eX gj Cl).mono λe YX ⟨he,x6⟩=>?_;subst he;exact⟨_,rfl,_,_,_,[],_,[],aqz,trodAll_mk1 (shut_bool Tryz.underlying4 _),(trodAll_cons_mk (Below.trod laidOut (by kernel_rfl) (of_decide_eq_true (by kernel_rfl)) qE x6 atd) (trodAll_cons_mk (Below.trod laidOut (by kernel_rfl) (of_decide_eq_true (by kernel_rfl)) bn x6 ate) (trodAll_cons_mk (Below.trod laidOut (by kernel_rfl) (of_decide_eq_true (by kernel_rfl)) bB x6 Ef) (trodAll_cons_mk (Below.trod laidOut (by kernel_rfl) (of_decide_eq_true (by kernel_rfl)) dc x6 atf) (trodAll_cons_mk (Below.trod laidOut (by kernel_rfl) (of_decide_eq_true (by kernel_rfl)) ek x6 atg) (trodAll_cons_mk (Below.trod laidOut (by kernel_rfl) (of_decide_eq_true (by kernel_rfl)) iU x6 ath) trodAll_mk0)))))),rfl,x6.frame _,λh=>by cases h⟩
theorem proved:Rows.ObjectReadsUptoSaid:=
 OpenClaim.holds_of_cond 4 Tryz.f4 rfl rfl rfl rfl rfl rfl rfl ⟨rfl,rfl,rfl,rfl,rfl⟩ rfl rfl rfl rfl rfl (by kernel_rfl) Tryz.func4 (by kernel_rfl)
  (of_decide_eq_true (by kernel_rfl)) (by unfold Func.isWrapper;first|(rw[if_pos (by decide+kernel)];kernel_rfl)|(rw[if_neg (by decide+kernel)];exact⟨rfl,rfl⟩))
  (λos started H enc _ F=>lifted os started H enc F)
end Go.Proofs.YtgmdfchkljaooaaGreat.objectReads
