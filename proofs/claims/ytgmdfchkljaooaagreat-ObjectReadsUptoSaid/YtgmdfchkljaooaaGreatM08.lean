/- The typed functions come to something (printed by gen/twokrun.py). -/
import Derived.Test.YtgmdfchkljaooaaGreatM04
import Derived.Test.YtgmdfchkljaooaaGreatM05
import Derived.Test.YtgmdfchkljaooaaGreatM07
noncomputable section
namespace Go.Proofs.YtgmdfchkljaooaaGreat
namespace cF
set_option linter.unusedVariables false
set_option linter.unusedSimpArgs false
set_option maxRecDepth 100000
def pq (f:Nat->Nat):Nat->Nat
 |0=>0
 |n+1=>pq f n+f n
theorem X1 (f g:Nat->Nat):∀n,pq (λx=>f x+g x) n=pq f n+pq g n
 |0=>rfl
 |n+1=>by have:=X1 f g n;simp only[pq];omega
theorem am_ {f g:Nat->Nat}:∀n,(∀x,x<n->f x<=g x)->pq f n<=pq g n
 |0,_=>Nat.le_refl _
 |n+1,h=>by have:=am_ (f:=f) (g:=g) n (λx aO=>h x ab);have:=h n ab;simp only[pq];omega
theorem ana {a:Nat}:∀n,a<n->1<=pq (λx=>if x=a then 1 else 0) n
 |n+1,h=>by
  simp only[pq];by_cases ai:a<n;have:=ana n ai;omega;rw[if_pos ab];omega
theorem am' {f:Nat->Nat}:∀n,(∀x,f x<=1)->pq f n<=n
 |0,_=>Nat.le_refl _
 |n+1,h=>by have:=am' n h;have:=h n;simp only[pq];omega
inductive oN (ch:Nat->List Nat)(a:Nat):Nat->Prop
  |refl:oN ch a a
  |tail {b c}:oN ch a b->c∈ch b->oN ch a c
def dl (ch:Nat->List Nat)(a x:Nat):Nat:=by classical exact if oN ch a x then 1 else 0
theorem ZS (ch a x):dl ch a x<=1:=by unfold dl;split<;>omega
theorem anc (ch:Nat->List Nat)(n:Nat):∀l:List Nat,(l.map λc=>pq (dl ch c) n).sum=pq (λx=>(l.map λc=>dl ch c x).sum) n
 |[]=>by
  have:∀n,pq (λx=>0) n=0:=λn=>by induction n with|zero=>rfl|succ n cu=>simp only[pq];omega
  simp[this]
 |c::l=>by
  have:=anc ch n l;simp only[List.map_cons,List.sum_cons];rw[this,<-X1]
theorem weight {n:Nat}{ch:Nat->List Nat}{ρ:Nat->Nat}(aU:∀a c,c∈ch a->ρ a<ρ c)(hu:∀(a b i j c:Nat),(ch a)[i]?=some c->(ch b)[j]?=some c->a=b/\i=j):∃w:Nat->Nat,(∀a,w a<=n)/\∀a,a<n->1+((ch a).map w).sum<=w a:=by
 have amL:∀{a x},oN ch a x->a=x\/ρ a<ρ x:=λh=>by
  induction h with
  |refl=>exact .inl rfl
  |tail aa af cu=>have:=aU _ _ af;rcases cu with rfl|cu<;>exact .inr ab
 have bj:∀{a c x},c∈ch a->oN ch c x->oN ch a x:=λan h=>by
  induction h with
  |refl=>exact .tail .refl an
  |tail aa af cu=>exact .tail cu af
 have up:∀{a b c:Nat},c∈ch a->c∈ch b->a=b:=λaa af=>by
  obtain⟨i,aa⟩:=List.getElem?_of_mem aa;obtain⟨j,af⟩:=List.getElem?_of_mem af;exact(hu _ _ _ _ _ aa af).1
 have cmp:∀{a b x},oN ch a x->oN ch b x->oN ch a b\/oN ch b a:=λ{a b x} h=>by
  induction h with
  |refl=>exactλh=>.inr h
  |tail aa af cu=>
   intro h;cases h with
   |refl=>exact .inl (.tail aa af)
   |tail aI aQ=>rw[up af aQ] at cu;exact cu aI
 have aOk:∀{a c c' x},c∈ch a->c'∈ch a->oN ch c x->oN ch c' x->c=c':=λ{a c c' x} h h' r mF=>by
  have key:∀{c c'},c∈ch a->c'∈ch a->oN ch c c'->c=c':=λ{c c'} h h' r=>by
   cases r with
   |refl=>rfl
   |tail aI aQ=>
    rw[up aQ h'] at aI;have:=aU _ _ h;rcases amL aI with q|q<;>(first|subst q|skip)<;>omega
  rcases cmp r mF with q|q;exact key h h' q;exact(key h' h q).symm
 refine⟨λa=>pq (dl ch a) n,λa=>am' n (ZS ch a),λa bZ=>?_⟩;rw[anc];refine jF (Nat.add_le_add_right (ana n bZ) _) ?_;rw[<-X1];refine am_ n λx _=>?_;have one:∀(l:List Nat)(k:Nat),(∀i c,l[i]?=some c->(ch a)[k+i]?=some c)->(l.map λc=>dl ch c x).sum<=1:=λl=>by
  induction l with
  |nil=>intro k _;simp
  |cons c l cu=>
   intro k aX;have cu:=cu (k+1) λi c h=>by have:=aX (i+1) c (by simpa using h);rw[show k+1+i=k+(i+1) by omega];exact this
   simp only[List.map_cons,List.sum_cons];by_cases an:oN ch c x;have ai:∀eG:List Nat,(∀c',c'∈eG->¬oN ch c' x)->(eG.map λc=>dl ch c x).sum=0:=λeG=>by
    induction eG with
    |nil=>intro _;rfl
    |cons e eG D8=>
     intro h;simp only[List.map_cons,List.sum_cons];rw[D8 λc' q=>h c' (List.mem_cons_of_mem _ q)];unfold dl;rw[if_neg (h e (m2 ..))]
   rw[ai l λc' kp arW=>?_];exact ZS _ _ _;obtain⟨i,aj⟩:=List.getElem?_of_mem kp;have aa:=aX 0 c rfl;have af:=aX (i+1) c' (by simpa using aj);have e:=aOk (List.mem_of_getElem? aa) (List.mem_of_getElem? af) an arW;subst e;have:=(hu _ _ _ _ _ aa af).2;omega;have:dl ch c x=0:=by unfold dl;rw[if_neg an]
   omega
 have aa:=one (ch a) 0 λi c h=>by rw[gd];exact h
 by_cases aO:x=a;subst aO;have ai:∀l:List Nat,(∀c,c∈l->c∈ch x)->(l.map λc=>dl ch c x).sum=0:=λl=>by
  induction l with
  |nil=>intro _;rfl
  |cons e l cu=>
   intro h;simp only[List.map_cons,List.sum_cons];rw[cu λc q=>h c (List.mem_cons_of_mem _ q)];unfold dl;rw[if_neg λq=>?_];have:=aU _ _ (h e (m2 ..));rcases amL q with q|q<;>(first|subst q|skip)<;>omega
 rw[ai _ λc h=>h,if_pos rfl];unfold dl;rw[if_pos .refl];exact Nat.le_refl _;rw[if_neg aO,gd];by_cases bZ:oN ch a x;unfold dl at aa⊢;rw[if_pos bZ];exact aa;have ai:∀l:List Nat,(∀c,c∈l->c∈ch a)->(l.map λc=>dl ch c x).sum=0:=λl=>by
  induction l with
  |nil=>intro _;rfl
  |cons e l cu=>
   intro h;simp only[List.map_cons,List.sum_cons];rw[cu λc q=>h c (List.mem_cons_of_mem _ q)];unfold dl;rw[if_neg λq=>bZ (bj (h e (m2 ..)) q)]
 rw[ai _ λc h=>h];exact Nat.zero_le _
def lp (k:Int):Int:=if k<0\/19<k then-1 else if k<=5 then 0 else if k=15\/k=16 then 1 else 2
def ug (l:List (D eu))(C:Int->Prop)(j:Int):Prop:=∃e:D eu,l[j.toNat]?=some e/\0<=lp e.1.1/\(0<=e.2.2.2.2.1.1->e.2.2.2.2.1.1<j/\C e.2.2.2.2.1.1)/\(0<=e.2.2.2.2.2.1.1->e.2.2.2.2.2.1.1<j/\C e.2.2.2.2.2.1.1)/\(lp e.1.1≠0->0<=e.2.2.2.2.1.1)/\(lp e.1.1=2->0<=e.2.2.2.2.2.1.1)/\e.2.2.2.1.1.size<=24
def pf (e:D eu)(s:Nat):Int:=if s=0 then e.2.2.2.2.1.1 else e.2.2.2.2.2.1.1
def Rv (l:List (D eu))(C:Int->Prop):Prop:=∀(a b:Int)(s t:Nat)(e f:D eu),C a->C b->l[a.toNat]?=some e->l[b.toNat]?=some f->s<2->t<2->0<=pf e s->pf e s=pf f t->a=b/\s=t
def nI (l:List (D eu))(n:Nat)(j:Int):Prop:=∃(C:Int->Prop) (w:Int->Nat),C j/\w j<=n/\∀k,C k->0<=k/\ug l C k/\∀e:D eu,l[k.toNat]?=some e->1+(if 0<=e.2.2.2.2.1.1 then w e.2.2.2.2.1.1 else 0)+(if 0<=e.2.2.2.2.2.1.1 then w e.2.2.2.2.2.1.1 else 0)<=w k
theorem nI.node {l:List (D eu)}{n:Nat}{j:Int}(h:nI l n j):0<=j/\∃a b,1+a+b<=n/\ug l (λ_=>True) j/\∀e:D eu,l[j.toNat]?=some e->(0<=e.2.2.2.2.1.1->nI l a e.2.2.2.2.1.1)/\(0<=e.2.2.2.2.2.1.1->nI l b e.2.2.2.2.2.1.1):=by
 obtain⟨C,w,aa,hw,af⟩:=h;obtain⟨ba,⟨e,aI,aQ,bq,cA,eP,fy⟩,aM⟩:=af j aa;have aM:=aM e aI;refine⟨ba,(if 0<=e.2.2.2.2.1.1 then w e.2.2.2.2.1.1 else 0),(if 0<=e.2.2.2.2.2.1.1 then w e.2.2.2.2.2.1.1 else 0),ab,⟨e,aI,aQ,λq=>⟨(bq q).1,aG⟩,λq=>⟨(cA q).1,aG⟩,eP,fy⟩,λe' fA=>?_⟩;rw[aI] at fA;cases fA;exact⟨λq=>⟨C,w,(bq q).2,by rw[if_pos q];exact Nat.le_refl _,af⟩,λq=>⟨C,w,(cA q).2,by rw[if_pos q];exact Nat.le_refl _,af⟩⟩
theorem nI.mono {l n m j}(h:nI l n j)(hm:n<=m):nI l m j:=by
 obtain⟨C,w,aa,hw,af⟩:=h;exact⟨C,w,aa,ab,af⟩
theorem nI.avk {l:List (D eu)}{n:Nat}{j:Int}(h:nI l n j):0<=j/\ug l (nI l n) j:=by
 obtain⟨ba,a,b,aaY,⟨e,aI,aQ,bq,cA,eP,fy⟩,aM⟩:=h.node;obtain⟨s1,s2⟩:=aM e aI;exact⟨ba,e,aI,aQ,λq=>⟨(bq q).1,(s1 q).mono ab⟩,λq=>⟨(cA q).1,(s2 q).mono ab⟩,eP,fy⟩
theorem nI.make {l:List (D eu)}{C:Int->Prop}{j:Int}(aw:C j)(uw:∀k,C k->0<=k/\ug l C k)(hu:Rv l C):nI l l.length j:=by
 classical
 let ops:D eu->List Nat:=λe=>(if 0<=e.2.2.2.2.1.1 then[e.2.2.2.2.1.1.toNat] else[])++(if 0<=e.2.2.2.2.2.1.1 then[e.2.2.2.2.2.1.1.toNat] else[])
 let ch:Nat->List Nat:=λa=>if C (a:Int) then(match l[a]? with|some e=>ops e|none=>[]) else[]
 have Aw:∀(a:Nat)(e:D eu),C (a:Int)->l[a]?=some e->ch a=ops e:=λa e aa af=>by simp only[ch,if_pos aa,af]
 have get:∀(a i c:Nat),(ch a)[i]?=some c->∃e s,C (a:Int)/\l[a]?=some e/\s<2/\0<=pf e s/\pf e s=(c:Int)/\((0<=e.2.2.2.2.1.1/\s=i)\/(¬0<=e.2.2.2.2.1.1/\s=1/\i=0)):=λa i c h=>by
  by_cases bZ:C (a:Int);obtain⟨_,e,aI,aQ,bq,cA,_⟩:=uw _ bZ;have aI:l[a]?=some e:=aI;rw[Aw a e bZ aI] at h;by_cases gC:0<=e.2.2.2.2.1.1;by_cases fp:0<=e.2.2.2.2.2.1.1;simp only[ops,if_pos gC,if_pos fp] at h
  match i,h with
  |0,h=>cases h;exact⟨e,0,bZ,aI,ab,gC,by simp[pf];omega,.inl ⟨gC,rfl⟩⟩
  |1,h=>cases h;exact⟨e,1,bZ,aI,ab,fp,by simp[pf];omega,.inl ⟨gC,rfl⟩⟩
  |i+2,h=>simp at h
  simp only[ops,if_pos gC,if_neg fp] at h
  match i,h with
  |0,h=>cases h;exact⟨e,0,bZ,aI,ab,gC,by simp[pf];omega,.inl ⟨gC,rfl⟩⟩
  |i+1,h=>simp at h
  by_cases fp:0<=e.2.2.2.2.2.1.1;simp only[ops,if_neg gC,if_pos fp] at h
  match i,h with
  |0,h=>cases h;exact⟨e,1,bZ,aI,ab,fp,by simp[pf];omega,.inr ⟨gC,rfl,rfl⟩⟩
  |i+1,h=>simp at h
  simp only[ops,if_neg gC,if_neg fp] at h;simp at h;simp only[ch,if_neg bZ] at h;simp at h
 obtain⟨w,hw,aM⟩:=weight (n:=l.length) (ch:=ch) (ρ:=λa=>l.length-a) (λa c an=>by
  obtain⟨i,aj⟩:=List.getElem?_of_mem an;obtain⟨e,s,cx,cI,dw,fh,kJ,_⟩:=get a i c aj;have bl:=(ep.1 cI).1;obtain⟨_,e',aI,aQ,bq,cA,_⟩:=uw _ cx;have aI:l[a]?=some e':=aI;rw[cI] at aI;cases aI;have:(c:Int)<a:=by
   rw[<-kJ];unfold pf at fh⊢;by_cases aM:s=0;rw[if_pos aM] at fh⊢;exact(bq fh).1;rw[if_neg aM] at fh⊢;exact(cA fh).1
  show l.length-a<l.length-c
  omega) (λa b i j c aa af=>by
  obtain⟨e,s,cx,cI,dw,fh,kJ,mE⟩:=get a i c aa;obtain⟨f,t,g_,gl,jl,mf,xz,aI5⟩:=get b j c af;obtain⟨j4,kW⟩:=hu _ _ s t e f cx g_ cI gl dw jl fh (kJ.trans xz.symm);have j4:a=b:=ab;subst j4;rw[cI] at gl;cases gl;refine⟨rfl,?_⟩
  omega)
 refine⟨C,λk=>w k.toNat,aw,hw _,λk aX=>?_⟩;obtain⟨ba,tt⟩:=uw k aX;refine⟨ba,tt,λe he=>?_⟩;have pS:C ((k.toNat:Nat):Int):=by rw[show((k.toNat:Nat):Int)=k by omega];exact aX
 have:=aM k.toNat (ep.1 he).1;rw[Aw _ e pS he] at this;refine jF ?_ this;simp only[ops];split<;>split<;>simp<;>omega
def s6 (l:List (D eu))(j:Int):Prop:=nI l 160 j
theorem s6.node {l:List (D eu)}{j:Int}(h:s6 l j):0<=j/\ug l (s6 l) j:=nI.avk h
def gH (d:List (D [.int .i64]))(j:Int):Prop:=0<=j/\∃e:D [.int .i64],d[j.toNat]?=some e/\0<e.1.1
theorem gH.set {d:L (D [.int .i64])}{j:Int}(h:gH d.1 j){k:Nat}{v:D [.int .i64]}(aT:0<v.1.1):gH (ej d k v).1 j:=by
 obtain⟨ba,e,aa,af⟩:=h;refine⟨ba,?_⟩;show∃e,(d.1.set k v)[j.toNat]?=some e/\_;by_cases aX:k=j.toNat;subst aX;exact⟨v,by rw[List.getElem?_set_self (ep.1 aa).1],aT⟩;exact⟨e,by rw[mN aX];exact aa,af⟩
theorem gH.XR {d:L (D [.int .i64])}{j:Int}(ba:0<=j)(aw:j.toNat<d.1.length){v:D [.int .i64]}(aT:0<v.1.1):gH (ej d j.toNat v).1 j:=
 ⟨ba,v,by show(d.1.set j.toNat v)[j.toNat]?=_;rw[List.getElem?_set_self aw],aT⟩
theorem gH.X5 {d:L (D [.int .i64])}{j k:Int}{v:D [.int .i64]}(ba:0<=k)(h:gH (ej d k.toNat v).1 j):gH d.1 j\/j=k:=by
 obtain⟨j0,e,aI,aQ⟩:=h;have aI:(d.1.set k.toNat v)[j.toNat]?=some e:=aI;by_cases aX:k.toNat=j.toNat;exact .inr ab;rw[mN aX] at aI;exact .inl ⟨j0,e,aI,aQ⟩
def xT (d:List (D [.int .i64])):Prop:=∀(j:Nat)(e:D [.int .i64]),d[j]?=some e->0<=e.1.1
theorem xT.set {d:L (D [.int .i64])}(h:xT d.1){k:Nat}{v:D [.int .i64]}(aT:0<=v.1.1):xT (ej d k v).1:=λj e he=>by
 have he:(d.1.set k v)[j]?=some e:=he;by_cases aX:k=j;subst aX;rw[List.getElem?_set] at he;split at he;split at he;cases he;exact aT;cases he;exact absurd rfl ‹_›;rw[mN aX] at he;exact h j e he
theorem ajf:∀x:U aje,(True)->av (GM x) (λy=>True):=by
 intro x aF;unfold GM;apply ag<;>intro aD<;>simp only[ay] at aD;exact ak aG;exact ak aG
theorem aDv:∀x:U VH,(True)->av (VG x) (λy=>True):=by
 intro x aF;unfold VG
 (repeat refine ag (λ_=>ak df) (λ_=>?_))
 exact ak df
theorem aDw:∀x:U VJ,(True)->av (VI x) (λy=>True):=by
 intro x aF;unfold VI
 (repeat refine ag (λ_=>ak df) (λ_=>?_))
 exact ak df
theorem aDz:∀x:U aiQ,(True)->av (N1 x) (λy=>True):=by
 intro x aF;unfold N1;refine ae (aDv _ aG) λaq cr=>?_;apply ag<;>intro aD<;>simp only[ay] at aD;exact ak aG;refine ae (aDw _ aG) λaB cE=>?_;apply ag<;>intro aR<;>simp only[ay] at aR;exact ak aG;exact ak aG
theorem aEd:∀x:U ajb,(True)->av (Oa x) (λy=>True):=by
 intro x aF;unfold Oa;apply ag<;>intro aD<;>simp only[ay] at aD;exact ak aG;exact ak aG
theorem aDF:∀x:U GC,(0<=x.1.2.1.1)->av (a2 N3 x) (Sum.elim (λy=>True) (λy=>y.1.1=false)):=
 cS (λx:U GC=>0<=x.1.2.1.1) (λx:U GC=>((x.1.1.1.size:Int)-x.1.2.1.1).toNat) (λx aF=>by
  unfold N3;have abG:=S.b x.1.1;apply ag<;>intro aD<;>simp only[ay] at aD;refine ae (vP ab) λv4 nz=>?_;refine ae (ajf _ aG) λa9 c5=>?_;apply ag<;>intro aR<;>simp only[ay] at aR;refine ae (vP ab) λv6 xa=>?_;refine ae (aEd _ aG) λbK ew=>?_;apply ag<;>intro bM<;>simp only[ay] at bM;exact a6 df;exact bz ⟨eb,eb⟩;exact bz ⟨eb,eb⟩;exact a6 df)
theorem lX:∀x:U aiS,(True)->av (k6 x) (λy=>y.1.1=true->1<=x.1.1.1.size/\x.1.1.1.size<=12):=by
 intro x aF;unfold k6;have abG:=S.b x.1.1;apply ag<;>intro aD<;>simp only[ay] at aD;exact ak m1;apply ag<;>intro aR<;>simp only[ay] at aR;exact ak m1;refine ae (vP dJ) λv1 pY=>?_;refine ae (ajf _ aG) λaB cE=>?_;apply ag<;>intro bM<;>simp only[ay] at bM;exact ak m1;refine ae (aDz _ aG) λaK cG=>?_;apply ag<;>intro dn<;>simp only[ay] at dn;exact ak m1;refine ae (aDF _ dJ) λcl e8=>?_;dsimp only at e8;refine ee e8 (λbO ec=>?_) (λcc fj=>?_);exact ak (by intro aA;(constructor<;>omega));exact ak (by intro aA;(constructor<;>omega))
theorem aDN (l:L (D [.str]))(s:dY):∀x:U GG,(x.1.1=l/\x.1.2.1=s/\0<=x.1.2.2.1.1)->av (a2 Bo x) (Sum.elim (λy=>True) (λy=>0<=y.1.1.1/\y.1.1.1<l.1.length/\l.1[y.1.1.1.toNat]?=some (s,()))):=
 cS (λx:U GG=>x.1.1=l/\x.1.2.1=s/\0<=x.1.2.2.1.1) (λx:U GG=>((x.1.1.1.length:Int)-x.1.2.2.1.1).toNat) (λx aF=>by
  unfold Bo;have kH:=L.b x.1.1;apply ag<;>intro aD<;>simp only[ay] at aD;refine bx λaE cw=>?_;apply ag<;>intro aR<;>simp only[ay] at aR;exact a6 (by obtain⟨bD,cZ,bN⟩:=aF;subst bD cZ;exact⟨bN,aD,by rw[cw,<-aR]⟩);exact bz ⟨(by obtain⟨bD,cZ,bN⟩:=aF;refine⟨bD,cZ,?_⟩;simp only[aL,b7] at*;omega),eb⟩;exact a6 df)
theorem aiY:∀x:U VK,(True)->av (uZ x) (λy=>-1<=y.1.1.1/\y.1.1.1<x.1.1.1.length/\(0<=y.1.1.1->x.1.1.1[y.1.1.1.toNat]?=some (x.1.2.1,()))):=by
 intro x aF;unfold uZ;refine ae (aDN (x.1.1) (x.1.2.1) _ (by(exact⟨rfl,rfl,by simp only[aL];decide⟩))) λaB cE=>?_;dsimp only at cE;refine ee cE (λaK cG=>?_) (λaS dj=>?_);exact ak (by dsimp only;refine⟨by simp only[aL];decide,by simp only[aL];omega,λq=>?_⟩;simp only[aL] at q;omega);exact ak (by dsimp only;exact⟨by have:=dj.1;omega,dj.2.1,λ_=>dj.2.2⟩)
theorem we:∀x:U VE,(True)->av (pg x) (λy=>y.1.1=true->∃j:Nat,x.1.1.1[j]?=some (x.1.2.1,())):=by
 intro x aF;unfold pg;refine ae (aiY _ aG) λaq cr=>?_;dsimp only at cr;exact ak (by intro aA;simp only[b8,aL] at aA;exact⟨_,cr.2.2 ab⟩)
theorem aDJ:∀x:U GF,(0<=x.1.2.1.1)->av (a2 N4 x) (Sum.elim (λy=>True) (λy=>True)):=
 cS (λx:U GF=>0<=x.1.2.1.1) (λx:U GF=>((x.1.1.1.length:Int)-x.1.2.1.1).toNat) (λx aF=>by
  unfold N4;have kH:=L.b x.1.1;apply ag<;>intro aD<;>simp only[ay] at aD;refine ae (qp ab) λv1 pY=>?_;refine bx λaP cP=>?_;refine ae (we _ aG) λaK cG=>?_;dsimp only at cG;apply ag<;>intro aR<;>simp only[ay] at aR;exact a6 df;exact bz ⟨eb,eb⟩;exact a6 df)
theorem aiX:∀x:U aiU,(True)->av (GD x) (λy=>True):=by
 intro x aF;unfold GD;refine ae (aDJ _ dJ) λaS dj=>?_;dsimp only at dj;refine ee dj (λa9 c5=>?_) (λbJ dL=>?_);exact ak aG;exact ak aG
theorem aEA (n:Nat):∀x:U GP,(0<=x.1.2.2.1.1/\x.1.2.2.1.1<=n/\x.1.1.1.length=n)->av (a2 Od x) (λy=>0<=y.1.1.1/\y.1.1.1<=n):=
 cS (λx:U GP=>0<=x.1.2.2.1.1/\x.1.2.2.1.1<=n/\x.1.1.1.length=n) (λx:U GP=>((x.1.1.1.length:Int)-x.1.2.2.1.1).toNat) (λx aF=>by
  unfold Od;have kH:=L.b x.1.1;apply ag<;>intro aD<;>simp only[ay] at aD;refine bx λaE cw=>?_;apply ag<;>intro aR<;>simp only[ay] at aR;exact bz ⟨eb,eb⟩;exact a6 gP;exact a6 gP)
theorem ajq:∀x:U ajo,(x.1.1.1.length<=100000000)->av (GO x) (λy=>y.1.1.1.length<=x.1.1.1.length+1/\1<=y.1.1.1.length):=by
 intro x aF;unfold GO;refine ae (aEA (x.1.1.1.length) _ (by(and_intros<;>(intros)<;>(simp only[aL,b7] at*<;>omega)))) λaB cE=>?_;dsimp only at cE;have kH:=L.b x.1.1;apply ag<;>intro aD<;>simp only[ay] at aD;refine bx λbS eM=>?_;apply ag<;>intro aR<;>simp only[ay] at aR;exact ak gm;refine ae (qp ab) λv4 nz=>?_;refine ae (dq dJ) λgV lv=>?_;refine ae (dq dJ) λiB uF=>?_;refine ae (qp ab) λdW yT=>?_;refine ae (dq dJ) λjK o4=>?_;exact ak eb;refine ae (qp ab) λfi ab7=>?_;refine ae (dq dJ) λoz tw=>?_;refine ae (dq dJ) λp2 DN=>?_;refine ae (qp ab) λeL aQs=>?_;refine ae (dq dJ) λnB DP=>?_;exact ak eb
theorem aDR (n:Nat)(az:n<=10000000):∀x:U GI,(0<=x.1.2.2.1.1/\x.1.2.1.1.length<=x.1.2.2.1.1+1/\x.1.2.2.1.1<=n/\x.1.1.1.length=n/\1<=x.1.2.1.1.length)->av (a2 N6 x) (λy=>y.1.1.1.length<=n+1/\1<=y.1.1.1.length):=
 cS (λx:U GI=>0<=x.1.2.2.1.1/\x.1.2.1.1.length<=x.1.2.2.1.1+1/\x.1.2.2.1.1<=n/\x.1.1.1.length=n/\1<=x.1.2.1.1.length) (λx:U GI=>((x.1.1.1.length:Int)-x.1.2.2.1.1).toNat) (λx aF=>by
  unfold N6;have kH:=L.b x.1.1;apply ag<;>intro aD<;>simp only[ay] at aD;refine bx λaE cw=>?_;refine ae (ajq _ dJ) λaB cE=>?_;dsimp only at cE;exact bz ⟨eb,eb⟩;exact a6 gP)
theorem Bp:∀x:U aiZ,(x.1.1.1.length<=10000000)->av (wg x) (λy=>y.1.1.1.length<=x.1.1.1.length+1/\1<=y.1.1.1.length):=by
 intro x aF;unfold wg;refine ae (aDR (x.1.1.1.length) ab _ (by(and_intros<;>(intros)<;>(simp only[aL,b7] at*<;>omega)))) λaK cG=>?_;dsimp only at cG;exact ak gm
theorem aDp:∀x:U VD,(True)->av (VC x) (λy=>True):=by
 intro x aF;unfold VC;apply ag<;>intro aD<;>simp only[ay] at aD;exact ak df;exact ak df
theorem ayV (k:Nat)(h:10^k<=18446744073709551615):k<=19:=by
 rcases kz 19 k with g|g;have:10^20<=10^k:=Nat.pow_le_pow_right bu g;have e:(10:Nat)^20=100000000000000000000:=by decide
 omega;exact g
theorem anf (a:Int)(h:0<=a):Int.tdiv a 10=a/10:=Int.tdiv_eq_ediv_of_nonneg h
theorem aDs:∀x:U GB,(x.1.2.1.1.length<=20/\(0<x.1.1.1->x.1.1.1.toNat*10^x.1.2.1.1.length<=18446744073709551615))->av (a2 N0 x) (λy=>y.1.1.1.length<=20/\1<=y.1.1.1.length):=
 cS (λx:U GB=>x.1.2.1.1.length<=20/\(0<x.1.1.1->x.1.1.1.toNat*10^x.1.2.1.1.length<=18446744073709551615)) (λx:U GB=>x.1.1.1.toNat+(1-x.1.2.1.1.length)) (λx aF=>by
  unfold N0;have hu:=x.1.1.2;have w9:0<=x.1.1.1:=hu.1;have d_:(a_.w .u64 10).1=10:=rfl;have gv:(a_.w .u64 0).1=0:=rfl;obtain⟨aqr,aqs⟩:=aF;apply ag<;>intro ah;simp only[b8,gv] at ah;refine ae (vO (by rw[d_];decide)) λv2 _=>?_;have ax:=aqs ah;have bL:10^x.1.2.1.1.length<=18446744073709551615:=jF (Nat.le_mul_of_pos_left _ ab) ax;have aW:=ayV _ bL;refine ae (dq (by simp only[b7];omega)) λcg kq=>?_;simp only[b7] at kq;refine ae (Tt (by rw[d_];decide)) λv4 nz=>?_;rw[d_,anf _ w9] at nz;have aQk:x.1.1.1<=18446744073709551615:=hu.2;have aT:v4.1=x.1.1.1/10:=by rw[nz,mH];omega
  refine bz ⟨⟨by dsimp only;omega,λlR=>?_⟩,by dsimp only;omega⟩;dsimp only at lR⊢;rw[kq.2,Nat.add_comm,Nat.pow_succ,Nat.mul_comm (10^_) 10,<-Nat.mul_assoc];refine jF (nu _ ?_) ax;omega;apply ag<;>intro an;simp only[b8,aL] at ah an;refine ae (vO (by rw[d_];decide)) λv2 _=>?_;refine ae (dq (by simp only[b7];omega)) λcg kq=>?_;simp only[b7] at kq;refine ae (Tt (by rw[d_];decide)) λv4 nz=>?_;rw[d_,anf _ w9] at nz;have aT:v4.1=0:=by rw[nz,mH];omega
  exact bz ⟨⟨by dsimp only;omega,λlR=>by dsimp only at lR;omega⟩,by dsimp only;omega⟩;simp only[b8,aL] at an;exact a6 ⟨aqr,by dsimp only;omega⟩)
theorem aiN:∀x:U aiK,(True)->av (GA x) (λy=>y.1.1.1.size<=21):=by
 intro x aF;unfold GA;refine ae (aDp _ aG) λaq cr=>?_;have ash:=aq.1.1.2.2;have aQx:aq.1.1.1<=18446744073709551615:=ash;refine ae (aDs _ (by(refine⟨Nat.zero_le _,λ_=>?_⟩;show aq.1.1.1.toNat*1<=_;omega))) λcl e8=>?_;dsimp only at e8;have Se:(S ⟨#[45]⟩).1.size=1:=rfl;apply ag<;>intro aD<;>simp only[ay] at aD;refine ae (oU dJ) λfi ab7=>?_;exact ak eb;exact ak eb
theorem VT:∀x:U aja,(True)->av (Bq x) (λy=>y.1.1.1=lp x.1.1.1):=by
 intro x aF;unfold Bq;apply ag<;>intro aD<;>simp only[ay] at aD;exact ak (by dsimp only;simp only[lp,aL] at*;(repeat' split)<;>omega);apply ag<;>intro aR<;>simp only[ay] at aR;exact ak (by dsimp only;simp only[lp,aL] at*;(repeat' split)<;>omega);apply ag<;>intro bM<;>simp only[ay] at bM;exact ak (by dsimp only;simp only[lp,aL] at*;(repeat' split)<;>omega);apply ag<;>intro dn<;>simp only[ay] at dn;exact ak (by dsimp only;simp only[lp,aL] at*;(repeat' split)<;>omega);apply ag<;>intro dP<;>simp only[ay] at dP;exact ak (by dsimp only;simp only[lp,aL] at*;(repeat' split)<;>omega);exact ak (by dsimp only;simp only[lp,aL] at*;(repeat' split)<;>omega)
theorem aD6:∀x:U VN,(True)->av (VM x) (Sum.elim (λy=>0<=x.1.2.1.1/\(x.1.2.1.1<2->x.1.1.2.2.2.2.2.1.1=-1)/\(x.1.2.1.1<1->x.1.1.2.2.2.2.1.1=-1)) (λy=>y.1.1=false)):=by
 intro x aF;unfold VM;apply ag<;>intro aD<;>simp only[ay] at aD;exact ak df;apply ag<;>intro aR<;>simp only[ay] at aR;apply ag<;>intro bM<;>simp only[ay] at bM;exact ak df;apply ag<;>intro dn<;>simp only[ay] at dn;apply ag<;>intro dP<;>simp only[ay] at dP;exact ak df;exact ak gP;exact ak gP;apply ag<;>intro fO<;>simp only[ay] at fO;apply ag<;>intro gD<;>simp only[ay] at gD;exact ak df;exact ak gP;exact ak gP
theorem aD7:∀x:U VP,(True)->av (VO x) (λy=>True):=by
 intro x aF;unfold VO;apply ag<;>intro aD<;>simp only[ay] at aD;refine ae (lX _ aG) λa9 c5=>?_;dsimp only at c5;apply ag<;>intro aR<;>simp only[ay] at aR;exact ak df;apply ag<;>intro bM<;>simp only[ay] at bM;exact ak df;exact ak df;apply ag<;>intro dn<;>simp only[ay] at dn;exact ak df;exact ak df
theorem aD8:∀x:U VR,(True)->av (VQ x) (λy=>True):=by
 intro x aF;unfold VQ;apply ag<;>intro aD<;>simp only[ay] at aD;exact ak df;apply ag<;>intro aR<;>simp only[ay] at aR;exact ak df;apply ag<;>intro bM<;>simp only[ay] at bM;exact ak df;exact ak df
theorem aD':∀x:U ai',(True)->av (N' x) (λy=>y.1.1=true->0<=lp x.1.1.1.1/\(lp x.1.1.1.1<2->x.1.1.2.2.2.2.2.1.1=-1)/\(lp x.1.1.1.1<1->x.1.1.2.2.2.2.1.1=-1)/\x.1.1.2.2.2.1.1.size<=24):=by
 intro x aF;unfold N';refine ae (VT _ aG) λaq cr=>?_;dsimp only at cr;refine ae (aD6 _ aG) λaB cE=>?_;dsimp only at cE;refine ee cE (λaK cG=>?_) (λaS dj=>?_);refine ae (aD7 _ aG) λbJ dL=>?_;refine ae (aD8 _ aG) λbK ew=>?_;apply ag<;>intro aD<;>simp only[ay] at aD;apply ag<;>intro aR<;>simp only[ay] at aR;apply ag<;>intro bM<;>simp only[ay] at bM;exact ak (by intro aA;(rw[cr] at cG;exact⟨cG.1,cG.2.1,cG.2.2,by rw[aD];decide⟩));exact ak m1;exact ak m1;apply ag<;>intro dn<;>simp only[ay] at dn;apply ag<;>intro dP<;>simp only[ay] at dP;apply ag<;>intro fO<;>simp only[ay] at fO;exact ak (by intro aA;(rw[cr] at cG;exact⟨cG.1,cG.2.1,cG.2.2,by simp only[b8,aL] at aA;omega⟩));exact ak m1;exact ak m1;apply ag<;>intro gD<;>simp only[ay] at gD;apply ag<;>intro ie<;>simp only[ay] at ie;exact ak m1;exact ak m1;exact ak m1;exact ak (by intro aA;(rw[dj] at aA;contradiction))
theorem aEC:∀x:U V8,(0<=x.1.2.1.1/\x.1.2.1.1<x.1.1.1.length)->av (V7 x) (λy=>∃e,x.1.1.1[x.1.2.1.1.toNat]?=some e/\y.1.1=if x.1.2.2.1.1=1 then e.2.2.2.2.2.1 else x.1.2.2.2.1):=by
 intro x aF;unfold V7;apply ag<;>intro aD<;>simp only[ay] at aD;refine bx λd_ lu=>?_;exact ak ⟨_,lu,by rw[if_pos ab]⟩;exact ak ⟨_,fG ab,by rw[if_neg ab]⟩
theorem aEI (l:L (D eu))(i:Int)(e:D eu)(he:l.1[i.toNat]?=some e)(bZ:lp e.1.1<=2)(d0:L (D [.int .i64]))(SG:∃q:D [.int .i64],d0.1[i.toNat]?=some q/\0<q.1.1/\q.1.1<=24)(sr:0<=i)(Az:i<l.1.length):
 ∀x:U Oh,(x.1.1=l/\x.2.1.1.length=l.1.length/\x.1.2.2.1.1=i/\0<=x.1.2.2.2.2.1.1/\x.1.2.2.2.1.1=lp e.1.1/\(∀j,gH d0.1 j->gH x.2.1.1 j)/\(∀j,i<=j->x.2.1.1[j.toNat]?=d0.1[j.toNat]?)/\
  (∀j,gH x.2.1.1 j->gH d0.1 j\/j<i)/\(0<x.1.2.2.2.2.1.1->e.2.2.2.2.1.1<i/\gH x.2.1.1 e.2.2.2.2.1.1)/\(1<x.1.2.2.2.2.1.1->e.2.2.2.2.2.1.1<i/\gH x.2.1.1 e.2.2.2.2.2.1.1)/\xT x.2.1.1/\(0<x.1.2.2.2.2.1.1->¬gH d0.1 e.2.2.2.2.1.1)/\(1<x.1.2.2.2.2.1.1->¬gH d0.1 e.2.2.2.2.2.1.1/\e.2.2.2.2.1.1≠e.2.2.2.2.2.1.1))->
 av (a2 Og x) (Sum.elim (λy=>y.2.1.1.length=l.1.length/\(∀j,gH d0.1 j->gH y.2.1.1 j)/\(∀j,i<=j->y.2.1.1[j.toNat]?=d0.1[j.toNat]?)/\
  (∀j,gH y.2.1.1 j->gH d0.1 j\/j<i)/\(1<=lp e.1.1->e.2.2.2.2.1.1<i/\gH y.2.1.1 e.2.2.2.2.1.1)/\(2<=lp e.1.1->e.2.2.2.2.2.1.1<i/\gH y.2.1.1 e.2.2.2.2.2.1.1)/\xT y.2.1.1/\(1<=lp e.1.1->¬gH d0.1 e.2.2.2.2.1.1)/\(2<=lp e.1.1->¬gH d0.1 e.2.2.2.2.2.1.1/\e.2.2.2.2.1.1≠e.2.2.2.2.2.1.1)) (λy=>y.1.2.1=false)):=
 cS _ (λx:U Oh=>(x.1.2.2.2.1.1-x.1.2.2.2.2.1.1).toNat) (λx aF=>by
  unfold Og;obtain⟨bD,cZ,bN,cK,gn,ig,mA,qD,D9,asH,acy,acz,asI⟩:=aF;have Kk:=L.b l;apply ag<;>intro aD;simp only[b8,aL] at aD;refine ae (dg (by rw[bD,bN];omega)) λeV kG=>?_;rw[bD,bN,he] at kG;cases kG;refine ae (aEC _ (by dsimp only;rw[bD,bN];omega)) λbT e6=>?_;dsimp only at e6;rw[bD,bN] at e6;obtain⟨e',fA,e6⟩:=e6;rw[he] at fA;cases fA;have lf:bT.1.1=if x.1.2.2.2.2.1.1=1 then e.2.2.2.2.2.1 else e.2.2.2.2.1:=e6
  apply ag<;>intro aR;exact a6 rfl;apply ag<;>intro bM;exact a6 rfl;simp only[b8,aL] at aR bM;have ba:0<=bT.1.1.1:=ab;have aa:bT.1.1.1<i:=by rw[<-bN];exact bM
  apply ag<;>intro dn;refine ir λiA kF=>?_;apply ag<;>intro dP;exact a6 rfl;apply ag<;>intro fO;refine ae (mc (by rw[bN];omega)) λkk oZ=>?_;rw[bN,mA i (Int.le_refl _)] at oZ;obtain⟨q,arT,abY,aQp⟩:=SG;rw[arT] at oZ;cases oZ;apply ag<;>intro gD;refine ir λiu l8=>?_;have yN:¬gH x.2.1.1 bT.1.1.1:=λ⟨_,q,cx,cI⟩=>by
   rw[kF] at cx;cases cx;simp only[b8,aL] at dP;omega
  have lR:0<(bc kk.1 (W 1)).1:=by simp only[aL];omega
  refine bz ⟨⟨bD,?_,bN,?_,gn,λj aw=>(ig j aw).set lR,λj aw=>?_,λj aw=>?_,λaX=>?_,λaX=>?_,acy.set (Int.le_of_lt lR),λaX=>?_,λaX=>?_⟩,?_⟩;simp only[b7];exact cZ;simp only[aL];omega;show(x.2.1.1.set bT.1.1.1.toNat _)[j.toNat]?=_;rw[mN ab];exact mA j aw;rcases gH.X5 ba aw with g|g;exact qD j g;exact .inr ab;dsimp only at aX⊢;by_cases ai:x.1.2.2.2.2.1.1=0;rw[if_neg ab] at lf;rw[<-lf];exact⟨aa,gH.XR ba ab lR⟩;obtain⟨aI,aQ⟩:=D9 ab;exact⟨aI,aQ.set lR⟩;dsimp only at aX⊢;simp only[aL] at aX;have ai:x.1.2.2.2.2.1.1=1:=ab;rw[if_pos ai] at lf;rw[<-lf];exact⟨aa,gH.XR ba ab lR⟩;dsimp only at aX⊢;by_cases ai:x.1.2.2.2.2.1.1=0;rw[if_neg ab] at lf;rw[<-lf];exactλq=>yN (ig _ q);exact acz ab;dsimp only at aX⊢;simp only[aL] at aX;have ai:x.1.2.2.2.2.1.1=1:=ab;rw[if_pos ai] at lf;rw[<-lf];exact⟨λq=>yN (ig _ q),λq=>yN (q▸(D9 ab).2)⟩;dsimp only;simp only[aL];omega;exfalso;simp only[b8,decide_eq_true_eq,decide_eq_false_iff_not] at gD;omega;exfalso;simp only[b8,decide_eq_true_eq,decide_eq_false_iff_not] at fO;omega;exfalso;simp only[b8,decide_eq_true_eq,decide_eq_false_iff_not] at dn;omega;simp only[b8,aL] at aD;refine a6 ⟨cZ,ig,mA,qD,λaX=>D9 ab,λaX=>asH ab,acy,λaX=>acz ab,λaX=>asI ab⟩)
theorem aEF (l:L (D eu))(root:Int):∀x:U Of,(x.1.1=l/\x.2.1.1.length=l.1.length/\x.1.2.2.1.1<l.1.length/\-1<=x.1.2.2.1.1/\gH x.2.1.1 root/\(∀j,x.1.2.2.1.1<j->gH x.2.1.1 j->ug l.1 (gH x.2.1.1) j)/\xT x.2.1.1/\Rv l.1 (λj=>x.1.2.2.1.1<j/\gH x.2.1.1 j))->
 av (a2 Oe x) (Sum.elim (λy=>y.2.1.1.length=l.1.length/\gH y.2.1.1 root/\(∀j,gH y.2.1.1 j->ug l.1 (gH y.2.1.1) j)/\Rv l.1 (gH y.2.1.1)) (λy=>y.1.2.1=false)):=
 cS _ (λx:U Of=>(x.1.2.2.1.1+1).toNat) (λx aF=>by
  unfold Oe;obtain⟨bD,cZ,bN,cK,gn,ig,mA,qD⟩:=aF;have Kk:=L.b l;apply ag<;>intro aD;simp only[b8,aL] at aD;have sr:0<=x.1.2.2.1.1:=ab;apply ag<;>intro aR;refine ir λbS eM=>?_;apply ag<;>intro bM;simp only[b8,aL] at bM;refine bz ⟨⟨bD,cZ,?_,?_,gn,λj aw bL=>?_,mA,λa b s t e f bZ ah=>?_⟩,?_⟩;simp only[aL];omega;simp only[aL];omega;simp only[aL] at aw;by_cases ai:j=x.1.2.2.1.1;subst ai;obtain⟨_,e,aI,aQ⟩:=bL;rw[eM] at aI;cases aI;omega;exact ig j ab bL;have aA:∀j,(gf x.1.2.2.1 (W 1)).1<j/\gH x.2.1.1 j->x.1.2.2.1.1<j/\gH x.2.1.1 j:=λj aw=>by
   simp only[aL] at aw;refine⟨?_,aw.2⟩;by_cases ai:j=x.1.2.2.1.1;obtain⟨_,_,e,aI,aQ⟩:=aw;subst ai;rw[eM] at aI;cases aI;omega;omega
  exact qD a b s t e f (aA a bZ) (aA b ah);simp only[aL];omega;refine ae (dg (by rw[bD];omega)) λcR fg=>?_;rw[bD] at fg;refine ae (aD' _ trivial) λa9 c5=>?_;dsimp only at c5;apply ag<;>intro dn;exact a6 rfl;simp only[b8] at dn;obtain⟨dK,dh,gT,s8⟩:=c5 dn;apply ag<;>intro dP;refine ir λdb fY=>?_;rw[eM] at fY;cases fY;apply ag<;>intro fO;exact a6 rfl;refine ae (dg (by rw[bD];omega)) λfm j1=>?_;rw[bD,fg] at j1;cases j1;refine ae (VT _ trivial) λcl e8=>?_;dsimp only at e8;simp only[b8,aL] at bM fO;have w5:=mA _ _ eM;have arP:0<bS.1.1:=ab;have aqC:lp cR.1.1<=2:=by unfold lp;(repeat' split)<;>omega
  refine ae (aEI l x.1.2.2.1.1 cR fg aqC x.2.1 ⟨bS,eM,arP,ab⟩ sr bN _ ⟨bD,cZ,rfl,by simp only[aL];decide,e8,λj aw=>aw,λj _=>rfl,λj aw=>.inl aw,λaX=>?_,λaX=>?_,mA,λaX=>?_,λaX=>?_⟩) λdy g3=>?_;simp only[aL] at aX;omega;simp only[aL] at aX;omega;simp only[aL] at aX;omega;simp only[aL] at aX;omega;refine ee g3 (λeD gA=>?_) (λeO iM=>?_);obtain⟨eS,fI,gL,lV,jx,nC,Fi,rn,nX⟩:=gA;refine bz ⟨⟨bD,eS,?_,?_,fI _ gn,λj aw bL=>?_,Fi,λa b s t e f bZ ah vE Ax aM bR ba gU=>?_⟩,?_⟩;simp only[aL];omega;simp only[aL];omega;simp only[aL] at aw;have up:∀{C Yl:Int->Prop},(∀k,C k->Yl k)->ug l.1 C j->ug l.1 Yl j:=λan ⟨e,aI,aQ,bq,cA,eP,fy⟩=>⟨e,aI,aQ,λq=>⟨(bq q).1,an _ (bq q).2⟩,λq=>⟨(cA q).1,an _ (cA q).2⟩,eP,fy⟩;by_cases ai:j=x.1.2.2.1.1;subst ai;refine⟨cR,fg,dK,λq=>?_,λq=>?_,λq=>?_,λq=>?_,s8⟩;refine jx ?_;rcases Int.lt_or_le (lp cR.1.1) 1 with g|g;have:=gT g;omega;exact g;refine nC ?_;rcases Int.lt_or_le (lp cR.1.1) 2 with g|g;have:=dh g;omega;exact g;exact(jx ab).2.1;exact(nC ab).2.1;rcases lV j bL with g|g;exact up fI (ig j ab g);omega;have aez:∀(s:Nat),s<2->0<=pf cR s->¬gH x.2.1.1 (pf cR s):=λs aM D3=>by
   unfold pf at D3⊢;by_cases ai:s=0;rw[if_pos ai] at D3⊢;refine rn ?_;rcases Int.lt_or_le (lp cR.1.1) 1 with g|g;have:=gT g;omega;exact g;rw[if_neg ai] at D3⊢;refine(nX ?_).1;rcases Int.lt_or_le (lp cR.1.1) 2 with g|g;have:=dh g;omega;exact g
  have agB:∀(b:Int)(f:D eu)(t:Nat),x.1.2.2.1.1<b->gH x.2.1.1 b->l.1[b.toNat]?=some f->0<=pf f t->gH x.2.1.1 (pf f t):=λb f t aa af ax a8=>by
   obtain⟨f',aI,aQ,bq,cA,eP,fy⟩:=ig b aa af;rw[ax] at aI;cases aI;unfold pf at a8⊢;by_cases ai:t=0;rw[if_pos ai] at a8⊢;exact(bq a8).2;rw[if_neg ai] at a8⊢;exact(cA a8).2
  have pl:∀b,(gf x.1.2.2.1 (W 1)).1<b/\gH eD.2.1.1 b->b=x.1.2.2.1.1\/(x.1.2.2.1.1<b/\gH x.2.1.1 b):=λb ah=>by
   obtain⟨aa,af⟩:=ah;simp only[aL] at aa;rcases lV b af with g|g;by_cases ai:b=x.1.2.2.1.1;exact .inl ai;exact .inr ⟨ab,g⟩;omega
  rcases pl a bZ with Cc|Cc<;>rcases pl b ah with Cd|Cd;subst Cc;subst Cd;rw[fg] at vE Ax;cases vE;cases Ax;refine⟨rfl,?_⟩;have eN:0<=cR.2.2.2.2.2.1.1->cR.2.2.2.2.1.1≠cR.2.2.2.2.2.1.1:=λq=>(nX (by
   rcases Int.lt_or_le (lp cR.1.1) 2 with g|g;have:=dh g;omega;exact g)).2
  by_cases ai:s=0<;>by_cases yU:t=0<;>simp only[pf,ai,yU,if_true,if_false,Nat.one_ne_zero] at gU ba<;>omega;subst Cc;rw[fg] at vE;cases vE;refine absurd ?_ (aez s aM ba);rw[gU];exact agB b f t Cd.1 Cd.2 Ax (by rw[<-gU];exact ba);subst Cd;rw[fg] at Ax;cases Ax;refine absurd ?_ (aez t bR (by rw[<-gU];exact ba));rw[<-gU];exact agB a e s Cc.1 Cc.2 vE ba;exact qD a b s t e f Cc Cd vE Ax aM bR ba gU;simp only[aL];omega;exact a6 iM;exfalso;simp only[b8,decide_eq_true_eq,decide_eq_false_iff_not] at dP;omega;exfalso;simp only[b8,decide_eq_true_eq,decide_eq_false_iff_not] at aR;omega;simp only[b8,aL] at aD;exact a6 ⟨cZ,gn,λj bL=>ig j (by have:=bL.1;omega) bL,λa b s t e f bZ ah=>qD a b s t e f ⟨by have:=bZ.1;omega,bZ⟩ ⟨by have:=ah.1;omega,ah⟩⟩)
theorem aju:∀x:U ajs,True->av (GQ x) (λy=>y.1.2.1=true->y.1.1.1.length=x.1.1.1.length/\x.1.1.1.length<=160/\0<=x.1.2.1.1/\x.1.2.1.1<x.1.1.1.length/\s6 x.1.1.1 x.1.2.1.1/\(∀j,gH y.1.1.1 j->ug x.1.1.1 (gH y.1.1.1) j)):=by
 intro x _;unfold GQ;have Kk:=L.b x.1.1;apply ag<;>intro aD;exact ak (λq=>by cases q);apply ag<;>intro aR;exact ak (λq=>by cases q);apply ag<;>intro bM;exact ak (λq=>by cases q);simp only[b8,aL] at aD aR bM;refine ae (uL (by simp only[aL];omega)) λdF kU=>?_;obtain⟨kU,nR⟩:=kU;simp only[aL] at nR;apply ag<;>intro dn;refine ir λaP cP=>?_;have aa:0<(W 1).1:=by decide
 refine ae (aEF x.1.1 x.1.2.1.1 _ ⟨rfl,?_,?_,?_,gH.XR ab ab aa,λj aw bL=>?_,xT.set (λj e h=>?_) (Int.le_of_lt aa),λa b s t e f bZ ah=>?_⟩) λeY k4=>?_;dsimp only;simp only[b7];omega;dsimp only;omega;dsimp only;omega;dsimp only at aw bL;rcases gH.X5 ab bL with g|g;obtain⟨_,e,aI,aQ⟩:=g;rw[kU,List.getElem?_replicate] at aI;split at aI;cases aI;exact absurd aQ bu;cases aI;omega;rw[kU,List.getElem?_replicate] at h;split at h;cases h;decide;cases h;have aA:∀j,x.1.2.1.1<j->¬gH (ej dF x.1.2.1.1.toNat (W 1,())).1 j:=λj aw bL=>by
  rcases gH.X5 ab bL with g|g;obtain⟨_,e,aI,aQ⟩:=g;rw[kU,List.getElem?_replicate] at aI;split at aI;cases aI;exact absurd aQ bu;cases aI;omega
 exact absurd bZ.2 (aA a bZ.1);refine ee k4 (λfe kr=>?_) (λfM lh=>?_);obtain⟨eS,fI,gL,lV⟩:=kr;exact ak (λ_=>⟨eS,ab,ab,ab,(nI.make fI (λk aX=>⟨aX.1,gL k aX⟩) lV).mono ab,gL⟩);exact ak (λq=>by rw[show fM.1.2.1=false from lh] at q;cases q);exfalso;simp only[b8,decide_eq_true_eq,decide_eq_false_iff_not] at dn;omega
theorem aDY (n:Nat):∀x:U GK,(x.1.1.1.length=n/\x.1.2.1.1.length=n/\x.2.1.1.length=n/\0<=x.1.2.2.2.1.1)->av (a2 N8 x) (λy=>y.2.1.1.length=n):=
 cS (λx:U GK=>x.1.1.1.length=n/\x.1.2.1.1.length=n/\x.2.1.1.length=n/\0<=x.1.2.2.2.1.1) (λx:U GK=>((x.1.1.1.length:Int)-x.1.2.2.2.1.1).toNat) (λx aF=>by
  unfold N8;have kH:=L.b x.1.1;apply ag<;>intro aD<;>simp only[ay] at aD;refine bx λbS eM=>?_;apply ag<;>intro aR<;>simp only[ay] at aR;refine ir λcR fg=>?_;exact bz ⟨eb,eb⟩;exfalso
  (omega)
  exact a6 gP)
theorem ai5:∀x:U ai2,(True)->av (GJ x) (λy=>y.1.2.1=true->y.1.1.1.length=x.1.1.1.length/\x.1.1.1.length<=160/\0<=x.1.2.1.1/\x.1.2.1.1<x.1.1.1.length/\s6 x.1.1.1 x.1.2.1.1):=by
 intro x aF;unfold GJ;refine ae (aju _ aG) λaq cr=>?_;dsimp only at cr;apply ag<;>intro aD<;>simp only[ay] at aD;exact ak m1;have t0:=cr aD;obtain⟨t1,t2,t3,t4,t5,_⟩:=t0;refine ae (uL dJ) λea nR=>?_;refine ae (aDY (x.1.1.1.length) _ (by(and_intros<;>(intros)<;>first|omega|(simp only[aL,b7] at*<;>omega)))) λa9 c5=>?_;dsimp only at c5;exact ak (by intro aA;exact⟨c5,t2,t3,t4,t5⟩)
theorem aD2:∀x:U GL,((x.1.2.2.1=true->x.1.2.1.1.length=x.1.1.1.length/\x.1.1.1.length<=160/\x.1.2.2.2.2.1.1<=x.1.1.1.length)/\0<=x.1.2.2.2.2.1.1/\x.1.2.2.2.1.1.length<=x.1.2.2.2.2.1.1/\(x.1.2.2.1=false->x.1.2.2.2.2.1.1=0))->av (a2 N_ x) (λy=>y.1.1.1.length<=160):=
 cS (λx:U GL=>(x.1.2.2.1=true->x.1.2.1.1.length=x.1.1.1.length/\x.1.1.1.length<=160/\x.1.2.2.2.2.1.1<=x.1.1.1.length)/\0<=x.1.2.2.2.2.1.1/\x.1.2.2.2.1.1.length<=x.1.2.2.2.2.1.1/\(x.1.2.2.1=false->x.1.2.2.2.2.1.1=0)) (λx:U GL=>(x.1.1.1.length-x.1.2.2.2.2.1.1).toNat) (λx aF=>by
  unfold N_;obtain⟨bD,cZ,bN,cK⟩:=aF;apply ag<;>intro aD<;>simp only[ay] at aD;have gn:=bD aD;clear bD cK;have kH:=L.b x.1.1;apply ag<;>intro aR<;>simp only[ay] at aR;refine bx λaP cP=>?_;apply ag<;>intro bM<;>simp only[ay] at bM;refine bx λbS eM=>?_;apply ag<;>intro dn<;>simp only[ay] at dn;refine bx λcR fg=>?_;refine ae (ajq _ dJ) λa9 c5=>?_;dsimp only at c5;exact bz ⟨(by refine⟨λ_=>?_,?_,?_,λq=>?_⟩<;>first|(simp only[aL,b7] at*<;>omega)|(rw[aD] at q;cases q)),eb⟩;exact bz ⟨(by refine⟨λ_=>?_,?_,?_,λq=>?_⟩<;>first|(simp only[aL,b7] at*<;>omega)|(rw[aD] at q;cases q)),eb⟩;exact bz ⟨(by refine⟨λ_=>?_,?_,?_,λq=>?_⟩<;>first|(simp only[aL,b7] at*<;>omega)|(rw[aD] at q;cases q)),eb⟩;exact a6 gP;have ig:=cK aD;clear bD cK;exact a6 gP)
theorem aD5:∀x:U ai6,(True)->av (N9 x) (λy=>y.1.1.1.length<=160):=by
 intro x aF;unfold N9;refine ae (ai5 _ aG) λaq cr=>?_;dsimp only at cr;refine ae (aD2 _ (by(exact⟨λq=>by obtain⟨t1,t2,_⟩:=cr q;exact⟨t1,t2,by simp only[aL];omega⟩,by simp only[aL];decide,by simp only[aL,b7];decide,λ_=>by simp only[aL];decide⟩))) λbJ dL=>?_;dsimp only at dL;exact ak gm
theorem aDV:∀x:U ai1,(True)->av (N7 x) (λy=>y.1.1=true->x.1.1.1.length<=160/\0<=x.1.2.1.1/\x.1.2.1.1<x.1.1.1.length/\s6 x.1.1.1 x.1.2.1.1):=by
 intro x aF;unfold N7;refine ae (aju _ aG) λaq cr=>?_;dsimp only at cr;exact ak (by intro aA;obtain⟨t1,t2,t3,t4,t5,_⟩:=cr aA;exact⟨t2,t3,t4,t5⟩)
theorem aEM:∀x:U GR,(0<=x.1.2.2.1.1)->av (a2 Oj x) (Sum.elim (λy=>True) (λy=>True)):=
 cS (λx:U GR=>0<=x.1.2.2.1.1) (λx:U GR=>((x.1.1.1.length:Int)-x.1.2.2.1.1).toNat) (λx aF=>by
  unfold Oj;have kH:=L.b x.1.1;apply ag<;>intro aD<;>simp only[ay] at aD;refine bx λaE cw=>?_;apply ag<;>intro aR<;>simp only[ay] at aR;refine bx λaP cP=>?_;apply ag<;>intro bM<;>simp only[ay] at bM;exact a6 df;refine bx λbS eM=>?_;apply ag<;>intro dn<;>simp only[ay] at dn;exact a6 df;refine bx λcR fg=>?_;exact a6 df;exact bz ⟨eb,eb⟩;exact a6 df)
theorem aEP:∀x:U ajv,(True)->av (Oi x) (λy=>True):=by
 intro x aF;unfold Oi;refine ae (aEM _ dJ) λa9 c5=>?_;dsimp only at c5;refine ee c5 (λbJ dL=>?_) (λbK ew=>?_);exact ak aG;exact ak aG
theorem aEn:∀x:U ajd,(True)->av (Oc x) (λy=>True):=by
 intro x aF;unfold Oc;apply ag<;>intro aD<;>simp only[ay] at aD;refine ae (aEP _ aG) λaq cr=>?_;exact ak aG;apply ag<;>intro aR<;>simp only[ay] at aR;exact ak aG;apply ag<;>intro bM<;>simp only[ay] at bM;exact ak aG;apply ag<;>intro dn<;>simp only[ay] at dn;exact ak aG;apply ag<;>intro dP<;>simp only[ay] at dP;exact ak aG;exact ak aG
theorem aEq:∀x:U VW,(True)->av (VV x) (λy=>True):=by
 intro x aF;unfold VV;apply ag<;>intro aD<;>simp only[ay] at aD;apply ag<;>intro aR<;>simp only[ay] at aR;exact ak df;exact ak df;exact ak df
theorem aEr:∀x:U VY,(True)->av (VX x) (λy=>True):=by
 intro x aF;unfold VX;apply ag<;>intro aD<;>simp only[ay] at aD;apply ag<;>intro aR<;>simp only[ay] at aR;apply ag<;>intro bM<;>simp only[ay] at bM;exact ak df;apply ag<;>intro dn<;>simp only[ay] at dn;apply ag<;>intro dP<;>simp only[ay] at dP;exact ak df;exact ak df;exact ak df;apply ag<;>intro fO<;>simp only[ay] at fO;apply ag<;>intro gD<;>simp only[ay] at gD;exact ak df;exact ak df;exact ak df;apply ag<;>intro ie<;>simp only[ay] at ie;apply ag<;>intro mv<;>simp only[ay] at mv;exact ak df;exact ak df;exact ak df
theorem aEt:∀x:U V2,(True)->av (V1 x) (λy=>True):=by
 intro x aF;unfold V1;apply ag<;>intro aD<;>simp only[ay] at aD;apply ag<;>intro aR<;>simp only[ay] at aR;exact ak df;exact ak df;apply ag<;>intro bM<;>simp only[ay] at bM;apply ag<;>intro dn<;>simp only[ay] at dn;exact ak df;exact ak df;exact ak df
theorem aEs:∀x:U V0,(True)->av (VZ x) (λy=>True):=by
 intro x aF;unfold VZ;refine ae (aEt _ aG) λaK cG=>?_;apply ag<;>intro aD<;>simp only[ay] at aD;exact ak df;apply ag<;>intro aR<;>simp only[ay] at aR;exact ak df;exact ak df
theorem aEu:∀x:U V4,(True)->av (V3 x) (λy=>True):=by
 intro x aF;unfold V3;apply ag<;>intro aD<;>simp only[ay] at aD;apply ag<;>intro aR<;>simp only[ay] at aR;exact ak df;apply ag<;>intro bM<;>simp only[ay] at bM;exact ak df;apply ag<;>intro dn<;>simp only[ay] at dn;apply ag<;>intro dP<;>simp only[ay] at dP;exact ak df;exact ak df;exact ak df;apply ag<;>intro fO<;>simp only[ay] at fO;apply ag<;>intro gD<;>simp only[ay] at gD;exact ak df;exact ak df;exact ak df
theorem aEv:∀x:U V6,(True)->av (V5 x) (λy=>True):=by
 intro x aF;unfold V5;apply ag<;>intro aD<;>simp only[ay] at aD;apply ag<;>intro aR<;>simp only[ay] at aR;exact ak df;exact ak df;exact ak df
theorem ajn:∀x:U ajm,(True)->av (GN x) (λy=>True):=by
 intro x aF;unfold GN;refine ae (aEq _ aG) λaq cr=>?_;apply ag<;>intro aD<;>simp only[ay] at aD;exact ak aG;refine ae (aEr _ aG) λaB cE=>?_;apply ag<;>intro aR<;>simp only[ay] at aR;exact ak aG;refine ae (aEs _ aG) λaS dj=>?_;apply ag<;>intro bM<;>simp only[ay] at bM;exact ak aG;refine ae (aEu _ aG) λa9 c5=>?_;apply ag<;>intro dn<;>simp only[ay] at dn;exact ak aG;refine ae (aEv _ aG) λbJ dL=>?_;apply ag<;>intro dP<;>simp only[ay] at dP;exact ak aG;apply ag<;>intro fO<;>simp only[ay] at fO;apply ag<;>intro gD<;>simp only[ay] at gD;apply ag<;>intro ie<;>simp only[ay] at ie;exact ak aG;exact ak aG;exact ak aG;exact ak aG
theorem aEf (rec:U u0->Option (U Bs))(n:Int)(rI:∀x:U u0,(s6 x.1.1.1 x.1.2.1.1/\x.1.2.1.1<n)->av (rec x) (λy=>True)):∀x:U u0,(s6 x.1.1.1 x.1.2.1.1/\x.1.2.1.1<=n)->av (Ob rec x) (λy=>True):=by
 intro x aF;unfold Ob;obtain⟨aF,aPv⟩:=aF;obtain⟨ba,e,aI,aQ,bq,cA,eP,fy,_⟩:=aF.node;have bl:=(ep.1 aI).1;refine bx λaE cw=>?_;obtain rfl:=eF (aI.symm.trans cw);refine ae (VT _ aG) λaB cE=>?_;dsimp only at cE;apply ag<;>intro aD<;>simp only[ay] at aD;refine ae (aEn _ aG) λaK cG=>?_;exact ak aG;refine ae (rI _ (by(have iU:=eP ab;have dc:=bq iU;exact⟨dc.2,by dsimp only;omega⟩))) λaS dj=>?_;apply ag<;>intro aR<;>simp only[ay] at aR;exact ak aG;apply ag<;>intro bM<;>simp only[ay] at bM;refine ae (rI _ (by(have o_:=fy ab;have ek:=cA o_;exact⟨ek.2,by dsimp only;omega⟩))) λa9 c5=>?_;apply ag<;>intro dn<;>simp only[ay] at dn;exact ak aG;refine ae (ajn _ aG) λbJ dL=>?_;exact ak aG;refine ae (ajn _ aG) λbK ew=>?_;exact ak aG
theorem aEh:∀(n:Nat)(x:U u0),s6 x.1.1.1 x.1.2.1.1->x.1.2.1.1<n->av (Br n x) (λy=>True):=by
 intro n;induction n with
 |zero=>intro x h az;have:=h.node.1;omega
 |succ n cu=>
  intro x h az;exact aEf (Br n) x.1.2.1.1 (λz ai=>cu z ai.1 ab) x ⟨h,Int.le_refl _⟩
theorem aEk:∀x:U u0,(s6 x.1.1.1 x.1.2.1.1/\x.1.1.1.length<=160)->av (VU x) (λy=>True):=by
 intro x h;obtain⟨ba,e,aI,_⟩:=h.1.node;have bl:=(ep.1 aI).1;exact aEh px x h.1 (by unfold px;omega)
theorem aDC:∀x:U aiR,(True)->av (N2 x) (λy=>True):=by
 intro x aF;unfold N2;refine ae (aDV _ aG) λaq cr=>?_;dsimp only at cr;apply ag<;>intro aD<;>simp only[ay] at aD;exact ak aG;have t0:=cr aD;obtain⟨t1,t2,t3,t4⟩:=t0;refine ae (aEk _ (by(exact⟨t4,t1⟩))) λaB cE=>?_;exact ak aG
def aN {α:Type}(P:α->Prop)(l:List α):Prop:=∀(j:Nat) e,l[j]?=some e->P e
def eA {α:Type}(P:α->Prop)(l:List α)(i:Int):Prop:=∀(j:Nat) e,(j:Int)<i->l[j]?=some e->P e
section
variable{α:Type}{P Q:α->Prop}{l r:List α}{i:Int}
theorem aN.nil:aN P []:=λj e h=>by simp at h
theorem aN.append (h:aN P l)(h':aN P r):aN P (l++r):=λj e he=>by
 by_cases aw:j<l.length;rw[mL aw] at he;exact h j e he;rw[mM ab] at he;exact h' _ e he
theorem aN.one {a:α}(h:P a):aN P [a]:=λj e he=>by
 cases j with
 |zero=>simp at he;exact he▸h
 |succ j=>simp at he
theorem aN.imp (h:aN P l)(aA:∀e,P e->Q e):aN Q l:=λj e he=>aA e (h j e he)
theorem aN.take (h:aN P l){n:Nat}:aN P (l.take n):=λj e he=>by
 rw[List.getElem?_take] at he;split at he;exact h j e he;cases he
theorem aN.drop (h:aN P l){n:Nat}:aN P (l.drop n):=λj e he=>by
 rw[List.getElem?_drop] at he;exact h _ e he
theorem eA.zero:eA P l 0:=λj e h=>by omega
theorem eA.step {e:α}(h:eA P l i)(ba:0<=i)(he:l[i.toNat]?=some e)(bL:P e):eA P l (i+1):=λj e' aw fA=>by
 by_cases ai:j=i.toNat;subst ai;rw[he] at fA;cases fA;exact bL;exact h j e' ab fA
theorem eA.all (h:eA P l i)(aj:(l.length:Int)<=i):aN P l:=λj e he=>h j e (by have:=(ep.1 he).1;omega) he
end
theorem dG (i:a_ .i64)(ba:0<=i.1)(h:i.1<9223372036854775807):(bc i (W 1)).1=i.1+1:=by
 simp only[aL];omega
def zN (n:Int)(a:D dN):Prop:=a.1.1.size<=12/\a.2.2.1.1.size<=25/\0<=a.2.2.2.1.1/\a.2.2.2.1.1<n
def Yk (n:Int)(l:List (D dN)):Prop:=l.length<=6/\aN (zN n) l
def zX (n:Int)(a:D ff):Prop:=a.1.1.size<=12/\a.2.1.1.size<=12/\Yk n a.2.2.1.1/\(a.1.1.size=0/\a.2.1.1.size=0/\a.2.2.1.1.length=0\/1<=a.1.1.size/\1<=a.2.1.1.size/\1<=a.2.2.1.1.length)
structure l3 (p:D du):Prop where
  lS:1<=p.1.1.size
  rP:p.1.1.size<=12
  g_:2<=p.2.1.1.length
  gl:p.2.1.1.length<=5
  rs:aN (λr:D [.str]=>1<=r.1.1.size/\r.1.1.size<=12) p.2.1.1
  eS:1<=p.2.2.1.1.length
  fI:p.2.2.1.1.length<=24
  ct:aN (zX p.2.2.1.1.length) p.2.2.1.1
def oV (l:List (D [.bool])):Nat:=(l.filter λe=> !e.1).length
theorem RY:∀{l:List (D [.bool])}{i:Nat}{q:D [.bool]},l[i]?=some q->q.1=false->oV (l.set i (true,()))+1=oV l
 |[],i,q,h,_=>by simp at h
 |a::l,0,q,h,aA=>by
  simp at h;subst h;simp[oV,aA]
 |a::l,i+1,q,h,aA=>by
  have:=RY (l:=l) (i:=i) (by simpa using h) aA;simp only[oV,Y5,List.filter_cons] at this⊢;split<;>(first|simp only[gX]|skip)<;>omega
theorem aoU:∀l:List (D [.bool]),oV l<=l.length:=λl=>List.length_filter_le _ _
def kY (n:Nat)(e:D [.int .i64]):Prop:=0<=e.1.1/\e.1.1<n
def nr (v5:List (D ff))(role:dY)(e:D [.int .i64]):Prop:=0<=e.1.1/\∃xq:D ff,v5[e.1.1.toNat]?=some xq/\(xq.1=role\/xq.2.1=role)
structure oS (w:D [.str,.a4 [.str],.a4 ff,.str,.a4 [.a4 [.int .i64]]]):Prop where
  p:l3 (w.1,w.2.1,w.2.2.1,())
  role:1<=w.2.2.2.1.1.size
  n:w.2.2.2.2.1.1.length<=40
  XS:aN (λs:D [.a4 [.int .i64]]=>s.1.1.length<=24/\aN (nr w.2.2.1.1 w.2.2.2.1) s.1.1) w.2.2.2.2.1.1
def s4 (v w:D [.str,.a4 [.str],.a4 ff,.str,.a4 [.a4 [.int .i64]]]):Prop:=v.1=w.1/\v.2.1=w.2.1/\v.2.2.1=w.2.2.1/\v.2.2.2.1=w.2.2.2.1
theorem aMy (s:dY):∀x:U Ii,(x.1.1=s/\0<=x.1.2.1.1)->av (a2 Qf x) (Sum.elim (λy=>True) (λy=>y.1.1=true->s.1.size<=25)):=
 cS (λx:U Ii=>x.1.1=s/\0<=x.1.2.1.1) (λx:U Ii=>((x.1.1.1.size:Int)-x.1.2.1.1).toNat) (λx aF=>by
  unfold Qf;have abG:=S.b x.1.1;apply ag<;>intro aD<;>simp only[ay] at aD;refine ae (vP ab) λv1 pY=>?_;apply ag<;>intro aR<;>simp only[ay] at aR;refine ae (R2 ab) λv2 pZ=>?_;refine ae (lX _ aG) λaK cG=>?_;dsimp only at cG;apply ag<;>intro bM<;>simp only[ay] at bM;refine ae (R2 (by(have:=S.b x.1.1;simp only[aL,b7] at*;omega))) λv4 nz=>?_;refine ae (lX _ aG) λa9 c5=>?_;dsimp only at c5;exact a6 (by intro aA;(have dK:=cG bM;have dh:=c5 aA;rw[<-aF.1];simp only[aL] at*;omega));exact a6 (by intro aA;contradiction);exact bz ⟨⟨aF.1,by have:=S.b x.1.1;simp only[aL] at*;omega⟩,(by have:=S.b x.1.1;simp only[aL,b7] at*;omega)⟩;exact a6 df)
theorem aMB:∀x:U amh,(True)->av (Qe x) (λy=>y.1.1=true->x.1.1.1.size<=25):=by
 intro x aF;unfold Qe;refine ae (aMy (x.1.1) _ (by(exact⟨rfl,by simp only[aL];decide⟩))) λbJ dL=>?_;dsimp only at dL;refine ee dL (λbK ew=>?_) (λcl e8=>?_);refine ae (lX _ aG) λbO ec=>?_;dsimp only at ec;exact ak (by intro aA;have:=ec aA;omega);exact ak e8
theorem alc:∀x:U ala,(True)->av (HA x) (λy=>y.1.1=true->x.1.1.2.1.1.size<=25):=by
 intro x aF;unfold HA;apply ag<;>intro aD<;>simp only[ay] at aD;refine ae (aMB _ aG) λaq cr=>?_;dsimp only at cr;exact ak cr;apply ag<;>intro aR<;>simp only[ay] at aR;apply ag<;>intro bM<;>simp only[ay] at bM;exact ak (by intro aA;(simp only[b8] at aA;rw[aA];decide));exact ak m1;exact ak m1
theorem aJd:∀x:U Hs,(0<=x.1.2.2.1.1/\x.1.2.1.1<x.1.1.1.length)->av (a2 Pe x) (Sum.elim (λy=>True) (λy=>y.1.1=false)):=
 cS (λx:U Hs=>0<=x.1.2.2.1.1/\x.1.2.1.1<x.1.1.1.length) (λx:U Hs=>(x.1.2.1.1-x.1.2.2.1.1).toNat) (λx aF=>by
  unfold Pe;have ah:=L.b x.1.1;apply ag<;>intro aD<;>simp only[ay] at aD;refine bx λfm j1=>?_;refine bx λdD g7=>?_;apply ag<;>intro aR<;>simp only[ay] at aR;exact a6 df;exact bz ⟨eb,eb⟩;exact a6 df)
theorem aJa (l:L (D dN))(n:a_ .i64):∀x:U Hr,(x.1.1=l/\x.1.2.1=n/\0<=x.1.2.2.1.1/\eA (zN n.1) l.1 x.1.2.2.1.1)->av (a2 Pd x) (Sum.elim (λy=>aN (zN n.1) l.1) (λy=>y.1.1=false)):=
 cS (λx:U Hr=>x.1.1=l/\x.1.2.1=n/\0<=x.1.2.2.1.1/\eA (zN n.1) l.1 x.1.2.2.1.1) (λx:U Hr=>((x.1.1.1.length:Int)-x.1.2.2.1.1).toNat) (λx aF=>by
  unfold Pd;obtain⟨bD,cZ,bN,cK⟩:=aF;subst bD cZ;have ah:=L.b x.1.1;have kH:=L.b x.1.1;apply ag<;>intro aD<;>simp only[ay] at aD;refine bx λaE cw=>?_;refine ae (lX _ aG) λaB cE=>?_;dsimp only at cE;apply ag<;>intro aR<;>simp only[ay] at aR;exact a6 df;refine bx λbS eM=>?_;refine ae (alc _ aG) λaS dj=>?_;dsimp only at dj;apply ag<;>intro bM<;>simp only[ay] at bM;exact a6 df;refine bx λdO fV=>?_;apply ag<;>intro dn<;>simp only[ay] at dn;exact a6 df;refine bx λdb fY=>?_;apply ag<;>intro dP<;>simp only[ay] at dP;exact a6 df;refine ae (aJd _ dJ) λbO ec=>?_;dsimp only at ec;refine ee ec (λcc fj=>?_) (λbT e6=>?_);exact bz ⟨(by dsimp only;have az:=dG x.1.2.2.1 bN ab;rw[cw] at eM fV fY;cases eM;cases fV;cases fY;exact⟨rfl,rfl,ab,by rw[az];exact cK.step bN cw ⟨(cE aR).2,dj bM,dn,dP⟩⟩),(by dsimp only;simp only[aL];omega)⟩;exact a6 e6;exact a6 (cK.all ab))
theorem W4:∀x:U ak8,(True)->av (B3 x) (λy=>y.1.1=true->Yk x.1.2.1.1 x.1.1.1/\1<=x.1.1.1.length):=by
 intro x aF;unfold B3;refine ae (aJa (x.1.1) (x.1.2.1) _ (by(exact⟨rfl,rfl,by simp only[aL];decide,by simp only[aL];exact eA.zero⟩))) λcL e7=>?_;dsimp only at e7;refine ee e7 (λcy fH=>?_) (λdX jJ=>?_);have kH:=L.b x.1.1;apply ag<;>intro aD<;>simp only[ay] at aD;exact ak (by intro aA;(simp only[b8,aL] at aA aD;exact⟨⟨ab,fH⟩,ab⟩));exact ak m1;exact ak (by intro aA;rw[show dX.1.1=false from jJ] at aA;contradiction)
theorem aJ1 (p:D du):∀x:U HF,(x.1.1=p/\0<=x.1.2.1.1/\eA (λr:D [.str]=>1<=r.1.1.size/\r.1.1.size<=12) p.2.1.1 x.1.2.1.1)->av (a2 Pu x) (Sum.elim (λy=>aN (λr:D [.str]=>1<=r.1.1.size/\r.1.1.size<=12) p.2.1.1) (λy=>y.1.1=false)):=
 cS (λx:U HF=>x.1.1=p/\0<=x.1.2.1.1/\eA (λr:D [.str]=>1<=r.1.1.size/\r.1.1.size<=12) p.2.1.1 x.1.2.1.1) (λx:U HF=>((x.1.1.2.1.1.length:Int)-x.1.2.1.1).toNat) (λx aF=>by
  unfold Pu;obtain⟨bD,cZ,bN⟩:=aF;subst bD;have ah:=L.b x.1.1.2.1;have pT:=L.b x.1.1.2.1;apply ag<;>intro aD<;>simp only[ay] at aD;refine bx λbS eM=>?_;refine ae (lX _ aG) λaS dj=>?_;dsimp only at dj;apply ag<;>intro aR<;>simp only[ay] at aR;exact a6 df;exact bz ⟨(by dsimp only;have az:=dG x.1.2.1 cZ ab;exact⟨rfl,ab,by rw[az];exact bN.step cZ eM (dj aR)⟩),(by dsimp only;simp only[aL];omega)⟩;exact a6 (bN.all ab))
theorem aJY:∀x:U Xb,(True)->av (Xa x) (Sum.elim (λy=>True) (λy=>x.1.1.1.1.size=0/\x.1.1.2.1.1.size=0/\x.1.1.2.2.1.1.length=0)):=by
 intro x aF;unfold Xa;apply ag<;>intro aD<;>simp only[ay] at aD;apply ag<;>intro aR<;>simp only[ay] at aR;have q8:=L.b x.1.1.2.2.1;apply ag<;>intro bM<;>simp only[ay] at bM;exact ak (by refine⟨by rw[aD];decide,by rw[aR];decide,ab⟩);exact ak df;exact ak df;exact ak df
theorem aJ4 (p:D du)(bL:aN (λr:D [.str]=>1<=r.1.1.size/\r.1.1.size<=12) p.2.1.1):∀x:U HG,(x.1.1=p/\0<=x.1.2.1.1/\eA (zX p.2.2.1.1.length) p.2.2.1.1 x.1.2.1.1)->av (a2 Pv x) (Sum.elim (λy=>aN (zX p.2.2.1.1.length) p.2.2.1.1) (λy=>y.1.1=false)):=
 cS (λx:U HG=>x.1.1=p/\0<=x.1.2.1.1/\eA (zX p.2.2.1.1.length) p.2.2.1.1 x.1.2.1.1) (λx:U HG=>((x.1.1.2.2.1.1.length:Int)-x.1.2.1.1).toNat) (λx aF=>by
  unfold Pv;obtain⟨bD,cZ,bN⟩:=aF;subst bD;have ah:=L.b x.1.1.2.2.1;have q8:=L.b x.1.1.2.2.1;apply ag<;>intro aD<;>simp only[ay] at aD;refine bx λdD g7=>?_;refine ae (aJY _ aG) λbO ec=>?_;dsimp only at ec;refine ee ec (λcc fj=>?_) (λbT e6=>?_);apply ag<;>intro aR<;>simp only[ay] at aR;exact a6 df;refine ae (we _ aG) λcL e7=>?_;dsimp only at e7;apply ag<;>intro bM<;>simp only[ay] at bM;exact a6 df;refine ae (we _ aG) λcy fH=>?_;dsimp only at fH;apply ag<;>intro dn<;>simp only[ay] at dn;exact a6 df;refine ae (W4 _ aG) λdX jJ=>?_;dsimp only at jJ;apply ag<;>intro dP<;>simp only[ay] at dP;exact a6 df;exact bz ⟨(by dsimp only;have az:=dG x.1.2.1 cZ ab;refine⟨rfl,ab,?_⟩;rw[az];refine bN.step cZ g7 ?_;(obtain⟨cx,aI⟩:=e7 bM;obtain⟨cI,aQ⟩:=fH dn;obtain⟨bq,cA⟩:=jJ dP;exact⟨(bL _ _ aI).2,(bL _ _ aQ).2,bq,.inr ⟨(bL _ _ aI).1,(bL _ _ aQ).1,cA⟩⟩)),(by dsimp only;simp only[aL];omega)⟩;exact bz ⟨(by dsimp only;have az:=dG x.1.2.1 cZ ab;refine⟨rfl,ab,?_⟩;rw[az];refine bN.step cZ g7 ?_;(obtain⟨aI,aQ,bq⟩:=e6;exact⟨ab,ab,⟨ab,by rw[pG bq];exact aN.nil⟩,.inl ⟨aI,aQ,bq⟩⟩)),(by dsimp only;simp only[aL];omega)⟩;exact a6 (bN.all ab))
theorem Px:∀x:U alk,(True)->av (zE x) (λy=>y.1.1=true->l3 x.1.1):=by
 intro x aF;unfold zE;refine ae (lX _ aG) λaq cr=>?_;dsimp only at cr;apply ag<;>intro aD<;>simp only[ay] at aD;exact ak m1;have pT:=L.b x.1.1.2.1;apply ag<;>intro aR<;>simp only[ay] at aR;exact ak m1;apply ag<;>intro bM<;>simp only[ay] at bM;exact ak m1;refine ae (aiX _ aG) λaB cE=>?_;apply ag<;>intro dn<;>simp only[ay] at dn;exact ak m1;have q8:=L.b x.1.1.2.2.1;apply ag<;>intro dP<;>simp only[ay] at dP;exact ak m1;apply ag<;>intro fO<;>simp only[ay] at fO;exact ak m1;refine ae (aJ1 (x.1.1) _ (by(exact⟨rfl,by simp only[aL];decide,by simp only[aL];exact eA.zero⟩))) λa9 c5=>?_;dsimp only at c5;refine ee c5 (λbJ dL=>?_) (λbK ew=>?_);refine ae (aJ4 (x.1.1) (dL) _ (by(exact⟨rfl,by simp only[aL];decide,by simp only[aL];exact eA.zero⟩))) λdy g3=>?_;dsimp only at g3;refine ee g3 (λeD gA=>?_) (λeO iM=>?_);exact ak (by intro aA;exact⟨(cr aD).1,(cr aD).2,ab,ab,dL,ab,ab,gA⟩);exact ak (by intro aA;(rw[show eO.1.1=false from iM] at aA;contradiction));exact ak (by intro aA;(rw[show bK.1.1=false from ew] at aA;contradiction))
theorem amp:∀x:U amn,(True)->av (It x) (λy=>y.1.1=true->x.1.1.1=x.1.2.1\/x.1.1.2.1=x.1.2.1):=by
 intro x aF;unfold It;apply ag<;>intro aD<;>simp only[ay] at aD;exact ak (by intro aA;exact .inl aD);exact ak (by intro aA;(simp only[b8] at aA;exact .inr aA))
theorem aMe:∀x:U Xw,(0<=x.1.2.2.1.1/\x.1.2.2.1.1<x.1.1.1.length)->av (Xv x) (λy=>y.2.1=x.2.1/\(y.1.1=true->∃(e:D [.int .i64]) (q:D [.bool]),x.1.1.1[x.1.2.2.1.1.toNat]?=some e/\0<=e.1.1/\e.1.1<x.2.1.1.length/\x.2.1.1[e.1.1.toNat]?=some q/\q.1=false)):=by
 intro x aF;unfold Xv;have ah:=L.b x.2.1;refine bx λaP cP=>?_;apply ag<;>intro aD<;>simp only[ay] at aD;refine bx λbS eM=>?_;rw[cP] at eM;cases eM;apply ag<;>intro aR<;>simp only[ay] at aR;refine bx λcR fg=>?_;rw[cP] at fg;cases fg;apply ag<;>intro bM<;>simp only[ay] at bM;refine ir λdO fV=>?_;exact ak (by refine⟨rfl,λaA=>?_⟩;(simp only[b8] at aA;exact⟨_,_,cP,aD,ab,fV,aA⟩));exfalso
 (omega)
 exact ak (by refine⟨rfl,λaA=>?_⟩;exact Bool.noConfusion aA);exact ak (by refine⟨rfl,λaA=>?_⟩;exact Bool.noConfusion aA)
theorem aMh (n K:Nat)(az:n<=24)(ev:K<=1000):∀x:U H_,(x.2.1.1.length=n/\oV x.2.1.1+x.1.2.2.1.1.length=K/\0<=x.1.2.2.2.1.1/\aN (kY n) x.1.2.2.1.1)->av (a2 P_ x) (λy=>y.2.1.1.length=n/\oV y.2.1.1+y.1.1.1.length=K/\aN (kY n) y.1.1.1):=
 cS (λx:U H_=>x.2.1.1.length=n/\oV x.2.1.1+x.1.2.2.1.1.length=K/\0<=x.1.2.2.2.1.1/\aN (kY n) x.1.2.2.1.1) (λx:U H_=>((x.1.1.1.length:Int)-x.1.2.2.2.1.1).toNat) (λx aF=>by
  unfold P_;obtain⟨bD,cZ,bN,cK⟩:=aF;have ah:=L.b x.1.1;have kH:=L.b x.1.1;apply ag<;>intro aD<;>simp only[ay] at aD;refine ae (aMe _ lG) λbJ dL=>?_;dsimp only at dL;obtain⟨bn,bB⟩:=dL;apply ag<;>intro aR<;>simp only[ay] at aR;refine bx λfm j1=>?_;obtain⟨e,q,aI,aQ,bq,cA,eP⟩:=bB aR;rw[aI] at j1;cases j1;apply ag<;>intro bM<;>simp only[ay] at bM;refine ae (mc (by(rw[bn];omega))) λdD g7=>?_;rw[bn,cA] at g7;cases g7;refine bx λeV kG=>?_;rw[aI] at kG;cases kG;refine ae (dq lG) λoz tw=>?_;have an:=RY cA eP;exact bz ⟨(by dsimp only;have mz:=dG x.1.2.2.2.1 bN ab;refine⟨by simp only[b7];rw[bn];exact bD,?_,ab,by rw[tw.1];exact cK.append (aN.one ⟨aQ,ab⟩)⟩;rw[tw.2,bn];simp only[b7];show oV (x.2.1.1.set _ _)+_=K;omega),(by dsimp only;simp only[aL];omega)⟩;exfalso
  (omega)
  exact bz ⟨(by dsimp only;have mz:=dG x.1.2.2.2.1 bN ab;exact⟨by rw[bn];exact bD,by rw[bn];exact cZ,ab,cK⟩),(by dsimp only;simp only[aL];omega)⟩;exact a6 ⟨bD,cZ,cK⟩)
theorem aMn (n K:Nat)(az:n<=24)(ev:K<=1000):∀x:U Ib,(x.2.1.1.length=n/\oV x.2.1.1+x.1.2.2.1.1.length=K/\0<=x.1.2.2.2.2.1.1/\aN (kY n) x.1.2.2.1.1/\aN (zN n) x.1.2.2.2.1.2.2.1.1)->av (a2 Qb x) (λy=>y.2.1.1.length=n/\oV y.2.1.1+y.1.1.1.length=K/\aN (kY n) y.1.1.1):=
 cS (λx:U Ib=>x.2.1.1.length=n/\oV x.2.1.1+x.1.2.2.1.1.length=K/\0<=x.1.2.2.2.2.1.1/\aN (kY n) x.1.2.2.1.1/\aN (zN n) x.1.2.2.2.1.2.2.1.1) (λx:U Ib=>((x.1.2.2.2.1.2.2.1.1.length:Int)-x.1.2.2.2.2.1.1).toNat) (λx aF=>by
  unfold Qb;obtain⟨bD,cZ,bN,cK,gn⟩:=aF;have ah:=L.b x.1.2.2.2.1.2.2.1;have aP9:=L.b x.1.2.2.2.1.2.2.1;apply ag<;>intro aD<;>simp only[ay] at aD;refine ae (amp _ aG) λdX jJ=>?_;dsimp only at jJ;apply ag<;>intro aR<;>simp only[ay] at aR;refine bx λjY o2=>?_;obtain⟨_,_,gT,j7⟩:=gn _ _ o2;apply ag<;>intro bM<;>simp only[ay] at bM;refine ir λhY j_=>?_;apply ag<;>intro dn<;>simp only[ay] at dn;refine bx λk1 l9=>?_;rw[o2] at l9;cases l9;apply ag<;>intro dP<;>simp only[ay] at dP;refine ir λk2 pQ=>?_;rw[j_] at pQ;cases pQ;refine bx λoh qz=>?_;rw[o2] at qz;cases qz;refine ae (dq lG) λy6 Kj=>?_;have an:=RY j_ (by simpa using dn);exact bz ⟨(by dsimp only;have mz:=dG x.1.2.2.2.2.1 bN ab;(refine⟨by simp only[b7];exact bD,?_,ab,by rw[Kj.1];exact cK.append (aN.one ⟨gT,j7⟩),gn⟩;rw[Kj.2];simp only[b7];show oV (x.2.1.1.set _ _)+_=K;omega)),(by dsimp only;simp only[aL];omega)⟩;exfalso
  (omega)
  exact bz ⟨(by dsimp only;have mz:=dG x.1.2.2.2.2.1 bN ab;exact⟨bD,cZ,ab,cK,gn⟩),(by dsimp only;simp only[aL];omega)⟩;exfalso
  (omega)
  exact a6 ⟨bD,cZ,cK⟩;exact a6 ⟨bD,cZ,cK⟩)
theorem aMk (n K:Nat)(az:n<=24)(ev:K<=1000):∀x:U Ia,(x.2.1.1.length=n/\oV x.2.1.1+x.1.2.2.2.1.1.length=K/\0<=x.1.2.2.2.2.1.1/\aN (kY n) x.1.2.2.2.1.1/\x.1.2.1.2.2.1.1.length=n/\aN (zX n) x.1.2.1.2.2.1.1)->av (a2 Qa x) (λy=>y.2.1.1.length=n):=
 cS (λx:U Ia=>x.2.1.1.length=n/\oV x.2.1.1+x.1.2.2.2.1.1.length=K/\0<=x.1.2.2.2.2.1.1/\aN (kY n) x.1.2.2.2.1.1/\x.1.2.1.2.2.1.1.length=n/\aN (zX n) x.1.2.1.2.2.1.1) (λx:U Ia=>(K-x.1.2.2.2.2.1.1).toNat) (λx aF=>by
  unfold Qa;obtain⟨bD,cZ,bN,cK,gn,ig⟩:=aF;have Kn:=L.b x.1.2.2.2.1;apply ag<;>intro aD<;>simp only[ay] at aD;refine bx λiA kF=>?_;obtain⟨dK,dh⟩:=cK _ _ kF;refine bx λkk oZ=>?_;obtain⟨_,_,⟨_,oT⟩,_⟩:=ig _ _ oZ;refine ae (aMn (n) (K) (az) (ev) _ (by(exact⟨bD,cZ,by simp only[aL];decide,cK,oT⟩))) λiD rK=>?_;dsimp only at rK;obtain⟨bn,bB,dc⟩:=rK;have mz:=dG x.1.2.2.2.2.1 bN ab;exact bz ⟨(by dsimp only;exact⟨bn,bB,ab,dc,gn,ig⟩),gm⟩;exact a6 (by dsimp only[Sum.elim];exact bD))
theorem aMq (n:Nat)(az:n<=24):∀x:U Ic,(x.2.1.1.length=n/\0<=x.1.2.2.1.1/\x.1.2.1.1.length<=x.1.2.2.1.1/\x.1.2.2.1.1<=n/\aN (kY n) x.1.2.1.1)->av (a2 Qc x) (λy=>y.1.1.1.length<=24/\aN (kY n) y.1.1.1):=
 cS (λx:U Ic=>x.2.1.1.length=n/\0<=x.1.2.2.1.1/\x.1.2.1.1.length<=x.1.2.2.1.1/\x.1.2.2.1.1<=n/\aN (kY n) x.1.2.1.1) (λx:U Ic=>(n-x.1.2.2.1.1).toNat) (λx aF=>by
  unfold Qc;obtain⟨bD,cZ,bN,gn,cK⟩:=aF;apply ag<;>intro aD<;>simp only[ay] at aD;apply ag<;>intro aR<;>simp only[ay] at aR;refine ir λm7 rH=>?_;have mz:=dG x.1.2.2.1 cZ ab;apply ag<;>intro bM<;>simp only[ay] at bM;refine ae (dq lG) λuK AD=>?_;exact bz ⟨(by dsimp only;refine⟨bD,ab,?_,ab,by rw[AD.1];exact cK.append (aN.one ⟨cZ,by dsimp only;omega⟩)⟩;rw[AD.2];simp only[b7];omega),gm⟩;exact bz ⟨(by dsimp only;exact⟨bD,ab,ab,ab,cK⟩),gm⟩;exfalso
  (omega)
  exact a6 (by dsimp only[Sum.elim];exact⟨ab,cK⟩))
theorem amc:∀x:U ama,(l3 x.1.1/\x.1.2.2.1.1.length<=200)->av (H9 x) (λy=>y.1.1.1.length<=24/\aN (kY x.1.1.2.2.1.1.length) y.1.1.1):=by
 intro x aF;unfold H9;obtain⟨bL,aW⟩:=aF;have aQo:=bL.fI;have yQ:=bL.eS;refine ae (uL (by(simp only[aL];omega))) λdF kU=>?_;have nR:=kU.2;simp only[aL] at nR;have Kb:=aoU dF.1;refine ae (aMh (x.1.1.2.2.1.1.length) (oV dF.1+0) ab ab _ (by(exact⟨by dsimp only;omega,rfl,by simp only[aL];decide,aN.nil⟩))) λbT e6=>?_;dsimp only at e6;obtain⟨bn,bB,dc⟩:=e6;refine ae (aMk (x.1.1.2.2.1.1.length) (oV bT.2.1.1+bT.1.1.1.length) ab ab _ (by(exact⟨bn,rfl,by simp only[aL];decide,dc,rfl,bL.ct⟩))) λfa nA=>?_;dsimp only at nA;refine ae (aMq (x.1.1.2.2.1.1.length) ab _ (by(exact⟨nA,by simp only[aL];decide,by simp only[aL,b7];decide,by simp only[aL];omega,aN.nil⟩))) λki qB=>?_;dsimp only at qB;exact ak qB
theorem aLy (n:Nat)(az:n<=24)(v5:L (D ff))(role:dY):∀x:U HX,(x.1.2.2.2.2.1.1<=x.1.2.1.1.length/\x.1.1=role/\x.1.2.2.1.2.2.1=v5/\v5.1.length=n/\0<=x.1.2.2.2.2.1.1/\x.1.2.1.1.length<=24/\aN (kY n) x.1.2.1.1/\x.1.2.2.2.1.1.length<=x.1.2.2.2.2.1.1/\aN (nr v5.1 role) x.1.2.2.2.1.1)->av (a2 PX x) (λy=>y.1.1.1.length<=24/\aN (nr v5.1 role) y.1.1.1):=
 cS (λx:U HX=>x.1.2.2.2.2.1.1<=x.1.2.1.1.length/\x.1.1=role/\x.1.2.2.1.2.2.1=v5/\v5.1.length=n/\0<=x.1.2.2.2.2.1.1/\x.1.2.1.1.length<=24/\aN (kY n) x.1.2.1.1/\x.1.2.2.2.1.1.length<=x.1.2.2.2.2.1.1/\aN (nr v5.1 role) x.1.2.2.2.1.1) (λx:U HX=>((x.1.2.1.1.length:Int)-x.1.2.2.2.2.1.1).toNat) (λx aF=>by
  unfold PX;obtain⟨Tx,bD,cZ,bN,cK,gn,ig,mA,qD⟩:=aF;subst bD cZ;have my:=L.b x.1.2.1;apply ag<;>intro aD<;>simp only[ay] at aD;refine bx λaE cw=>?_;obtain⟨dK,dh⟩:=ig _ _ cw;have mz:=dG x.1.2.2.2.2.1 cK ab;refine bx λaP cP=>?_;refine ae (amp _ aG) λaK cG=>?_;dsimp only at cG;apply ag<;>intro aR<;>simp only[ay] at aR;refine bx λcR fg=>?_;rw[cw] at fg;cases fg;refine ae (dq lG) λgV lv=>?_;exact bz ⟨(by dsimp only;refine⟨ab,rfl,rfl,bN,ab,gn,ig,?_,by rw[lv.1];exact qD.append (aN.one ⟨dK,_,cP,cG aR⟩)⟩;rw[lv.2];simp only[b7];omega),gm⟩;exact bz ⟨(by dsimp only;exact⟨ab,rfl,rfl,bN,ab,gn,ig,ab,qD⟩),gm⟩;exact a6 (by dsimp only[Sum.elim];exact⟨ab,qD⟩))
theorem alS:∀x:U alP,(x.1.1.2.2.1.1.length<=24/\x.1.2.2.1.1.length<=24/\aN (kY x.1.1.2.2.1.1.length) x.1.2.2.1.1)->av (HW x) (λy=>y.1.1.1.length<=24/\aN (nr x.1.1.2.2.1.1 x.1.2.1) y.1.1.1):=by
 intro x aF;unfold HW;obtain⟨aa,af,ax⟩:=aF;refine ae (aLy (x.1.1.2.2.1.1.length) ab (x.1.1.2.2.1) (x.1.2.1) _ (by(exact⟨by simp only[aL];omega,rfl,rfl,rfl,by simp only[aL];decide,af,ax,by simp only[aL,b7];decide,aN.nil⟩))) λbJ dL=>?_;dsimp only at dL;exact ak dL
theorem aLj:∀x:U alL,(l3 x.1.1)->av (PS x) (λy=>True):=by
 intro x aF;unfold PS;refine ae (amc _ (by(exact⟨aF,by simp only[b7];decide⟩))) λaq cr=>?_;dsimp only at cr;refine ae (alS _ (by(exact⟨aF.fI,cr.1,cr.2⟩))) λaB cE=>?_;dsimp only at cE;exact ak (by(dsimp only)<;>(exact⟨aF,by simp only[b7];decide⟩))
theorem aL9:∀x:U H7,(0<=x.1.2.2.1.1/\x.1.1.1.length=x.1.2.1.1.length)->av (a2 P9 x) (Sum.elim (λy=>True) (λy=>True)):=
 cS (λx:U H7=>0<=x.1.2.2.1.1/\x.1.1.1.length=x.1.2.1.1.length) (λx:U H7=>((x.1.1.1.length:Int)-x.1.2.2.1.1).toNat) (λx aF=>by
  unfold P9;have kH:=L.b x.1.1;apply ag<;>intro aD<;>simp only[ay] at aD;refine bx λaE cw=>?_;refine bx λaP cP=>?_;apply ag<;>intro aR<;>simp only[ay] at aR;exact a6 df;exact bz ⟨eb,eb⟩;exact a6 df)
theorem aMa:∀x:U al6,(True)->av (P8 x) (λy=>True):=by
 intro x aF;unfold P8;have kH:=L.b x.1.1;have my:=L.b x.1.2.1;apply ag<;>intro aD<;>simp only[ay] at aD;exact ak aG;refine ae (aL9 _ dJ) λaK cG=>?_;dsimp only at cG;refine ee cG (λaS dj=>?_) (λa9 c5=>?_);exact ak aG;exact ak aG
theorem aNw (p:D du)(role:dY)(ss:L (D [.a4 [.int .i64]]))(bL:l3 p):∀x:U IB,((x.2.1.1,x.2.1.2.1,x.2.1.2.2.1,())=p/\x.2.1.2.2.2.1=role/\x.2.1.2.2.2.2.1=ss/\0<=x.1.2.2.2.1.1)->av (a2 Qz x) (Sum.elim (λy=>(y.2.1.1,y.2.1.2.1,y.2.1.2.2.1,())=p/\y.2.1.2.2.2.1=role/\y.2.1.2.2.2.2.1=ss) (λy=>(y.2.1.1,y.2.1.2.1,y.2.1.2.2.1,())=p/\y.2.1.2.2.2.1=role/\y.2.1.2.2.2.2.1=ss/\y.1.2.1.1≠0)):=
 cS (λx:U IB=>(x.2.1.1,x.2.1.2.1,x.2.1.2.2.1,())=p/\x.2.1.2.2.2.1=role/\x.2.1.2.2.2.2.1=ss/\0<=x.1.2.2.2.1.1) (λx:U IB=>((x.1.2.1.1.length:Int)-x.1.2.2.2.1.1).toNat) (λx aF=>by
  unfold Qz;obtain⟨bD,cZ,bN,cK⟩:=aF;have ah:=L.b x.1.2.1;have my:=L.b x.1.2.1;apply ag<;>intro aD<;>simp only[ay] at aD;have AE:=L.b x.1.2.2.1;apply ag<;>intro aR<;>simp only[ay] at aR;refine bx λbS eM=>?_;refine ae (aLj _ (by(dsimp only;rw[bD];exact bL))) λaS dj=>?_;apply ag<;>intro bM<;>simp only[ay] at bM;exact a6 ⟨bD,cZ,bN,by simp only[aL];decide⟩;exact bz ⟨(by dsimp only;have mz:=dG x.1.2.2.2.1 cK ab;exact⟨bD,cZ,bN,ab⟩),(by dsimp only;simp only[aL];omega)⟩;exact a6 ⟨bD,cZ,bN⟩;exact a6 ⟨bD,cZ,bN⟩)
theorem aNz (p:D du)(role:dY)(ss:L (D [.a4 [.int .i64]])):∀x:U IC,((x.2.1.1,x.2.1.2.1,x.2.1.2.2.1,())=p/\x.2.1.2.2.2.1=role/\x.2.1.2.2.2.2.1=ss/\0<=x.1.2.2.1.1)->av (a2 QA x) (Sum.elim (λy=>(y.2.1.1,y.2.1.2.1,y.2.1.2.2.1,())=p/\y.2.1.2.2.2.1=role/\y.2.1.2.2.2.2.1=ss) (λy=>(y.2.1.1,y.2.1.2.1,y.2.1.2.2.1,())=p/\y.2.1.2.2.2.1=role/\y.2.1.2.2.2.2.1=ss/\0<=y.1.1.1/\y.1.1.1<ss.1.length)):=
 cS (λx:U IC=>(x.2.1.1,x.2.1.2.1,x.2.1.2.2.1,())=p/\x.2.1.2.2.2.1=role/\x.2.1.2.2.2.2.1=ss/\0<=x.1.2.2.1.1) (λx:U IC=>((x.2.1.2.2.2.2.1.1.length:Int)-x.1.2.2.1.1).toNat) (λx aF=>by
  unfold QA;obtain⟨bD,cZ,bN,cK⟩:=aF;have ah:=L.b x.2.1.2.2.2.2.1;have aQc:=L.b x.2.1.2.2.2.2.1;apply ag<;>intro aD<;>simp only[ay] at aD;refine bx λdD g7=>?_;refine ae (aMa _ aG) λbO ec=>?_;apply ag<;>intro aR<;>simp only[ay] at aR;exact a6 ⟨bD,cZ,bN,cK,by rw[<-bN];exact aD⟩;exact bz ⟨(by dsimp only;have mz:=dG x.1.2.2.1 cK ab;exact⟨bD,cZ,bN,ab⟩),(by dsimp only;simp only[aL];omega)⟩;exact a6 ⟨bD,cZ,bN⟩)
theorem amy:∀x:U amw,(oS x.2.1/\x.1.2.1.1.length<=200)->av (IA x) (λy=>y.1.2.1.1=0->oS y.2.1/\s4 x.2.1 y.2.1/\0<=y.1.1.1/\y.1.1.1<y.2.1.2.2.2.2.1.1.length/\(∃r,y.2.1.2.2.2.2.1.1=x.2.1.2.2.2.2.1.1++r)):=by
 intro x aF;obtain⟨hw,aW⟩:=aF;have bL:=hw.p;unfold IA;refine ae (amc _ ⟨bL,aW⟩) λaq cr=>?_;refine ae (alS _ ⟨bL.fI,cr.1,cr.2⟩) λaB cE=>?_;refine ae (aNw (x.2.1.1,x.2.1.2.1,x.2.1.2.2.1,()) x.2.1.2.2.2.1 x.2.1.2.2.2.2.1 bL _ ⟨rfl,rfl,rfl,by simp only[aL];decide⟩) λa9 c5=>?_;refine ee c5 (λbJ dL=>?_) (λbK ew=>?_);obtain⟨dK,dh,gT⟩:=dL;refine ae (aNz (x.2.1.1,x.2.1.2.1,x.2.1.2.2.1,()) x.2.1.2.2.2.1 x.2.1.2.2.2.2.1 _ ⟨dK,dh,gT,by simp only[aL];decide⟩) λcc fj=>?_;refine ee fj (λbT e6=>?_) (λcL e7=>?_);obtain⟨cY,eT,gY⟩:=e6;have cW:=congrArg (λt:D du=>t.1) cY;have dv:=congrArg (λt:D du=>t.2.1) cY;have eU:=congrArg (λt:D du=>t.2.2.1) cY;dsimp only at cW dv eU;apply ag<;>intro ah;exact ak (λq=>absurd q (by simp only[aL];decide));simp only[b8,aL] at ah;have az:=hw.n;refine ae (dq (by rw[gY];simp only[b7];omega)) λnB DP=>?_;obtain⟨d1,d2⟩:=DP;simp only[b7] at d2;have ZI:nB.1=x.2.1.2.2.2.2.1.1++[(aB.1.1,())]:=by rw[d1,gY];rfl
 rw[gY] at ah d2;refine ak (λ_=>⟨⟨?_,?_,?_,?_⟩,⟨cW.symm,dv.symm,eU.symm,eT.symm⟩,?_,?_,_,ZI⟩);show l3 (bT.2.1.1,bT.2.1.2.1,bT.2.1.2.2.1,());rw[cY];exact bL;show 1<=bT.2.1.2.2.2.1.1.size;rw[eT];exact hw.role;show nB.1.length<=40;omega;show aN (λs:D [.a4 [.int .i64]]=>s.1.1.length<=24/\aN (nr bT.2.1.2.2.1.1 bT.2.1.2.2.2.1) s.1.1) nB.1;rw[ZI,eT,eU];exact hw.XS.append (aN.one cE);show 0<=(gf (bf nB) (W 1)).1;simp only[aL];omega;show(gf (bf nB) (W 1)).1<nB.1.length;simp only[aL];omega;obtain⟨cY,eT,gY,oT,Jo⟩:=e7;have cW:=congrArg (λt:D du=>t.1) cY;have dv:=congrArg (λt:D du=>t.2.1) cY;have eU:=congrArg (λt:D du=>t.2.2.1) cY;dsimp only at cW dv eU;refine ak (λ_=>⟨⟨?_,?_,?_,?_⟩,⟨cW.symm,dv.symm,eU.symm,eT.symm⟩,oT,?_,[],?_⟩);show l3 (cL.2.1.1,cL.2.1.2.1,cL.2.1.2.2.1,());rw[cY];exact bL;show 1<=cL.2.1.2.2.2.1.1.size;rw[eT];exact hw.role;show cL.2.1.2.2.2.2.1.1.length<=40;rw[gY];exact hw.n;show aN (λs:D [.a4 [.int .i64]]=>s.1.1.length<=24/\aN (nr cL.2.1.2.2.1.1 cL.2.1.2.2.2.1) s.1.1) cL.2.1.2.2.2.2.1.1;rw[gY,eT,eU];exact hw.XS;show cL.1.1.1<cL.2.1.2.2.2.2.1.1.length;rw[gY];exact Jo;show cL.2.1.2.2.2.2.1.1=_;rw[gY,dr];exact ak (λq=>absurd q ew.2.2.2)
theorem oS.at {w}(h:oS w){e:D [.int .i64]}(az:nr w.2.2.1.1 w.2.2.2.1 e):0<=e.1.1/\e.1.1<w.2.2.1.1.length/\∀xq,w.2.2.1.1[e.1.1.toNat]?=some xq->1<=xq.2.2.1.1.length/\xq.2.2.1.1.length<=6:=by
 obtain⟨ba,xq,aa,af⟩:=az;have ax:=(ep.1 aa).1;refine⟨ba,ab,λq aA=>?_⟩;rw[aa] at aA;cases aA;obtain⟨cY,eT,gY,oT⟩:=h.p.ct _ _ aa;have aU:=h.role;refine⟨?_,gY.1⟩;rcases oT with⟨cW,dv,eU⟩|⟨cW,dv,eU⟩;rcases af with af|af;rw[<-af] at aU;omega;rw[<-af] at aU;omega;exact eU
def wC (n:Int)(t:D fS):Prop:=t.2.2.1.1.length<=6/\(t.1.1≠0->1<=t.2.2.1.1.length)/\aN (λa:D dN=>0<=a.2.2.2.1.1/\a.2.2.2.1.1<n) t.2.2.1.1
theorem wC.mono {n m:Int}{t}(h:wC n t)(hm:n<=m):wC m t:=⟨h.1,h.2.1,h.2.2.imp λe he=>⟨he.1,ab⟩⟩
structure sZ (l:D dZ):Prop where
  n:l.1.1.size<=25
  t1:1<=l.2.1.1.length
  t2:l.2.1.1.length<=40
  eK:aN (wC l.2.1.1.length) l.2.1.1
theorem s4.refl (w):s4 w w:=⟨rfl,rfl,rfl,rfl⟩
theorem s4.trans {a b c}(h:s4 a b)(k:s4 b c):s4 a c:=⟨h.1.trans k.1,h.2.1.trans k.2.1,h.2.2.1.trans k.2.2.1,h.2.2.2.trans k.2.2.2⟩
structure qg (a b:D [.str,.a4 [.str],.a4 ff,.str,.a4 [.a4 [.int .i64]]]):Prop where
  w:oS b
  s:s4 a b
  g:∃r,b.2.2.2.2.1.1=a.2.2.2.2.1.1++r
theorem qg.trans {a b c}(h:qg a b)(k:qg b c):qg a c:=⟨k.w,h.s.trans k.s,by
 obtain⟨r,aU⟩:=h.g;obtain⟨q,aA⟩:=k.g;exact⟨r++q,by rw[aA,aU,cN]⟩⟩
theorem qg.le {a b}(h:qg a b):a.2.2.2.2.1.1.length<=b.2.2.2.2.1.1.length:=by
 obtain⟨r,aU⟩:=h.g;rw[aU,bw];omega
theorem qg.avc {a b}(h:qg a b){l}(aW:aN (nr a.2.2.1.1 a.2.2.2.1) l):aN (nr b.2.2.1.1 b.2.2.2.1) l:=by
 rw[<-h.s.2.2.1,<-h.s.2.2.2];exact aW
theorem aNe:∀x:U Iw,((oS x.2.1/\aN (nr x.2.1.2.2.1.1 x.2.1.2.2.2.1) x.1.2.1.1)/\((0<=x.1.2.2.2.2.1.1)/\(x.1.2.2.2.2.1.1<=(x.1.2.1.1.length:Int))))->av (a2 Qt x) (Sum.elim (λy=>y.2.1=x.2.1) (λy=>y.2.1=x.2.1)):=by
 rintro x ⟨an,aj⟩;exact cS (λz:U Iw=>∃dW,∃dx,∃fi,z=(((),x.1.2.1,dW,dx,fi,()),(x.2.1,(),()))/\((0<=fi.1)/\(fi.1<=(x.1.2.1.1.length:Int)))) (λz:U Iw=>((x.1.2.1.1.length:Int)-z.1.2.2.2.2.1.1).toNat) (λz ai=>by
  obtain⟨dW,dx,fi,rfl,aF⟩:=ai;unfold Qt;dsimp only
  have my:=L.b x.1.2.1;apply ag<;>intro aD<;>simp only[ay] at aD;refine bx λaE cw=>?_;obtain⟨dK,dh,_⟩:=an.1.at (an.2 _ _ cw);refine bx λaP cP=>?_;apply ag<;>intro aR<;>simp only[ay] at aR;apply ag<;>intro bM<;>simp only[ay] at bM;apply ag<;>intro dn<;>simp only[ay] at dn;exact a6 rfl;apply ag<;>intro dP<;>simp only[ay] at dP;exact a6 rfl;exact bz ⟨⟨_,_,_,rfl,dJ⟩,eb⟩;exact bz ⟨⟨_,_,_,rfl,dJ⟩,eb⟩;apply ag<;>intro fO<;>simp only[ay] at fO;apply ag<;>intro gD<;>simp only[ay] at gD;exact a6 rfl;apply ag<;>intro ie<;>simp only[ay] at ie;exact a6 rfl;exact bz ⟨⟨_,_,_,rfl,dJ⟩,eb⟩;exact bz ⟨⟨_,_,_,rfl,dJ⟩,eb⟩;exact a6 rfl) x ⟨_,_,_,rfl,aj⟩
theorem aNh:∀x:U amt,(oS x.2.1/\aN (nr x.2.1.2.2.1.1 x.2.1.2.2.2.1) x.1.2.1.1)->av (Qs x) (λy=>y.2.1=x.2.1):=by
 intro x aF;unfold Qs;refine ae (aNe _ ⟨aF,by simp only[aL,b7]<;>omega⟩) λaK cG=>?_;dsimp only at cG;refine ee cG (λaS dj=>?_) (λa9 c5=>?_);exact ak dj;exact ak c5
theorem aNn:∀x:U Iy,((x.1.1.1.length<=1000/\x.1.2.1.1.length<=6)/\((0<=x.1.2.2.1.1)/\(x.1.2.2.1.1<=(x.1.2.1.1.length:Int))/\(x.1.1.1.length<=x.1.1.1.length+x.1.2.2.1.1/\(0<x.1.2.2.1.1\/1<=x.1.1.1.length->1<=x.1.1.1.length))))->av (a2 Qw x) (λy=>y.1.1.1.length<=x.1.1.1.length+x.1.2.1.1.length/\(1<=x.1.2.1.1.length\/1<=x.1.1.1.length->1<=y.1.1.1.length)):=by
 rintro x ⟨an,aj⟩;exact cS (λz:U Iy=>∃v6,∃fi,z=((v6,x.1.2.1,fi,()),())/\((0<=fi.1)/\(fi.1<=(x.1.2.1.1.length:Int))/\(v6.1.length<=x.1.1.1.length+fi.1/\(0<fi.1\/1<=x.1.1.1.length->1<=v6.1.length)))) (λz:U Iy=>((x.1.2.1.1.length:Int)-z.1.2.2.1.1).toNat) (λz ai=>by
  obtain⟨v6,fi,rfl,aF⟩:=ai;unfold Qw;dsimp only
  have my:=L.b x.1.2.1;apply ag<;>intro aD<;>simp only[ay] at aD;refine bx λbS eM=>?_;refine ae (Bp _ gm) λaS dj=>?_;dsimp only at dj;exact bz ⟨⟨_,_,rfl,dJ⟩,eb⟩;exact a6 gP) x ⟨_,_,rfl,aj⟩
theorem aNk:∀x:U Ix,((oS x.2.1/\x.1.2.1.1.length<=24/\aN (nr x.2.1.2.2.1.1 x.2.1.2.2.2.1) x.1.2.1.1)/\((0<=x.1.2.2.2.1.1)/\(x.1.2.2.2.1.1<=(x.1.2.1.1.length:Int))/\(x.1.2.2.1.1.length<=6*x.1.2.2.2.1.1/\(0<x.1.2.2.2.1.1->1<=x.1.2.2.1.1.length))))->av (a2 Qv x) (λy=>y.2.1=x.2.1/\y.1.1.1.length<=144/\(1<=x.1.2.1.1.length->1<=y.1.1.1.length)):=by
 rintro x ⟨an,aj⟩;exact cS (λz:U Ix=>∃v6,∃dW,z=(((),x.1.2.1,v6,dW,()),(x.2.1,(),()))/\((0<=dW.1)/\(dW.1<=(x.1.2.1.1.length:Int))/\(v6.1.length<=6*dW.1/\(0<dW.1->1<=v6.1.length)))) (λz:U Ix=>((x.1.2.1.1.length:Int)-z.1.2.2.2.1.1).toNat) (λz ai=>by
  obtain⟨v6,dW,rfl,aF⟩:=ai;unfold Qv;dsimp only
  have my:=L.b x.1.2.1;apply ag<;>intro aD<;>simp only[ay] at aD;refine bx λaE cw=>?_;obtain⟨dK,dh,gT⟩:=an.1.at (an.2.2 _ _ cw);refine bx λaP cP=>?_;obtain⟨j7,pF⟩:=gT _ cP;clear gT;refine ae (aNn _ eb) λa9 c5=>?_;dsimp only at c5;obtain⟨bn,bB⟩:=c5;have dc:=bB (.inl j7);exact bz ⟨⟨_,_,rfl,dJ⟩,eb⟩;exact a6 (by dsimp only[Sum.elim];exact⟨rfl,ab,ab⟩)) x ⟨_,_,rfl,aj⟩
theorem aNq:∀x:U Iz,((oS x.2.1/\aN (nr x.2.1.2.2.1.1 x.2.1.2.2.2.1) x.1.2.1.1)/\((0<=x.1.2.2.2.1.1)/\(x.1.2.2.2.1.1<=(x.1.2.1.1.length:Int))))->av (a2 Qx x) (Sum.elim (λy=>y.2.1=x.2.1) (λy=>y.2.1=x.2.1/\y.1.1=x.1.2.2.1)):=by
 rintro x ⟨an,aj⟩;exact cS (λz:U Iz=>∃v10,z=(((),x.1.2.1,x.1.2.2.1,v10,()),(x.2.1,(),()))/\((0<=v10.1)/\(v10.1<=(x.1.2.1.1.length:Int)))) (λz:U Iz=>((x.1.2.1.1.length:Int)-z.1.2.2.2.1.1).toNat) (λz ai=>by
  obtain⟨v10,rfl,aF⟩:=ai;unfold Qx;dsimp only
  have my:=L.b x.1.2.1;apply ag<;>intro aD<;>simp only[ay] at aD;refine bx λfm j1=>?_;obtain⟨dK,dh,_⟩:=an.1.at (an.2 _ _ j1);refine bx λdD g7=>?_;have aPX:=L.b dD.2.2.1;have AE:=L.b x.1.2.2.1;apply ag<;>intro aR<;>simp only[ay] at aR;exact a6 ⟨rfl,rfl⟩;exact bz ⟨⟨_,rfl,dJ⟩,eb⟩;exact a6 rfl) x ⟨_,rfl,aj⟩
theorem aNt:∀x:U amv,(oS x.2.1/\x.1.2.1.1.length<=24/\aN (nr x.2.1.2.2.1.1 x.2.1.2.2.2.1) x.1.2.1.1)->av (Qu x) (λy=>y.2.1=x.2.1/\y.1.1.1.length<=144/\(1<=x.1.2.1.1.length->1<=y.1.1.1.length)):=by
 intro x aF;unfold Qu;refine ae (aNk _ ⟨aF,by simp only[aL,b7]<;>omega⟩) λbJ dL=>?_;dsimp only at dL;obtain⟨bn,bB,dc⟩:=dL;refine ae (aNq _ (by dsimp only;rw[bn];exact⟨⟨aF.1,aF.2.2⟩,by simp only[aL,b7]<;>omega⟩)) λbO ec=>?_;dsimp only at ec;refine ee ec (λcc fj=>?_) (λbT e6=>?_);exact ak ⟨fj.trans bn,bB,dc⟩;exact ak (by dsimp only;rw[e6.2];exact⟨e6.1.trans bn,bB,dc⟩)
theorem aKU:∀x:U HP,((True)/\((0<=x.1.2.2.1.1)/\(x.1.2.2.1.1<=(x.1.1.1.length:Int))))->av (a2 PI x) (Sum.elim (λy=>True) (λy=>0<=y.1.1.1/\y.1.1.1<x.1.1.1.length)):=by
 rintro x ⟨an,aj⟩;exact cS (λz:U HP=>∃cQ,z=((x.1.1,x.1.2.1,cQ,()),())/\((0<=cQ.1)/\(cQ.1<=(x.1.1.1.length:Int)))) (λz:U HP=>((x.1.1.1.length:Int)-z.1.2.2.1.1).toNat) (λz ai=>by
  obtain⟨cQ,rfl,aF⟩:=ai;unfold PI;dsimp only
  have kH:=L.b x.1.1;apply ag<;>intro aD<;>simp only[ay] at aD;refine bx λaE cw=>?_;apply ag<;>intro aR<;>simp only[ay] at aR;exact a6 gP;exact bz ⟨⟨_,rfl,dJ⟩,eb⟩;exact a6 df) x ⟨_,rfl,aj⟩
theorem aKX:∀x:U alG,(True)->av (PH x) (λy=>-1<=y.1.1.1/\y.1.1.1<x.1.1.1.length):=by
 intro x aF;unfold PH;refine ae (aKU _ (by and_intros<;>(intros)<;>first|exact aG|(simp only[aL,b7] at*<;>omega))) λaB cE=>?_;dsimp only at cE;refine ee cE (λaK cG=>?_) (λaS dj=>?_);exact ak eb;exact ak gm
theorem aM':∀x:U Iv,((oS x.2.1/\x.1.2.1.1.length<=24/\aN (nr x.2.1.2.2.1.1 x.2.1.2.2.2.1) x.1.2.1.1)/\((0<=x.1.2.2.2.2.2.2.1.1)/\(x.1.2.2.2.2.2.2.1.1<=(x.1.2.1.1.length:Int))/\(x.1.2.2.2.2.2.1.1.length<=x.1.2.2.2.2.2.2.1.1)))->av (a2 Qr x) (Sum.elim (λy=>y.2.1=x.2.1/\y.1.1.1.length<=24) (λy=>y.2.1=x.2.1)):=by
 rintro x ⟨an,aj⟩;exact cS (λz:U Iv=>∃v10,∃v11,∃Zj,∃wJ,z=(((),x.1.2.1,x.1.2.2.1,(),(),v10,v11,()),(x.2.1,(),x.2.2.2.1,(Zj,wJ,()),(),()))/\((0<=v11.1)/\(v11.1<=(x.1.2.1.1.length:Int))/\(v10.1.length<=v11.1))) (λz:U Iv=>((x.1.2.1.1.length:Int)-z.1.2.2.2.2.2.2.1.1).toNat) (λz ai=>by
  obtain⟨v10,v11,Zj,wJ,rfl,aF⟩:=ai;unfold Qr;dsimp only
  have my:=L.b x.1.2.1;apply ag<;>intro aD<;>simp only[ay] at aD;refine bx λaE cw=>?_;obtain⟨dK,dh,_⟩:=an.1.at (an.2.2 _ _ cw);refine bx λaP cP=>?_;refine ae (aKX _ aG) λaK cG=>?_;dsimp only at cG;apply ag<;>intro aR<;>simp only[ay] at aR;exact bz ⟨⟨_,_,_,_,rfl,dJ⟩,eb⟩;have aPY:=L.b v10;apply ag<;>intro bM<;>simp only[ay] at bM;refine bx λcR fg=>?_;apply ag<;>intro dn<;>simp only[ay] at dn;exact a6 (by(dsimp only[Sum.elim])<;>(exact rfl));refine bx λdO fV=>?_;refine bx λdb fY=>?_;refine ae (dq dJ) λiV q7=>?_;exact bz ⟨⟨_,_,_,_,rfl,dJ⟩,eb⟩;refine bx λdD g7=>?_;refine bx λeV kG=>?_;refine ae (dq dJ) λoz tw=>?_;exact bz ⟨⟨_,_,_,_,rfl,dJ⟩,eb⟩;exact a6 (by(dsimp only[Sum.elim])<;>(exact⟨rfl,ab⟩))) x ⟨_,_,_,_,rfl,aj⟩
theorem ams:∀x:U amq,(oS x.2.1/\x.1.2.1.1.length<=24/\aN (nr x.2.1.2.2.1.1 x.2.1.2.2.2.1) x.1.2.1.1)->av (Iu x) (λy=>y.2.1=x.2.1/\y.1.2.1.1.length<=24):=by
 intro x aF;unfold Iu;refine ae (aM' _ ⟨aF,by simp only[aL,b7]<;>omega⟩) λbT e6=>?_;dsimp only at e6;refine ee e6 (λcL e7=>?_) (λcy fH=>?_);exact ak e7;exact ak ⟨fH,by simp only[b7,aL];decide⟩
theorem aNB:∀x:U XA,(True)->av (Xz x) (Sum.elim (λy=>True) (λy=>y.1.1.1≠0)):=by
 intro x aF;unfold Xz;apply ag<;>intro aD<;>simp only[ay] at aD;apply ag<;>intro aR<;>simp only[ay] at aR;exact ak r6;exact ak df;exact ak df
theorem aNE:∀x:U ID,((oS x.2.1/\x.1.2.1.1.length<=24/\aN (nr x.2.1.2.2.1.1 x.2.1.2.2.2.1) x.1.2.1.1)/\((0<=x.1.2.2.2.2.1.1)/\(x.1.2.2.2.2.1.1<=(x.1.2.2.2.1.1.length:Int))/\(x.2.1=x.2.1)))->av (a2 QC x) (Sum.elim (λy=>y.2.1=x.2.1) (λy=>y.1.1.1≠0)):=by
 rintro x ⟨an,aj⟩;exact cS (λz:U ID=>∃v11,∃cT,z=(((),x.1.2.1,(),x.1.2.2.2.1,v11,()),(cT,(),x.2.2.2.1,()))/\((0<=v11.1)/\(v11.1<=(x.1.2.2.2.1.1.length:Int))/\(cT=x.2.1))) (λz:U ID=>((x.1.2.2.2.1.1.length:Int)-z.1.2.2.2.2.1.1).toNat) (λz ai=>by
  obtain⟨v11,cT,rfl,aF⟩:=ai;unfold QC;dsimp only
  obtain⟨bD,cZ,bN⟩:=aF;subst bN;have Kn:=L.b x.1.2.2.2.1;apply ag<;>intro aD<;>simp only[ay] at aD;refine bx λdb fY=>?_;refine ae (ams _ gm) λbK ew=>?_;dsimp only at ew;apply ag<;>intro aR<;>simp only[ay] at aR;exact a6 r6;exact bz ⟨⟨_,_,rfl,(by(exact⟨by simp only[aL]<;>omega,by simp only[aL]<;>omega,ew.1⟩))⟩,e4⟩;exact a6 rfl) x ⟨_,_,rfl,aj⟩
theorem aNH:∀x:U IE,((x.1.2.1.1.length<=24/\aN (nr x.2.1.2.2.1.1 x.2.1.2.2.2.1) x.1.2.1.1/\x.1.2.2.2.1.1.length<=6/\oS x.2.1/\x.2.2.2.2.1.2.2.1.1.length=0)/\((0<=x.1.2.2.2.2.2.1.1)/\(x.1.2.2.2.2.2.1.1<=(x.1.2.2.2.1.1.length:Int))/\(qg x.2.1 x.2.1/\x.2.2.2.2.1.2.2.1.1.length=x.1.2.2.2.2.2.1.1/\aN (λa:D dN=>0<=a.2.2.2.1.1/\a.2.2.2.1.1<x.2.1.2.2.2.2.1.1.length) x.2.2.2.2.1.2.2.1.1)))->av (a2 QD x) (Sum.elim (λy=>qg x.2.1 y.2.1/\y.2.2.2.2.1.2.2.1.1.length=x.1.2.2.2.1.1.length/\aN (λa:D dN=>0<=a.2.2.2.1.1/\a.2.2.2.1.1<y.2.1.2.2.2.2.1.1.length) y.2.2.2.2.1.2.2.1.1/\y.2.2.2.2.1.1=x.2.2.2.2.1.1) (λy=>y.1.1.1≠0)):=by
 rintro x ⟨an,aj⟩;exact cS (λz:U IE=>∃ml,∃cT,∃Jn,z=(((),x.1.2.1,(),x.1.2.2.2.1,(),ml,()),(cT,(),x.2.2.2.1,(x.2.2.2.2.1.1,x.2.2.2.2.1.2.1,Jn,()),(),()))/\((0<=ml.1)/\(ml.1<=(x.1.2.2.2.1.1.length:Int))/\(qg x.2.1 cT/\Jn.1.length=ml.1/\aN (λa:D dN=>0<=a.2.2.2.1.1/\a.2.2.2.1.1<cT.2.2.2.2.1.1.length) Jn.1))) (λz:U IE=>((x.1.2.2.2.1.1.length:Int)-z.1.2.2.2.2.2.1.1).toNat) (λz ai=>by
  obtain⟨ml,cT,Jn,rfl,aF⟩:=ai;unfold QD;dsimp only
  obtain⟨bD,cZ,bN,cK,gn⟩:=aF;obtain⟨cW,dv,eU,iR,l4⟩:=an;have Kn:=L.b x.1.2.2.2.1;apply ag<;>intro aD<;>simp only[ay] at aD;refine bx λgw na=>?_;refine ae (ams _ (by dsimp only;exact⟨bN.w,cW,bN.avc dv⟩)) λcL e7=>?_;dsimp only at e7;obtain⟨bn,bB⟩:=e7;refine ae (amy _ (by dsimp only;rw[bn];exact⟨bN.w,ab⟩)) λcy fH=>?_;dsimp only at fH;rw[bn] at fH;apply ag<;>intro aR<;>simp only[ay] at aR;exact a6 (by dsimp only[Sum.elim];exact aR);refine bx λiu l8=>?_;refine ae (dq (by(simp only[aL,b7]<;>omega))) λp4 sx=>?_;obtain⟨eB,cX,eR,mS,nS⟩:=fH aR;have ko:qg cT cy.2.1:=⟨eB,cX,nS⟩;have hle:=ko.le;exact bz ⟨⟨_,_,_,rfl,(by(exact⟨by simp only[aL]<;>omega,by simp only[aL]<;>omega,bN.trans ko,by rw[sx.2];simp only[aL,b7]<;>omega,by rw[sx.1];exact(gn.imp λe he=>⟨he.1,ab⟩).append (aN.one ⟨eR,mS⟩)⟩))⟩,(by dsimp only;simp only[aL,b7]<;>omega)⟩;exact a6 (by dsimp only[Sum.elim];exact⟨bN,ab,gn,rfl⟩)) x ⟨_,_,_,rfl,aj⟩
theorem aNK:∀x:U amA,(oS x.2.1/\x.1.2.1.1.length<=24/\aN (nr x.2.1.2.2.1.1 x.2.1.2.2.2.1) x.1.2.1.1)->av (QB x) (λy=>y.1.2.1.1=0->qg x.2.1 y.2.1/\wC y.2.1.2.2.2.2.1.1.length y.1.1):=by
 intro x aF;unfold QB;have my:=L.b x.1.2.1;apply ag<;>intro aD<;>simp only[ay] at aD;exact ak (by intro aA;(exact⟨⟨aF.1,s4.refl _,[],by rw[dr]⟩,by simp only[b7,aL]<;>decide,λh=>absurd rfl h,aN.nil⟩));refine ae (aNh _ ⟨aF.1,aF.2.2⟩) λaq cr=>?_;dsimp only at cr;obtain⟨bn⟩:PLift (aq.2.1=x.2.1):=⟨cr⟩;apply ag<;>intro aR<;>simp only[ay] at aR;exact ak (by intro aA;exact absurd aA aR);refine ae (aNt _ (by dsimp only;rw[bn];exact aF)) λaB cE=>?_;dsimp only at cE;rw[bn] at cE;obtain⟨bB,dc,ek⟩:=cE;have eN:1<=aB.1.1.1.length:=ek ab;refine ae (aNB _ aG) λaK cG=>?_;dsimp only at cG;refine ee cG (λaS dj=>?_) (λa9 c5=>?_);have aQf:=L.b aB.1.1;apply ag<;>intro bM<;>simp only[ay] at bM;exact ak (by intro aA;(simp only[aL] at aA;omega));refine ae (aNE _ (by dsimp only;rw[bB];exact⟨aF,by simp only[aL,b7]<;>omega,by simp only[aL,b7]<;>omega,rfl⟩)) λcl e8=>?_;dsimp only at e8;refine ee e8 (λbO ec=>?_) (λcc fj=>?_);rw[bB] at ec;refine ae (aNH _ (by dsimp only;rw[ec];exact⟨⟨aF.2.1,aF.2.2,ab,aF.1,by simp only[b7,aL]⟩,by simp only[aL]<;>omega,by simp only[aL]<;>omega,⟨aF.1,s4.refl _,[],by rw[dr]⟩,by simp only[b7,aL]<;>omega,aN.nil⟩)) λeD gA=>?_;dsimp only at gA;refine ee gA (λeO iM=>?_) (λeY k4=>?_);rw[ec] at iM;obtain⟨aI,aQ,bq,cA⟩:=iM;exact ak (by intro aA;(exact⟨aI,by dsimp only;omega,λ_=>by dsimp only;omega,bq⟩));exact ak (by intro aA;exact absurd aA k4);exact ak (by intro aA;exact absurd aA fj);exact ak (by intro aA;exact absurd aA c5)
theorem aJ8:∀x:U HH,((oS x.2.2.1/\x.2.2.2.2.1.2.1.1.length=0)/\(qg x.2.2.1 x.2.2.1/\0<=x.1.2.2.2.1.1/\x.2.2.2.2.1.2.1.1.length=x.1.2.2.2.1.1/\x.1.2.2.2.1.1<=x.2.2.1.2.2.2.2.1.1.length/\aN (wC x.2.2.1.2.2.2.2.1.1.length) x.2.2.2.2.1.2.1.1))->av (a2 Pz x) (Sum.elim (λy=>x.2.2.1.2.2.2.2.1.1.length<=y.2.2.2.2.1.2.1.1.length/\y.2.2.2.2.1.2.1.1.length<=40/\aN (wC y.2.2.2.2.1.2.1.1.length) y.2.2.2.2.1.2.1.1/\y.2.2.2.2.1.1=x.2.2.2.2.1.1) (λy=>y.1.1.1≠0)):=by
 rintro x ⟨an,aj⟩;exact cS (λz:U HH=>∃v10,∃cY,∃wJ,z=(((),(),(),v10,()),(x.2.1,cY,(),(x.2.2.2.2.1.1,wJ,()),(),()))/\(qg x.2.2.1 cY/\0<=v10.1/\wJ.1.length=v10.1/\v10.1<=cY.2.2.2.2.1.1.length/\aN (wC cY.2.2.2.2.1.1.length) wJ.1)) (λz:U HH=>(40-z.1.2.2.2.1.1).toNat) (λz ai=>by
  obtain⟨v10,cY,wJ,rfl,aF⟩:=ai;unfold Pz;dsimp only
  obtain⟨bD,cZ,bN,cK,gn⟩:=aF;have az:=bD.w.n;have aPM:=L.b cY.2.2.2.2.1;apply ag<;>intro aD<;>simp only[ay] at aD;refine bx λdb fY=>?_;obtain⟨dK,dh⟩:=bD.w.XS _ _ fY;refine ae (aNK _ (by dsimp only;exact⟨bD.w,dK,dh⟩)) λbK ew=>?_;dsimp only at ew;apply ag<;>intro aR<;>simp only[ay] at aR;exact a6 (by dsimp only[Sum.elim];exact aR);refine ae (dq (by(simp only[aL,b7]<;>omega))) λjK o4=>?_;obtain⟨eB,cX⟩:=ew aR;have hle:=eB.le;exact bz ⟨⟨_,_,_,rfl,(by(exact⟨bD.trans eB,by simp only[aL]<;>omega,by rw[o4.2];simp only[aL,b7]<;>omega,by simp only[aL]<;>omega,by rw[o4.1];exact(gn.imp λe he=>he.mono ab).append (aN.one cX)⟩))⟩,(by dsimp only;simp only[aL,b7]<;>omega)⟩;exact a6 (by dsimp only[Sum.elim];exact⟨by have:=bD.le;omega,ab,by rw[show(wJ.1.length:Int)=cY.2.2.2.2.1.1.length by omega];exact gn,rfl⟩)) x ⟨_,_,_,rfl,aj⟩
theorem aJ':∀x:U alm,(True)->av (Py x) (λy=>y.1.2.1.1=0->sZ y.1.1):=by
 intro x aF;unfold Py;refine ae (Px _ aG) λaq cr=>?_;dsimp only at cr;apply ag<;>intro aD<;>simp only[ay] at aD;exact ak (by intro aA;(simp only[aL] at aA;omega));refine ae (we _ aG) λaB cE=>?_;dsimp only at cE;apply ag<;>intro aR<;>simp only[ay] at aR;exact ak (by intro aA;(simp only[aL] at aA;omega));obtain⟨aQE,aU⟩:=cE aR;have bL:=cr aD;obtain⟨g_,gl⟩:=bL.rs _ _ aU;dsimp only at g_ gl;have arB:=bL.rP;have hw:oS (x.1.1.1,x.1.1.2.1,x.1.1.2.2.1,x.1.2.1,L.nil,()):=⟨bL,g_,by simp only[b7,aL]<;>omega,aN.nil⟩;refine ae (amy _ ⟨hw,by simp only[b7,aL]<;>omega⟩) λaK cG=>?_;dsimp only at cG;apply ag<;>intro bM<;>simp only[ay] at bM;exact ak (by intro aA;exact absurd aA bM);obtain⟨eB,cX,eR,mS,nS⟩:=cG bM;refine ae (oU (by(have ai:(S ⟨#[46]⟩).1.size=1:=rfl;omega))) λv4 nz=>?_;refine ae (oU (by(have ai:(S ⟨#[46]⟩).1.size=1:=rfl;omega))) λcQ Ky=>?_;refine ae (aJ8 _ ⟨⟨eB,by simp only[b7,aL]<;>omega⟩,⟨eB,s4.refl _,[],by rw[dr]⟩,by simp only[b7,aL]<;>omega,by simp only[b7,aL]<;>omega,by simp only[b7,aL]<;>omega,aN.nil⟩) λbO ec=>?_;dsimp only at ec;refine ee ec (λcc fj=>?_) (λbT e6=>?_);obtain⟨cx,cI,dw,fh⟩:=fj;exact ak (by intro aA;(exact⟨by dsimp only;rw[fh];have ai:(S ⟨#[46]⟩).1.size=1:=rfl;omega,by dsimp only;omega,cI,dw⟩));exact ak (by intro aA;exact absurd aA e6)
theorem aI8:∀x:U Hq,((x.1.1.2.1.1.length<=5)/\((0<=x.1.2.2.1.1)/\(x.1.2.2.1.1<=(x.1.1.2.1.1.length:Int))/\((x.1.2.1.1.length:Int)=x.1.2.2.1.1/\aN sZ x.1.2.1.1)))->av (a2 Pc x) (Sum.elim (λy=>y.1.1.1.length=x.1.1.2.1.1.length/\aN sZ y.1.1.1) (λy=>y.1.2.2.1.1≠0)):=by
 rintro x ⟨an,aj⟩;exact cS (λz:U Hq=>∃cQ,∃v6,z=((x.1.1,cQ,v6,()),((),()))/\((0<=v6.1)/\(v6.1<=(x.1.1.2.1.1.length:Int))/\((cQ.1.length:Int)=v6.1/\aN sZ cQ.1))) (λz:U Hq=>((x.1.1.2.1.1.length:Int)-z.1.2.2.1.1).toNat) (λz ai=>by
  obtain⟨cQ,v6,rfl,aF⟩:=ai;unfold Pc;dsimp only
  obtain⟨bD,cZ,bN,cK⟩:=aF;have pT:=L.b x.1.1.2.1;apply ag<;>intro aD<;>simp only[ay] at aD;refine bx λaP cP=>?_;refine ae (aJ' _ aG) λaK cG=>?_;dsimp only at cG;apply ag<;>intro aR<;>simp only[ay] at aR;exact a6 (by dsimp only[Sum.elim];exact aR);refine ae (dq dJ) λjj o3=>?_;exact bz ⟨⟨_,_,rfl,(by(exact⟨by simp only[aL]<;>omega,by simp only[aL]<;>omega,by rw[o3.2];simp only[aL,b7]<;>omega,by rw[o3.1];exact cK.append (aN.one (cG aR))⟩))⟩,eb⟩;exact a6 (by dsimp only[Sum.elim];exact⟨ab,cK⟩)) x ⟨_,_,rfl,aj⟩
theorem W2:∀x:U ak6,(True)->av (B2 x) (λy=>y.1.1.1.length<=5/\(y.1.2.2.1.1=0->l3 x.1.1/\y.1.1.1.length=x.1.1.2.1.1.length/\aN sZ y.1.1.1)/\(y.1.2.2.1.1≠0->y.1.1.1=[])):=by
 intro x aF;unfold B2;refine ae (Px _ aG) λaq cr=>?_;dsimp only at cr;apply ag<;>intro aD<;>simp only[ay] at aD;exact ak (by dsimp only;exact⟨by simp only[b7,aL]<;>decide,λaA=>(by simp only[aL] at aA;omega),λ_=>rfl⟩);have bL:=cr aD;have D0:=bL.gl;refine ae (aI8 _ (by dsimp only;exact⟨D0,by simp only[aL]<;>omega,by simp only[aL]<;>omega,rfl,aN.nil⟩)) λa9 c5=>?_;dsimp only at c5;refine ee c5 (λbJ dL=>?_) (λbK ew=>?_);exact ak (by dsimp only;exact⟨ab,λ_=>⟨bL,dL⟩,λaA=>absurd bu aA⟩);exact ak (by dsimp only;exact⟨by simp only[b7,aL]<;>decide,λaA=>absurd aA ew,λ_=>rfl⟩)
end cF
end Go.Proofs.YtgmdfchkljaooaaGreat
