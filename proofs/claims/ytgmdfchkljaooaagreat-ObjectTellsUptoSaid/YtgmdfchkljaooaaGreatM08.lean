/- The typed functions come to something (printed by gen/twokrun.py). -/
import Derived.Test.YtgmdfchkljaooaaGreatM04
import Derived.Test.YtgmdfchkljaooaaGreatM05
import Derived.Test.YtgmdfchkljaooaaGreatM07
noncomputable section
namespace Go.Proofs.YtgmdfchkljaooaaGreat
namespace cx
set_option linter.unusedVariables false
set_option linter.unusedSimpArgs false
set_option maxRecDepth 100000
def pe (f:Nat->Nat):Nat->Nat
 |0=>0
 |n+1=>pe f n+f n
theorem Xn (f g:Nat->Nat):∀n,pe (λx=>f x+g x) n=pe f n+pe g n
 |0=>rfl
 |n+1=>by have:=Xn f g n;simp only[pe];omega
theorem alZ {f g:Nat->Nat}:∀n,(∀x,x<n->f x<=g x)->pe f n<=pe g n
 |0,_=>Nat.le_refl _
 |n+1,h=>by have:=alZ (f:=f) (g:=g) n (λx aW=>h x ab);have:=h n ab;simp only[pe];omega
theorem al1 {a:Nat}:∀n,a<n->1<=pe (λx=>if x=a then 1 else 0) n
 |n+1,h=>by
  simp only[pe];by_cases ai:a<n;have:=al1 n ai;omega;rw[if_pos ab];omega
theorem al0 {f:Nat->Nat}:∀n,(∀x,f x<=1)->pe f n<=n
 |0,_=>Nat.le_refl _
 |n+1,h=>by have:=al0 n h;have:=h n;simp only[pe];omega
inductive oK (ch:Nat->List Nat)(a:Nat):Nat->Prop
  |refl:oK ch a a
  |tail {b c}:oK ch a b->c∈ch b->oK ch a c
def dl (ch:Nat->List Nat)(a x:Nat):Nat:=by classical exact if oK ch a x then 1 else 0
theorem Zg (ch a x):dl ch a x<=1:=by unfold dl;split<;>omega
theorem al5 (ch:Nat->List Nat)(n:Nat):∀l:List Nat,(l.map λc=>pe (dl ch c) n).sum=pe (λx=>(l.map λc=>dl ch c x).sum) n
 |[]=>by
  have:∀n,pe (λx=>0) n=0:=λn=>by induction n with|zero=>rfl|succ n cj=>simp only[pe];omega
  simp[this]
 |c::l=>by
  have:=al5 ch n l;simp only[List.map_cons,List.sum_cons];rw[this,<-Xn]
theorem weight {n:Nat}{ch:Nat->List Nat}{ρ:Nat->Nat}(aO:∀a c,c∈ch a->ρ a<ρ c)(hu:∀(a b i j c:Nat),(ch a)[i]?=some c->(ch b)[j]?=some c->a=b/\i=j):∃w:Nat->Nat,(∀a,w a<=n)/\∀a,a<n->1+((ch a).map w).sum<=w a:=by
 have alw:∀{a x},oK ch a x->a=x\/ρ a<ρ x:=λh=>by
  induction h with
  |refl=>exact .inl rfl
  |tail aa af cj=>have:=aO _ _ af;rcases cj with rfl|cj<;>exact .inr ab
 have bg:∀{a c x},c∈ch a->oK ch c x->oK ch a x:=λan h=>by
  induction h with
  |refl=>exact .tail .refl an
  |tail aa af cj=>exact .tail cj af
 have up:∀{a b c:Nat},c∈ch a->c∈ch b->a=b:=λaa af=>by
  obtain⟨i,aa⟩:=List.getElem?_of_mem aa;obtain⟨j,af⟩:=List.getElem?_of_mem af;exact(hu _ _ _ _ _ aa af).1
 have cmp:∀{a b x},oK ch a x->oK ch b x->oK ch a b\/oK ch b a:=λ{a b x} h=>by
  induction h with
  |refl=>exactλh=>.inr h
  |tail aa af cj=>
   intro h;cases h with
   |refl=>exact .inl (.tail aa af)
   |tail aG aN=>rw[up af aN] at cj;exact cj aG
 have aMJ:∀{a c c' x},c∈ch a->c'∈ch a->oK ch c x->oK ch c' x->c=c':=λ{a c c' x} h h' r mE=>by
  have key:∀{c c'},c∈ch a->c'∈ch a->oK ch c c'->c=c':=λ{c c'} h h' r=>by
   cases r with
   |refl=>rfl
   |tail aG aN=>
    rw[up aN h'] at aG;have:=aO _ _ h;rcases alw aG with q|q<;>(first|subst q|skip)<;>omega
  rcases cmp r mE with q|q;exact key h h' q;exact(key h' h q).symm
 refine⟨λa=>pe (dl ch a) n,λa=>al0 n (Zg ch a),λa cf=>?_⟩;rw[al5];refine jd (Nat.add_le_add_right (al1 n cf) _) ?_;rw[<-Xn];refine alZ n λx _=>?_;have one:∀(l:List Nat)(k:Nat),(∀i c,l[i]?=some c->(ch a)[k+i]?=some c)->(l.map λc=>dl ch c x).sum<=1:=λl=>by
  induction l with
  |nil=>intro k _;simp
  |cons c l cj=>
   intro k aU;have cj:=cj (k+1) λi c h=>by have:=aU (i+1) c (by simpa using h);rw[show k+1+i=k+(i+1) by omega];exact this
   simp only[List.map_cons,List.sum_cons];by_cases an:oK ch c x;have ai:∀eC:List Nat,(∀c',c'∈eC->¬oK ch c' x)->(eC.map λc=>dl ch c x).sum=0:=λeC=>by
    induction eC with
    |nil=>intro _;rfl
    |cons e eC DR=>
     intro h;simp only[List.map_cons,List.sum_cons];rw[DR λc' q=>h c' (List.mem_cons_of_mem _ q)];unfold dl;rw[if_neg (h e (mY ..))]
   rw[ai l λc' kS aqN=>?_];exact Zg _ _ _;obtain⟨i,aj⟩:=List.getElem?_of_mem kS;have aa:=aU 0 c rfl;have af:=aU (i+1) c' (by simpa using aj);have e:=aMJ (List.mem_of_getElem? aa) (List.mem_of_getElem? af) an aqN;subst e;have:=(hu _ _ _ _ _ aa af).2;omega;have:dl ch c x=0:=by unfold dl;rw[if_neg an]
   omega
 have aa:=one (ch a) 0 λi c h=>by rw[fW];exact h
 by_cases aW:x=a;subst aW;have ai:∀l:List Nat,(∀c,c∈l->c∈ch x)->(l.map λc=>dl ch c x).sum=0:=λl=>by
  induction l with
  |nil=>intro _;rfl
  |cons e l cj=>
   intro h;simp only[List.map_cons,List.sum_cons];rw[cj λc q=>h c (List.mem_cons_of_mem _ q)];unfold dl;rw[if_neg λq=>?_];have:=aO _ _ (h e (mY ..));rcases alw q with q|q<;>(first|subst q|skip)<;>omega
 rw[ai _ λc h=>h,if_pos rfl];unfold dl;rw[if_pos .refl];exact Nat.le_refl _;rw[if_neg aW,fW];by_cases cf:oK ch a x;unfold dl at aa⊢;rw[if_pos cf];exact aa;have ai:∀l:List Nat,(∀c,c∈l->c∈ch a)->(l.map λc=>dl ch c x).sum=0:=λl=>by
  induction l with
  |nil=>intro _;rfl
  |cons e l cj=>
   intro h;simp only[List.map_cons,List.sum_cons];rw[cj λc q=>h c (List.mem_cons_of_mem _ q)];unfold dl;rw[if_neg λq=>cf (bg (h e (mY ..)) q)]
 rw[ai _ λc h=>h];exact Nat.zero_le _
def lr (k:Int):Int:=if k<0\/19<k then-1 else if k<=5 then 0 else if k=15\/k=16 then 1 else 2
def ub (l:List (D er))(C:Int->Prop)(j:Int):Prop:=∃e:D er,l[j.toNat]?=some e/\0<=lr e.1.1/\(0<=e.2.2.2.2.1.1->e.2.2.2.2.1.1<j/\C e.2.2.2.2.1.1)/\(0<=e.2.2.2.2.2.1.1->e.2.2.2.2.2.1.1<j/\C e.2.2.2.2.2.1.1)/\(lr e.1.1≠0->0<=e.2.2.2.2.1.1)/\(lr e.1.1=2->0<=e.2.2.2.2.2.1.1)/\e.2.2.2.1.1.size<=24
def o9 (e:D er)(s:Nat):Int:=if s=0 then e.2.2.2.2.1.1 else e.2.2.2.2.2.1.1
def QV (l:List (D er))(C:Int->Prop):Prop:=∀(a b:Int)(s t:Nat)(e f:D er),C a->C b->l[a.toNat]?=some e->l[b.toNat]?=some f->s<2->t<2->0<=o9 e s->o9 e s=o9 f t->a=b/\s=t
def nD (l:List (D er))(n:Nat)(j:Int):Prop:=∃(C:Int->Prop) (w:Int->Nat),C j/\w j<=n/\∀k,C k->0<=k/\ub l C k/\∀e:D er,l[k.toNat]?=some e->1+(if 0<=e.2.2.2.2.1.1 then w e.2.2.2.2.1.1 else 0)+(if 0<=e.2.2.2.2.2.1.1 then w e.2.2.2.2.2.1.1 else 0)<=w k
theorem nD.node {l:List (D er)}{n:Nat}{j:Int}(h:nD l n j):0<=j/\∃a b,1+a+b<=n/\ub l (λ_=>True) j/\∀e:D er,l[j.toNat]?=some e->(0<=e.2.2.2.2.1.1->nD l a e.2.2.2.2.1.1)/\(0<=e.2.2.2.2.2.1.1->nD l b e.2.2.2.2.2.1.1):=by
 obtain⟨C,w,aa,hw,af⟩:=h;obtain⟨a6,⟨e,aG,aN,bo,cE,eM,fH⟩,aP⟩:=af j aa;have aP:=aP e aG;refine⟨a6,(if 0<=e.2.2.2.2.1.1 then w e.2.2.2.2.1.1 else 0),(if 0<=e.2.2.2.2.2.1.1 then w e.2.2.2.2.2.1.1 else 0),ab,⟨e,aG,aN,λq=>⟨(bo q).1,aK⟩,λq=>⟨(cE q).1,aK⟩,eM,fH⟩,λe' fu=>?_⟩;rw[aG] at fu;cases fu;exact⟨λq=>⟨C,w,(bo q).2,by rw[if_pos q];exact Nat.le_refl _,af⟩,λq=>⟨C,w,(cE q).2,by rw[if_pos q];exact Nat.le_refl _,af⟩⟩
theorem nD.mono {l n m j}(h:nD l n j)(hm:n<=m):nD l m j:=by
 obtain⟨C,w,aa,hw,af⟩:=h;exact⟨C,w,aa,ab,af⟩
theorem nD.aug {l:List (D er)}{n:Nat}{j:Int}(h:nD l n j):0<=j/\ub l (nD l n) j:=by
 obtain⟨a6,a,b,Z8,⟨e,aG,aN,bo,cE,eM,fH⟩,aP⟩:=h.node;obtain⟨s1,s2⟩:=aP e aG;exact⟨a6,e,aG,aN,λq=>⟨(bo q).1,(s1 q).mono ab⟩,λq=>⟨(cE q).1,(s2 q).mono ab⟩,eM,fH⟩
theorem nD.make {l:List (D er)}{C:Int->Prop}{j:Int}(aq:C j)(um:∀k,C k->0<=k/\ub l C k)(hu:QV l C):nD l l.length j:=by
 classical
 let ops:D er->List Nat:=λe=>(if 0<=e.2.2.2.2.1.1 then[e.2.2.2.2.1.1.toNat] else[])++(if 0<=e.2.2.2.2.2.1.1 then[e.2.2.2.2.2.1.1.toNat] else[])
 let ch:Nat->List Nat:=λa=>if C (a:Int) then(match l[a]? with|some e=>ops e|none=>[]) else[]
 have Au:∀(a:Nat)(e:D er),C (a:Int)->l[a]?=some e->ch a=ops e:=λa e aa af=>by simp only[ch,if_pos aa,af]
 have get:∀(a i c:Nat),(ch a)[i]?=some c->∃e s,C (a:Int)/\l[a]?=some e/\s<2/\0<=o9 e s/\o9 e s=(c:Int)/\((0<=e.2.2.2.2.1.1/\s=i)\/(¬0<=e.2.2.2.2.1.1/\s=1/\i=0)):=λa i c h=>by
  by_cases cf:C (a:Int);obtain⟨_,e,aG,aN,bo,cE,_⟩:=um _ cf;have aG:l[a]?=some e:=aG;rw[Au a e cf aG] at h;by_cases gC:0<=e.2.2.2.2.1.1;by_cases fm:0<=e.2.2.2.2.2.1.1;simp only[ops,if_pos gC,if_pos fm] at h
  match i,h with
  |0,h=>cases h;exact⟨e,0,cf,aG,ab,gC,by simp[o9];omega,.inl ⟨gC,rfl⟩⟩
  |1,h=>cases h;exact⟨e,1,cf,aG,ab,fm,by simp[o9];omega,.inl ⟨gC,rfl⟩⟩
  |i+2,h=>simp at h
  simp only[ops,if_pos gC,if_neg fm] at h
  match i,h with
  |0,h=>cases h;exact⟨e,0,cf,aG,ab,gC,by simp[o9];omega,.inl ⟨gC,rfl⟩⟩
  |i+1,h=>simp at h
  by_cases fm:0<=e.2.2.2.2.2.1.1;simp only[ops,if_neg gC,if_pos fm] at h
  match i,h with
  |0,h=>cases h;exact⟨e,1,cf,aG,ab,fm,by simp[o9];omega,.inr ⟨gC,rfl,rfl⟩⟩
  |i+1,h=>simp at h
  simp only[ops,if_neg gC,if_neg fm] at h;simp at h;simp only[ch,if_neg cf] at h;simp at h
 obtain⟨w,hw,aP⟩:=weight (n:=l.length) (ch:=ch) (ρ:=λa=>l.length-a) (λa c an=>by
  obtain⟨i,aj⟩:=List.getElem?_of_mem an;obtain⟨e,s,cr,cI,dw,fe,kV,_⟩:=get a i c aj;have bn:=(eu.1 cI).1;obtain⟨_,e',aG,aN,bo,cE,_⟩:=um _ cr;have aG:l[a]?=some e':=aG;rw[cI] at aG;cases aG;have:(c:Int)<a:=by
   rw[<-kV];unfold o9 at fe⊢;by_cases aP:s=0;rw[if_pos aP] at fe⊢;exact(bo fe).1;rw[if_neg aP] at fe⊢;exact(cE fe).1
  show l.length-a<l.length-c
  omega) (λa b i j c aa af=>by
  obtain⟨e,s,cr,cI,dw,fe,kV,mD⟩:=get a i c aa;obtain⟨f,t,fQ,eQ,gq,k7,BR,aPG⟩:=get b j c af;obtain⟨j3,kW⟩:=hu _ _ s t e f cr fQ cI eQ dw gq fe (kV.trans BR.symm);have j3:a=b:=ab;subst j3;rw[cI] at eQ;cases eQ;refine⟨rfl,?_⟩
  omega)
 refine⟨C,λk=>w k.toNat,aq,hw _,λk aU=>?_⟩;obtain⟨a6,tk⟩:=um k aU;refine⟨a6,tk,λe he=>?_⟩;have pN:C ((k.toNat:Nat):Int):=by rw[show((k.toNat:Nat):Int)=k by omega];exact aU
 have:=aP k.toNat (eu.1 he).1;rw[Au _ e pN he] at this;refine jd ?_ this;simp only[ops];split<;>split<;>simp<;>omega
def sZ (l:List (D er))(j:Int):Prop:=nD l 160 j
theorem sZ.node {l:List (D er)}{j:Int}(h:sZ l j):0<=j/\ub l (sZ l) j:=nD.aug h
def gG (d:List (D [.int .i64]))(j:Int):Prop:=0<=j/\∃e:D [.int .i64],d[j.toNat]?=some e/\0<e.1.1
theorem gG.set {d:L (D [.int .i64])}{j:Int}(h:gG d.1 j){k:Nat}{v:D [.int .i64]}(aL:0<v.1.1):gG (dO d k v).1 j:=by
 obtain⟨a6,e,aa,af⟩:=h;refine⟨a6,?_⟩;show∃e,(d.1.set k v)[j.toNat]?=some e/\_;by_cases aU:k=j.toNat;subst aU;exact⟨v,by rw[List.getElem?_set_self (eu.1 aa).1],aL⟩;exact⟨e,by rw[mI aU];exact aa,af⟩
theorem gG.Xc {d:L (D [.int .i64])}{j:Int}(a6:0<=j)(aq:j.toNat<d.1.length){v:D [.int .i64]}(aL:0<v.1.1):gG (dO d j.toNat v).1 j:=
 ⟨a6,v,by show(d.1.set j.toNat v)[j.toNat]?=_;rw[List.getElem?_set_self aq],aL⟩
theorem gG.Xq {d:L (D [.int .i64])}{j k:Int}{v:D [.int .i64]}(a6:0<=k)(h:gG (dO d k.toNat v).1 j):gG d.1 j\/j=k:=by
 obtain⟨jX,e,aG,aN⟩:=h;have aG:(d.1.set k.toNat v)[j.toNat]?=some e:=aG;by_cases aU:k.toNat=j.toNat;exact .inr ab;rw[mI aU] at aG;exact .inl ⟨jX,e,aG,aN⟩
def xS (d:List (D [.int .i64])):Prop:=∀(j:Nat)(e:D [.int .i64]),d[j]?=some e->0<=e.1.1
theorem xS.set {d:L (D [.int .i64])}(h:xS d.1){k:Nat}{v:D [.int .i64]}(aL:0<=v.1.1):xS (dO d k v).1:=λj e he=>by
 have he:(d.1.set k v)[j]?=some e:=he;by_cases aU:k=j;subst aU;rw[List.getElem?_set] at he;split at he;split at he;cases he;exact aL;cases he;exact absurd rfl ‹_›;rw[mI aU] at he;exact h j e he
theorem aiB:∀x:U aiA,(True)->aw (Gq x) (λy=>True):=by
 intro x aE;unfold Gq;apply ag<;>intro aC<;>simp only[av] at aC;exact ak aK;exact ak aK
theorem aCG:∀x:U Vc,(True)->aw (Vb x) (λy=>True):=by
 intro x aE;unfold Vb
 (repeat refine ag (λ_=>ak da) (λ_=>?_))
 exact ak da
theorem aCH:∀x:U Ve,(True)->aw (Vd x) (λy=>True):=by
 intro x aE;unfold Vd
 (repeat refine ag (λ_=>ak da) (λ_=>?_))
 exact ak da
theorem aCK:∀x:U ah',(True)->aw (Nu x) (λy=>True):=by
 intro x aE;unfold Nu;refine ae (aCG _ aK) λaz cg=>?_;apply ag<;>intro aC<;>simp only[av] at aC;exact ak aK;refine ae (aCH _ aK) λaF cz=>?_;apply ag<;>intro aV<;>simp only[av] at aV;exact ak aK;exact ak aK
theorem aDo:∀x:U aix,(True)->aw (NG x) (λy=>True):=by
 intro x aE;unfold NG;apply ag<;>intro aC<;>simp only[av] at aC;exact ak aK;exact ak aK
theorem aCQ:∀x:U Gg,(0<=x.1.2.1.1)->aw (a3 Nw x) (Sum.elim (λy=>True) (λy=>y.1.1=false)):=
 cQ (λx:U Gg=>0<=x.1.2.1.1) (λx:U Gg=>((x.1.1.1.size:Int)-x.1.2.1.1).toNat) (λx aE=>by
  unfold Nw;have aaO:=S.b x.1.1;apply ag<;>intro aC<;>simp only[av] at aC;refine ae (y4 ab) λv4 ot=>?_;refine ae (aiB _ aK) λa5 cZ=>?_;apply ag<;>intro aV<;>simp only[av] at aV;refine ae (y4 ab) λv6 AL=>?_;refine ae (aDo _ aK) λbL ez=>?_;apply ag<;>intro bP<;>simp only[av] at bP;exact a7 da;exact bz ⟨dX,dX⟩;exact bz ⟨dX,dX⟩;exact a7 da)
theorem l2:∀x:U aib,(True)->aw (k6 x) (λy=>y.1.1=true->1<=x.1.1.1.size/\x.1.1.1.size<=12):=by
 intro x aE;unfold k6;have aaO:=S.b x.1.1;apply ag<;>intro aC<;>simp only[av] at aC;exact ak mX;apply ag<;>intro aV<;>simp only[av] at aV;exact ak mX;refine ae (y4 dJ) λv1 q4=>?_;refine ae (aiB _ aK) λaF cz=>?_;apply ag<;>intro bP<;>simp only[av] at bP;exact ak mX;refine ae (aCK _ aK) λaT cF=>?_;apply ag<;>intro dj<;>simp only[av] at dj;exact ak mX;refine ae (aCQ _ dJ) λcu fc=>?_;dsimp only at fc;refine eg fc (λbU dZ=>?_) (λcd ff=>?_);exact ak (by intro ay;(constructor<;>omega));exact ak (by intro ay;(constructor<;>omega))
theorem aCY (l:L (D [.str]))(s:ee):∀x:U Gj,(x.1.1=l/\x.1.2.1=s/\0<=x.1.2.2.1.1)->aw (a3 Bo x) (Sum.elim (λy=>True) (λy=>0<=y.1.1.1/\y.1.1.1<l.1.length/\l.1[y.1.1.1.toNat]?=some (s,()))):=
 cQ (λx:U Gj=>x.1.1=l/\x.1.2.1=s/\0<=x.1.2.2.1.1) (λx:U Gj=>((x.1.1.1.length:Int)-x.1.2.2.1.1).toNat) (λx aE=>by
  unfold Bo;have kH:=L.b x.1.1;apply ag<;>intro aC<;>simp only[av] at aC;refine bt λaD ct=>?_;apply ag<;>intro aV<;>simp only[av] at aV;exact a7 (by obtain⟨bx,cX,bH⟩:=aE;subst bx cX;exact⟨bH,aC,by rw[ct,<-aV]⟩);exact bz ⟨(by obtain⟨bx,cX,bH⟩:=aE;refine⟨bx,cX,?_⟩;simp only[aM,b5] at*;omega),dX⟩;exact a7 da)
theorem aii:∀x:U Vf,(True)->aw (uU x) (λy=>-1<=y.1.1.1/\y.1.1.1<x.1.1.1.length/\(0<=y.1.1.1->x.1.1.1[y.1.1.1.toNat]?=some (x.1.2.1,()))):=by
 intro x aE;unfold uU;refine ae (aCY (x.1.1) (x.1.2.1) _ (by(exact⟨rfl,rfl,by simp only[aM];decide⟩))) λaF cz=>?_;dsimp only at cz;refine eg cz (λaT cF=>?_) (λaY df=>?_);exact ak (by dsimp only;refine⟨by simp only[aM];decide,by simp only[aM];omega,λq=>?_⟩;simp only[aM] at q;omega);exact ak (by dsimp only;exact⟨by have:=df.1;omega,df.2.1,λ_=>df.2.2⟩)
theorem v8:∀x:U U',(True)->aw (o_ x) (λy=>y.1.1=true->∃j:Nat,x.1.1.1[j]?=some (x.1.2.1,())):=by
 intro x aE;unfold o_;refine ae (aii _ aK) λaz cg=>?_;dsimp only at cg;exact ak (by intro ay;simp only[cG,aM] at ay;exact⟨_,cg.2.2 ab⟩)
theorem aCU:∀x:U Gi,(0<=x.1.2.1.1)->aw (a3 Nx x) (Sum.elim (λy=>True) (λy=>True)):=
 cQ (λx:U Gi=>0<=x.1.2.1.1) (λx:U Gi=>((x.1.1.1.length:Int)-x.1.2.1.1).toNat) (λx aE=>by
  unfold Nx;have kH:=L.b x.1.1;apply ag<;>intro aC<;>simp only[av] at aC;refine ae (qd ab) λv1 q4=>?_;refine bt λaQ cM=>?_;refine ae (v8 _ aK) λaT cF=>?_;dsimp only at cF;apply ag<;>intro aV<;>simp only[av] at aV;exact a7 da;exact bz ⟨dX,dX⟩;exact a7 da)
theorem aih:∀x:U aid,(True)->aw (Gh x) (λy=>True):=by
 intro x aE;unfold Gh;refine ae (aCU _ dJ) λaY df=>?_;dsimp only at df;refine eg df (λa5 cZ=>?_) (λbK dK=>?_);exact ak aK;exact ak aK
theorem aDL (n:Nat):∀x:U Gt,(0<=x.1.2.2.1.1/\x.1.2.2.1.1<=n/\x.1.1.1.length=n)->aw (a3 NJ x) (λy=>0<=y.1.1.1/\y.1.1.1<=n):=
 cQ (λx:U Gt=>0<=x.1.2.2.1.1/\x.1.2.2.1.1<=n/\x.1.1.1.length=n) (λx:U Gt=>((x.1.1.1.length:Int)-x.1.2.2.1.1).toNat) (λx aE=>by
  unfold NJ;have kH:=L.b x.1.1;apply ag<;>intro aC<;>simp only[av] at aC;refine bt λaD ct=>?_;apply ag<;>intro aV<;>simp only[av] at aV;exact bz ⟨dX,dX⟩;exact a7 gQ;exact a7 gQ)
theorem aiM:∀x:U aiK,(x.1.1.1.length<=100000000)->aw (Gs x) (λy=>y.1.1.1.length<=x.1.1.1.length+1/\1<=y.1.1.1.length):=by
 intro x aE;unfold Gs;refine ae (aDL (x.1.1.1.length) _ (by(and_intros<;>(intros)<;>(simp only[aM,b5] at*<;>omega)))) λaF cz=>?_;dsimp only at cz;have kH:=L.b x.1.1;apply ag<;>intro aC<;>simp only[av] at aC;refine bt λbO eG=>?_;apply ag<;>intro aV<;>simp only[av] at aV;exact ak gk;refine ae (qd ab) λv4 ot=>?_;refine ae (du dJ) λiD lD=>?_;refine ae (du dJ) λmN uv=>?_;refine ae (qd ab) λdU yS=>?_;refine ae (du dJ) λj0 oX=>?_;exact ak dX;refine ae (qd ab) λe8 abf=>?_;refine ae (du dJ) λnu tr=>?_;refine ae (du dJ) λrJ Dw=>?_;refine ae (qd ab) λeB aO'=>?_;refine ae (du dJ) λmz Dy=>?_;exact ak dX
theorem aC2 (n:Nat)(aA:n<=10000000):∀x:U Gl,(0<=x.1.2.2.1.1/\x.1.2.1.1.length<=x.1.2.2.1.1+1/\x.1.2.2.1.1<=n/\x.1.1.1.length=n/\1<=x.1.2.1.1.length)->aw (a3 Nz x) (λy=>y.1.1.1.length<=n+1/\1<=y.1.1.1.length):=
 cQ (λx:U Gl=>0<=x.1.2.2.1.1/\x.1.2.1.1.length<=x.1.2.2.1.1+1/\x.1.2.2.1.1<=n/\x.1.1.1.length=n/\1<=x.1.2.1.1.length) (λx:U Gl=>((x.1.1.1.length:Int)-x.1.2.2.1.1).toNat) (λx aE=>by
  unfold Nz;have kH:=L.b x.1.1;apply ag<;>intro aC<;>simp only[av] at aC;refine bt λaD ct=>?_;refine ae (aiM _ dJ) λaF cz=>?_;dsimp only at cz;exact bz ⟨dX,dX⟩;exact a7 gQ)
theorem Bp:∀x:U aij,(x.1.1.1.length<=10000000)->aw (v9 x) (λy=>y.1.1.1.length<=x.1.1.1.length+1/\1<=y.1.1.1.length):=by
 intro x aE;unfold v9;refine ae (aC2 (x.1.1.1.length) ab _ (by(and_intros<;>(intros)<;>(simp only[aM,b5] at*<;>omega)))) λaT cF=>?_;dsimp only at cF;exact ak gk
theorem aCA:∀x:U U_,(True)->aw (U9 x) (λy=>True):=by
 intro x aE;unfold U9;apply ag<;>intro aC<;>simp only[av] at aC;exact ak da;exact ak da
theorem axY (k:Nat)(h:10^k<=18446744073709551615):k<=19:=by
 rcases ky 19 k with g|g;have:10^20<=10^k:=Nat.pow_le_pow_right bk g;have e:(10:Nat)^20=100000000000000000000:=by decide
 omega;exact g
theorem al7 (a:Int)(h:0<=a):Int.tdiv a 10=a/10:=Int.tdiv_eq_ediv_of_nonneg h
theorem aCD:∀x:U Gf,(x.1.2.1.1.length<=20/\(0<x.1.1.1->x.1.1.1.toNat*10^x.1.2.1.1.length<=18446744073709551615))->aw (a3 Nt x) (λy=>y.1.1.1.length<=20/\1<=y.1.1.1.length):=
 cQ (λx:U Gf=>x.1.2.1.1.length<=20/\(0<x.1.1.1->x.1.1.1.toNat*10^x.1.2.1.1.length<=18446744073709551615)) (λx:U Gf=>x.1.1.1.toNat+(1-x.1.2.1.1.length)) (λx aE=>by
  unfold Nt;have hu:=x.1.1.2;have w9:0<=x.1.1.1:=hu.1;have ea:(bc.w .u64 10).1=10:=rfl;have gv:(bc.w .u64 0).1=0:=rfl;obtain⟨apj,apk⟩:=aE;apply ag<;>intro ah;simp only[cG,gv] at ah;refine ae (me (by rw[ea];decide)) λv2 _=>?_;have ax:=apk ah;have bF:10^x.1.2.1.1.length<=18446744073709551615:=jd (Nat.le_mul_of_pos_left _ ab) ax;have aZ:=axY _ bF;refine ae (du (by simp only[b5];omega)) λbT ko=>?_;simp only[b5] at ko;refine ae (AP (by rw[ea];decide)) λv4 ot=>?_;rw[ea,al7 _ w9] at ot;have aO2:x.1.1.1<=18446744073709551615:=hu.2;have aL:v4.1=x.1.1.1/10:=by rw[ot,oD];omega
  refine bz ⟨⟨by dsimp only;omega,λlW=>?_⟩,by dsimp only;omega⟩;dsimp only at lW⊢;rw[ko.2,Nat.add_comm,Nat.pow_succ,Nat.mul_comm (10^_) 10,<-Nat.mul_assoc];refine jd (nk _ ?_) ax;omega;apply ag<;>intro an;simp only[cG,aM] at ah an;refine ae (me (by rw[ea];decide)) λv2 _=>?_;refine ae (du (by simp only[b5];omega)) λbT ko=>?_;simp only[b5] at ko;refine ae (AP (by rw[ea];decide)) λv4 ot=>?_;rw[ea,al7 _ w9] at ot;have aL:v4.1=0:=by rw[ot,oD];omega
  exact bz ⟨⟨by dsimp only;omega,λlW=>by dsimp only at lW;omega⟩,by dsimp only;omega⟩;simp only[cG,aM] at an;exact a7 ⟨apj,by dsimp only;omega⟩)
theorem ah8:∀x:U ah5,(True)->aw (Ge x) (λy=>y.1.1.1.size<=21):=by
 intro x aE;unfold Ge;refine ae (aCA _ aK) λaz cg=>?_;have aq9:=az.1.1.2.2;have aPe:az.1.1.1<=18446744073709551615:=aq9;refine ae (aCD _ (by(refine⟨Nat.zero_le _,λ_=>?_⟩;show az.1.1.1.toNat*1<=_;omega))) λcu fc=>?_;dsimp only at fc;have RE:(S ⟨#[45]⟩).1.size=1:=rfl;apply ag<;>intro aC<;>simp only[av] at aC;refine ae (oR dJ) λe8 abf=>?_;exact ak dX;exact ak dX
theorem Vo:∀x:U aiw,(True)->aw (Bq x) (λy=>y.1.1.1=lr x.1.1.1):=by
 intro x aE;unfold Bq;apply ag<;>intro aC<;>simp only[av] at aC;exact ak (by dsimp only;simp only[lr,aM] at*;(repeat' split)<;>omega);apply ag<;>intro aV<;>simp only[av] at aV;exact ak (by dsimp only;simp only[lr,aM] at*;(repeat' split)<;>omega);apply ag<;>intro bP<;>simp only[av] at bP;exact ak (by dsimp only;simp only[lr,aM] at*;(repeat' split)<;>omega);apply ag<;>intro dj<;>simp only[av] at dj;exact ak (by dsimp only;simp only[lr,aM] at*;(repeat' split)<;>omega);apply ag<;>intro eb<;>simp only[av] at eb;exact ak (by dsimp only;simp only[lr,aM] at*;(repeat' split)<;>omega);exact ak (by dsimp only;simp only[lr,aM] at*;(repeat' split)<;>omega)
theorem aDf:∀x:U Vi,(True)->aw (Vh x) (Sum.elim (λy=>0<=x.1.2.1.1/\(x.1.2.1.1<2->x.1.1.2.2.2.2.2.1.1=-1)/\(x.1.2.1.1<1->x.1.1.2.2.2.2.1.1=-1)) (λy=>y.1.1=false)):=by
 intro x aE;unfold Vh;apply ag<;>intro aC<;>simp only[av] at aC;exact ak da;apply ag<;>intro aV<;>simp only[av] at aV;apply ag<;>intro bP<;>simp only[av] at bP;exact ak da;apply ag<;>intro dj<;>simp only[av] at dj;apply ag<;>intro eb<;>simp only[av] at eb;exact ak da;exact ak gQ;exact ak gQ;apply ag<;>intro gm<;>simp only[av] at gm;apply ag<;>intro g9<;>simp only[av] at g9;exact ak da;exact ak gQ;exact ak gQ
theorem aDg:∀x:U Vk,(True)->aw (Vj x) (λy=>True):=by
 intro x aE;unfold Vj;apply ag<;>intro aC<;>simp only[av] at aC;refine ae (l2 _ aK) λa5 cZ=>?_;dsimp only at cZ;apply ag<;>intro aV<;>simp only[av] at aV;exact ak da;apply ag<;>intro bP<;>simp only[av] at bP;exact ak da;exact ak da;apply ag<;>intro dj<;>simp only[av] at dj;exact ak da;exact ak da
theorem aDh:∀x:U Vm,(True)->aw (Vl x) (λy=>True):=by
 intro x aE;unfold Vl;apply ag<;>intro aC<;>simp only[av] at aC;exact ak da;apply ag<;>intro aV<;>simp only[av] at aV;exact ak da;apply ag<;>intro bP<;>simp only[av] at bP;exact ak da;exact ak da
theorem aDk:∀x:U aiv,(True)->aw (NF x) (λy=>y.1.1=true->0<=lr x.1.1.1.1/\(lr x.1.1.1.1<2->x.1.1.2.2.2.2.2.1.1=-1)/\(lr x.1.1.1.1<1->x.1.1.2.2.2.2.1.1=-1)/\x.1.1.2.2.2.1.1.size<=24):=by
 intro x aE;unfold NF;refine ae (Vo _ aK) λaz cg=>?_;dsimp only at cg;refine ae (aDf _ aK) λaF cz=>?_;dsimp only at cz;refine eg cz (λaT cF=>?_) (λaY df=>?_);refine ae (aDg _ aK) λbK dK=>?_;refine ae (aDh _ aK) λbL ez=>?_;apply ag<;>intro aC<;>simp only[av] at aC;apply ag<;>intro aV<;>simp only[av] at aV;apply ag<;>intro bP<;>simp only[av] at bP;exact ak (by intro ay;(rw[cg] at cF;exact⟨cF.1,cF.2.1,cF.2.2,by rw[aC];decide⟩));exact ak mX;exact ak mX;apply ag<;>intro dj<;>simp only[av] at dj;apply ag<;>intro eb<;>simp only[av] at eb;apply ag<;>intro gm<;>simp only[av] at gm;exact ak (by intro ay;(rw[cg] at cF;exact⟨cF.1,cF.2.1,cF.2.2,by simp only[cG,aM] at ay;omega⟩));exact ak mX;exact ak mX;apply ag<;>intro g9<;>simp only[av] at g9;apply ag<;>intro jH<;>simp only[av] at jH;exact ak mX;exact ak mX;exact ak mX;exact ak (by intro ay;(rw[df] at ay;contradiction))
theorem aDN:∀x:U VD,(0<=x.1.2.1.1/\x.1.2.1.1<x.1.1.1.length)->aw (VC x) (λy=>∃e,x.1.1.1[x.1.2.1.1.toNat]?=some e/\y.1.1=if x.1.2.2.1.1=1 then e.2.2.2.2.2.1 else x.1.2.2.2.1):=by
 intro x aE;unfold VC;apply ag<;>intro aC<;>simp only[av] at aC;refine bt λea lB=>?_;exact ak ⟨_,lB,by rw[if_pos ab]⟩;exact ak ⟨_,fy ab,by rw[if_neg ab]⟩
theorem aDT (l:L (D er))(i:Int)(e:D er)(he:l.1[i.toNat]?=some e)(cf:lr e.1.1<=2)(d0:L (D [.int .i64]))(R_:∃q:D [.int .i64],d0.1[i.toNat]?=some q/\0<q.1.1/\q.1.1<=24)(sn:0<=i)(Ay:i<l.1.length):
 ∀x:U NN,(x.1.1=l/\x.2.1.1.length=l.1.length/\x.1.2.2.1.1=i/\0<=x.1.2.2.2.2.1.1/\x.1.2.2.2.1.1=lr e.1.1/\(∀j,gG d0.1 j->gG x.2.1.1 j)/\(∀j,i<=j->x.2.1.1[j.toNat]?=d0.1[j.toNat]?)/\
  (∀j,gG x.2.1.1 j->gG d0.1 j\/j<i)/\(0<x.1.2.2.2.2.1.1->e.2.2.2.2.1.1<i/\gG x.2.1.1 e.2.2.2.2.1.1)/\(1<x.1.2.2.2.2.1.1->e.2.2.2.2.2.1.1<i/\gG x.2.1.1 e.2.2.2.2.2.1.1)/\xS x.2.1.1/\(0<x.1.2.2.2.2.1.1->¬gG d0.1 e.2.2.2.2.1.1)/\(1<x.1.2.2.2.2.1.1->¬gG d0.1 e.2.2.2.2.2.1.1/\e.2.2.2.2.1.1≠e.2.2.2.2.2.1.1))->
 aw (a3 NM x) (Sum.elim (λy=>y.2.1.1.length=l.1.length/\(∀j,gG d0.1 j->gG y.2.1.1 j)/\(∀j,i<=j->y.2.1.1[j.toNat]?=d0.1[j.toNat]?)/\
  (∀j,gG y.2.1.1 j->gG d0.1 j\/j<i)/\(1<=lr e.1.1->e.2.2.2.2.1.1<i/\gG y.2.1.1 e.2.2.2.2.1.1)/\(2<=lr e.1.1->e.2.2.2.2.2.1.1<i/\gG y.2.1.1 e.2.2.2.2.2.1.1)/\xS y.2.1.1/\(1<=lr e.1.1->¬gG d0.1 e.2.2.2.2.1.1)/\(2<=lr e.1.1->¬gG d0.1 e.2.2.2.2.2.1.1/\e.2.2.2.2.1.1≠e.2.2.2.2.2.1.1)) (λy=>y.1.2.1=false)):=
 cQ _ (λx:U NN=>(x.1.2.2.2.1.1-x.1.2.2.2.2.1.1).toNat) (λx aE=>by
  unfold NM;obtain⟨bx,cX,bH,cJ,gn,ik,my,qt,DT,arB,abI,abJ,arC⟩:=aE;have JR:=L.b l;apply ag<;>intro aC;simp only[cG,aM] at aC;refine ae (c5 (by rw[bx,bH];omega)) λeS kG=>?_;rw[bx,bH,he] at kG;cases kG;refine ae (aDN _ (by dsimp only;rw[bx,bH];omega)) λbY e4=>?_;dsimp only at e4;rw[bx,bH] at e4;obtain⟨e',fu,e4⟩:=e4;rw[he] at fu;cases fu;have ju:bY.1.1=if x.1.2.2.2.2.1.1=1 then e.2.2.2.2.2.1 else e.2.2.2.2.1:=e4
  apply ag<;>intro aV;exact a7 rfl;apply ag<;>intro bP;exact a7 rfl;simp only[cG,aM] at aV bP;have a6:0<=bY.1.1.1:=ab;have aa:bY.1.1.1<i:=by rw[<-bH];exact bP
  apply ag<;>intro dj;refine iv λiC kF=>?_;apply ag<;>intro eb;exact a7 rfl;apply ag<;>intro gm;refine ae (j_ (by rw[bH];omega)) λkj oV=>?_;rw[bH,my i (Int.le_refl _)] at oV;obtain⟨q,aqK,aa4,aO8⟩:=R_;rw[aqK] at oV;cases oV;apply ag<;>intro g9;refine iv λgM lC=>?_;have yM:¬gG x.2.1.1 bY.1.1.1:=λ⟨_,q,cr,cI⟩=>by
   rw[kF] at cr;cases cr;simp only[cG,aM] at eb;omega
  have lW:0<(bj kj.1 (W 1)).1:=by simp only[aM];omega
  refine bz ⟨⟨bx,?_,bH,?_,gn,λj aq=>(ik j aq).set lW,λj aq=>?_,λj aq=>?_,λaU=>?_,λaU=>?_,abI.set (Int.le_of_lt lW),λaU=>?_,λaU=>?_⟩,?_⟩;simp only[b5];exact cX;simp only[aM];omega;show(x.2.1.1.set bY.1.1.1.toNat _)[j.toNat]?=_;rw[mI ab];exact my j aq;rcases gG.Xq a6 aq with g|g;exact qt j g;exact .inr ab;dsimp only at aU⊢;by_cases ai:x.1.2.2.2.2.1.1=0;rw[if_neg ab] at ju;rw[<-ju];exact⟨aa,gG.Xc a6 ab lW⟩;obtain⟨aG,aN⟩:=DT ab;exact⟨aG,aN.set lW⟩;dsimp only at aU⊢;simp only[aM] at aU;have ai:x.1.2.2.2.2.1.1=1:=ab;rw[if_pos ai] at ju;rw[<-ju];exact⟨aa,gG.Xc a6 ab lW⟩;dsimp only at aU⊢;by_cases ai:x.1.2.2.2.2.1.1=0;rw[if_neg ab] at ju;rw[<-ju];exactλq=>yM (ik _ q);exact abJ ab;dsimp only at aU⊢;simp only[aM] at aU;have ai:x.1.2.2.2.2.1.1=1:=ab;rw[if_pos ai] at ju;rw[<-ju];exact⟨λq=>yM (ik _ q),λq=>yM (q▸(DT ab).2)⟩;dsimp only;simp only[aM];omega;exfalso;simp only[cG,decide_eq_true_eq,decide_eq_false_iff_not] at g9;omega;exfalso;simp only[cG,decide_eq_true_eq,decide_eq_false_iff_not] at gm;omega;exfalso;simp only[cG,decide_eq_true_eq,decide_eq_false_iff_not] at dj;omega;simp only[cG,aM] at aC;refine a7 ⟨cX,ik,my,qt,λaU=>DT ab,λaU=>arB ab,abI,λaU=>abJ ab,λaU=>arC ab⟩)
theorem aDQ (l:L (D er))(root:Int):∀x:U NL,(x.1.1=l/\x.2.1.1.length=l.1.length/\x.1.2.2.1.1<l.1.length/\-1<=x.1.2.2.1.1/\gG x.2.1.1 root/\(∀j,x.1.2.2.1.1<j->gG x.2.1.1 j->ub l.1 (gG x.2.1.1) j)/\xS x.2.1.1/\QV l.1 (λj=>x.1.2.2.1.1<j/\gG x.2.1.1 j))->
 aw (a3 NK x) (Sum.elim (λy=>y.2.1.1.length=l.1.length/\gG y.2.1.1 root/\(∀j,gG y.2.1.1 j->ub l.1 (gG y.2.1.1) j)/\QV l.1 (gG y.2.1.1)) (λy=>y.1.2.1=false)):=
 cQ _ (λx:U NL=>(x.1.2.2.1.1+1).toNat) (λx aE=>by
  unfold NK;obtain⟨bx,cX,bH,cJ,gn,ik,my,qt⟩:=aE;have JR:=L.b l;apply ag<;>intro aC;simp only[cG,aM] at aC;have sn:0<=x.1.2.2.1.1:=ab;apply ag<;>intro aV;refine iv λbO eG=>?_;apply ag<;>intro bP;simp only[cG,aM] at bP;refine bz ⟨⟨bx,cX,?_,?_,gn,λj aq bF=>?_,my,λa b s t e f cf ah=>?_⟩,?_⟩;simp only[aM];omega;simp only[aM];omega;simp only[aM] at aq;by_cases ai:j=x.1.2.2.1.1;subst ai;obtain⟨_,e,aG,aN⟩:=bF;rw[eG] at aG;cases aG;omega;exact ik j ab bF;have ay:∀j,(eF x.1.2.2.1 (W 1)).1<j/\gG x.2.1.1 j->x.1.2.2.1.1<j/\gG x.2.1.1 j:=λj aq=>by
   simp only[aM] at aq;refine⟨?_,aq.2⟩;by_cases ai:j=x.1.2.2.1.1;obtain⟨_,_,e,aG,aN⟩:=aq;subst ai;rw[eG] at aG;cases aG;omega;omega
  exact qt a b s t e f (ay a cf) (ay b ah);simp only[aM];omega;refine ae (c5 (by rw[bx];omega)) λcP fb=>?_;rw[bx] at fb;refine ae (aDk _ trivial) λa5 cZ=>?_;dsimp only at cZ;apply ag<;>intro dj;exact a7 rfl;simp only[cG] at dj;obtain⟨dM,di,gL,s3⟩:=cZ dj;apply ag<;>intro eb;refine iv λdb fX=>?_;rw[eG] at fX;cases fX;apply ag<;>intro gm;exact a7 rfl;refine ae (c5 (by rw[bx];omega)) λfk jZ=>?_;rw[bx,fb] at jZ;cases jZ;refine ae (Vo _ trivial) λcu fc=>?_;dsimp only at fc;simp only[cG,aM] at bP gm;have w4:=my _ _ eG;have aqH:0<bO.1.1:=ab;have apv:lr cP.1.1<=2:=by unfold lr;(repeat' split)<;>omega
  refine ae (aDT l x.1.2.2.1.1 cP fb apv x.2.1 ⟨bO,eG,aqH,ab⟩ sn bH _ ⟨bx,cX,rfl,by simp only[aM];decide,fc,λj aq=>aq,λj _=>rfl,λj aq=>.inl aq,λaU=>?_,λaU=>?_,my,λaU=>?_,λaU=>?_⟩) λdF g5=>?_;simp only[aM] at aU;omega;simp only[aM] at aU;omega;simp only[aM] at aU;omega;simp only[aM] at aU;omega;refine eg g5 (λeK gA=>?_) (λfg iN=>?_);obtain⟨eT,fK,gU,lZ,j1,nv,E1,ri,nT⟩:=gA;refine bz ⟨⟨bx,eT,?_,?_,fK _ gn,λj aq bF=>?_,E1,λa b s t e f cf ah vA Aw aP bQ a6 gY=>?_⟩,?_⟩;simp only[aM];omega;simp only[aM];omega;simp only[aM] at aq;have up:∀{C XJ:Int->Prop},(∀k,C k->XJ k)->ub l.1 C j->ub l.1 XJ j:=λan ⟨e,aG,aN,bo,cE,eM,fH⟩=>⟨e,aG,aN,λq=>⟨(bo q).1,an _ (bo q).2⟩,λq=>⟨(cE q).1,an _ (cE q).2⟩,eM,fH⟩;by_cases ai:j=x.1.2.2.1.1;subst ai;refine⟨cP,fb,dM,λq=>?_,λq=>?_,λq=>?_,λq=>?_,s3⟩;refine j1 ?_;rcases Int.lt_or_le (lr cP.1.1) 1 with g|g;have:=gL g;omega;exact g;refine nv ?_;rcases Int.lt_or_le (lr cP.1.1) 2 with g|g;have:=di g;omega;exact g;exact(j1 ab).2.1;exact(nv ab).2.1;rcases lZ j bF with g|g;exact up fK (ik j ab g);omega;have adP:∀(s:Nat),s<2->0<=o9 cP s->¬gG x.2.1.1 (o9 cP s):=λs aP DM=>by
   unfold o9 at DM⊢;by_cases ai:s=0;rw[if_pos ai] at DM⊢;refine ri ?_;rcases Int.lt_or_le (lr cP.1.1) 1 with g|g;have:=gL g;omega;exact g;rw[if_neg ai] at DM⊢;refine(nT ?_).1;rcases Int.lt_or_le (lr cP.1.1) 2 with g|g;have:=di g;omega;exact g
  have afS:∀(b:Int)(f:D er)(t:Nat),x.1.2.2.1.1<b->gG x.2.1.1 b->l.1[b.toNat]?=some f->0<=o9 f t->gG x.2.1.1 (o9 f t):=λb f t aa af ax a8=>by
   obtain⟨f',aG,aN,bo,cE,eM,fH⟩:=ik b aa af;rw[ax] at aG;cases aG;unfold o9 at a8⊢;by_cases ai:t=0;rw[if_pos ai] at a8⊢;exact(bo a8).2;rw[if_neg ai] at a8⊢;exact(cE a8).2
  have pl:∀b,(eF x.1.2.2.1 (W 1)).1<b/\gG eK.2.1.1 b->b=x.1.2.2.1.1\/(x.1.2.2.1.1<b/\gG x.2.1.1 b):=λb ah=>by
   obtain⟨aa,af⟩:=ah;simp only[aM] at aa;rcases lZ b af with g|g;by_cases ai:b=x.1.2.2.1.1;exact .inl ai;exact .inr ⟨ab,g⟩;omega
  rcases pl a cf with B3|B3<;>rcases pl b ah with B4|B4;subst B3;subst B4;rw[fb] at vA Aw;cases vA;cases Aw;refine⟨rfl,?_⟩;have eJ:0<=cP.2.2.2.2.2.1.1->cP.2.2.2.2.1.1≠cP.2.2.2.2.2.1.1:=λq=>(nT (by
   rcases Int.lt_or_le (lr cP.1.1) 2 with g|g;have:=di g;omega;exact g)).2
  by_cases ai:s=0<;>by_cases yU:t=0<;>simp only[o9,ai,yU,if_true,if_false,Nat.one_ne_zero] at gY a6<;>omega;subst B3;rw[fb] at vA;cases vA;refine absurd ?_ (adP s aP a6);rw[gY];exact afS b f t B4.1 B4.2 Aw (by rw[<-gY];exact a6);subst B4;rw[fb] at Aw;cases Aw;refine absurd ?_ (adP t bQ (by rw[<-gY];exact a6));rw[<-gY];exact afS a e s B3.1 B3.2 vA a6;exact qt a b s t e f B3 B4 vA Aw aP bQ a6 gY;simp only[aM];omega;exact a7 iN;exfalso;simp only[cG,decide_eq_true_eq,decide_eq_false_iff_not] at eb;omega;exfalso;simp only[cG,decide_eq_true_eq,decide_eq_false_iff_not] at aV;omega;simp only[cG,aM] at aC;exact a7 ⟨cX,gn,λj bF=>ik j (by have:=bF.1;omega) bF,λa b s t e f cf ah=>qt a b s t e f ⟨by have:=cf.1;omega,cf⟩ ⟨by have:=ah.1;omega,ah⟩⟩)
theorem aiQ:∀x:U aiO,True->aw (Gu x) (λy=>y.1.2.1=true->y.1.1.1.length=x.1.1.1.length/\x.1.1.1.length<=160/\0<=x.1.2.1.1/\x.1.2.1.1<x.1.1.1.length/\sZ x.1.1.1 x.1.2.1.1/\(∀j,gG y.1.1.1 j->ub x.1.1.1 (gG y.1.1.1) j)):=by
 intro x _;unfold Gu;have JR:=L.b x.1.1;apply ag<;>intro aC;exact ak (λq=>by cases q);apply ag<;>intro aV;exact ak (λq=>by cases q);apply ag<;>intro bP;exact ak (λq=>by cases q);simp only[cG,aM] at aC aV bP;refine ae (uG (by simp only[aM];omega)) λdk kT=>?_;obtain⟨kT,nO⟩:=kT;simp only[aM] at nO;apply ag<;>intro dj;refine iv λaQ cM=>?_;have aa:0<(W 1).1:=by decide
 refine ae (aDQ x.1.1 x.1.2.1.1 _ ⟨rfl,?_,?_,?_,gG.Xc ab ab aa,λj aq bF=>?_,xS.set (λj e h=>?_) (Int.le_of_lt aa),λa b s t e f cf ah=>?_⟩) λe_ k3=>?_;dsimp only;simp only[b5];omega;dsimp only;omega;dsimp only;omega;dsimp only at aq bF;rcases gG.Xq ab bF with g|g;obtain⟨_,e,aG,aN⟩:=g;rw[kT,List.getElem?_replicate] at aG;split at aG;cases aG;exact absurd aN bk;cases aG;omega;rw[kT,List.getElem?_replicate] at h;split at h;cases h;decide;cases h;have ay:∀j,x.1.2.1.1<j->¬gG (dO dk x.1.2.1.1.toNat (W 1,())).1 j:=λj aq bF=>by
  rcases gG.Xq ab bF with g|g;obtain⟨_,e,aG,aN⟩:=g;rw[kT,List.getElem?_replicate] at aG;split at aG;cases aG;exact absurd aN bk;cases aG;omega
 exact absurd cf.2 (ay a cf.1);refine eg k3 (λfo kp=>?_) (λfY lj=>?_);obtain⟨eT,fK,gU,lZ⟩:=kp;exact ak (λ_=>⟨eT,ab,ab,ab,(nD.make fK (λk aU=>⟨aU.1,gU k aU⟩) lZ).mono ab,gU⟩);exact ak (λq=>by rw[show fY.1.2.1=false from lj] at q;cases q);exfalso;simp only[cG,decide_eq_true_eq,decide_eq_false_iff_not] at dj;omega
theorem aC9 (n:Nat):∀x:U Gn,(x.1.1.1.length=n/\x.1.2.1.1.length=n/\x.2.1.1.length=n/\0<=x.1.2.2.2.1.1)->aw (a3 NB x) (λy=>y.2.1.1.length=n):=
 cQ (λx:U Gn=>x.1.1.1.length=n/\x.1.2.1.1.length=n/\x.2.1.1.length=n/\0<=x.1.2.2.2.1.1) (λx:U Gn=>((x.1.1.1.length:Int)-x.1.2.2.2.1.1).toNat) (λx aE=>by
  unfold NB;have kH:=L.b x.1.1;apply ag<;>intro aC<;>simp only[av] at aC;refine bt λbO eG=>?_;apply ag<;>intro aV<;>simp only[av] at aV;refine iv λcP fb=>?_;exact bz ⟨dX,dX⟩;exfalso
  (omega)
  exact a7 gQ)
theorem aip:∀x:U aim,(True)->aw (Gm x) (λy=>y.1.2.1=true->y.1.1.1.length=x.1.1.1.length/\x.1.1.1.length<=160/\0<=x.1.2.1.1/\x.1.2.1.1<x.1.1.1.length/\sZ x.1.1.1 x.1.2.1.1):=by
 intro x aE;unfold Gm;refine ae (aiQ _ aK) λaz cg=>?_;dsimp only at cg;apply ag<;>intro aC<;>simp only[av] at aC;exact ak mX;have t0:=cg aC;obtain⟨t1,t2,t3,t4,t5,_⟩:=t0;refine ae (uG dJ) λdg nO=>?_;refine ae (aC9 (x.1.1.1.length) _ (by(and_intros<;>(intros)<;>first|omega|(simp only[aM,b5] at*<;>omega)))) λa5 cZ=>?_;dsimp only at cZ;exact ak (by intro ay;exact⟨cZ,t2,t3,t4,t5⟩)
theorem aDb:∀x:U Gp,((x.1.2.2.1=true->x.1.2.1.1.length=x.1.1.1.length/\x.1.1.1.length<=160/\x.1.2.2.2.2.1.1<=x.1.1.1.length)/\0<=x.1.2.2.2.2.1.1/\x.1.2.2.2.1.1.length<=x.1.2.2.2.2.1.1/\(x.1.2.2.1=false->x.1.2.2.2.2.1.1=0))->aw (a3 ND x) (λy=>y.1.1.1.length<=160):=
 cQ (λx:U Gp=>(x.1.2.2.1=true->x.1.2.1.1.length=x.1.1.1.length/\x.1.1.1.length<=160/\x.1.2.2.2.2.1.1<=x.1.1.1.length)/\0<=x.1.2.2.2.2.1.1/\x.1.2.2.2.1.1.length<=x.1.2.2.2.2.1.1/\(x.1.2.2.1=false->x.1.2.2.2.2.1.1=0)) (λx:U Gp=>(x.1.1.1.length-x.1.2.2.2.2.1.1).toNat) (λx aE=>by
  unfold ND;obtain⟨bx,cX,bH,cJ⟩:=aE;apply ag<;>intro aC<;>simp only[av] at aC;have gn:=bx aC;clear bx cJ;have kH:=L.b x.1.1;apply ag<;>intro aV<;>simp only[av] at aV;refine bt λaQ cM=>?_;apply ag<;>intro bP<;>simp only[av] at bP;refine bt λbO eG=>?_;apply ag<;>intro dj<;>simp only[av] at dj;refine bt λcP fb=>?_;refine ae (aiM _ dJ) λa5 cZ=>?_;dsimp only at cZ;exact bz ⟨(by refine⟨λ_=>?_,?_,?_,λq=>?_⟩<;>first|(simp only[aM,b5] at*<;>omega)|(rw[aC] at q;cases q)),dX⟩;exact bz ⟨(by refine⟨λ_=>?_,?_,?_,λq=>?_⟩<;>first|(simp only[aM,b5] at*<;>omega)|(rw[aC] at q;cases q)),dX⟩;exact bz ⟨(by refine⟨λ_=>?_,?_,?_,λq=>?_⟩<;>first|(simp only[aM,b5] at*<;>omega)|(rw[aC] at q;cases q)),dX⟩;exact a7 gQ;have ik:=cJ aC;clear bx cJ;exact a7 gQ)
theorem aDe:∀x:U aiq,(True)->aw (NC x) (λy=>y.1.1.1.length<=160):=by
 intro x aE;unfold NC;refine ae (aip _ aK) λaz cg=>?_;dsimp only at cg;refine ae (aDb _ (by(exact⟨λq=>by obtain⟨t1,t2,_⟩:=cg q;exact⟨t1,t2,by simp only[aM];omega⟩,by simp only[aM];decide,by simp only[aM,b5];decide,λ_=>by simp only[aM];decide⟩))) λbK dK=>?_;dsimp only at dK;exact ak gk
theorem aC6:∀x:U ail,(True)->aw (NA x) (λy=>y.1.1=true->x.1.1.1.length<=160/\0<=x.1.2.1.1/\x.1.2.1.1<x.1.1.1.length/\sZ x.1.1.1 x.1.2.1.1):=by
 intro x aE;unfold NA;refine ae (aiQ _ aK) λaz cg=>?_;dsimp only at cg;exact ak (by intro ay;obtain⟨t1,t2,t3,t4,t5,_⟩:=cg ay;exact⟨t2,t3,t4,t5⟩)
theorem aDX:∀x:U Gv,(0<=x.1.2.2.1.1)->aw (a3 NP x) (Sum.elim (λy=>True) (λy=>True)):=
 cQ (λx:U Gv=>0<=x.1.2.2.1.1) (λx:U Gv=>((x.1.1.1.length:Int)-x.1.2.2.1.1).toNat) (λx aE=>by
  unfold NP;have kH:=L.b x.1.1;apply ag<;>intro aC<;>simp only[av] at aC;refine bt λaD ct=>?_;apply ag<;>intro aV<;>simp only[av] at aV;refine bt λaQ cM=>?_;apply ag<;>intro bP<;>simp only[av] at bP;exact a7 da;refine bt λbO eG=>?_;apply ag<;>intro dj<;>simp only[av] at dj;exact a7 da;refine bt λcP fb=>?_;exact a7 da;exact bz ⟨dX,dX⟩;exact a7 da)
theorem aD0:∀x:U aiR,(True)->aw (NO x) (λy=>True):=by
 intro x aE;unfold NO;refine ae (aDX _ dJ) λa5 cZ=>?_;dsimp only at cZ;refine eg cZ (λbK dK=>?_) (λbL ez=>?_);exact ak aK;exact ak aK
theorem aDy:∀x:U aiz,(True)->aw (NI x) (λy=>True):=by
 intro x aE;unfold NI;apply ag<;>intro aC<;>simp only[av] at aC;refine ae (aD0 _ aK) λaz cg=>?_;exact ak aK;apply ag<;>intro aV<;>simp only[av] at aV;exact ak aK;apply ag<;>intro bP<;>simp only[av] at bP;exact ak aK;apply ag<;>intro dj<;>simp only[av] at dj;exact ak aK;apply ag<;>intro eb<;>simp only[av] at eb;exact ak aK;exact ak aK
theorem aDB:∀x:U Vr,(True)->aw (Vq x) (λy=>True):=by
 intro x aE;unfold Vq;apply ag<;>intro aC<;>simp only[av] at aC;apply ag<;>intro aV<;>simp only[av] at aV;exact ak da;exact ak da;exact ak da
theorem aDC:∀x:U Vt,(True)->aw (Vs x) (λy=>True):=by
 intro x aE;unfold Vs;apply ag<;>intro aC<;>simp only[av] at aC;apply ag<;>intro aV<;>simp only[av] at aV;apply ag<;>intro bP<;>simp only[av] at bP;exact ak da;apply ag<;>intro dj<;>simp only[av] at dj;apply ag<;>intro eb<;>simp only[av] at eb;exact ak da;exact ak da;exact ak da;apply ag<;>intro gm<;>simp only[av] at gm;apply ag<;>intro g9<;>simp only[av] at g9;exact ak da;exact ak da;exact ak da;apply ag<;>intro jH<;>simp only[av] at jH;apply ag<;>intro mr<;>simp only[av] at mr;exact ak da;exact ak da;exact ak da
theorem aDE:∀x:U Vx,(True)->aw (Vw x) (λy=>True):=by
 intro x aE;unfold Vw;apply ag<;>intro aC<;>simp only[av] at aC;apply ag<;>intro aV<;>simp only[av] at aV;exact ak da;exact ak da;apply ag<;>intro bP<;>simp only[av] at bP;apply ag<;>intro dj<;>simp only[av] at dj;exact ak da;exact ak da;exact ak da
theorem aDD:∀x:U Vv,(True)->aw (Vu x) (λy=>True):=by
 intro x aE;unfold Vu;refine ae (aDE _ aK) λaT cF=>?_;apply ag<;>intro aC<;>simp only[av] at aC;exact ak da;apply ag<;>intro aV<;>simp only[av] at aV;exact ak da;exact ak da
theorem aDF:∀x:U Vz,(True)->aw (Vy x) (λy=>True):=by
 intro x aE;unfold Vy;apply ag<;>intro aC<;>simp only[av] at aC;apply ag<;>intro aV<;>simp only[av] at aV;exact ak da;apply ag<;>intro bP<;>simp only[av] at bP;exact ak da;apply ag<;>intro dj<;>simp only[av] at dj;apply ag<;>intro eb<;>simp only[av] at eb;exact ak da;exact ak da;exact ak da;apply ag<;>intro gm<;>simp only[av] at gm;apply ag<;>intro g9<;>simp only[av] at g9;exact ak da;exact ak da;exact ak da
theorem aDG:∀x:U VB,(True)->aw (VA x) (λy=>True):=by
 intro x aE;unfold VA;apply ag<;>intro aC<;>simp only[av] at aC;apply ag<;>intro aV<;>simp only[av] at aV;exact ak da;exact ak da;exact ak da
theorem aiJ:∀x:U aiI,(True)->aw (Gr x) (λy=>True):=by
 intro x aE;unfold Gr;refine ae (aDB _ aK) λaz cg=>?_;apply ag<;>intro aC<;>simp only[av] at aC;exact ak aK;refine ae (aDC _ aK) λaF cz=>?_;apply ag<;>intro aV<;>simp only[av] at aV;exact ak aK;refine ae (aDD _ aK) λaY df=>?_;apply ag<;>intro bP<;>simp only[av] at bP;exact ak aK;refine ae (aDF _ aK) λa5 cZ=>?_;apply ag<;>intro dj<;>simp only[av] at dj;exact ak aK;refine ae (aDG _ aK) λbK dK=>?_;apply ag<;>intro eb<;>simp only[av] at eb;exact ak aK;apply ag<;>intro gm<;>simp only[av] at gm;apply ag<;>intro g9<;>simp only[av] at g9;apply ag<;>intro jH<;>simp only[av] at jH;exact ak aK;exact ak aK;exact ak aK;exact ak aK
theorem aDq (rec:U uV->Option (U Bs))(n:Int)(rD:∀x:U uV,(sZ x.1.1.1 x.1.2.1.1/\x.1.2.1.1<n)->aw (rec x) (λy=>True)):∀x:U uV,(sZ x.1.1.1 x.1.2.1.1/\x.1.2.1.1<=n)->aw (NH rec x) (λy=>True):=by
 intro x aE;unfold NH;obtain⟨aE,aN'⟩:=aE;obtain⟨a6,e,aG,aN,bo,cE,eM,fH,_⟩:=aE.node;have bn:=(eu.1 aG).1;refine bt λaD ct=>?_;obtain rfl:=eD (aG.symm.trans ct);refine ae (Vo _ aK) λaF cz=>?_;dsimp only at cz;apply ag<;>intro aC<;>simp only[av] at aC;refine ae (aDy _ aK) λaT cF=>?_;exact ak aK;refine ae (rD _ (by(have jJ:=eM ab;have c9:=bo jJ;exact⟨c9.2,by dsimp only;omega⟩))) λaY df=>?_;apply ag<;>intro aV<;>simp only[av] at aV;exact ak aK;apply ag<;>intro bP<;>simp only[av] at bP;refine ae (rD _ (by(have o4:=fH ab;have ei:=cE o4;exact⟨ei.2,by dsimp only;omega⟩))) λa5 cZ=>?_;apply ag<;>intro dj<;>simp only[av] at dj;exact ak aK;refine ae (aiJ _ aK) λbK dK=>?_;exact ak aK;refine ae (aiJ _ aK) λbL ez=>?_;exact ak aK
theorem aDs:∀(n:Nat)(x:U uV),sZ x.1.1.1 x.1.2.1.1->x.1.2.1.1<n->aw (Br n x) (λy=>True):=by
 intro n;induction n with
 |zero=>intro x h aA;have:=h.node.1;omega
 |succ n cj=>
  intro x h aA;exact aDq (Br n) x.1.2.1.1 (λz ai=>cj z ai.1 ab) x ⟨h,Int.le_refl _⟩
theorem aDv:∀x:U uV,(sZ x.1.1.1 x.1.2.1.1/\x.1.1.1.length<=160)->aw (Vp x) (λy=>True):=by
 intro x h;obtain⟨a6,e,aG,_⟩:=h.1.node;have bn:=(eu.1 aG).1;exact aDs pg x h.1 (by unfold pg;omega)
theorem aCN:∀x:U aia,(True)->aw (Nv x) (λy=>True):=by
 intro x aE;unfold Nv;refine ae (aC6 _ aK) λaz cg=>?_;dsimp only at cg;apply ag<;>intro aC<;>simp only[av] at aC;exact ak aK;have t0:=cg aC;obtain⟨t1,t2,t3,t4⟩:=t0;refine ae (aDv _ (by(exact⟨t4,t1⟩))) λaF cz=>?_;exact ak aK
def aJ {α:Type}(P:α->Prop)(l:List α):Prop:=∀(j:Nat) e,l[j]?=some e->P e
def ew {α:Type}(P:α->Prop)(l:List α)(i:Int):Prop:=∀(j:Nat) e,(j:Int)<i->l[j]?=some e->P e
section
variable{α:Type}{P Q:α->Prop}{l r:List α}{i:Int}
theorem aJ.nil:aJ P []:=λj e h=>by simp at h
theorem aJ.append (h:aJ P l)(h':aJ P r):aJ P (l++r):=λj e he=>by
 by_cases aq:j<l.length;rw[ml aq] at he;exact h j e he;rw[mm ab] at he;exact h' _ e he
theorem aJ.one {a:α}(h:P a):aJ P [a]:=λj e he=>by
 cases j with
 |zero=>simp at he;exact he▸h
 |succ j=>simp at he
theorem aJ.imp (h:aJ P l)(ay:∀e,P e->Q e):aJ Q l:=λj e he=>ay e (h j e he)
theorem aJ.take (h:aJ P l){n:Nat}:aJ P (l.take n):=λj e he=>by
 rw[List.getElem?_take] at he;split at he;exact h j e he;cases he
theorem aJ.drop (h:aJ P l){n:Nat}:aJ P (l.drop n):=λj e he=>by
 rw[List.getElem?_drop] at he;exact h _ e he
theorem ew.zero:ew P l 0:=λj e h=>by omega
theorem ew.step {e:α}(h:ew P l i)(a6:0<=i)(he:l[i.toNat]?=some e)(bF:P e):ew P l (i+1):=λj e' aq fu=>by
 by_cases ai:j=i.toNat;subst ai;rw[he] at fu;cases fu;exact bF;exact h j e' ab fu
theorem ew.all (h:ew P l i)(aj:(l.length:Int)<=i):aJ P l:=λj e he=>h j e (by have:=(eu.1 he).1;omega) he
end
theorem dN (i:bc .i64)(a6:0<=i.1)(h:i.1<9223372036854775807):(bj i (W 1)).1=i.1+1:=by
 simp only[aM];omega
def zN (n:Int)(a:D dR):Prop:=a.1.1.size<=12/\a.2.2.1.1.size<=25/\0<=a.2.2.2.1.1/\a.2.2.2.1.1<n
def XI (n:Int)(l:List (D dR)):Prop:=l.length<=6/\aJ (zN n) l
def zX (n:Int)(a:D fi):Prop:=a.1.1.size<=12/\a.2.1.1.size<=12/\XI n a.2.2.1.1/\(a.1.1.size=0/\a.2.1.1.size=0/\a.2.2.1.1.length=0\/1<=a.1.1.size/\1<=a.2.1.1.size/\1<=a.2.2.1.1.length)
structure l7 (p:D dE):Prop where
  k4:1<=p.1.1.size
  qy:p.1.1.size<=12
  fQ:2<=p.2.1.1.length
  eQ:p.2.1.1.length<=5
  rs:aJ (λr:D [.str]=>1<=r.1.1.size/\r.1.1.size<=12) p.2.1.1
  eT:1<=p.2.2.1.1.length
  fK:p.2.2.1.1.length<=24
  ck:aJ (zX p.2.2.1.1.length) p.2.2.1.1
def oS (l:List (D [.bool])):Nat:=(l.filter λe=> !e.1).length
theorem Ro:∀{l:List (D [.bool])}{i:Nat}{q:D [.bool]},l[i]?=some q->q.1=false->oS (l.set i (true,()))+1=oS l
 |[],i,q,h,_=>by simp at h
 |a::l,0,q,h,ay=>by
  simp at h;subst h;simp[oS,ay]
 |a::l,i+1,q,h,ay=>by
  have:=Ro (l:=l) (i:=i) (by simpa using h) ay;simp only[oS,Q0,List.filter_cons] at this⊢;split<;>(first|simp only[gS]|skip)<;>omega
theorem anK:∀l:List (D [.bool]),oS l<=l.length:=λl=>List.length_filter_le _ _
def kZ (n:Nat)(e:D [.int .i64]):Prop:=0<=e.1.1/\e.1.1<n
def ni (vX:List (D fi))(role:ee)(e:D [.int .i64]):Prop:=0<=e.1.1/\∃xo:D fi,vX[e.1.1.toNat]?=some xo/\(xo.1=role\/xo.2.1=role)
structure oP (w:D [.str,.aR [.str],.aR fi,.str,.aR [.aR [.int .i64]]]):Prop where
  p:l7 (w.1,w.2.1,w.2.2.1,())
  role:1<=w.2.2.2.1.1.size
  n:w.2.2.2.2.1.1.length<=40
  Xd:aJ (λs:D [.aR [.int .i64]]=>s.1.1.length<=24/\aJ (ni w.2.2.1.1 w.2.2.2.1) s.1.1) w.2.2.2.2.1.1
def sX (v w:D [.str,.aR [.str],.aR fi,.str,.aR [.aR [.int .i64]]]):Prop:=v.1=w.1/\v.2.1=w.2.1/\v.2.2.1=w.2.2.1/\v.2.2.2.1=w.2.2.2.1
theorem aKM (s:ee):∀x:U HK,(x.1.1=s/\0<=x.1.2.1.1)->aw (a3 PD x) (Sum.elim (λy=>True) (λy=>y.1.1=true->s.1.size<=25)):=
 cQ (λx:U HK=>x.1.1=s/\0<=x.1.2.1.1) (λx:U HK=>((x.1.1.1.size:Int)-x.1.2.1.1).toNat) (λx aE=>by
  unfold PD;have aaO:=S.b x.1.1;apply ag<;>intro aC<;>simp only[av] at aC;refine ae (y4 ab) λv1 q4=>?_;apply ag<;>intro aV<;>simp only[av] at aV;refine ae (Rr ab) λv2 tA=>?_;refine ae (l2 _ aK) λaT cF=>?_;dsimp only at cF;apply ag<;>intro bP<;>simp only[av] at bP;refine ae (Rr (by(have:=S.b x.1.1;simp only[aM,b5] at*;omega))) λv4 ot=>?_;refine ae (l2 _ aK) λa5 cZ=>?_;dsimp only at cZ;exact a7 (by intro ay;(have dM:=cF bP;have di:=cZ ay;rw[<-aE.1];simp only[aM] at*;omega));exact a7 (by intro ay;contradiction);exact bz ⟨⟨aE.1,by have:=S.b x.1.1;simp only[aM] at*;omega⟩,(by have:=S.b x.1.1;simp only[aM,b5] at*;omega)⟩;exact a7 da)
theorem aKP:∀x:U ak1,(True)->aw (PC x) (λy=>y.1.1=true->x.1.1.1.size<=25):=by
 intro x aE;unfold PC;refine ae (aKM (x.1.1) _ (by(exact⟨rfl,by simp only[aM];decide⟩))) λbK dK=>?_;dsimp only at dK;refine eg dK (λbL ez=>?_) (λcu fc=>?_);refine ae (l2 _ aK) λbU dZ=>?_;dsimp only at dZ;exact ak (by intro ay;have:=dZ ay;omega);exact ak fc
theorem ajY:∀x:U ajW,(True)->aw (G6 x) (λy=>y.1.1=true->x.1.1.2.1.1.size<=25):=by
 intro x aE;unfold G6;apply ag<;>intro aC<;>simp only[av] at aC;refine ae (aKP _ aK) λaz cg=>?_;dsimp only at cg;exact ak cg;apply ag<;>intro aV<;>simp only[av] at aV;apply ag<;>intro bP<;>simp only[av] at bP;exact ak (by intro ay;(simp only[cG] at ay;rw[ay];decide));exact ak mX;exact ak mX
theorem aHr:∀x:U GY,(0<=x.1.2.2.1.1/\x.1.2.1.1<x.1.1.1.length)->aw (a3 OE x) (Sum.elim (λy=>True) (λy=>y.1.1=false)):=
 cQ (λx:U GY=>0<=x.1.2.2.1.1/\x.1.2.1.1<x.1.1.1.length) (λx:U GY=>(x.1.2.1.1-x.1.2.2.1.1).toNat) (λx aE=>by
  unfold OE;have ah:=L.b x.1.1;apply ag<;>intro aC<;>simp only[av] at aC;refine bt λfk jZ=>?_;refine bt λdG g_=>?_;apply ag<;>intro aV<;>simp only[av] at aV;exact a7 da;exact bz ⟨dX,dX⟩;exact a7 da)
theorem aHo (l:L (D dR))(n:bc .i64):∀x:U GX,(x.1.1=l/\x.1.2.1=n/\0<=x.1.2.2.1.1/\ew (zN n.1) l.1 x.1.2.2.1.1)->aw (a3 OD x) (Sum.elim (λy=>aJ (zN n.1) l.1) (λy=>y.1.1=false)):=
 cQ (λx:U GX=>x.1.1=l/\x.1.2.1=n/\0<=x.1.2.2.1.1/\ew (zN n.1) l.1 x.1.2.2.1.1) (λx:U GX=>((x.1.1.1.length:Int)-x.1.2.2.1.1).toNat) (λx aE=>by
  unfold OD;obtain⟨bx,cX,bH,cJ⟩:=aE;subst bx cX;have ah:=L.b x.1.1;have kH:=L.b x.1.1;apply ag<;>intro aC<;>simp only[av] at aC;refine bt λaD ct=>?_;refine ae (l2 _ aK) λaF cz=>?_;dsimp only at cz;apply ag<;>intro aV<;>simp only[av] at aV;exact a7 da;refine bt λbO eG=>?_;refine ae (ajY _ aK) λaY df=>?_;dsimp only at df;apply ag<;>intro bP<;>simp only[av] at bP;exact a7 da;refine bt λdP fL=>?_;apply ag<;>intro dj<;>simp only[av] at dj;exact a7 da;refine bt λdb fX=>?_;apply ag<;>intro eb<;>simp only[av] at eb;exact a7 da;refine ae (aHr _ dJ) λbU dZ=>?_;dsimp only at dZ;refine eg dZ (λcd ff=>?_) (λbY e4=>?_);exact bz ⟨(by dsimp only;have aA:=dN x.1.2.2.1 bH ab;rw[ct] at eG fL fX;cases eG;cases fL;cases fX;exact⟨rfl,rfl,ab,by rw[aA];exact cJ.step bH ct ⟨(cz aV).2,df bP,dj,eb⟩⟩),(by dsimp only;simp only[aM];omega)⟩;exact a7 e4;exact a7 (cJ.all ab))
theorem Wl:∀x:U ajS,(True)->aw (BT x) (λy=>y.1.1=true->XI x.1.2.1.1 x.1.1.1/\1<=x.1.1.1.length):=by
 intro x aE;unfold BT;refine ae (aHo (x.1.1) (x.1.2.1) _ (by(exact⟨rfl,rfl,by simp only[aM];decide,by simp only[aM];exact ew.zero⟩))) λcT e5=>?_;dsimp only at e5;refine eg e5 (λcA fG=>?_) (λep jI=>?_);have kH:=L.b x.1.1;apply ag<;>intro aC<;>simp only[av] at aC;exact ak (by intro ay;(simp only[cG,aM] at ay aC;exact⟨⟨ab,fG⟩,ab⟩));exact ak mX;exact ak (by intro ay;rw[show ep.1.1=false from jI] at ay;contradiction)
theorem aId (p:D dE):∀x:U G',(x.1.1=p/\0<=x.1.2.1.1/\ew (λr:D [.str]=>1<=r.1.1.size/\r.1.1.size<=12) p.2.1.1 x.1.2.1.1)->aw (a3 OT x) (Sum.elim (λy=>aJ (λr:D [.str]=>1<=r.1.1.size/\r.1.1.size<=12) p.2.1.1) (λy=>y.1.1=false)):=
 cQ (λx:U G'=>x.1.1=p/\0<=x.1.2.1.1/\ew (λr:D [.str]=>1<=r.1.1.size/\r.1.1.size<=12) p.2.1.1 x.1.2.1.1) (λx:U G'=>((x.1.1.2.1.1.length:Int)-x.1.2.1.1).toNat) (λx aE=>by
  unfold OT;obtain⟨bx,cX,bH⟩:=aE;subst bx;have ah:=L.b x.1.1.2.1;have pO:=L.b x.1.1.2.1;apply ag<;>intro aC<;>simp only[av] at aC;refine bt λbO eG=>?_;refine ae (l2 _ aK) λaY df=>?_;dsimp only at df;apply ag<;>intro aV<;>simp only[av] at aV;exact a7 da;exact bz ⟨(by dsimp only;have aA:=dN x.1.2.1 cX ab;exact⟨rfl,ab,by rw[aA];exact bH.step cX eG (df aV)⟩),(by dsimp only;simp only[aM];omega)⟩;exact a7 (bH.all ab))
theorem aIa:∀x:U Wt,(True)->aw (Ws x) (Sum.elim (λy=>True) (λy=>x.1.1.1.1.size=0/\x.1.1.2.1.1.size=0/\x.1.1.2.2.1.1.length=0)):=by
 intro x aE;unfold Ws;apply ag<;>intro aC<;>simp only[av] at aC;apply ag<;>intro aV<;>simp only[av] at aV;have q2:=L.b x.1.1.2.2.1;apply ag<;>intro bP<;>simp only[av] at bP;exact ak (by refine⟨by rw[aC];decide,by rw[aV];decide,ab⟩);exact ak da;exact ak da;exact ak da
theorem aIg (p:D dE)(bF:aJ (λr:D [.str]=>1<=r.1.1.size/\r.1.1.size<=12) p.2.1.1):∀x:U Ha,(x.1.1=p/\0<=x.1.2.1.1/\ew (zX p.2.2.1.1.length) p.2.2.1.1 x.1.2.1.1)->aw (a3 OU x) (Sum.elim (λy=>aJ (zX p.2.2.1.1.length) p.2.2.1.1) (λy=>y.1.1=false)):=
 cQ (λx:U Ha=>x.1.1=p/\0<=x.1.2.1.1/\ew (zX p.2.2.1.1.length) p.2.2.1.1 x.1.2.1.1) (λx:U Ha=>((x.1.1.2.2.1.1.length:Int)-x.1.2.1.1).toNat) (λx aE=>by
  unfold OU;obtain⟨bx,cX,bH⟩:=aE;subst bx;have ah:=L.b x.1.1.2.2.1;have q2:=L.b x.1.1.2.2.1;apply ag<;>intro aC<;>simp only[av] at aC;refine bt λdG g_=>?_;refine ae (aIa _ aK) λbU dZ=>?_;dsimp only at dZ;refine eg dZ (λcd ff=>?_) (λbY e4=>?_);apply ag<;>intro aV<;>simp only[av] at aV;exact a7 da;refine ae (v8 _ aK) λcT e5=>?_;dsimp only at e5;apply ag<;>intro bP<;>simp only[av] at bP;exact a7 da;refine ae (v8 _ aK) λcA fG=>?_;dsimp only at fG;apply ag<;>intro dj<;>simp only[av] at dj;exact a7 da;refine ae (Wl _ aK) λep jI=>?_;dsimp only at jI;apply ag<;>intro eb<;>simp only[av] at eb;exact a7 da;exact bz ⟨(by dsimp only;have aA:=dN x.1.2.1 cX ab;refine⟨rfl,ab,?_⟩;rw[aA];refine bH.step cX g_ ?_;(obtain⟨cr,aG⟩:=e5 bP;obtain⟨cI,aN⟩:=fG dj;obtain⟨bo,cE⟩:=jI eb;exact⟨(bF _ _ aG).2,(bF _ _ aN).2,bo,.inr ⟨(bF _ _ aG).1,(bF _ _ aN).1,cE⟩⟩)),(by dsimp only;simp only[aM];omega)⟩;exact bz ⟨(by dsimp only;have aA:=dN x.1.2.1 cX ab;refine⟨rfl,ab,?_⟩;rw[aA];refine bH.step cX g_ ?_;(obtain⟨aG,aN,bo⟩:=e4;exact⟨ab,ab,⟨ab,by rw[pw bo];exact aJ.nil⟩,.inl ⟨aG,aN,bo⟩⟩)),(by dsimp only;simp only[aM];omega)⟩;exact a7 (bH.all ab))
theorem OW:∀x:U aj6,(True)->aw (zE x) (λy=>y.1.1=true->l7 x.1.1):=by
 intro x aE;unfold zE;refine ae (l2 _ aK) λaz cg=>?_;dsimp only at cg;apply ag<;>intro aC<;>simp only[av] at aC;exact ak mX;have pO:=L.b x.1.1.2.1;apply ag<;>intro aV<;>simp only[av] at aV;exact ak mX;apply ag<;>intro bP<;>simp only[av] at bP;exact ak mX;refine ae (aih _ aK) λaF cz=>?_;apply ag<;>intro dj<;>simp only[av] at dj;exact ak mX;have q2:=L.b x.1.1.2.2.1;apply ag<;>intro eb<;>simp only[av] at eb;exact ak mX;apply ag<;>intro gm<;>simp only[av] at gm;exact ak mX;refine ae (aId (x.1.1) _ (by(exact⟨rfl,by simp only[aM];decide,by simp only[aM];exact ew.zero⟩))) λa5 cZ=>?_;dsimp only at cZ;refine eg cZ (λbK dK=>?_) (λbL ez=>?_);refine ae (aIg (x.1.1) (dK) _ (by(exact⟨rfl,by simp only[aM];decide,by simp only[aM];exact ew.zero⟩))) λdF g5=>?_;dsimp only at g5;refine eg g5 (λeK gA=>?_) (λfg iN=>?_);exact ak (by intro ay;exact⟨(cg aC).1,(cg aC).2,ab,ab,dK,ab,ab,gA⟩);exact ak (by intro ay;(rw[show fg.1.1=false from iN] at ay;contradiction));exact ak (by intro ay;(rw[show bL.1.1=false from ez] at ay;contradiction))
theorem ak9:∀x:U ak7,(True)->aw (HU x) (λy=>y.1.1=true->x.1.1.1=x.1.2.1\/x.1.1.2.1=x.1.2.1):=by
 intro x aE;unfold HU;apply ag<;>intro aC<;>simp only[av] at aC;exact ak (by intro ay;exact .inl aC);exact ak (by intro ay;(simp only[cG] at ay;exact .inr ay))
theorem aKs:∀x:U WQ,(0<=x.1.2.2.1.1/\x.1.2.2.1.1<x.1.1.1.length)->aw (WO x) (λy=>y.2.1=x.2.1/\(y.1.1=true->∃(e:D [.int .i64]) (q:D [.bool]),x.1.1.1[x.1.2.2.1.1.toNat]?=some e/\0<=e.1.1/\e.1.1<x.2.1.1.length/\x.2.1.1[e.1.1.toNat]?=some q/\q.1=false)):=by
 intro x aE;unfold WO;have ah:=L.b x.2.1;refine bt λaQ cM=>?_;apply ag<;>intro aC<;>simp only[av] at aC;refine bt λbO eG=>?_;rw[cM] at eG;cases eG;apply ag<;>intro aV<;>simp only[av] at aV;refine bt λcP fb=>?_;rw[cM] at fb;cases fb;apply ag<;>intro bP<;>simp only[av] at bP;refine iv λdP fL=>?_;exact ak (by refine⟨rfl,λay=>?_⟩;(simp only[cG] at ay;exact⟨_,_,cM,aC,ab,fL,ay⟩));exfalso
 (omega)
 exact ak (by refine⟨rfl,λay=>?_⟩;exact Bool.noConfusion ay);exact ak (by refine⟨rfl,λay=>?_⟩;exact Bool.noConfusion ay)
theorem aKv (n K:Nat)(aA:n<=24)(ev:K<=1000):∀x:U HD,(x.2.1.1.length=n/\oS x.2.1.1+x.1.2.2.1.1.length=K/\0<=x.1.2.2.2.1.1/\aJ (kZ n) x.1.2.2.1.1)->aw (a3 Px x) (λy=>y.2.1.1.length=n/\oS y.2.1.1+y.1.1.1.length=K/\aJ (kZ n) y.1.1.1):=
 cQ (λx:U HD=>x.2.1.1.length=n/\oS x.2.1.1+x.1.2.2.1.1.length=K/\0<=x.1.2.2.2.1.1/\aJ (kZ n) x.1.2.2.1.1) (λx:U HD=>((x.1.1.1.length:Int)-x.1.2.2.2.1.1).toNat) (λx aE=>by
  unfold Px;obtain⟨bx,cX,bH,cJ⟩:=aE;have ah:=L.b x.1.1;have kH:=L.b x.1.1;apply ag<;>intro aC<;>simp only[av] at aC;refine ae (aKs _ lM) λbK dK=>?_;dsimp only at dK;obtain⟨bA,bI⟩:=dK;apply ag<;>intro aV<;>simp only[av] at aV;refine bt λfk jZ=>?_;obtain⟨e,q,aG,aN,bo,cE,eM⟩:=bI aV;rw[aG] at jZ;cases jZ;apply ag<;>intro bP<;>simp only[av] at bP;refine ae (j_ (by(rw[bA];omega))) λdG g_=>?_;rw[bA,cE] at g_;cases g_;refine bt λeS kG=>?_;rw[aG] at kG;cases kG;refine ae (du lM) λnu tr=>?_;have an:=Ro cE eM;exact bz ⟨(by dsimp only;have mw:=dN x.1.2.2.2.1 bH ab;refine⟨by simp only[b5];rw[bA];exact bx,?_,ab,by rw[tr.1];exact cJ.append (aJ.one ⟨aN,ab⟩)⟩;rw[tr.2,bA];simp only[b5];show oS (x.2.1.1.set _ _)+_=K;omega),(by dsimp only;simp only[aM];omega)⟩;exfalso
  (omega)
  exact bz ⟨(by dsimp only;have mw:=dN x.1.2.2.2.1 bH ab;exact⟨by rw[bA];exact bx,by rw[bA];exact cX,ab,cJ⟩),(by dsimp only;simp only[aM];omega)⟩;exact a7 ⟨bx,cX,cJ⟩)
theorem aKB (n K:Nat)(aA:n<=24)(ev:K<=1000):∀x:U HF,(x.2.1.1.length=n/\oS x.2.1.1+x.1.2.2.1.1.length=K/\0<=x.1.2.2.2.2.1.1/\aJ (kZ n) x.1.2.2.1.1/\aJ (zN n) x.1.2.2.2.1.2.2.1.1)->aw (a3 Pz x) (λy=>y.2.1.1.length=n/\oS y.2.1.1+y.1.1.1.length=K/\aJ (kZ n) y.1.1.1):=
 cQ (λx:U HF=>x.2.1.1.length=n/\oS x.2.1.1+x.1.2.2.1.1.length=K/\0<=x.1.2.2.2.2.1.1/\aJ (kZ n) x.1.2.2.1.1/\aJ (zN n) x.1.2.2.2.1.2.2.1.1) (λx:U HF=>((x.1.2.2.2.1.2.2.1.1.length:Int)-x.1.2.2.2.2.1.1).toNat) (λx aE=>by
  unfold Pz;obtain⟨bx,cX,bH,cJ,gn⟩:=aE;have ah:=L.b x.1.2.2.2.1.2.2.1;have aOO:=L.b x.1.2.2.2.1.2.2.1;apply ag<;>intro aC<;>simp only[av] at aC;refine ae (ak9 _ aK) λep jI=>?_;dsimp only at jI;apply ag<;>intro aV<;>simp only[av] at aV;refine bt λiw nN=>?_;obtain⟨_,_,gL,k_⟩:=gn _ _ nN;apply ag<;>intro bP<;>simp only[av] at bP;refine iv λg8 jY=>?_;apply ag<;>intro dj<;>simp only[av] at dj;refine bt λkA lT=>?_;rw[nN] at lT;cases lT;apply ag<;>intro eb<;>simp only[av] at eb;refine iv λkk pL=>?_;rw[jY] at pL;cases pL;refine bt λoa qo=>?_;rw[nN] at qo;cases qo;refine ae (du lM) λy6 JQ=>?_;have an:=Ro jY (by simpa using dj);exact bz ⟨(by dsimp only;have mw:=dN x.1.2.2.2.2.1 bH ab;(refine⟨by simp only[b5];exact bx,?_,ab,by rw[JQ.1];exact cJ.append (aJ.one ⟨gL,k_⟩),gn⟩;rw[JQ.2];simp only[b5];show oS (x.2.1.1.set _ _)+_=K;omega)),(by dsimp only;simp only[aM];omega)⟩;exfalso
  (omega)
  exact bz ⟨(by dsimp only;have mw:=dN x.1.2.2.2.2.1 bH ab;exact⟨bx,cX,ab,cJ,gn⟩),(by dsimp only;simp only[aM];omega)⟩;exfalso
  (omega)
  exact a7 ⟨bx,cX,cJ⟩;exact a7 ⟨bx,cX,cJ⟩)
theorem aKy (n K:Nat)(aA:n<=24)(ev:K<=1000):∀x:U HE,(x.2.1.1.length=n/\oS x.2.1.1+x.1.2.2.2.1.1.length=K/\0<=x.1.2.2.2.2.1.1/\aJ (kZ n) x.1.2.2.2.1.1/\x.1.2.1.2.2.1.1.length=n/\aJ (zX n) x.1.2.1.2.2.1.1)->aw (a3 Py x) (λy=>y.2.1.1.length=n):=
 cQ (λx:U HE=>x.2.1.1.length=n/\oS x.2.1.1+x.1.2.2.2.1.1.length=K/\0<=x.1.2.2.2.2.1.1/\aJ (kZ n) x.1.2.2.2.1.1/\x.1.2.1.2.2.1.1.length=n/\aJ (zX n) x.1.2.1.2.2.1.1) (λx:U HE=>(K-x.1.2.2.2.2.1.1).toNat) (λx aE=>by
  unfold Py;obtain⟨bx,cX,bH,cJ,gn,ik⟩:=aE;have JU:=L.b x.1.2.2.2.1;apply ag<;>intro aC<;>simp only[av] at aC;refine bt λiC kF=>?_;obtain⟨dM,di⟩:=cJ _ _ kF;refine bt λkj oV=>?_;obtain⟨_,_,⟨_,oQ⟩,_⟩:=ik _ _ oV;refine ae (aKB (n) (K) (aA) (ev) _ (by(exact⟨bx,cX,by simp only[aM];decide,cJ,oQ⟩))) λjA rE=>?_;dsimp only at rE;obtain⟨bA,bI,c9⟩:=rE;have mw:=dN x.1.2.2.2.2.1 bH ab;exact bz ⟨(by dsimp only;exact⟨bA,bI,ab,c9,gn,ik⟩),gk⟩;exact a7 (by dsimp only[Sum.elim];exact bx))
theorem aKE (n:Nat)(aA:n<=24):∀x:U HG,(x.2.1.1.length=n/\0<=x.1.2.2.1.1/\x.1.2.1.1.length<=x.1.2.2.1.1/\x.1.2.2.1.1<=n/\aJ (kZ n) x.1.2.1.1)->aw (a3 PA x) (λy=>y.1.1.1.length<=24/\aJ (kZ n) y.1.1.1):=
 cQ (λx:U HG=>x.2.1.1.length=n/\0<=x.1.2.2.1.1/\x.1.2.1.1.length<=x.1.2.2.1.1/\x.1.2.2.1.1<=n/\aJ (kZ n) x.1.2.1.1) (λx:U HG=>(n-x.1.2.2.1.1).toNat) (λx aE=>by
  unfold PA;obtain⟨bx,cX,bH,gn,cJ⟩:=aE;apply ag<;>intro aC<;>simp only[av] at aC;apply ag<;>intro aV<;>simp only[av] at aV;refine iv λlv qV=>?_;have mw:=dN x.1.2.2.1 cX ab;apply ag<;>intro bP<;>simp only[av] at bP;refine ae (du lM) λuF AD=>?_;exact bz ⟨(by dsimp only;refine⟨bx,ab,?_,ab,by rw[AD.1];exact cJ.append (aJ.one ⟨cX,by dsimp only;omega⟩)⟩;rw[AD.2];simp only[b5];omega),gk⟩;exact bz ⟨(by dsimp only;exact⟨bx,ab,ab,ab,cJ⟩),gk⟩;exfalso
  (omega)
  exact a7 (by dsimp only[Sum.elim];exact⟨ab,cJ⟩))
theorem akW:∀x:U akU,(l7 x.1.1/\x.1.2.2.1.1.length<=200)->aw (HC x) (λy=>y.1.1.1.length<=24/\aJ (kZ x.1.1.2.2.1.1.length) y.1.1.1):=by
 intro x aE;unfold HC;obtain⟨bF,aZ⟩:=aE;have aO6:=bF.fK;have yP:=bF.eT;refine ae (uG (by(simp only[aM];omega))) λdk kT=>?_;have nO:=kT.2;simp only[aM] at nO;have vv:=anK dk.1;refine ae (aKv (x.1.1.2.2.1.1.length) (oS dk.1+0) ab ab _ (by(exact⟨by dsimp only;omega,rfl,by simp only[aM];decide,aJ.nil⟩))) λbY e4=>?_;dsimp only at e4;obtain⟨bA,bI,c9⟩:=e4;refine ae (aKy (x.1.1.2.2.1.1.length) (oS bY.2.1.1+bY.1.1.1.length) ab ab _ (by(exact⟨bA,rfl,by simp only[aM];decide,c9,rfl,bF.ck⟩))) λeV nt=>?_;dsimp only at nt;refine ae (aKE (x.1.1.2.2.1.1.length) ab _ (by(exact⟨nt,by simp only[aM];decide,by simp only[aM,b5];decide,by simp only[aM];omega,aJ.nil⟩))) λkg qq=>?_;dsimp only at qq;exact ak qq
theorem aJM (n:Nat)(aA:n<=24)(vX:L (D fi))(role:ee):∀x:U Hr,(x.1.2.2.2.2.1.1<=x.1.2.1.1.length/\x.1.1=role/\x.1.2.2.1.2.2.1=vX/\vX.1.length=n/\0<=x.1.2.2.2.2.1.1/\x.1.2.1.1.length<=24/\aJ (kZ n) x.1.2.1.1/\x.1.2.2.2.1.1.length<=x.1.2.2.2.2.1.1/\aJ (ni vX.1 role) x.1.2.2.2.1.1)->aw (a3 Pk x) (λy=>y.1.1.1.length<=24/\aJ (ni vX.1 role) y.1.1.1):=
 cQ (λx:U Hr=>x.1.2.2.2.2.1.1<=x.1.2.1.1.length/\x.1.1=role/\x.1.2.2.1.2.2.1=vX/\vX.1.length=n/\0<=x.1.2.2.2.2.1.1/\x.1.2.1.1.length<=24/\aJ (kZ n) x.1.2.1.1/\x.1.2.2.2.1.1.length<=x.1.2.2.2.2.1.1/\aJ (ni vX.1 role) x.1.2.2.2.1.1) (λx:U Hr=>((x.1.2.1.1.length:Int)-x.1.2.2.2.2.1.1).toNat) (λx aE=>by
  unfold Pk;obtain⟨SY,bx,cX,bH,cJ,gn,ik,my,qt⟩:=aE;subst bx cX;have mv:=L.b x.1.2.1;apply ag<;>intro aC<;>simp only[av] at aC;refine bt λaD ct=>?_;obtain⟨dM,di⟩:=ik _ _ ct;have mw:=dN x.1.2.2.2.2.1 cJ ab;refine bt λaQ cM=>?_;refine ae (ak9 _ aK) λaT cF=>?_;dsimp only at cF;apply ag<;>intro aV<;>simp only[av] at aV;refine bt λcP fb=>?_;rw[ct] at fb;cases fb;refine ae (du lM) λiD lD=>?_;exact bz ⟨(by dsimp only;refine⟨ab,rfl,rfl,bH,ab,gn,ik,?_,by rw[lD.1];exact qt.append (aJ.one ⟨dM,_,cM,cF aV⟩)⟩;rw[lD.2];simp only[b5];omega),gk⟩;exact bz ⟨(by dsimp only;exact⟨ab,rfl,rfl,bH,ab,gn,ik,ab,qt⟩),gk⟩;exact a7 (by dsimp only[Sum.elim];exact⟨ab,qt⟩))
theorem akA:∀x:U akx,(x.1.1.2.2.1.1.length<=24/\x.1.2.2.1.1.length<=24/\aJ (kZ x.1.1.2.2.1.1.length) x.1.2.2.1.1)->aw (Hq x) (λy=>y.1.1.1.length<=24/\aJ (ni x.1.1.2.2.1.1 x.1.2.1) y.1.1.1):=by
 intro x aE;unfold Hq;obtain⟨aa,af,ax⟩:=aE;refine ae (aJM (x.1.1.2.2.1.1.length) ab (x.1.1.2.2.1) (x.1.2.1) _ (by(exact⟨by simp only[aM];omega,rfl,rfl,rfl,by simp only[aM];decide,af,ax,by simp only[aM,b5];decide,aJ.nil⟩))) λbK dK=>?_;dsimp only at dK;exact ak dK
theorem aJx:∀x:U akt,(l7 x.1.1)->aw (Pe x) (λy=>True):=by
 intro x aE;unfold Pe;refine ae (akW _ (by(exact⟨aE,by simp only[b5];decide⟩))) λaz cg=>?_;dsimp only at cg;refine ae (akA _ (by(exact⟨aE.fK,cg.1,cg.2⟩))) λaF cz=>?_;dsimp only at cz;exact ak (by(dsimp only)<;>(exact⟨aE,by simp only[b5];decide⟩))
theorem aKl:∀x:U HA,(0<=x.1.2.2.1.1/\x.1.1.1.length=x.1.2.1.1.length)->aw (a3 Pw x) (Sum.elim (λy=>True) (λy=>True)):=
 cQ (λx:U HA=>0<=x.1.2.2.1.1/\x.1.1.1.length=x.1.2.1.1.length) (λx:U HA=>((x.1.1.1.length:Int)-x.1.2.2.1.1).toNat) (λx aE=>by
  unfold Pw;have kH:=L.b x.1.1;apply ag<;>intro aC<;>simp only[av] at aC;refine bt λaD ct=>?_;refine bt λaQ cM=>?_;apply ag<;>intro aV<;>simp only[av] at aV;exact a7 da;exact bz ⟨dX,dX⟩;exact a7 da)
theorem aKo:∀x:U akO,(True)->aw (Pv x) (λy=>True):=by
 intro x aE;unfold Pv;have kH:=L.b x.1.1;have mv:=L.b x.1.2.1;apply ag<;>intro aC<;>simp only[av] at aC;exact ak aK;refine ae (aKl _ dJ) λaT cF=>?_;dsimp only at cF;refine eg cF (λaY df=>?_) (λa5 cZ=>?_);exact ak aK;exact ak aK
theorem aLK (p:D dE)(role:ee)(ss:L (D [.aR [.int .i64]]))(bF:l7 p):∀x:U H3,((x.2.1.1,x.2.1.2.1,x.2.1.2.2.1,())=p/\x.2.1.2.2.2.1=role/\x.2.1.2.2.2.2.1=ss/\0<=x.1.2.2.2.1.1)->aw (a3 PY x) (Sum.elim (λy=>(y.2.1.1,y.2.1.2.1,y.2.1.2.2.1,())=p/\y.2.1.2.2.2.1=role/\y.2.1.2.2.2.2.1=ss) (λy=>(y.2.1.1,y.2.1.2.1,y.2.1.2.2.1,())=p/\y.2.1.2.2.2.1=role/\y.2.1.2.2.2.2.1=ss/\y.1.2.1.1≠0)):=
 cQ (λx:U H3=>(x.2.1.1,x.2.1.2.1,x.2.1.2.2.1,())=p/\x.2.1.2.2.2.1=role/\x.2.1.2.2.2.2.1=ss/\0<=x.1.2.2.2.1.1) (λx:U H3=>((x.1.2.1.1.length:Int)-x.1.2.2.2.1.1).toNat) (λx aE=>by
  unfold PY;obtain⟨bx,cX,bH,cJ⟩:=aE;have ah:=L.b x.1.2.1;have mv:=L.b x.1.2.1;apply ag<;>intro aC<;>simp only[av] at aC;have AE:=L.b x.1.2.2.1;apply ag<;>intro aV<;>simp only[av] at aV;refine bt λbO eG=>?_;refine ae (aJx _ (by(dsimp only;rw[bx];exact bF))) λaY df=>?_;apply ag<;>intro bP<;>simp only[av] at bP;exact a7 ⟨bx,cX,bH,by simp only[aM];decide⟩;exact bz ⟨(by dsimp only;have mw:=dN x.1.2.2.2.1 cJ ab;exact⟨bx,cX,bH,ab⟩),(by dsimp only;simp only[aM];omega)⟩;exact a7 ⟨bx,cX,bH⟩;exact a7 ⟨bx,cX,bH⟩)
theorem aLN (p:D dE)(role:ee)(ss:L (D [.aR [.int .i64]])):∀x:U H4,((x.2.1.1,x.2.1.2.1,x.2.1.2.2.1,())=p/\x.2.1.2.2.2.1=role/\x.2.1.2.2.2.2.1=ss/\0<=x.1.2.2.1.1)->aw (a3 PZ x) (Sum.elim (λy=>(y.2.1.1,y.2.1.2.1,y.2.1.2.2.1,())=p/\y.2.1.2.2.2.1=role/\y.2.1.2.2.2.2.1=ss) (λy=>(y.2.1.1,y.2.1.2.1,y.2.1.2.2.1,())=p/\y.2.1.2.2.2.1=role/\y.2.1.2.2.2.2.1=ss/\0<=y.1.1.1/\y.1.1.1<ss.1.length)):=
 cQ (λx:U H4=>(x.2.1.1,x.2.1.2.1,x.2.1.2.2.1,())=p/\x.2.1.2.2.2.1=role/\x.2.1.2.2.2.2.1=ss/\0<=x.1.2.2.1.1) (λx:U H4=>((x.2.1.2.2.2.2.1.1.length:Int)-x.1.2.2.1.1).toNat) (λx aE=>by
  unfold PZ;obtain⟨bx,cX,bH,cJ⟩:=aE;have ah:=L.b x.2.1.2.2.2.2.1;have aOT:=L.b x.2.1.2.2.2.2.1;apply ag<;>intro aC<;>simp only[av] at aC;refine bt λdG g_=>?_;refine ae (aKo _ aK) λbU dZ=>?_;apply ag<;>intro aV<;>simp only[av] at aV;exact a7 ⟨bx,cX,bH,cJ,by rw[<-bH];exact aC⟩;exact bz ⟨(by dsimp only;have mw:=dN x.1.2.2.1 cJ ab;exact⟨bx,cX,bH,ab⟩),(by dsimp only;simp only[aM];omega)⟩;exact a7 ⟨bx,cX,bH⟩)
theorem alg:∀x:U ale,(oP x.2.1/\x.1.2.1.1.length<=200)->aw (H2 x) (λy=>y.1.2.1.1=0->oP y.2.1/\sX x.2.1 y.2.1/\0<=y.1.1.1/\y.1.1.1<y.2.1.2.2.2.2.1.1.length/\(∃r,y.2.1.2.2.2.2.1.1=x.2.1.2.2.2.2.1.1++r)):=by
 intro x aE;obtain⟨hw,aZ⟩:=aE;have bF:=hw.p;unfold H2;refine ae (akW _ ⟨bF,aZ⟩) λaz cg=>?_;refine ae (akA _ ⟨bF.fK,cg.1,cg.2⟩) λaF cz=>?_;refine ae (aLK (x.2.1.1,x.2.1.2.1,x.2.1.2.2.1,()) x.2.1.2.2.2.1 x.2.1.2.2.2.2.1 bF _ ⟨rfl,rfl,rfl,by simp only[aM];decide⟩) λa5 cZ=>?_;refine eg cZ (λbK dK=>?_) (λbL ez=>?_);obtain⟨dM,di,gL⟩:=dK;refine ae (aLN (x.2.1.1,x.2.1.2.1,x.2.1.2.2.1,()) x.2.1.2.2.2.1 x.2.1.2.2.2.2.1 _ ⟨dM,di,gL,by simp only[aM];decide⟩) λcd ff=>?_;refine eg ff (λbY e4=>?_) (λcT e5=>?_);obtain⟨c4,fD,ij⟩:=e4;have cW:=congrArg (λt:D dE=>t.1) c4;have dA:=congrArg (λt:D dE=>t.2.1) c4;have eR:=congrArg (λt:D dE=>t.2.2.1) c4;dsimp only at cW dA eR;apply ag<;>intro ah;exact ak (λq=>absurd q (by simp only[aM];decide));simp only[cG,aM] at ah;have aA:=hw.n;refine ae (du (by rw[ij];simp only[b5];omega)) λmz Dy=>?_;obtain⟨d1,d2⟩:=Dy;simp only[b5] at d2;have Y8:mz.1=x.2.1.2.2.2.2.1.1++[(aF.1.1,())]:=by rw[d1,ij];rfl
 rw[ij] at ah d2;refine ak (λ_=>⟨⟨?_,?_,?_,?_⟩,⟨cW.symm,dA.symm,eR.symm,fD.symm⟩,?_,?_,_,Y8⟩);show l7 (bY.2.1.1,bY.2.1.2.1,bY.2.1.2.2.1,());rw[c4];exact bF;show 1<=bY.2.1.2.2.2.1.1.size;rw[fD];exact hw.role;show mz.1.length<=40;omega;show aJ (λs:D [.aR [.int .i64]]=>s.1.1.length<=24/\aJ (ni bY.2.1.2.2.1.1 bY.2.1.2.2.2.1) s.1.1) mz.1;rw[Y8,fD,eR];exact hw.Xd.append (aJ.one cz);show 0<=(eF (ba mz) (W 1)).1;simp only[aM];omega;show(eF (ba mz) (W 1)).1<mz.1.length;simp only[aM];omega;obtain⟨c4,fD,ij,oQ,IT⟩:=e5;have cW:=congrArg (λt:D dE=>t.1) c4;have dA:=congrArg (λt:D dE=>t.2.1) c4;have eR:=congrArg (λt:D dE=>t.2.2.1) c4;dsimp only at cW dA eR;refine ak (λ_=>⟨⟨?_,?_,?_,?_⟩,⟨cW.symm,dA.symm,eR.symm,fD.symm⟩,oQ,?_,[],?_⟩);show l7 (cT.2.1.1,cT.2.1.2.1,cT.2.1.2.2.1,());rw[c4];exact bF;show 1<=cT.2.1.2.2.2.1.1.size;rw[fD];exact hw.role;show cT.2.1.2.2.2.2.1.1.length<=40;rw[ij];exact hw.n;show aJ (λs:D [.aR [.int .i64]]=>s.1.1.length<=24/\aJ (ni cT.2.1.2.2.1.1 cT.2.1.2.2.2.1) s.1.1) cT.2.1.2.2.2.2.1.1;rw[ij,fD,eR];exact hw.Xd;show cT.1.1.1<cT.2.1.2.2.2.2.1.1.length;rw[ij];exact IT;show cT.2.1.2.2.2.2.1.1=_;rw[ij,dr];exact ak (λq=>absurd q ez.2.2.2)
theorem oP.at {w}(h:oP w){e:D [.int .i64]}(aA:ni w.2.2.1.1 w.2.2.2.1 e):0<=e.1.1/\e.1.1<w.2.2.1.1.length/\∀xo,w.2.2.1.1[e.1.1.toNat]?=some xo->1<=xo.2.2.1.1.length/\xo.2.2.1.1.length<=6:=by
 obtain⟨a6,xo,aa,af⟩:=aA;have ax:=(eu.1 aa).1;refine⟨a6,ab,λq ay=>?_⟩;rw[aa] at ay;cases ay;obtain⟨c4,fD,ij,oQ⟩:=h.p.ck _ _ aa;have aO:=h.role;refine⟨?_,ij.1⟩;rcases oQ with⟨cW,dA,eR⟩|⟨cW,dA,eR⟩;rcases af with af|af;rw[<-af] at aO;omega;rw[<-af] at aO;omega;exact eR
def wu (n:Int)(t:D fZ):Prop:=t.2.2.1.1.length<=6/\(t.1.1≠0->1<=t.2.2.1.1.length)/\aJ (λa:D dR=>0<=a.2.2.2.1.1/\a.2.2.2.1.1<n) t.2.2.1.1
theorem wu.mono {n m:Int}{t}(h:wu n t)(hm:n<=m):wu m t:=⟨h.1,h.2.1,h.2.2.imp λe he=>⟨he.1,ab⟩⟩
structure sU (l:D ek):Prop where
  n:l.1.1.size<=25
  t1:1<=l.2.1.1.length
  t2:l.2.1.1.length<=40
  ts:aJ (wu l.2.1.1.length) l.2.1.1
theorem sX.refl (w):sX w w:=⟨rfl,rfl,rfl,rfl⟩
theorem sX.trans {a b c}(h:sX a b)(k:sX b c):sX a c:=⟨h.1.trans k.1,h.2.1.trans k.2.1,h.2.2.1.trans k.2.2.1,h.2.2.2.trans k.2.2.2⟩
structure p7 (a b:D [.str,.aR [.str],.aR fi,.str,.aR [.aR [.int .i64]]]):Prop where
  w:oP b
  s:sX a b
  g:∃r,b.2.2.2.2.1.1=a.2.2.2.2.1.1++r
theorem p7.trans {a b c}(h:p7 a b)(k:p7 b c):p7 a c:=⟨k.w,h.s.trans k.s,by
 obtain⟨r,aO⟩:=h.g;obtain⟨q,ay⟩:=k.g;exact⟨r++q,by rw[ay,aO,cO]⟩⟩
theorem p7.le {a b}(h:p7 a b):a.2.2.2.2.1.1.length<=b.2.2.2.2.1.1.length:=by
 obtain⟨r,aO⟩:=h.g;rw[aO,bl];omega
theorem p7.at' {a b}(h:p7 a b){l}(aZ:aJ (ni a.2.2.1.1 a.2.2.2.1) l):aJ (ni b.2.2.1.1 b.2.2.2.1) l:=by
 rw[<-h.s.2.2.1,<-h.s.2.2.2];exact aZ
theorem aLs:∀x:U HX,((oP x.2.1/\aJ (ni x.2.1.2.2.1.1 x.2.1.2.2.2.1) x.1.2.1.1)/\((0<=x.1.2.2.2.2.1.1)/\(x.1.2.2.2.2.1.1<=(x.1.2.1.1.length:Int))))->aw (a3 PS x) (Sum.elim (λy=>y.2.1=x.2.1) (λy=>y.2.1=x.2.1)):=by
 rintro x ⟨an,aj⟩;exact cQ (λz:U HX=>∃dU,∃dz,∃e8,z=(((),x.1.2.1,dU,dz,e8,()),(x.2.1,(),()))/\((0<=e8.1)/\(e8.1<=(x.1.2.1.1.length:Int)))) (λz:U HX=>((x.1.2.1.1.length:Int)-z.1.2.2.2.2.1.1).toNat) (λz ai=>by
  obtain⟨dU,dz,e8,rfl,aE⟩:=ai;unfold PS;dsimp only
  have mv:=L.b x.1.2.1;apply ag<;>intro aC<;>simp only[av] at aC;refine bt λaD ct=>?_;obtain⟨dM,di,_⟩:=an.1.at (an.2 _ _ ct);refine bt λaQ cM=>?_;apply ag<;>intro aV<;>simp only[av] at aV;apply ag<;>intro bP<;>simp only[av] at bP;apply ag<;>intro dj<;>simp only[av] at dj;exact a7 rfl;apply ag<;>intro eb<;>simp only[av] at eb;exact a7 rfl;exact bz ⟨⟨_,_,_,rfl,dJ⟩,dX⟩;exact bz ⟨⟨_,_,_,rfl,dJ⟩,dX⟩;apply ag<;>intro gm<;>simp only[av] at gm;apply ag<;>intro g9<;>simp only[av] at g9;exact a7 rfl;apply ag<;>intro jH<;>simp only[av] at jH;exact a7 rfl;exact bz ⟨⟨_,_,_,rfl,dJ⟩,dX⟩;exact bz ⟨⟨_,_,_,rfl,dJ⟩,dX⟩;exact a7 rfl) x ⟨_,_,_,rfl,aj⟩
theorem aLv:∀x:U alb,(oP x.2.1/\aJ (ni x.2.1.2.2.1.1 x.2.1.2.2.2.1) x.1.2.1.1)->aw (PR x) (λy=>y.2.1=x.2.1):=by
 intro x aE;unfold PR;refine ae (aLs _ ⟨aE,by simp only[aM,b5]<;>omega⟩) λaT cF=>?_;dsimp only at cF;refine eg cF (λaY df=>?_) (λa5 cZ=>?_);exact ak df;exact ak cZ
theorem aLB:∀x:U HZ,((x.1.1.1.length<=1000/\x.1.2.1.1.length<=6)/\((0<=x.1.2.2.1.1)/\(x.1.2.2.1.1<=(x.1.2.1.1.length:Int))/\(x.1.1.1.length<=x.1.1.1.length+x.1.2.2.1.1/\(0<x.1.2.2.1.1\/1<=x.1.1.1.length->1<=x.1.1.1.length))))->aw (a3 PV x) (λy=>y.1.1.1.length<=x.1.1.1.length+x.1.2.1.1.length/\(1<=x.1.2.1.1.length\/1<=x.1.1.1.length->1<=y.1.1.1.length)):=by
 rintro x ⟨an,aj⟩;exact cQ (λz:U HZ=>∃v6,∃e8,z=((v6,x.1.2.1,e8,()),())/\((0<=e8.1)/\(e8.1<=(x.1.2.1.1.length:Int))/\(v6.1.length<=x.1.1.1.length+e8.1/\(0<e8.1\/1<=x.1.1.1.length->1<=v6.1.length)))) (λz:U HZ=>((x.1.2.1.1.length:Int)-z.1.2.2.1.1).toNat) (λz ai=>by
  obtain⟨v6,e8,rfl,aE⟩:=ai;unfold PV;dsimp only
  have mv:=L.b x.1.2.1;apply ag<;>intro aC<;>simp only[av] at aC;refine bt λbO eG=>?_;refine ae (Bp _ gk) λaY df=>?_;dsimp only at df;exact bz ⟨⟨_,_,rfl,dJ⟩,dX⟩;exact a7 gQ) x ⟨_,_,rfl,aj⟩
theorem aLy:∀x:U HY,((oP x.2.1/\x.1.2.1.1.length<=24/\aJ (ni x.2.1.2.2.1.1 x.2.1.2.2.2.1) x.1.2.1.1)/\((0<=x.1.2.2.2.1.1)/\(x.1.2.2.2.1.1<=(x.1.2.1.1.length:Int))/\(x.1.2.2.1.1.length<=6*x.1.2.2.2.1.1/\(0<x.1.2.2.2.1.1->1<=x.1.2.2.1.1.length))))->aw (a3 PU x) (λy=>y.2.1=x.2.1/\y.1.1.1.length<=144/\(1<=x.1.2.1.1.length->1<=y.1.1.1.length)):=by
 rintro x ⟨an,aj⟩;exact cQ (λz:U HY=>∃v6,∃dU,z=(((),x.1.2.1,v6,dU,()),(x.2.1,(),()))/\((0<=dU.1)/\(dU.1<=(x.1.2.1.1.length:Int))/\(v6.1.length<=6*dU.1/\(0<dU.1->1<=v6.1.length)))) (λz:U HY=>((x.1.2.1.1.length:Int)-z.1.2.2.2.1.1).toNat) (λz ai=>by
  obtain⟨v6,dU,rfl,aE⟩:=ai;unfold PU;dsimp only
  have mv:=L.b x.1.2.1;apply ag<;>intro aC<;>simp only[av] at aC;refine bt λaD ct=>?_;obtain⟨dM,di,gL⟩:=an.1.at (an.2.2 _ _ ct);refine bt λaQ cM=>?_;obtain⟨k_,pq⟩:=gL _ cM;clear gL;refine ae (aLB _ dX) λa5 cZ=>?_;dsimp only at cZ;obtain⟨bA,bI⟩:=cZ;have c9:=bI (.inl k_);exact bz ⟨⟨_,_,rfl,dJ⟩,dX⟩;exact a7 (by dsimp only[Sum.elim];exact⟨rfl,ab,ab⟩)) x ⟨_,_,rfl,aj⟩
theorem aLE:∀x:U H0,((oP x.2.1/\aJ (ni x.2.1.2.2.1.1 x.2.1.2.2.2.1) x.1.2.1.1)/\((0<=x.1.2.2.2.1.1)/\(x.1.2.2.2.1.1<=(x.1.2.1.1.length:Int))))->aw (a3 PW x) (Sum.elim (λy=>y.2.1=x.2.1) (λy=>y.2.1=x.2.1/\y.1.1=x.1.2.2.1)):=by
 rintro x ⟨an,aj⟩;exact cQ (λz:U H0=>∃v10,z=(((),x.1.2.1,x.1.2.2.1,v10,()),(x.2.1,(),()))/\((0<=v10.1)/\(v10.1<=(x.1.2.1.1.length:Int)))) (λz:U H0=>((x.1.2.1.1.length:Int)-z.1.2.2.2.1.1).toNat) (λz ai=>by
  obtain⟨v10,rfl,aE⟩:=ai;unfold PW;dsimp only
  have mv:=L.b x.1.2.1;apply ag<;>intro aC<;>simp only[av] at aC;refine bt λfk jZ=>?_;obtain⟨dM,di,_⟩:=an.1.at (an.2 _ _ jZ);refine bt λdG g_=>?_;have aOC:=L.b dG.2.2.1;have AE:=L.b x.1.2.2.1;apply ag<;>intro aV<;>simp only[av] at aV;exact a7 ⟨rfl,rfl⟩;exact bz ⟨⟨_,rfl,dJ⟩,dX⟩;exact a7 rfl) x ⟨_,rfl,aj⟩
theorem aLH:∀x:U ald,(oP x.2.1/\x.1.2.1.1.length<=24/\aJ (ni x.2.1.2.2.1.1 x.2.1.2.2.2.1) x.1.2.1.1)->aw (PT x) (λy=>y.2.1=x.2.1/\y.1.1.1.length<=144/\(1<=x.1.2.1.1.length->1<=y.1.1.1.length)):=by
 intro x aE;unfold PT;refine ae (aLy _ ⟨aE,by simp only[aM,b5]<;>omega⟩) λbK dK=>?_;dsimp only at dK;obtain⟨bA,bI,c9⟩:=dK;refine ae (aLE _ (by dsimp only;rw[bA];exact⟨⟨aE.1,aE.2.2⟩,by simp only[aM,b5]<;>omega⟩)) λbU dZ=>?_;dsimp only at dZ;refine eg dZ (λcd ff=>?_) (λbY e4=>?_);exact ak ⟨ff.trans bA,bI,c9⟩;exact ak (by dsimp only;rw[e4.2];exact⟨e4.1.trans bA,bI,c9⟩)
theorem aI8:∀x:U Hj,((True)/\((0<=x.1.2.2.1.1)/\(x.1.2.2.1.1<=(x.1.1.1.length:Int))))->aw (a3 O7 x) (Sum.elim (λy=>True) (λy=>0<=y.1.1.1/\y.1.1.1<x.1.1.1.length)):=by
 rintro x ⟨an,aj⟩;exact cQ (λz:U Hj=>∃cV,z=((x.1.1,x.1.2.1,cV,()),())/\((0<=cV.1)/\(cV.1<=(x.1.1.1.length:Int)))) (λz:U Hj=>((x.1.1.1.length:Int)-z.1.2.2.1.1).toNat) (λz ai=>by
  obtain⟨cV,rfl,aE⟩:=ai;unfold O7;dsimp only
  have kH:=L.b x.1.1;apply ag<;>intro aC<;>simp only[av] at aC;refine bt λaD ct=>?_;apply ag<;>intro aV<;>simp only[av] at aV;exact a7 gQ;exact bz ⟨⟨_,rfl,dJ⟩,dX⟩;exact a7 da) x ⟨_,rfl,aj⟩
theorem aI':∀x:U ako,(True)->aw (O6 x) (λy=>-1<=y.1.1.1/\y.1.1.1<x.1.1.1.length):=by
 intro x aE;unfold O6;refine ae (aI8 _ (by and_intros<;>(intros)<;>first|exact aK|(simp only[aM,b5] at*<;>omega))) λaF cz=>?_;dsimp only at cz;refine eg cz (λaT cF=>?_) (λaY df=>?_);exact ak dX;exact ak gk
theorem aLn:∀x:U HW,((oP x.2.1/\x.1.2.1.1.length<=24/\aJ (ni x.2.1.2.2.1.1 x.2.1.2.2.2.1) x.1.2.1.1)/\((0<=x.1.2.2.2.2.2.2.1.1)/\(x.1.2.2.2.2.2.2.1.1<=(x.1.2.1.1.length:Int))/\(x.1.2.2.2.2.2.1.1.length<=x.1.2.2.2.2.2.2.1.1)))->aw (a3 PQ x) (Sum.elim (λy=>y.2.1=x.2.1/\y.1.1.1.length<=24) (λy=>y.2.1=x.2.1)):=by
 rintro x ⟨an,aj⟩;exact cQ (λz:U HW=>∃v10,∃v11,∃YI,∃wD,z=(((),x.1.2.1,x.1.2.2.1,(),(),v10,v11,()),(x.2.1,(),x.2.2.2.1,(YI,wD,()),(),()))/\((0<=v11.1)/\(v11.1<=(x.1.2.1.1.length:Int))/\(v10.1.length<=v11.1))) (λz:U HW=>((x.1.2.1.1.length:Int)-z.1.2.2.2.2.2.2.1.1).toNat) (λz ai=>by
  obtain⟨v10,v11,YI,wD,rfl,aE⟩:=ai;unfold PQ;dsimp only
  have mv:=L.b x.1.2.1;apply ag<;>intro aC<;>simp only[av] at aC;refine bt λaD ct=>?_;obtain⟨dM,di,_⟩:=an.1.at (an.2.2 _ _ ct);refine bt λaQ cM=>?_;refine ae (aI' _ aK) λaT cF=>?_;dsimp only at cF;apply ag<;>intro aV<;>simp only[av] at aV;exact bz ⟨⟨_,_,_,_,rfl,dJ⟩,dX⟩;have aOD:=L.b v10;apply ag<;>intro bP<;>simp only[av] at bP;refine bt λcP fb=>?_;apply ag<;>intro dj<;>simp only[av] at dj;exact a7 (by(dsimp only[Sum.elim])<;>(exact rfl));refine bt λdP fL=>?_;refine bt λdb fX=>?_;refine ae (du dJ) λj' qZ=>?_;exact bz ⟨⟨_,_,_,_,rfl,dJ⟩,dX⟩;refine bt λdG g_=>?_;refine bt λeS kG=>?_;refine ae (du dJ) λnu tr=>?_;exact bz ⟨⟨_,_,_,_,rfl,dJ⟩,dX⟩;exact a7 (by(dsimp only[Sum.elim])<;>(exact⟨rfl,ab⟩))) x ⟨_,_,_,_,rfl,aj⟩
theorem ala:∀x:U ak_,(oP x.2.1/\x.1.2.1.1.length<=24/\aJ (ni x.2.1.2.2.1.1 x.2.1.2.2.2.1) x.1.2.1.1)->aw (HV x) (λy=>y.2.1=x.2.1/\y.1.2.1.1.length<=24):=by
 intro x aE;unfold HV;refine ae (aLn _ ⟨aE,by simp only[aM,b5]<;>omega⟩) λbY e4=>?_;dsimp only at e4;refine eg e4 (λcT e5=>?_) (λcA fG=>?_);exact ak e5;exact ak ⟨fG,by simp only[b5,aM];decide⟩
theorem aLP:∀x:U WU,(True)->aw (WT x) (Sum.elim (λy=>True) (λy=>y.1.1.1≠0)):=by
 intro x aE;unfold WT;apply ag<;>intro aC<;>simp only[av] at aC;apply ag<;>intro aV<;>simp only[av] at aV;exact ak r0;exact ak da;exact ak da
theorem aLS:∀x:U H5,((oP x.2.1/\x.1.2.1.1.length<=24/\aJ (ni x.2.1.2.2.1.1 x.2.1.2.2.2.1) x.1.2.1.1)/\((0<=x.1.2.2.2.2.1.1)/\(x.1.2.2.2.2.1.1<=(x.1.2.2.2.1.1.length:Int))/\(x.2.1=x.2.1)))->aw (a3 P1 x) (Sum.elim (λy=>y.2.1=x.2.1) (λy=>y.1.1.1≠0)):=by
 rintro x ⟨an,aj⟩;exact cQ (λz:U H5=>∃v11,∃cR,z=(((),x.1.2.1,(),x.1.2.2.2.1,v11,()),(cR,(),x.2.2.2.1,()))/\((0<=v11.1)/\(v11.1<=(x.1.2.2.2.1.1.length:Int))/\(cR=x.2.1))) (λz:U H5=>((x.1.2.2.2.1.1.length:Int)-z.1.2.2.2.2.1.1).toNat) (λz ai=>by
  obtain⟨v11,cR,rfl,aE⟩:=ai;unfold P1;dsimp only
  obtain⟨bx,cX,bH⟩:=aE;subst bH;have JU:=L.b x.1.2.2.2.1;apply ag<;>intro aC<;>simp only[av] at aC;refine bt λdb fX=>?_;refine ae (ala _ gk) λbL ez=>?_;dsimp only at ez;apply ag<;>intro aV<;>simp only[av] at aV;exact a7 r0;exact bz ⟨⟨_,_,rfl,(by(exact⟨by simp only[aM]<;>omega,by simp only[aM]<;>omega,ez.1⟩))⟩,eY⟩;exact a7 rfl) x ⟨_,_,rfl,aj⟩
theorem aLV:∀x:U H6,((x.1.2.1.1.length<=24/\aJ (ni x.2.1.2.2.1.1 x.2.1.2.2.2.1) x.1.2.1.1/\x.1.2.2.2.1.1.length<=6/\oP x.2.1/\x.2.2.2.2.1.2.2.1.1.length=0)/\((0<=x.1.2.2.2.2.2.1.1)/\(x.1.2.2.2.2.2.1.1<=(x.1.2.2.2.1.1.length:Int))/\(p7 x.2.1 x.2.1/\x.2.2.2.2.1.2.2.1.1.length=x.1.2.2.2.2.2.1.1/\aJ (λa:D dR=>0<=a.2.2.2.1.1/\a.2.2.2.1.1<x.2.1.2.2.2.2.1.1.length) x.2.2.2.2.1.2.2.1.1)))->aw (a3 P2 x) (Sum.elim (λy=>p7 x.2.1 y.2.1/\y.2.2.2.2.1.2.2.1.1.length=x.1.2.2.2.1.1.length/\aJ (λa:D dR=>0<=a.2.2.2.1.1/\a.2.2.2.1.1<y.2.1.2.2.2.2.1.1.length) y.2.2.2.2.1.2.2.1.1/\y.2.2.2.2.1.1=x.2.2.2.2.1.1) (λy=>y.1.1.1≠0)):=by
 rintro x ⟨an,aj⟩;exact cQ (λz:U H6=>∃kX,∃cR,∃IS,z=(((),x.1.2.1,(),x.1.2.2.2.1,(),kX,()),(cR,(),x.2.2.2.1,(x.2.2.2.2.1.1,x.2.2.2.2.1.2.1,IS,()),(),()))/\((0<=kX.1)/\(kX.1<=(x.1.2.2.2.1.1.length:Int))/\(p7 x.2.1 cR/\IS.1.length=kX.1/\aJ (λa:D dR=>0<=a.2.2.2.1.1/\a.2.2.2.1.1<cR.2.2.2.2.1.1.length) IS.1))) (λz:U H6=>((x.1.2.2.2.1.1.length:Int)-z.1.2.2.2.2.2.1.1).toNat) (λz ai=>by
  obtain⟨kX,cR,IS,rfl,aE⟩:=ai;unfold P2;dsimp only
  obtain⟨bx,cX,bH,cJ,gn⟩:=aE;obtain⟨cW,dA,eR,iS,l8⟩:=an;have JU:=L.b x.1.2.2.2.1;apply ag<;>intro aC<;>simp only[av] at aC;refine bt λgl m5=>?_;refine ae (ala _ (by dsimp only;exact⟨bH.w,cW,bH.at' dA⟩)) λcT e5=>?_;dsimp only at e5;obtain⟨bA,bI⟩:=e5;refine ae (alg _ (by dsimp only;rw[bA];exact⟨bH.w,ab⟩)) λcA fG=>?_;dsimp only at fG;rw[bA] at fG;apply ag<;>intro aV<;>simp only[av] at aV;exact a7 (by dsimp only[Sum.elim];exact aV);refine bt λgM lC=>?_;refine ae (du (by(simp only[aM,b5]<;>omega))) λpU su=>?_;obtain⟨ga,dc,fw,sA,vN⟩:=fG aV;have kn:p7 cR cA.2.1:=⟨ga,dc,vN⟩;have hle:=kn.le;exact bz ⟨⟨_,_,_,rfl,(by(exact⟨by simp only[aM]<;>omega,by simp only[aM]<;>omega,bH.trans kn,by rw[su.2];simp only[aM,b5]<;>omega,by rw[su.1];exact(gn.imp λe he=>⟨he.1,ab⟩).append (aJ.one ⟨fw,sA⟩)⟩))⟩,(by dsimp only;simp only[aM,b5]<;>omega)⟩;exact a7 (by dsimp only[Sum.elim];exact⟨bH,ab,gn,rfl⟩)) x ⟨_,_,_,rfl,aj⟩
theorem aLY:∀x:U ali,(oP x.2.1/\x.1.2.1.1.length<=24/\aJ (ni x.2.1.2.2.1.1 x.2.1.2.2.2.1) x.1.2.1.1)->aw (P0 x) (λy=>y.1.2.1.1=0->p7 x.2.1 y.2.1/\wu y.2.1.2.2.2.2.1.1.length y.1.1):=by
 intro x aE;unfold P0;have mv:=L.b x.1.2.1;apply ag<;>intro aC<;>simp only[av] at aC;exact ak (by intro ay;(exact⟨⟨aE.1,sX.refl _,[],by rw[dr]⟩,by simp only[b5,aM]<;>decide,λh=>absurd rfl h,aJ.nil⟩));refine ae (aLv _ ⟨aE.1,aE.2.2⟩) λaz cg=>?_;dsimp only at cg;obtain⟨bA⟩:PLift (az.2.1=x.2.1):=⟨cg⟩;apply ag<;>intro aV<;>simp only[av] at aV;exact ak (by intro ay;exact absurd ay aV);refine ae (aLH _ (by dsimp only;rw[bA];exact aE)) λaF cz=>?_;dsimp only at cz;rw[bA] at cz;obtain⟨bI,c9,ei⟩:=cz;have eJ:1<=aF.1.1.1.length:=ei ab;refine ae (aLP _ aK) λaT cF=>?_;dsimp only at cF;refine eg cF (λaY df=>?_) (λa5 cZ=>?_);have aOW:=L.b aF.1.1;apply ag<;>intro bP<;>simp only[av] at bP;exact ak (by intro ay;(simp only[aM] at ay;omega));refine ae (aLS _ (by dsimp only;rw[bI];exact⟨aE,by simp only[aM,b5]<;>omega,by simp only[aM,b5]<;>omega,rfl⟩)) λcu fc=>?_;dsimp only at fc;refine eg fc (λbU dZ=>?_) (λcd ff=>?_);rw[bI] at dZ;refine ae (aLV _ (by dsimp only;rw[dZ];exact⟨⟨aE.2.1,aE.2.2,ab,aE.1,by simp only[b5,aM]⟩,by simp only[aM]<;>omega,by simp only[aM]<;>omega,⟨aE.1,sX.refl _,[],by rw[dr]⟩,by simp only[b5,aM]<;>omega,aJ.nil⟩)) λeK gA=>?_;dsimp only at gA;refine eg gA (λfg iN=>?_) (λe_ k3=>?_);rw[dZ] at iN;obtain⟨aG,aN,bo,cE⟩:=iN;exact ak (by intro ay;(exact⟨aG,by dsimp only;omega,λ_=>by dsimp only;omega,bo⟩));exact ak (by intro ay;exact absurd ay k3);exact ak (by intro ay;exact absurd ay ff);exact ak (by intro ay;exact absurd ay cZ)
theorem aIk:∀x:U Hb,((oP x.2.2.1/\x.2.2.2.2.1.2.1.1.length=0)/\(p7 x.2.2.1 x.2.2.1/\0<=x.1.2.2.2.1.1/\x.2.2.2.2.1.2.1.1.length=x.1.2.2.2.1.1/\x.1.2.2.2.1.1<=x.2.2.1.2.2.2.2.1.1.length/\aJ (wu x.2.2.1.2.2.2.2.1.1.length) x.2.2.2.2.1.2.1.1))->aw (a3 OY x) (Sum.elim (λy=>x.2.2.1.2.2.2.2.1.1.length<=y.2.2.2.2.1.2.1.1.length/\y.2.2.2.2.1.2.1.1.length<=40/\aJ (wu y.2.2.2.2.1.2.1.1.length) y.2.2.2.2.1.2.1.1/\y.2.2.2.2.1.1=x.2.2.2.2.1.1) (λy=>y.1.1.1≠0)):=by
 rintro x ⟨an,aj⟩;exact cQ (λz:U Hb=>∃v10,∃c4,∃wD,z=(((),(),(),v10,()),(x.2.1,c4,(),(x.2.2.2.2.1.1,wD,()),(),()))/\(p7 x.2.2.1 c4/\0<=v10.1/\wD.1.length=v10.1/\v10.1<=c4.2.2.2.2.1.1.length/\aJ (wu c4.2.2.2.2.1.1.length) wD.1)) (λz:U Hb=>(40-z.1.2.2.2.1.1).toNat) (λz ai=>by
  obtain⟨v10,c4,wD,rfl,aE⟩:=ai;unfold OY;dsimp only
  obtain⟨bx,cX,bH,cJ,gn⟩:=aE;have aA:=bx.w.n;have aOr:=L.b c4.2.2.2.2.1;apply ag<;>intro aC<;>simp only[av] at aC;refine bt λdb fX=>?_;obtain⟨dM,di⟩:=bx.w.Xd _ _ fX;refine ae (aLY _ (by dsimp only;exact⟨bx.w,dM,di⟩)) λbL ez=>?_;dsimp only at ez;apply ag<;>intro aV<;>simp only[av] at aV;exact a7 (by dsimp only[Sum.elim];exact aV);refine ae (du (by(simp only[aM,b5]<;>omega))) λj0 oX=>?_;obtain⟨ga,dc⟩:=ez aV;have hle:=ga.le;exact bz ⟨⟨_,_,_,rfl,(by(exact⟨bx.trans ga,by simp only[aM]<;>omega,by rw[oX.2];simp only[aM,b5]<;>omega,by simp only[aM]<;>omega,by rw[oX.1];exact(gn.imp λe he=>he.mono ab).append (aJ.one dc)⟩))⟩,(by dsimp only;simp only[aM,b5]<;>omega)⟩;exact a7 (by dsimp only[Sum.elim];exact⟨by have:=bx.le;omega,ab,by rw[show(wD.1.length:Int)=c4.2.2.2.2.1.1.length by omega];exact gn,rfl⟩)) x ⟨_,_,_,rfl,aj⟩
theorem aIn:∀x:U aj7,(True)->aw (OX x) (λy=>y.1.2.1.1=0->sU y.1.1):=by
 intro x aE;unfold OX;refine ae (OW _ aK) λaz cg=>?_;dsimp only at cg;apply ag<;>intro aC<;>simp only[av] at aC;exact ak (by intro ay;(simp only[aM] at ay;omega));refine ae (v8 _ aK) λaF cz=>?_;dsimp only at cz;apply ag<;>intro aV<;>simp only[av] at aV;exact ak (by intro ay;(simp only[aM] at ay;omega));obtain⟨aPl,aO⟩:=cz aV;have bF:=cg aC;obtain⟨fQ,eQ⟩:=bF.rs _ _ aO;dsimp only at fQ eQ;have aqt:=bF.qy;have hw:oP (x.1.1.1,x.1.1.2.1,x.1.1.2.2.1,x.1.2.1,L.nil,()):=⟨bF,fQ,by simp only[b5,aM]<;>omega,aJ.nil⟩;refine ae (alg _ ⟨hw,by simp only[b5,aM]<;>omega⟩) λaT cF=>?_;dsimp only at cF;apply ag<;>intro bP<;>simp only[av] at bP;exact ak (by intro ay;exact absurd ay bP);obtain⟨ga,dc,fw,sA,vN⟩:=cF bP;refine ae (oR (by(have ai:(S ⟨#[46]⟩).1.size=1:=rfl;omega))) λv4 ot=>?_;refine ae (oR (by(have ai:(S ⟨#[46]⟩).1.size=1:=rfl;omega))) λcV abe=>?_;refine ae (aIk _ ⟨⟨ga,by simp only[b5,aM]<;>omega⟩,⟨ga,sX.refl _,[],by rw[dr]⟩,by simp only[b5,aM]<;>omega,by simp only[b5,aM]<;>omega,by simp only[b5,aM]<;>omega,aJ.nil⟩) λbU dZ=>?_;dsimp only at dZ;refine eg dZ (λcd ff=>?_) (λbY e4=>?_);obtain⟨cr,cI,dw,fe⟩:=ff;exact ak (by intro ay;(exact⟨by dsimp only;rw[fe];have ai:(S ⟨#[46]⟩).1.size=1:=rfl;omega,by dsimp only;omega,cI,dw⟩));exact ak (by intro ay;exact absurd ay e4)
theorem aHk:∀x:U GW,((x.1.1.2.1.1.length<=5)/\((0<=x.1.2.2.1.1)/\(x.1.2.2.1.1<=(x.1.1.2.1.1.length:Int))/\((x.1.2.1.1.length:Int)=x.1.2.2.1.1/\aJ sU x.1.2.1.1)))->aw (a3 OC x) (Sum.elim (λy=>y.1.1.1.length=x.1.1.2.1.1.length/\aJ sU y.1.1.1) (λy=>y.1.2.2.1.1≠0)):=by
 rintro x ⟨an,aj⟩;exact cQ (λz:U GW=>∃cV,∃v6,z=((x.1.1,cV,v6,()),((),()))/\((0<=v6.1)/\(v6.1<=(x.1.1.2.1.1.length:Int))/\((cV.1.length:Int)=v6.1/\aJ sU cV.1))) (λz:U GW=>((x.1.1.2.1.1.length:Int)-z.1.2.2.1.1).toNat) (λz ai=>by
  obtain⟨cV,v6,rfl,aE⟩:=ai;unfold OC;dsimp only
  obtain⟨bx,cX,bH,cJ⟩:=aE;have pO:=L.b x.1.1.2.1;apply ag<;>intro aC<;>simp only[av] at aC;refine bt λaQ cM=>?_;refine ae (aIn _ aK) λaT cF=>?_;dsimp only at cF;apply ag<;>intro aV<;>simp only[av] at aV;exact a7 (by dsimp only[Sum.elim];exact aV);refine ae (du dJ) λjk oW=>?_;exact bz ⟨⟨_,_,rfl,(by(exact⟨by simp only[aM]<;>omega,by simp only[aM]<;>omega,by rw[oW.2];simp only[aM,b5]<;>omega,by rw[oW.1];exact cJ.append (aJ.one (cF aV))⟩))⟩,dX⟩;exact a7 (by dsimp only[Sum.elim];exact⟨ab,cJ⟩)) x ⟨_,_,rfl,aj⟩
theorem Wj:∀x:U ajQ,(True)->aw (BS x) (λy=>y.1.1.1.length<=5/\(y.1.2.2.1.1=0->l7 x.1.1/\y.1.1.1.length=x.1.1.2.1.1.length/\aJ sU y.1.1.1)/\(y.1.2.2.1.1≠0->y.1.1.1=[])):=by
 intro x aE;unfold BS;refine ae (OW _ aK) λaz cg=>?_;dsimp only at cg;apply ag<;>intro aC<;>simp only[av] at aC;exact ak (by dsimp only;exact⟨by simp only[b5,aM]<;>decide,λay=>(by simp only[aM] at ay;omega),λ_=>rfl⟩);have bF:=cg aC;have DJ:=bF.eQ;refine ae (aHk _ (by dsimp only;exact⟨DJ,by simp only[aM]<;>omega,by simp only[aM]<;>omega,rfl,aJ.nil⟩)) λa5 cZ=>?_;dsimp only at cZ;refine eg cZ (λbK dK=>?_) (λbL ez=>?_);exact ak (by dsimp only;exact⟨ab,λ_=>⟨bF,dK⟩,λay=>absurd bk ay⟩);exact ak (by dsimp only;exact⟨by simp only[b5,aM]<;>decide,λay=>absurd ay ez,λ_=>rfl⟩)
end cx
end Go.Proofs.YtgmdfchkljaooaaGreat
