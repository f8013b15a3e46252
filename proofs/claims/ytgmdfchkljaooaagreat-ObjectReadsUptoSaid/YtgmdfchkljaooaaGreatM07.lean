/- A function that holds memory of its own beside the evaluator's. -/
import Derived.Deep.RegionHeld3
import Derived.Deep.DrawnRows
import Derived.StillTailTactics
import Derived.Deep.CutRange
import Derived.Deep.RegionLaw
import Derived.Test.YtgmdfchkljaooaaGreatM01
import Derived.Test.YtgmdfchkljaooaaGreatM04
import Derived.Test.YtgmdfchkljaooaaGreatM06
noncomputable section
namespace Go.Proofs.YtgmdfchkljaooaaGreat
open Go.RowKit
namespace cF
open bI (T cO)
set_option linter.unusedVariables false
abbrev oW:ef:=.box [.leaf (.a4 [.int .i64]),.leaf (.int .i64)]
def nN (d:kX oW):bU:=p0 ⟨[],[oW]⟩ ((),(d,()))
def kQ (m:M)(b:Nat):Prop:=m.dB b=none/\m.fz b=[]
section
variable{aV:Program}{w w':World}{m m':M}{σ bd:bU}
theorem bQ.CO {F:Nat->List Value}(h:bQ m σ w)(ai:w.heap.size<=w'.heap.size)(ah:∀b,b<w.heap.size->¬kQ m b->w'.heap[b]?=w.heap[b]?/\F b=m.fz b)(dI:∀(b j:Nat) v,kQ m b->(F b)[j]?=some v->∃cur ty cm,w'.heap[b]?=some (.cells cur ty cm)/\cur[j]?=some v):
 Ext m {m with fz:=F}/\bQ {m with fz:=F} σ w':=by
 have e:Ext m {m with fz:=F}:=by
  refine⟨λ_ _ h=>h,λ_ _ h=>h,λ_ _ _ _ h=>h,λb j v aT=>?_⟩;obtain⟨cur,ty,cm,aa,_⟩:=h.stay b j v aT;show(F b)[j]?=some v;rw[(ah b (rf aa) λe=>by rw[e.2] at aT;cases aT).2];exact aT
 refine⟨e,⟨h.fresh,λi b aj=>?_,h.inj,λb R k aX=>⟨Nat.lt_of_lt_of_le (h.own b R k aX).1 ai,(h.own b R k aX).2⟩,λb j v aT=>?_⟩⟩
 ·refine(h.live i b aj).frame e rfl rfl (λc k r _ an=>?_) (λ_ _ _ _ an=>an);obtain⟨aa,af⟩:=ah c (h.own c r k an).1 (λe=>by rw[e.1] at an;cases an);exact⟨aa,rfl,af⟩
 ·by_cases b6:kQ m b
  ·exact dI b j v b6 aT
  ·rcases kz b w.heap.size with bl|mw
   ·have aP:=(ah b bl b6).2;obtain⟨cur,ty,cm,aa,af⟩:=h.stay b j v (by rw[<-aP];exact aT);exact⟨cur,ty,cm,(ah b bl b6).1.trans aa,af⟩
   ·exact absurd ⟨h.agK mw,h.wT mw⟩ b6
theorem bQ.rU (h:bQ m σ w){b:Nat}(ah:w.heap.size<=b):kQ m b:=⟨h.agK ah,h.wT ah⟩
structure K (c8:M)(d0:kX oW)(w0:World)(m:M)(d:kX oW)(w:World):Prop where
  ba:bQ c8 (nN d0) w0
  aU:bQ m (nN d) w
  st:Step c8 (nN d0) w0 m (nN d) w
variable{c8:M}{d0 d d':kX oW}{w0:World}
theorem K.CO {F:Nat->List Value}(h:K c8 d0 w0 m d w)(tC:w'.os=w.os/\w'.tape=w.tape/\w'.output=w.output)(ai:w.heap.size<=w'.heap.size)(ah:∀b,b<w.heap.size->¬kQ m b->w'.heap[b]?=w.heap[b]?/\F b=m.fz b)(dI:∀(b j:Nat) v,kQ m b->(F b)[j]?=some v->∃cur ty cm,w'.heap[b]?=some (.cells cur ty cm)/\cur[j]?=some v)(Kp:∀b,b<w0.heap.size->w'.heap[b]?=w.heap[b]?/\F b=m.fz b):Ext m {m with fz:=F}/\K c8 d0 w0 {m with fz:=F} d w':=by
 obtain⟨e,af⟩:=h.aU.CO ai ah dI;refine⟨e,h.ba,af,⟨h.st.iK.trans ⟨e,λ_ _=>rfl⟩ (Nat.le_refl _),?_,h.st.next,h.st.CS⟩⟩;have k:=h.st.gF;refine⟨tC.1.trans k.os,tC.2.1.trans k.tape,tC.2.2.trans k.output,jF k.size ai,k.fz.trans e.fz,λb ah b6=>?_,k.own⟩;obtain⟨aa,af,ax,a8⟩:=k.kept b ah b6;exact⟨(Kp b ah).1.trans aa,(Kp b ah).2.trans af,ax,a8⟩
theorem K.world (h:K c8 d0 w0 m d w)(tC:w'.os=w.os/\w'.tape=w.tape/\w'.output=w.output)(ai:w.heap.size<=w'.heap.size)(ah:∀b,b<w.heap.size->¬kQ m b->w'.heap[b]?=w.heap[b]?)(Kp:∀b,b<w0.heap.size->w'.heap[b]?=w.heap[b]?):K c8 d0 w0 m d w':=
 (h.CO (F:=m.fz) tC ai (λb aa af=>⟨ah b aa af,rfl⟩) (λb j v bL aT=>by rw[bL.2] at aT;cases aT) λb aa=>⟨Kp b aa,rfl⟩).2
theorem K.below (h:K c8 d0 w0 m d w)(ah:Below w.heap.size w w'):K c8 d0 w0 m d w':=h.world ⟨ah.os,ah.tape,ah.output⟩ ah.size (λb aa _=>ah.block b aa) λb aa=>ah.block b (Nat.lt_of_lt_of_le aa h.st.gF.size)
theorem avn {σ:bU}{b:Nat}(h:kQ m b):¬CF m σ b:=λ⟨R,k,i,x,aa,_⟩=>by rw[h.1] at aa;cases aa
theorem K.call (h:K c8 d0 w0 m d w)(s:Step m (nN d) w m' (nN d') w')(af:bQ m' (nN d') w'):
 K c8 d0 w0 m' d' w'/\Ext m m'/\w.heap.size<=w'.heap.size/\∀b,b<w.heap.size->kQ m b->w'.heap[b]?=w.heap[b]?/\kQ m' b:=by
 refine⟨⟨h.ba,af,h.st.trans h.ba s⟩,s.iK.ext,s.gF.size,λb ah bL=>?_⟩;obtain⟨aa,af,ax,a8⟩:=s.gF.kept b ah (avn bL);exact⟨aa,ax.trans bL.1,af.trans bL.2⟩
theorem K.pl (h:K c8 d0 w0 m d w){r:Nat}(aU:c8.pl 0=some r):m.pl 0=some r:=(h.st.iK.pl 0 (by show 0<1;omega)).trans aU
theorem ud.run {f:Nat}{e:oJ}(h:ud aV f e){args:List V}{z:List V×bU}{x:U e.dE×List Nat}{y:U e.out}(ai:vT e.dE args σ=some z)(aO:yg e.dE z.1 z.2=some x)(cf:e.g x.1=some y)(bZ:z6 z.2 x.2 e.out.blocks=true)(vs:Array Value)(bh:bQ m σ w)(aT:cO (eo m) args vs.toList):
 Calls aV f vs w λex w'=>∃m' en,ex=.returned en/\Step m σ w m' (vX z.2 x.2 e.out y) w'/\bQ m' (vX z.2 x.2 e.out y) w'/\eo m' (XK (Fg z.2 x.2 e.out y)) en:=by
 obtain⟨eB,s1,bn,cW⟩:=Lx ai bh aT;obtain⟨aE,aP,bS,cR,dO,db,fm,dD⟩:=JM (x:=x.1) (ids:=x.2) aO bn cW;obtain⟨aI,aQ⟩:=h x.1 y cf _ w vs db dD fm;refine aQ.mono ?_;rintro ex w' ⟨cX,fk,us,rfl,cx,cI,dw⟩;obtain⟨eR,g_,gl,jl⟩:=KT bn aP bS cR (by rw[aE];rfl) dO cI cx (by rw[aE];exact dw) bZ;exact⟨eR,_,rfl,s1.trans bh gl,g_,amK (R9 _ _ _) jl⟩
theorem dU.am9 {l:L (D [.str])}{v:Value}(bj:dU m.fz (.a4 [.str]) l v){i:Nat}{e:D [.str]}(aj:l.1[i]?=some e):
 ∃b o c,v=.slice (some ⟨b,o,none⟩) l.1.length c/\l.1.length<=c/\(m.fz b)[o+i]?=some (.string e.1.1):=by
 simp only[dU] at bj;obtain⟨A,c,rfl,aa,af⟩:=bj;obtain⟨b,o,rfl,ax⟩:=af (by rintro aP;rw[aP] at aj;cases aj);have:=ax i e aj;simp only[ix,dU] at this;obtain⟨⟨v,a8,rfl⟩,_⟩:=this;exact⟨b,o,c,rfl,aa,by simpa using a8⟩
theorem bQ.cellOf (h:bQ m σ w){b j:Nat}{v:Value}(aT:(m.fz b)[j]?=some v):w.cell? ⟨b,j,none⟩=some v:=by
 obtain⟨cur,ty,cm,aa,af⟩:=h.stay b j v aT;unfold World.cell?;simp[aa,af]
abbrev gS:=D ff
abbrev qc:=D dN
def z4 (a:qc):List Value:=[.string a.1.1,.int .i64 a.2.1.1,.string a.2.2.1.1,.int .i64 a.2.2.2.1.1]
def mO (p:gS):List Value:=p.2.2.1.1.flatMap z4
def qy (b:Nat)(p:gS):Value:=if p.2.2.1.1=[] then .slice none 0 0 else .slice (some ⟨b,0,none⟩) p.2.2.1.1.length p.2.2.1.1.length
def lW (e:Nat×gS):List Value:=[.string e.2.1.1,.string e.2.2.1.1,qy e.1 e.2]
theorem aot (a:qc):(z4 a).length=4:=rfl
theorem agV (e:Nat×gS):(lW e).length=3:=rfl
def mQ (A:Option Addr):Option Nat:=A.map (·.block)
structure nH (kL kg j3:TypeId)(m:M)(w:World)(dA q:Nat)(fQ ro:Value)(A:Option Addr)(c:Nat)(ct:List (Nat×gS)):Prop where
  nX:ja w q #[fQ,ro,.slice A ct.length c] kL
  aA:q<dA
  qA:dA<=w.heap.size
  MD:kQ m q
  row:w.ownsRow dA kg 3 (.slice A ct.length c) ct.length (ct.flatMap lW)
  an:ct.length<=c
  rU:∀g,mQ A=some g->kQ m g
  el:∀e∈ct,dA<=e.1/\e.1<w.heap.size/\kQ m e.1/\some e.1≠mQ A/\(e.2.2.2.1.1≠[]->ja w e.1 (mO e.2).toArray j3)
  vS:(ct.map (·.1)).Nodup
variable{kL kg j3:TypeId}{dA q:Nat}{fQ ro:Value}{A eZ:Option Addr}{c c':Nat}{ct:List (Nat×gS)}
theorem vY (A:Option Addr)(n c:Nat):(Value.slice A n c).ownBlock=mQ A:=by cases A<;>rfl
theorem nH.wj (h:nH kL kg j3 m w dA q fQ ro A c ct){g:Nat}(cj:mQ A=some g):dA<=g/\g<w.heap.size:=h.row.lt g (by rw[vY];exact cj)
theorem nH.KK (h:nH kL kg j3 m w dA q fQ ro A c ct)(ai:w.heap.size<=w'.heap.size)(aX:∀b,b<w.heap.size->kQ m b->w'.heap[b]?=w.heap[b]?/\kQ m' b):nH kL kg j3 m' w' dA q fQ ro A c ct:=by
 have aA:=aX q h.nX.lt h.MD;refine⟨aA.1.trans h.nX,h.aA,jF h.qA ai,aA.2,⟨h.row.1,?_⟩,h.an,λg cj=>(aX g (h.wj cj).2 (h.rU g cj)).2,λe he=>?_,h.vS⟩
 ·rcases h.row.2 with ba|⟨g,cap,cur,aa,af,ax,a8⟩
  ·exact .inl ba
  ·have dH:=aa;injection dH with dH _ _
   have SI:mQ A=some g:=by rw[dH];rfl
   exact .inr ⟨g,cap,cur,aa,af,(aX g (h.wj SI).2 (h.rU g SI)).1.trans ax,a8⟩
 ·obtain⟨aa,af,ax,a8,cn⟩:=h.el e he;have:=aX e.1 af ax;exact⟨aa,Nat.lt_of_lt_of_le af ai,this.2,a8,λaz=>this.1.trans (cn az)⟩
theorem nH.add (h:nH kL kg j3 m w dA q fQ ro A c ct)(bh:K c8 d0 w0 m d w)(qA:w0.heap.size<=q){eX gj:World}(ah:Below w.heap.size w eX){b:Nat}{p:gS}(aD:w.heap.size<=b)(aR:b<eX.heap.size)(bZ:p.2.2.1.1≠[]->ja eX b (mO p).toArray j3)(cj:eX.grownBy gj (Value.slice A ct.length c).ownBlock)(b6:gj.ownsRow dA kg 3 (.slice eZ (ct.length+1) c') (ct.length+1) (ct.flatMap lW++lW (b,p)))(lf:(Value.slice eZ (ct.length+1) c').ownBlock=(Value.slice A ct.length c).ownBlock\/(Value.slice eZ (ct.length+1) c').ownBlock=some eX.heap.size)(kp:ct.length+1<=c'):
 nH kL kg j3 m (gj.setCell ⟨q,2,none⟩ (.slice eZ (ct.length+1) c')) dA q fQ ro eZ c' (ct++[(b,p)])/\K c8 d0 w0 m d (gj.setCell ⟨q,2,none⟩ (.slice eZ (ct.length+1) c')):=by
 rw[vY] at cj lf;rw[vY] at lf;have Th:=ah.size;have aQq:=cj.size;have Te:=h.nX.lt;have yR:=h.aA;have aqk:some q≠mQ A:=λe=>by have:=(h.wj e.symm).1;omega
 have aQz:(gj.setCell ⟨q,2,none⟩ (.slice eZ (ct.length+1) c')).heap.size=gj.heap.size:=by simp[World.setCell]
 have mr:∀k,k<w.heap.size->k≠q->some k≠mQ A->(gj.setCell ⟨q,2,none⟩ (.slice eZ (ct.length+1) c')).heap[k]?=w.heap[k]?:=λk aa af ax=>by
  rw[Below.heap_setCell _ _ _ _ af,cj.block k ab ax,ah.block k aa]
 have avd:∀g,mQ eZ=some g->kQ m g:=λg e=>by
  rcases lf with aa|aa
  ·exact h.rU g (aa.symm.trans e)
  ·rw[e] at aa;injection aa with aa
   exact bh.aU.rU ab
 refine⟨⟨?_,h.aA,by have:=h.qA;omega,h.MD,?_,by simpa using kp,avd,λe he=>?_,?_⟩,bh.world ?_ ab (λk aa af=>mr k aa (λe=>af (e▸h.MD)) λe=>af (h.rU k e.symm)) λk aa=>?_⟩
 ·have dM:ja gj q #[fQ,ro,.slice A ct.length c] kL:=(cj.block q ab aqk).trans ((ah.block q Te).trans h.nX);have:=dM.IK 2 (.slice eZ (ct.length+1) c');simpa using this
 ·rw[bw,List.length_singleton,List.flatMap_append];simp only[List.flatMap_cons,List.flatMap_nil,dr];exact ownsRow_setCell_below b6 yR _
 ·rcases List.mem_append.1 he with he|he
  ·obtain⟨aa,af,ax,a8,cn⟩:=h.el e he;have eN:e.1≠q:=ab;refine⟨aa,ab,ax,λaP=>?_,λaz=>(mr e.1 af eN a8).trans (cn az)⟩;rcases lf with g|g
   ·exact a8 (aP.trans g)
   ·rw[<-aP] at g;injection g with g;omega
  ·obtain rfl:=List.mem_singleton.1 he;have eN:some b≠mQ A:=λe=>by have:=(h.wj e.symm).2;omega
   refine⟨by have:=h.qA;show dA<=b;omega,by show b<_;omega,bh.aU.rU aD,λaP=>?_,λaz=>?_⟩
   ·rcases lf with g|g
    ·exact eN (aP.trans g)
    ·rw[<-aP] at g;injection g with g
     have g:b=eX.heap.size:=g;omega
   ·have aa:=bZ az;show(gj.setCell ⟨q,2,none⟩ (.slice eZ (ct.length+1) c')).heap[b]?=_;rw[Below.heap_setCell _ _ _ _ (show b≠q by omega),cj.block b aR eN];exact aa
 ·rw[List.map_append,List.nodup_append];refine⟨h.vS,by simp,λx aO y cf=>?_⟩;obtain⟨e,he,rfl⟩:=List.mem_map.1 aO;have:=(h.el e he).2.1;simp at cf;omega
 ·exact⟨cj.os.trans ah.os,cj.tape.trans ah.tape,cj.output.trans ah.output⟩
 ·have ai:=bh.st.gF.size;refine mr k ab ab λe=>?_;have:=(h.wj e.symm).1;omega
theorem nH.QQ {dF ea:List (Nat×gS)}{b j:Nat}{p p':gS}{v:Value}(h:nH kL kg j3 m w dA q fQ ro A c (dF++(b,p)::ea))(bh:K c8 d0 w0 m d w)(qA:w0.heap.size<=q)(az:p.2.2.1.1≠[])(aT:mO p'=(mO p).set j v)(aE:p'.1=p.1)(aP:p'.2.1=p.2.1)(bS:p'.2.2.1.1.length=p.2.2.1.1.length):
 nH kL kg j3 m (w.setCell ⟨b,j,none⟩ v) dA q fQ ro A c (dF++(b,p')::ea)/\K c8 d0 w0 m d (w.setCell ⟨b,j,none⟩ v):=by
 obtain⟨bn,bB,dc,ek,iU⟩:=h.el (b,p) (by simp);have iU:=iU az;have yR:=h.aA;have tA:p'.2.2.1.1≠[]:=λe=>az (List.length_eq_zero_iff.1 (by rw[<-bS,e];rfl));have mr:∀k,k≠b->(w.setCell ⟨b,j,none⟩ v).heap[k]?=w.heap[k]?:=λk aX=>Below.heap_setCell _ _ _ _ aX;have ai:(w.setCell ⟨b,j,none⟩ v).heap.size=w.heap.size:=by simp[World.setCell]
 have cJ:lW (b,p')=lW (b,p):=by
  unfold lW qy;rw[if_neg az,if_neg tA,aE,aP,bS]
 have Sg:(dF++(b,p')::ea).length=(dF++(b,p)::ea).length:=by simp
 have api:(dF++(b,p')::ea).flatMap lW=(dF++(b,p)::ea).flatMap lW:=by simp[List.flatMap_append,cJ]
 have emap:(dF++(b,p')::ea).map (·.1)=(dF++(b,p)::ea).map (·.1):=by simp
 refine⟨⟨?_,h.aA,by rw[ai];exact h.qA,h.MD,?_,by rw[Sg];exact h.an,h.rU,λe he=>?_,by rw[emap];exact h.vS⟩,bh.world ⟨rfl,rfl,rfl⟩ ab (λk _ af=>mr k λe=>af (e▸dc)) λk aa=>mr k ab⟩
 ·rw[Sg];exact(mr q ab).trans h.nX
 ·rw[Sg,api];refine⟨h.row.1,?_⟩;rcases h.row.2 with ba|⟨g,cap,cur,aa,af,ax,a8⟩
  ·exact .inl ba
  ·have dH:=aa;injection dH with dH _ _
   exact .inr ⟨g,cap,cur,aa,af,(mr g λe=>ek (by rw[dH,<-e];rfl)).trans ax,a8⟩
 ·have vW:∀e∈dF++ea,dA<=e.1/\e.1<(w.setCell ⟨b,j,none⟩ v).heap.size/\kQ m e.1/\some e.1≠mQ A/\(e.2.2.2.1.1≠[]->ja (w.setCell ⟨b,j,none⟩ v) e.1 (mO e.2).toArray j3):=λe he=>by
   obtain⟨aI,aQ,bq,cA,eP⟩:=h.el e (by rcases List.mem_append.1 he with aa|aa<;>simp[aa]);refine⟨aI,by rw[ai];exact aQ,bq,cA,λaz=>(mr e.1 λcR=>?_).trans (eP az)⟩;have AG:=h.vS;rw[List.map_append,List.map_cons,List.nodup_append] at AG;obtain⟨_,rP,T5⟩:=AG;rcases List.mem_append.1 he with aa|aa
   ·exact T5 e.1 (List.mem_map_of_mem aa) b (by simp) cR
   ·have a8:e.1∈ea.map (·.1):=List.mem_map_of_mem aa;rw[cR] at a8;exact(List.nodup_cons.1 rP).1 a8
  rcases List.mem_append.1 he with aa|aa
  ·exact vW e (List.mem_append_left _ aa)
  ·rcases List.mem_cons.1 aa with rfl|aa
   ·refine⟨bn,by rw[ai];exact bB,dc,ek,λ_=>?_⟩;have:=iU.IK j v;rw[show(mO p').toArray=(mO p).toArray.setIfInBounds j v by rw[aT];simp];exact this
   ·exact vW e (List.mem_append_right _ aa)
theorem JT {α:Type}(f:α->List Value)(k:Nat)(bE:∀x,(f x).length=k):∀(l:List α)(i:Nat)(x:α)(m:Nat),l[i]?=some x->m<k->(l.flatMap f)[i*k+m]?=(f x)[m]?
 |[],i,x,m,aj,_=>by simp at aj
 |y::l,0,x,m,aj,hm=>by
  simp at aj;subst aj;rw[List.flatMap_cons,Nat.zero_mul,gd,mL (by rw[bE];exact hm)]
 |y::l,i+1,x,m,aj,hm=>by
  have e:(i+1)*k+m=k+(i*k+m):=by rw[Nat.succ_mul];omega
  rw[List.flatMap_cons,e,mM (by rw[bE];omega),bE,show k+(i*k+m)-k=i*k+m by omega,JT f k bE l i x m (by simpa using aj) hm]
theorem aay:∀{l:List (Nat×gS)}{e:Nat×gS},(l.map (·.1)).Nodup->e∈l->l.find? (λx=>x.1==e.1)=some e
 |x::l,e,az,he=>by
  rw[List.map_cons,List.nodup_cons] at az;rcases List.mem_cons.1 he with rfl|aa
  ·simp
  ·rw[List.find?_cons_of_neg,aay az.2 aa];have:x.1≠e.1:=λaP=>az.1 (aP▸List.mem_map_of_mem aa);simpa using this
theorem nH.done (h:nH kL kg j3 m w dA q fQ ro A c ct)(bh:K c8 d0 w0 m d w)(qA:w0.heap.size<=q)(l:L gS)(aW:l.1=ct.map (·.2)):
 ∃m',Ext m m'/\K c8 d0 w0 m' d w/\dU m'.fz (.a4 ff) l (.slice A ct.length c)/\∀b,b<dA->kQ m b->kQ m' b:=by
 classical
 have yR:=h.aA
 let F:Nat->List Value:=λb=>if mQ A=some b then ct.flatMap lW else match ct.find? (λe=>e.1==b) with
  |some e=>(if e.2.2.2.1.1=[] then[] else mO e.2)
  |none=>m.fz b
 have Yr:∀g,mQ A=some g->F g=ct.flatMap lW:=λg cj=>if_pos cj;have oJ:∀e∈ct,F e.1=if e.2.2.2.1.1=[] then[] else mO e.2:=λe he=>by
  show(if mQ A=some e.1 then _ else _)=_;rw[if_neg λaP=>(h.el e he).2.2.2.1 aP.symm,aay h.vS he]
 have I7:∀b,(mQ A≠some b)->(∀e∈ct,e.1≠b)->F b=m.fz b:=λb aa af=>by
  show(if mQ A=some b then _ else _)=_;rw[if_neg aa,List.find?_eq_none.2 λe he=>by simpa using af e he]
 have SP:∀b,mQ A=some b\/(∃e∈ct,e.1=b)\/(mQ A≠some b/\∀e∈ct,e.1≠b):=λb=>by
  by_cases aa:mQ A=some b
  ·exact .inl aa
  ·by_cases af:∃e∈ct,e.1=b
   ·exact .inr (.inl af)
   ·exact .inr (.inr ⟨aa,λe he aP=>af ⟨e,he,aP⟩⟩)
 obtain⟨e,k⟩:=bh.CO (F:=F) (w':=w) ⟨rfl,rfl,rfl⟩ (Nat.le_refl _) (λb _ bL=>⟨rfl,by
  rcases SP b with aa|⟨e,he,aa⟩|aa
  ·exact absurd (h.rU b aa) bL
  ·exact absurd (aa▸(h.el e he).2.2.1) bL
  ·exact I7 b aa.1 aa.2⟩) (λb j v bL aT=>by
  rcases SP b with aa|⟨e,he,aa⟩|aa
  ·rw[Yr b aa] at aT;rcases h.row.2 with⟨ba,yp⟩|⟨g,cap,cur,aI,aQ,bq,cA,eP,fy,gz⟩
   ·have:ct=[]:=List.length_eq_zero_iff.1 yp;rw[this] at aT;simp at aT
   ·injection aI with dH _ _
    rw[dH] at aa;injection aa with aa
    have aa:g=b:=aa;subst aa;refine⟨cur,_,_,bq,?_⟩;rw[<-gz,List.getElem?_take] at aT;split at aT
    ·simpa using aT
    ·cases aT
  ·subst aa;rw[oJ e he] at aT;split at aT
   ·simp at aT
   ·rename_i az;exact⟨_,_,_,(h.el e he).2.2.2.2 az,by simpa using aT⟩
  ·rw[I7 b aa.1 aa.2,bL.2] at aT;cases aT) (λb ah=>⟨rfl,by
  rcases SP b with aa|⟨e,he,aa⟩|aa
  ·have:=(h.wj aa).1;omega
  ·have:=(h.el e he).1;omega
  ·exact I7 b aa.1 aa.2⟩)
 refine⟨_,e,k,?_,λb ah bL=>⟨bL.1,?_⟩⟩
 ·simp only[dU];refine⟨A,c,by rw[aW,List.length_map],by rw[aW,List.length_map];exact h.an,λeN=>?_⟩;rcases h.row.2 with⟨ba,yp⟩|⟨g,cap,cur,aI,aQ,bq,cA,eP,fy,gz⟩
  ·refine absurd ?_ eN;rw[aW,List.length_eq_zero_iff.1 yp];rfl
  ·injection aI with dH _ _
   refine⟨g,0,dH,λi x aj=>?_⟩;rw[aW,List.getElem?_map] at aj;obtain⟨e,he,rfl⟩:=Option.map_eq_some_iff.1 aj;have hm:e∈ct:=List.mem_of_getElem? he;have at_:∀m,m<3->(F g)[0+i*3+m]?=(lW e)[m]?:=λm hm=>by
    rw[Yr g (by rw[dH];rfl),gd];exact JT lW 3 agV ct i e m he hm
   have ba:=at_ 0 ab;have aa:=at_ 1 ab;have af:=at_ 2 ab;simp only[ix,gX,cd,and_true];refine⟨⟨_,ba,rfl⟩,⟨_,aa,rfl⟩,⟨_,af,?_⟩⟩;show dU F (.a4 dN) e.2.2.2.1 (qy e.1 e.2);unfold qy;simp only[dU];split
   ·rename_i az;exact⟨none,0,by rw[az];rfl,by rw[az];exact Nat.le_refl _,λeN=>absurd az eN⟩
   ·rename_i az;refine⟨_,_,rfl,Nat.le_refl _,λ_=>⟨e.1,0,rfl,λi a bZ=>?_⟩⟩;have at_:∀m,m<4->(F e.1)[0+i*4+m]?=(z4 a)[m]?:=λm ary=>by
     rw[oJ e hm,if_neg az,gd];exact JT z4 4 aot _ i a m bZ ary
    have a0:=at_ 0 ab;have dK:=at_ 1 ab;have dh:=at_ 2 ab;have gT:=at_ 3 ab;simp only[ix,gX,cd,and_true];exact⟨⟨_,a0,rfl⟩,⟨_,dK,rfl⟩,⟨_,dh,rfl⟩,⟨_,gT,rfl⟩⟩
 ·rw[<-bL.2];refine I7 b (λe=>?_) λe he aP=>?_
  ·have:=(h.wj e).1;omega
  ·have:=(h.el e he).1;omega
def rv (l:List (D [.str])):List Value:=l.map λe=>.string e.1.1
theorem aN9 {l:L (D [.str])}{n:Nat}(bj:dU m.fz (.a4 [.str]) l (.slice A n c))(h:bQ m σ w):n=l.1.length/\n<=c/\kx w A (rv l.1):=by
 simp only[dU] at bj;obtain⟨eZ,c',aa,af,ax⟩:=bj;injection aa with aE aP bS
 subst aE bS;refine⟨aP,ab,λaz=>?_⟩;obtain⟨b,o,rfl,a8⟩:=ax (λe=>az (by unfold rv;rw[e];rfl));have at_:∀i u,(rv l.1)[i]?=some u->(m.fz b)[o+i]?=some u:=λi u hu=>by
  unfold rv at hu;rw[List.getElem?_map] at hu;obtain⟨e,he,rfl⟩:=Option.map_eq_some_iff.1 hu;have:=a8 i e he;simp only[ix,dU] at this;obtain⟨⟨v,a8,rfl⟩,_⟩:=this;simpa using a8
 refine⟨b,o,rfl,?_,λi u hu=>h.cellOf (at_ i u hu)⟩;cases aO:rv l.1 with
 |nil=>exact absurd aO az
 |cons a t=>
  obtain⟨cur,ty,cm,aI,_⟩:=h.stay b _ _ (at_ 0 a (by rw[aO];rfl));exact rf aI
theorem ayz (l:List (D [.str])):∀u∈rv l,u.oneCell'=true:=by
 intro u hu;obtain⟨s,_,rfl⟩:=List.mem_map.1 hu;rfl
theorem K.row {e:TypeId}{n base:Nat}{l:L (D [.str])}(bh:K c8 d0 w0 m d w)(b6:w.ownsRow base e 1 (.slice A n c) n (rv l.1))(bL:∀g,mQ A=some g->kQ m g/\w0.heap.size<=g):
 ∃m',Ext m m'/\K c8 d0 w0 m' d w/\dU m'.fz (.a4 [.str]) l (.slice A n c)/\∀b,some b≠mQ A->kQ m b->kQ m' b:=by
 have az:n=l.1.length:=by have:=b6.1;unfold rv at this;simp at this;omega
 rcases b6.2 with⟨ba,yp⟩|⟨g,cap,cur,aI,aQ,bq,cA,eP,fy,gz⟩
 ·refine⟨m,Ext.refl _,bh,?_,λb _ h=>h⟩;rw[ba];have:l=L.nil:=Subtype.ext (List.length_eq_zero_iff.1 (by rw[<-az];exact yp));rw[this];exact dU.nil _ _
 ·injection aI with dH _ aqW
  subst dH aqW;obtain⟨eS,fI⟩:=bL g rfl;obtain⟨ex,k⟩:=bh.CO (F:=λb=>if b=g then rv l.1 else m.fz b) (w':=w) ⟨rfl,rfl,rfl⟩ (Nat.le_refl _) (λb _ ah=>⟨rfl,if_neg (show¬b=g fromλaP=>ah (by rw[aP];exact eS))⟩) (λb j v ah aT=>by
   split at aT
   ·rename_i At;subst At;refine⟨cur,_,_,bq,?_⟩;rw[<-gz,List.getElem?_take] at aT;split at aT
    ·simpa using aT
    ·cases aT
   ·rw[ah.2] at aT;cases aT) (λb ah=>⟨rfl,if_neg ab⟩)
  refine⟨_,ex,k,?_,λb ah bL=>⟨bL.1,(if_neg λe=>ah (by rw[e];rfl)).trans bL.2⟩⟩;simp only[dU];refine⟨_,_,by rw[az],ab,λ_=>⟨g,0,rfl,λi x aj=>?_⟩⟩;simp only[ix,dU,and_true];refine⟨_,?_,rfl⟩;rw[if_pos trivial];unfold rv;rw[List.getElem?_map];simp[aj]
def r3 (m:M)(w:World)(m':M)(w':World):Prop:=Ext m m'/\w.heap.size<=w'.heap.size/\∀b,b<w.heap.size->kQ m b->w'.heap[b]?=w.heap[b]?/\kQ m' b
theorem r3.below (ah:Below w.heap.size w w'):r3 m w m w':=⟨Ext.refl _,ah.size,λb aa af=>⟨ah.block b aa,af⟩⟩
structure uj (c8:M)(d0:kX oW)(w0:World)(t8 t9:TypeId)(gG jO:Nat)(iO kO:Array Value)(cg eK:L (D [.str]))(ro u:Value)(m:M)(d:kX oW)(w:World):Prop where
  k:K c8 d0 w0 m d w
  lq:ja w gG iO t8
  rn:kQ m gG
  CP:ja w jO kO t9
  nX:kQ m jO
  ro:dU m.fz (.a4 [.str]) cg ro
  eK:dU m.fz (.a4 [.str]) eK u
theorem uj.call {t8 t9:TypeId}{gG jO:Nat}{iO kO:Array Value}{cg eK:L (D [.str])}{ro u:Value}(h:uj c8 d0 w0 t8 t9 gG jO iO kO cg eK ro u m d w)(k:K c8 d0 w0 m' d' w')(s:r3 m w m' w'):uj c8 d0 w0 t8 t9 gG jO iO kO cg eK ro u m' d' w':=by
 have ez:=s.2.2 gG h.lq.lt h.rn;have dM:=s.2.2 jO h.CP.lt h.nX;exact⟨k,ez.1.trans h.lq,ez.2,dM.1.trans h.CP,dM.2,h.ro.ext s.1.fz,h.eK.ext s.1.fz⟩
theorem uj.below {t8 t9:TypeId}{gG jO:Nat}{iO kO:Array Value}{cg eK:L (D [.str])}{ro u:Value}(h:uj c8 d0 w0 t8 t9 gG jO iO kO cg eK ro u m d w)(ah:Below w.heap.size w w'):uj c8 d0 w0 t8 t9 gG jO iO kO cg eK ro u m d w':=h.call (h.k.below ah) (r3.below ah)
theorem rowAt {l:L (D [.str])}{n:Nat}(bj:dU m.fz (.a4 [.str]) l (.slice A n c))(eN:l.1≠[]):∃b o,A=some ⟨b,o,none⟩/\∀(i:Nat) e,l.1[i]?=some e->(m.fz b)[o+i]?=some (.string e.1.1):=by
 simp only[dU] at bj;obtain⟨eZ,c',aa,af,ax⟩:=bj;injection aa with aE aP bS
 subst aE;obtain⟨b,o,rfl,a8⟩:=ax eN;refine⟨b,o,rfl,λi e he=>?_⟩;have:=a8 i e he;simp only[ix,dU] at this;obtain⟨⟨v,a8,rfl⟩,_⟩:=this;simpa using a8
theorem amQ {l:L (D [.str])}{i:Nat}(h:i<l.1.length):∃e,l.1[i]?=some e/\e.1=gp l i:=by
 refine⟨l.1[i],fG h,?_⟩;unfold gp;rw[fG h];rfl
theorem kx.two (w:World)(a p:Array Value)(j3 kg:TypeId):kx ((w.alloc (.cells a j3)).alloc (.cells p kg)) (some ⟨w.heap.size+1,0,none⟩) p.toList:=by
 have:=kx.new (w.alloc (.cells a j3)) p kg;simpa using this
theorem nH.pre (h:nH kL kg j3 m w dA q fQ ro A c ct){eX gj:World}(ah:Below w.heap.size w eX)(cj:eX.grownBy gj (Value.slice A ct.length c).ownBlock):ja gj q #[fQ,ro,.slice A ct.length c] kL:=by
 rw[vY] at cj;have Th:=ah.size;have Te:=h.nX.lt;have yR:=h.aA;exact(cj.block q ab (λe=>by have:=(h.wj e.symm).1;omega)).trans ((ah.block q Te).trans h.nX)
theorem RH (w:World)(a b:Obj):Below w.heap.size w ((w.drew.alloc a).alloc b):=
 ((Below.refl w.heap.size w).drew.alloc (Nat.le_refl _) a).alloc (by rw[World.size_alloc];exact Nat.le_succ _) b
theorem r_ (w:World)(a b:Obj):Below w.heap.size w ((w.alloc a).alloc b):=
 ((Below.refl w.heap.size w).alloc (Nat.le_refl _) a).alloc (by rw[World.size_alloc];exact Nat.le_succ _) b
theorem Ef (w:World)(a b:Obj):w.heap.size<((w.alloc a).alloc b).heap.size:=by
 rw[World.size_alloc,World.size_alloc];omega
theorem Tw {n:Nat}(h:n<=100):(a_.w .i64 (n:Int)).1=(n:Int):=by
 have aa:IntKind.i64.min<=(n:Int)/\(n:Int)<=IntKind.i64.max:=by
  simp[IntKind.min,IntKind.max,IntKind.bits,IntKind.signed]<;>omega
 exact Co aa
theorem aOD (w:World)(a b:Obj):w.heap.size<((w.drew.alloc a).alloc b).heap.size:=by
 rw[World.size_alloc,World.size_alloc];show w.heap.size<w.heap.size+1+1;omega
theorem uj.start {t8:TypeId}{gG jO:Nat}{iO:Array Value}{cg eK:L (D [.str])}{u:Value}(h:uj c8 d0 w0 t8 kL gG jO iO #[fQ,ro,.slice none 0 0] cg eK ro u m d w):nH kL kg j3 m w w.heap.size jO fQ ro none 0 []:=
 ⟨h.CP,h.CP.lt,Nat.le_refl _,h.nX,World.ownsRow_nil _ _ _ _,Nat.le_refl _,λg cj=>(by cases cj),λe he=>absurd he List.not_mem_nil,List.nodup_nil⟩
theorem UI {b:Nat}{p:gS}{a:qc}{l:List qc}(h:p.2.2.1.1=a::l):lW (b,p)=[.string p.1.1,.string p.2.1.1,.slice (some ⟨b,0,none⟩) (l.length+1) (l.length+1)]:=by
 unfold lW qy;rw[if_neg (by rw[h];simp),h];rfl
structure mZ (c8:M)(d0:kX oW)(w0:World)(kL kg j3:TypeId)(gG jO dA:Nat)(iO:Array Value)(fQ:Value)(cg eK:L (D [.str]))(ro u:Value)(A:Option Addr)(c:Nat)(ct:List (Nat×gS))(m:M)(d:kX oW)(w:World):Prop where
  k:K c8 d0 w0 m d w
  ji:nH kL kg j3 m w dA jO fQ ro A c ct
  lq:ja w gG iO kL
  rn:kQ m gG
  ez:gG<jO
  ba:w0.heap.size<=gG
  ro:dU m.fz (.a4 [.str]) cg ro
  eK:dU m.fz (.a4 [.str]) eK u
section
variable{gG jO:Nat}{iO:Array Value}{cg eK:L (D [.str])}{u:Value}
theorem mZ.call (h:mZ c8 d0 w0 kL kg j3 gG jO dA iO fQ cg eK ro u A c ct m d w)(k:K c8 d0 w0 m' d' w')(s:r3 m w m' w'):mZ c8 d0 w0 kL kg j3 gG jO dA iO fQ cg eK ro u A c ct m' d' w':=by
 have ez:=s.2.2 gG h.lq.lt h.rn;exact⟨k,h.ji.KK s.2.1 s.2.2,ez.1.trans h.lq,ez.2,h.ez,h.ba,h.ro.ext s.1.fz,h.eK.ext s.1.fz⟩
theorem mZ.below (h:mZ c8 d0 w0 kL kg j3 gG jO dA iO fQ cg eK ro u A c ct m d w)(ah:Below w.heap.size w w'):mZ c8 d0 w0 kL kg j3 gG jO dA iO fQ cg eK ro u A c ct m d w':=h.call (h.k.below ah) (r3.below ah)
theorem mZ.add (h:mZ c8 d0 w0 kL kg j3 gG jO dA iO fQ cg eK ro u A c ct m d w){eX gj:World}(ah:Below w.heap.size w eX){b:Nat}{p:gS}(aD:w.heap.size<=b)(aR:b<eX.heap.size)(bZ:p.2.2.1.1≠[]->ja eX b (mO p).toArray j3)(cj:eX.grownBy gj (Value.slice A ct.length c).ownBlock)(b6:gj.ownsRow dA kg 3 (.slice eZ (ct.length+1) c') (ct.length+1) (ct.flatMap lW++lW (b,p)))(lf:(Value.slice eZ (ct.length+1) c').ownBlock=(Value.slice A ct.length c).ownBlock\/(Value.slice eZ (ct.length+1) c').ownBlock=some eX.heap.size)(kp:ct.length+1<=c'):
 mZ c8 d0 w0 kL kg j3 gG jO dA iO fQ cg eK ro u eZ c' (ct++[(b,p)]) m d (gj.setCell ⟨jO,2,none⟩ (.slice eZ (ct.length+1) c')):=by
 have dM:=h.ez;have ba:=h.ba;have aA:=h.ji.aA;obtain⟨ji,k⟩:=h.ji.add h.k ab ah aD aR bZ cj b6 lf kp;refine⟨k,ji,?_,h.rn,h.ez,h.ba,h.ro,h.eK⟩;have bl:=h.lq.lt;have aM:=ah.size;rw[vY] at cj;show(gj.setCell ⟨jO,2,none⟩ (.slice eZ (ct.length+1) c')).heap[gG]?=_;rw[Below.heap_setCell _ _ _ _ (show gG≠jO by omega),cj.block gG ab (λe=>by have:=(h.ji.wj e.symm).1;omega),ah.block gG bl];exact h.lq
theorem mZ.QQ {dF ea:List (Nat×gS)}{b j:Nat}{p p':gS}{v:Value}(h:mZ c8 d0 w0 kL kg j3 gG jO dA iO fQ cg eK ro u A c (dF++(b,p)::ea) m d w)(az:p.2.2.1.1≠[])(aT:mO p'=(mO p).set j v)(aE:p'.1=p.1)(aP:p'.2.1=p.2.1)(bS:p'.2.2.1.1.length=p.2.2.1.1.length):
 mZ c8 d0 w0 kL kg j3 gG jO dA iO fQ cg eK ro u A c (dF++(b,p')::ea) m d (w.setCell ⟨b,j,none⟩ v):=by
 have dM:=h.ez;have ba:=h.ba;have aA:=h.ji.aA;obtain⟨ji,k⟩:=h.ji.QQ h.k ab az aT aE aP bS;have ah:=(h.ji.el (b,p) (by simp)).1;refine⟨k,ji,?_,h.rn,h.ez,h.ba,h.ro,h.eK⟩;show(w.setCell ⟨b,j,none⟩ v).heap[gG]?=_;rw[Below.heap_setCell _ _ _ _ (show gG≠b fromλe=>by have ah:dA<=b:=ah;omega)];exact h.lq
end
section
variable{gG jO:Nat}{iO:Array Value}{cg eK:L (D [.str])}{u:Value}{jU k5 n eU:Nat}
theorem mZ.held (h:mZ c8 d0 w0 kL kg j3 gG jO dA iO fQ cg eK (.slice (some ⟨jU,k5,none⟩) n eU) u A c ct m d w){tN i j:Nat}(aW:ct.length=tN)(aj:i<cg.1.length)(aw:j<cg.1.length):
 w.cell? ⟨jO,1,none⟩=some (.slice (some ⟨jU,k5,none⟩) n eU)/\w.cell? ⟨jO,2,none⟩=some (.slice A tN c)/\w.cell? ⟨jU,k5+i,none⟩=some (.string (gp cg i).1)/\w.cell? ⟨jU,k5+j,none⟩=some (.string (gp cg j).1):=by
 subst aW;obtain⟨fZ,fF,e,k3⟩:=rowAt h.ro (λe=>by rw[e] at aj;simp at aj);cases e;have at_:∀i,i<cg.1.length->w.cell? ⟨jU,k5+i,none⟩=some (.string (gp cg i).1):=λi aj=>by
  obtain⟨e,aa,af⟩:=amQ aj;rw[<-af];exact h.k.aU.cellOf (k3 i e aa)
 exact⟨h.ji.nX.cell 1,h.ji.nX.cell 2,at_ i aj,at_ j aw⟩
theorem mZ.ne (h:mZ c8 d0 w0 kL kg j3 gG jO dA iO fQ cg eK (.slice (some ⟨jU,k5,none⟩) n eU) u A c ct m d w)(eN:cg.1≠[]):some jU≠mQ A:=λe=>by
 obtain⟨fZ,fF,e',k3⟩:=rowAt h.ro eN;cases e';have bL:=h.ji.rU jU e.symm;have aa:=k3 0 _ (fG (List.length_pos_iff.2 eN));rw[bL.2] at aa;cases aa
end
end
def qb (p:gS):gS:=(p.1,p.2.1,cD (match p.2.2.1.1 with|[]=>[]|a::l=>(a.1,a.2.1,a.2.2.1,a_.w .i64 0,())::l),())
theorem amZ:∀(l:List gS)(p:gS),xj (l++[p])=l++[qb p]
 |[],p=>rfl
 |q::l,p=>by
  have h:=amZ l p;cases l with
  |nil=>rfl
  |cons x l=>
   show q::xj ((x::l)++[p])=_;rw[h];rfl
theorem amN {go:dY}{eK ro:L (D [.str])}:∀{n i:Nat}{d:kX oW}{r:List (D ff)×kX oW},uN go eK ro n i d=some r->∀p∈r.1,∃a:qc,p.2.2.1.1=[a]
 |0,i,d,r,h,p,bL=>by cases h;simp at bL
 |n+1,i,d,r,h,p,bL=>by
  rw[uN] at h;obtain⟨xJ,aa,h⟩:=Option.bind_eq_some_iff.1 h;obtain⟨QL,af,h⟩:=Option.bind_eq_some_iff.1 h;cases h;rcases List.mem_cons.1 bL with rfl|bL
  ·exact⟨_,rfl⟩
  ·exact amN af p bL
section
variable(go i_:dY)(ro:L (D [.str]))(c:D g4)
def qI (k:Int):gS:=(gp ro 0,gp ro 1,cD [(go,c.1,c.2.1,a_.w .i64 1,()),(i_,a_.w .i64 0,S ⟨#[]⟩,a_.w .i64 k,())],())
def qZ (a0:qc)(k:Int):gS:=(gp ro 0,gp ro 1,cD [a0,(i_,a_.w .i64 0,S ⟨#[]⟩,a_.w .i64 k,())],())
def tV:gS:=(S ⟨#[]⟩,S ⟨#[]⟩,L.nil,())
theorem aN5 {xg:List gS}{dF:List (Nat×gS)}{b:Nat}{p:gS}(h:(dF++[(b,p)]).map (·.2)=qI go i_ ro c 0::xg)(m:Nat):
 ∃cT a0 T,dF++[(b,qb p)]=(cT,qZ i_ ro a0 0)::T/\AV go i_ ro m c xg none=(qZ i_ ro a0 ((T.length+1:Nat):Int)::T.map (·.2))++tK i_ ro m 1 (T.length+1)++[tV]:=by
 cases dF with
 |nil=>
  simp at h;obtain⟨rfl,rfl⟩:=h;exact⟨b,(go,c.1,c.2.1,a_.w .i64 0,()),[],rfl,rfl⟩
 |cons e dF=>
  simp at h;obtain⟨aa,rfl⟩:=h;refine⟨e.1,(go,c.1,c.2.1,a_.w .i64 1,()),dF++[(b,qb p)],by rw[List.cons_append];congr 1;exact Prod.ext rfl aa,?_⟩;have ai:∀k,xj (qI go i_ ro c k::(dF.map (·.2)++[p]))=qI go i_ ro c k::(dF.map (·.2)++[qb p]):=λk=>amZ (qI go i_ ro c k::dF.map (λx:Nat×gS=>x.2)) p;show xj (qI go i_ ro c (((xj (qI go i_ ro c 0::(dF.map (·.2)++[p]))).length:Nat):Int)::(dF.map (·.2)++[p]))++tK i_ ro m 1 (xj (qI go i_ ro c 0::(dF.map (·.2)++[p]))).length++[tV]=_;rw[ai,ai];have aW:(qI go i_ ro c 0::(dF.map (·.2)++[qb p])).length=(dF++[(b,qb p)]).length+1:=by simp
  rw[aW,List.map_append];rfl
theorem aN7 {xg:List gS}{ct:List (Nat×gS)}{b:Nat}{od:D g4}(h:ct.map (·.2)=qI go i_ ro c 0::xg)(m:Nat):
 ∃cT a0 T,ct++[(b,(gp ro (m+1),gp ro 0,cD [(S ⟨#[111,107]⟩,od.1,od.2.1,a_.w .i64 0,())],()))]=(cT,qZ i_ ro a0 0)::T/\
  AV go i_ ro m c xg (some od)=(qZ i_ ro a0 ((T.length+1:Nat):Int)::T.map (·.2))++tK i_ ro m 1 (T.length+1)++[tV]:=by
 cases ct with
 |nil=>simp at h
 |cons e ct=>
  simp at h;obtain⟨aa,rfl⟩:=h;refine⟨e.1,(go,c.1,c.2.1,a_.w .i64 1,()),ct++[(b,(gp ro (m+1),gp ro 0,cD [(S ⟨#[111,107]⟩,od.1,od.2.1,a_.w .i64 0,())],()))],by rw[List.cons_append];congr 1;exact Prod.ext rfl aa,?_⟩;have aW:(qI go i_ ro c 0::ct.map (·.2)++[((gp ro (m+1),gp ro 0,cD [(S ⟨#[111,107]⟩,od.1,od.2.1,a_.w .i64 0,())],()):gS)]).length=(ct++[(b,((gp ro (m+1),gp ro 0,cD [(S ⟨#[111,107]⟩,od.1,od.2.1,a_.w .i64 0,())],()):gS))]).length+1:=by simp
  show(qI go i_ ro c (((qI go i_ ro c 0::ct.map (·.2)++[((gp ro (m+1),gp ro 0,cD [(S ⟨#[111,107]⟩,od.1,od.2.1,a_.w .i64 0,())],()):gS)]).length:Nat):Int)::ct.map (·.2)++[_])++tK i_ ro m 1 (qI go i_ ro c 0::ct.map (·.2)++[((gp ro (m+1),gp ro 0,cD [(S ⟨#[111,107]⟩,od.1,od.2.1,a_.w .i64 0,())],()):gS)]).length++[tV]=_;rw[aW,List.map_append];rfl
end
theorem nH.aa8 {m:M}{w:World}{kL kg j3:TypeId}{dA q:Nat}{fQ ro:Value}{A:Option Addr}{c:Nat}{ct:List (Nat×gS)}(h:nH kL kg j3 m w dA q fQ ro A c ct){i:Nat}{e:Nat×gS}(he:ct[i]?=some e):
 ∃g,A=some ⟨g,0,none⟩/\w.cell? ⟨g,i*3+2,none⟩=some (qy e.1 e.2):=by
 rcases h.row.2 with⟨ba,yp⟩|⟨g,cap,cur,aI,aQ,bq,cA,eP,fy,gz⟩
 ·rw[List.length_eq_zero_iff.1 yp] at he;cases he
 ·injection aI with dH _ _
  refine⟨g,dH,?_⟩;have aa:=JT lW 3 agV ct i e 2 he ab;rw[<-gz,List.getElem?_take] at aa;split at aa
  ·rw[show(lW e)[2]?=some (qy e.1 e.2) from rfl] at aa;unfold World.cell?;simp[bq];simpa using aa
  ·cases aa
theorem anO {p:gS}{a:qc}{t:List qc}(h:p.2.2.1.1=a::t):(qb p).2.2.1.1=(a.1,a.2.1,a.2.2.1,a_.w .i64 0,())::t:=by
 unfold qb;rw[h];refine fu ?_;have:=p.2.2.1.2;rw[h] at this;exact this
theorem aOX {p:gS}{a:qc}{t:List qc}(h:p.2.2.1.1=a::t):mO (qb p)=(mO p).set 3 (.int .i64 0):=by
 unfold mO;rw[anO h,h];rfl
theorem aou {p:gS}{a:qc}{t:List qc}(h:p.2.2.1.1=a::t):(mO p).toArray[3]?=some (.int .i64 a.2.2.2.1.1):=by
 unfold mO;rw[h];simp[z4]
theorem apY {i_:dY}{ro:L (D [.str])}{a0:qc}{k:Nat}(aX:k<=100):mO (qZ i_ ro a0 (k:Int))=(mO (qZ i_ ro a0 0)).set 7 (.int .i64 (k:Int)):=by
 show z4 a0++[Value.string i_.1,.int .i64 0,.string ⟨#[]⟩,.int .i64 (a_.w .i64 (k:Int)).1]=_;rw[Tw aX];rfl
theorem apX {i_:dY}{ro:L (D [.str])}{a0:qc}:(mO (qZ i_ ro a0 0)).toArray[7]?=some (.int .i64 0):=rfl
theorem K.end {gG:Nat}(c8:M)(d0:kX oW)(w0:World){m:M}{d:kX oW}{w:World}(h:K c8 d0 w0 m d w)(bL:kQ m gG)(aA:w0.heap.size<=gG)(Q3 j4 kW:Value):
 K c8 d0 w0 m d (((w.setCell ⟨gG,0,none⟩ Q3).setCell ⟨gG,1,none⟩ j4).setCell ⟨gG,2,none⟩ kW):=by
 have mr:∀k,k≠gG->(((w.setCell ⟨gG,0,none⟩ Q3).setCell ⟨gG,1,none⟩ j4).setCell ⟨gG,2,none⟩ kW).heap[k]?=w.heap[k]?:=λk aX=>by
  rw[Below.heap_setCell _ _ _ _ aX,Below.heap_setCell _ _ _ _ aX,Below.heap_setCell _ _ _ _ aX]
 exact h.world ⟨rfl,rfl,rfl⟩ (by simp[World.setCell]) (λb _ ah=>mr b λe=>ah (e▸bL)) λb ah=>mr b ab
theorem ayW (b:Nat):lW (b,tV)=[.string ⟨#[]⟩,.string ⟨#[]⟩,.slice none 0 0]:=by
 have ai:qy b tV=.slice none 0 0:=if_pos rfl;show[Value.string (S ⟨#[]⟩).1,.string (S ⟨#[]⟩).1,qy b tV]=_;rw[ai];rfl
theorem Jp (w:World)(a:Obj):Below w.heap.size w (w.alloc a):=(Below.refl w.heap.size w).alloc (Nat.le_refl _) a
section
variable{c8 m:M}{d0 d:kX oW}{w0 w:World}{r:Nat}
theorem aN3 (k:K c8 d0 w0 m d w){y}(cf:ze ((),())=some y):
 Calls Tryz.prog 57 #[] w λe w'=>∃m' v,e=.returned v/\K c8 d0 w0 m' d w'/\r3 m w m' w'/\dU m'.fz (.a4 [.str]) y.1.1 v:=by
 refine(adH.run (σ:=nN d) (args:=[]) (z:=([],nN d)) (x:=(((),()),[])) rfl rfl cf rfl #[] k.aU trivial).mono ?_;rintro ex w' ⟨m',v,rfl,s,h,aT⟩;obtain⟨cB,iv⟩:=k.call (d':=d) s h;exact⟨m',v,rfl,cB,iv,aT.1⟩
theorem as4 (k:K c8 d0 w0 m d w){y}(cf:zc ((),())=some y):
 Calls Tryz.prog 58 #[] w λe w'=>∃m' v,e=.returned v/\K c8 d0 w0 m' d w'/\r3 m w m' w'/\dU m'.fz (.a4 [.str]) y.1.1 v:=by
 refine(adx.run (σ:=nN d) (args:=[]) (z:=([],nN d)) (x:=(((),()),[])) rfl rfl cf rfl #[] k.aU trivial).mono ?_;rintro ex w' ⟨m',v,rfl,s,h,aT⟩;obtain⟨cB,iv⟩:=k.call (d':=d) s h;exact⟨m',v,rfl,cB,iv,aT.1⟩
theorem ayJ (k:K c8 d0 w0 m d w)(aU:c8.pl 0=some r)(n:a_ .i64){y}(cf:h_ (((),n,()),(d,()))=some y):
 Calls Tryz.prog 108 #[.pointer (some ⟨r,0,none⟩),.int .i64 n.1] w λe w'=>∃m',e=.returned (.int .i64 y.1.1.1)/\K c8 d0 w0 m' y.2.1 w'/\r3 m w m' w':=by
 refine(ri.run (σ:=nN d) (args:=[.c (.ptr (some (0,0))),.c (.int .i64 n)]) (z:=([.c (.ptr (some (0,0))),.c (.int .i64 n)],nN d)) (x:=((((),n,()),(d,())),[0])) rfl rfl cf rfl #[.pointer (some ⟨r,0,none⟩),.int .i64 n.1] k.aU ⟨⟨r,k.pl aU,rfl⟩,rfl,trivial⟩).mono ?_;rintro ex w' ⟨m',v,rfl,s,h,aT⟩;obtain⟨cB,iv⟩:=k.call (d':=y.2.1) s h;exact⟨m',by rw[show v=.int .i64 y.1.1.1 from aT],cB,iv⟩
theorem UF (aU:c8.pl 0=some r){p:Int}{y:U Ej}(cf:h_ (((),(a_.w .i64 2),()),(d,()))=some y)(bL:y.1.1.1=p)(m:M)(w:World)(k:K c8 d0 w0 m d w):
 Calls Tryz.prog 108 #[.pointer (some ⟨r,0,none⟩),.int .i64 2] w λe w'=>∃m',e=.returned (.int .i64 p)/\K c8 d0 w0 m' y.2.1 w'/\r3 m w m' w':=by
 have:=ayJ k aU (a_.w .i64 2) cf;rw[bL] at this;exact this
theorem ZJ (k:K c8 d0 w0 m d w)(aU:c8.pl 0=some r){y}(cf:uM (((),()),(d,()))=some y):
 Calls Tryz.prog 237 #[.pointer (some ⟨r,0,none⟩)] w λe w'=>∃m',e=.returned (.agg #[.int .i64 y.1.1.1.1,.string y.1.1.2.1.1])/\K c8 d0 w0 m' y.2.1 w'/\r3 m w m' w':=by
 refine(ac_.run (σ:=nN d) (args:=[.c (.ptr (some (0,0)))]) (z:=([.c (.ptr (some (0,0)))],nN d)) (x:=((((),()),(d,())),[0])) rfl rfl cf rfl #[.pointer (some ⟨r,0,none⟩)] k.aU ⟨⟨r,k.pl aU,rfl⟩,trivial⟩).mono ?_;rintro ex w' ⟨m',v,rfl,s,h,aT⟩;obtain⟨cB,iv⟩:=k.call (d':=y.2.1) s h;obtain⟨cs,rfl,aT⟩:=aT;refine⟨m',?_,cB,iv⟩
 match cs,aT with
 |⟨[a,b]⟩,⟨aa,af,_⟩=>rw[show a=.int .i64 y.1.1.1.1 from aa,show b=.string y.1.1.2.1.1 from af]
theorem aoN (k:K c8 d0 w0 m d w)(aU:c8.pl 0=some r)(eK:L (D [.str])){u:Value}(hu:dU m.fz (.a4 [.str]) eK u){y}(cf:zb (((),eK,()),(d,()))=some y):
 Calls Tryz.prog 238 #[.pointer (some ⟨r,0,none⟩),u] w λe w'=>∃m',e=.returned (.agg #[.int .i64 y.1.1.1.1,.string y.1.1.2.1.1])/\K c8 d0 w0 m' y.2.1 w'/\r3 m w m' w':=by
 refine(adu.run (σ:=nN d) (args:=[.c (.ptr (some (0,0))),.c (.row [.str] eK .no)]) (z:=([.c (.ptr (some (0,0))),.c (.row [.str] eK .no)],nN d)) (x:=((((),eK,()),(d,())),[0])) rfl rfl cf rfl #[.pointer (some ⟨r,0,none⟩),u] k.aU ⟨⟨r,k.pl aU,rfl⟩,⟨hu,trivial⟩,trivial⟩).mono ?_;rintro ex w' ⟨m',v,rfl,s,h,aT⟩;obtain⟨cB,iv⟩:=k.call (d':=y.2.1) s h;obtain⟨cs,rfl,aT⟩:=aT;refine⟨m',?_,cB,iv⟩
 match cs,aT with
 |⟨[a,b]⟩,⟨aa,af,_⟩=>rw[show a=.int .i64 y.1.1.1.1 from aa,show b=.string y.1.1.2.1.1 from af]
end
structure YO (x:U Eo)(y:U Ep) where
  aq:U adI
  cg:L (D [.str])
  aS:U ady
  a9:U Ej
  db:D [.str]
  cl:U Ej
  eV:D [.str]
  cc:U Ej
  bT:U ac'
  mG:List (D ff)×kX oW
  aa:2<=x.1.2.2.1.1
  af:x.1.2.2.1.1<=5
  dK:ze ((),())=some aq
  dh:x.1.2.2.1.1<=aq.1.1.1.length
  gT:cg.1=aq.1.1.1.take x.1.2.2.1.1.toNat
  j7:zc ((),())=some aS
  pF:h_ (((),(a_.w .i64 (2)),()),(x.2.1,()))=some a9
  s7:0<=a9.1.1.1/\aS.1.1.1[a9.1.1.1.toNat]?=some db
  wE:h_ (((),(a_.w .i64 (2)),()),(a9.2.1,()))=some cl
  s8:0<=(bc (a_.w .i64 (2)) cl.1.1).1/\aS.1.1.1[(bc (a_.w .i64 (2)) cl.1.1).1.toNat]?=some eV
  vl:h_ (((),(a_.w .i64 (2)),()),(cl.2.1,()))=some cc
  xY:uM (((),()),(cc.2.1,()))=some bT
  vm:uN db.1 x.1.2.2.2.1 cg (x.1.2.2.1.1-2).toNat 1 bT.2.1=some mG
  wD:(cc.1.1.1=1/\∃cy,uM (((),()),(mG.2,()))=some cy/\
      y=(((x.1.2.1,cg,cD (AV db.1 eV.1 cg (x.1.2.2.1.1-2).toNat bT.1.1 mG.1 (some cy.1.1)),()),()),(cy.2.1,())))\/
    (cc.1.1.1≠1/\y=(((x.1.2.1,cg,cD (AV db.1 eV.1 cg (x.1.2.2.1.1-2).toNat bT.1.1 mG.1 none),()),()),(mG.2,())))
theorem acs {α:Type}{l:L α}{i:Int}{e:α}(h:a1 l i=some e):0<=i/\l.1[i.toNat]?=some e:=by
 unfold a1 at h;by_cases ba:0<=i
 ·rw[decide_eq_true ba] at h;exact⟨ba,h⟩
 ·rw[decide_eq_false ba] at h;cases h
theorem aN6 {x:U Eo}{y:U Ep}(h:zf x=some y):Nonempty (YO x y):=by
 unfold zf at h;cases aa:f_ (a_.w .i64 2) x.1.2.2.1
 ·rw[aa] at h;cases h
 cases af:f_ x.1.2.2.1 (a_.w .i64 5)
 ·rw[aa,af] at h;cases h
 rw[aa,af] at h;simp only[cond_true] at h;obtain⟨aq,dK,h⟩:=Option.bind_eq_some_iff.1 h;obtain⟨v2,dh,h⟩:=Option.bind_eq_some_iff.1 h;obtain⟨cg,gT,h⟩:=Option.bind_eq_some_iff.1 h;obtain⟨aS,j7,h⟩:=Option.bind_eq_some_iff.1 h;obtain⟨a9,pF,h⟩:=Option.bind_eq_some_iff.1 h;obtain⟨db,s7,h⟩:=Option.bind_eq_some_iff.1 h;obtain⟨cl,wE,h⟩:=Option.bind_eq_some_iff.1 h;obtain⟨eV,s8,h⟩:=Option.bind_eq_some_iff.1 h;obtain⟨cc,vl,h⟩:=Option.bind_eq_some_iff.1 h;obtain⟨bT,xY,h⟩:=Option.bind_eq_some_iff.1 h;obtain⟨mG,vm,h⟩:=Option.bind_eq_some_iff.1 h;have aI:2<=x.1.2.2.1.1:=of_decide_eq_true aa;have aQ:x.1.2.2.1.1<=5:=of_decide_eq_true af;have eT:x.1.2.2.1.1<=aq.1.1.1.length/\v2.1=aq.1.1.1.take x.1.2.2.1.1.toNat:=by
  unfold nM at dh;cases an:(decide (0<=(0:Int))&&decide (0<=x.1.2.2.1.1)&&decide (x.1.2.2.1.1<=aq.1.1.1.length))
  ·rw[an] at dh;cases dh
  ·rw[an] at dh;cases dh;simp at an;exact⟨an.2,by simp⟩
 have gY:cg.1=v2.1:=by
  unfold c6 at gT;split at gT
  ·cases gT;simp[L.nil]
  ·cases gT
 refine⟨⟨aq,cg,aS,a9,db,cl,eV,cc,bT,mG,aI,aQ,dK,eT.1,by rw[gY,eT.2],j7,pF,acs s7,wE,acs s8,vl,xY,vm,?_⟩⟩;cases ax:bb cc.1.1 (a_.w .i64 1)
 ·rw[ax] at h;refine .inr ⟨?_,(eF h).symm⟩;exact of_decide_eq_false ax
 ·rw[ax] at h;simp only[cond_true] at h;obtain⟨cy,wD,h⟩:=Option.bind_eq_some_iff.1 h;refine .inl ⟨of_decide_eq_true ax,cy,wD,(eF h).symm⟩
end cF
def dt (P:Program)(ops:Array Oper)(Q:Exit->Act->World->Prop)(S:World->Prop)(f:Nat):Nat->Array Bool->Act->World->Prop
 |0,l,a,w=>Region.ready .any ops l=[]/\Q .normal a w
 |n+1,l,a,w=>(Region.ready .any ops l=[]->Q .normal a w)/\∀i∈Region.ready .any ops l,wpOp P ops Q i (λc9 w'=>(i≠f->S w')/\dt P ops Q S f n (l.setIfInBounds i true) c9 w') a w
section
variable{P:Program}{ops:Array Oper}{Q:Exit->Act->World->Prop}{S:World->Prop}{f:Nat}
theorem dt.any:∀(n:Nat)(l:Array Bool)(a:Act)(w:World),dt P ops Q S f n l a w->wpAny P .any ops Q n l a w
 |0,_,_,_,h=>h
 |n+1,_,_,_,h=>⟨h.1,λi aj=>wpOp_mono (λc9 w' g=>dt.any n _ c9 w' g.2) (h.2 i aj)⟩
theorem dt.start {id:Nat}{a:Act}{w:World}(hm:P.follows .mixedOrders=true)(dI:S w.drew)(h:S w.drew->dt P ops Q S f ops.size (Array.replicate ops.size false) a w.drew):(Code.region id ops true).wp P Q a w:=wp_region_any hm (dt.any _ _ _ _ (h dI))
def waits (ops:Array Oper)(f i:Nat):Bool:=match ops[f]? with
 |some o=>o.after.any λe=>Region.binds .any e&&e.on==i
 |none=>false
theorem anC {i:Nat}(h:waits ops f i=true){l:Array Bool}(aW:l.getD i true=false):f∉Region.ready .any ops l:=by
 unfold waits at h;split at h
 ·rename_i o b6;intro bE;obtain⟨_,fF,gu,nQ⟩:=mem_ready.1 bE;rw[b6] at gu;cases gu;rw[Array.any_eq_true] at h;obtain⟨k,aX,ah⟩:=h;rw[gQ,beq_iff_eq] at ah;have af:=nQ _ (Array.getElem_mem aX) ah.1;rw[ah.2] at af;rcases kz i l.size with h'|h'
  ·simp[h'] at aW af;rw[aW] at af;cases af
  ·simp[Array.getElem?_eq_none h'] at af
 ·cases h
theorem dt.first {i:Nat}{oB:Oper}{v:Value}(aj:ops[i]?=some oB)(Tj:Region.noSelect ops=true)(hw:waits ops f i=true)(fo:∀c a w,Q (.panic c) (a.put oB.dst v) w->Q (.panic c) a w):
 ∀(n:Nat)(l:Array Bool)(a:Act)(w:World),(∀j nV,ops[j]?=some nV->j≠i->l.getD j true=false->(∀e∈nV.after,Region.binds .any e=true->e.on≠i)->oB.apart ops nV=true)->
  i∈Region.ready .any ops l->YieldsIf P ops S oB v a->S w->dt P ops Q S f n (l.setIfInBounds i true) (a.put oB.dst v) w->dt P ops Q S f (n+1) l a w
 |n,l,a,w,abn,aU,cf,dI,H=>by
  have Kv:l.getD i true=false:=(mem_ready.1 aU).1;have aq6:i≠f:=λe=>anC hw Kv (e▸aU);refine⟨λh=>(by rw[h] at aU;cases aU),λj aw=>?_⟩;by_cases iT:j=i
  ·subst iT;exact cf.wpOp aj dI ⟨λ_=>dI,H⟩
  have AB:j≠f:=λe=>anC hw Kv (e▸aw);have mb:=ready_mono aw iT;cases n with
  |zero=>rw[H.1] at mb;cases mb
  |succ n=>
   obtain⟨abx,nV,vI,nQ⟩:=mem_ready.1 aw;have arI:∀e∈nV.after,Region.binds .any e=true->e.on≠i:=λe he ah heq=>by
    have aa:=nQ e he ah;rw[heq] at aa;rcases kz i l.size with h'|h'
    ·simp[h'] at Kv aa;rw[Kv] at aa;cases aa
    ·simp[Array.getElem?_eq_none h'] at aa
   have af:=wpOp_putIf vI (abn j nV vI iT abx arI) (λcs b=>Region.noSelect_spec Tj i oB cs b aj) (λcs b=>Region.noSelect_spec Tj j nV cs b vI) fo cf (H.2 j mb);refine wpOp_mono (λc9 w' g=>⟨λ_=>g.2.1 AB,dt.first aj Tj hw fo n (l.setIfInBounds j true) c9 w' (λk ok aX ard hu sy=>?_) (ready_mono aU (Ne.symm iT)) g.1 (g.2.1 AB) ?_⟩) af
   ·refine abn k ok aX ard ?_ sy;by_cases su:j=k
    ·subst su;exact abx
    ·rw[getD_set_ne true su] at hu;exact hu
   ·rw[Array.setIfInBounds_comm _ _ iT];exact g.2.2
theorem dt.take {i:Nat}{oB:Oper}{v:Value}{n:Nat}{l:Array Bool}{a:Act}{w:World}(aj:ops[i]?=some oB)(aM:(Region.noSelect ops&&waits ops f i&&Region.free .any ops l i&&(Region.ready .any ops l).contains i)=true)(fo:∀c a w,Q (.panic c) (a.put oB.dst v) w->Q (.panic c) a w)(To:Region.wanted oB (yielded ops a.tmps)=true)(cf:∀w,S w->(execOp a.eval oB).run P w=.ok (.value v) w)(dI:S w)(h:dt P ops Q S f n (l.setIfInBounds i true) (a.put oB.dst v) w):dt P ops Q S f (n+1) l a w:=by
 rw[gQ,gQ,gQ] at aM;exact dt.first aj aM.1.1.1 aM.1.1.2 fo n l a w (Region.free_spec aj aM.1.2) (by simpa using aM.2) (.inl ⟨To,cf⟩) dI h
theorem dt.dV (i:Nat){oB:Oper}{v:Value}{n:Nat}{l:Array Bool}{a:Act}{w:World}(dI:S w)(h:dt P ops Q S f n (l.setIfInBounds i true) (a.put oB.dst v) w)(aj:ops[i]?=some oB:=by rfl)(aM:(Region.noSelect ops&&waits ops f i&&Region.free .any ops l i&&(Region.ready .any ops l).contains i)=true:=by kernel_rfl)(fo:∀c a w,Q (.panic c) (a.put oB.dst v) w->Q (.panic c) a w:=by exactλ_ _ _ h=>h)(To:Region.wanted oB (yielded ops a.tmps)=true:=by rfl)(cf:∀w,S w->(execOp a.eval oB).run P w=.ok (.value v) w:=by(intro w aqv;(try dsimp only at aqv);go_simp<;>with_reducible rfl)):dt P ops Q S f (n+1) l a w:=dt.take aj aM fo To cf dI h
theorem dt.one {i:Nat}{o:Oper}{n:Nat}{l:Array Bool}{a:Act}{w:World}(aj:ops[i]?=some o)(aU:Region.ready .any ops l=[i])(h:∀K:Act->World->Prop,Shut (∀a w,(i≠f->S w)->((i≠f->S w)->dt P ops Q S f n (l.setIfInBounds i true) a w)->K a w)->if Region.wanted o (yielded ops a.tmps)=true then Oper.wp P o a w K Q else K (a.put o.dst undef) w):dt P ops Q S f (n+1) l a w:=by
 refine⟨λba=>(by rw[aU] at ba;cases ba),λj aw=>?_⟩;rw[aU,List.mem_singleton] at aw;subst aw;exact wpOp_step aj λK ev=>h K (λa w dI sk=>ev a w ⟨dI,sk dI⟩)
theorem dt.done {l:Array Bool}{a:Act}{w:World}(aU:Region.ready .any ops l=[])(h:Q .normal a w):∀n,dt P ops Q S f n l a w
 |0=>⟨aU,h⟩
 |n+1=>⟨λ_=>h,by rw[aU];simp⟩
end
theorem jc {w:World}{o:Obj}{p:Addr}{v:Value}(h:w.cell? p=some v):(w.alloc o).cell? p=some v:=(World.cell?_alloc_lt w o p (World.block_lt_of_cell? w p h)).trans h
theorem ed:(∀(l:List Value)(i:Nat)(a:Value),l.toArray.setIfInBounds i a=(l.set i a).toArray)/\(∀(x:Value)(xs:List Value)(a:Value),(x::xs).set 0 a=a::xs)/\(∀(x:Value)(xs:List Value)(n:Nat)(a:Value),(x::xs).set (n+1) a=x::xs.set n a):=⟨λ_ _ _=>aom ..,λ_ _ _=>aon ..,λ_ _ _ _=>Y5 ..⟩
namespace cF
open bI (T cO)
set_option linter.unusedVariables false
set_option linter.unusedSimpArgs false
attribute[local go_sem↓] Go.wp_at_zero Go.wp_at_succ
theorem asv:(Tryz.prog.info? 148).map (λi=>(i.zero,i.size,i.bytes))=some (some (.agg #[.string ⟨#[]⟩,.string ⟨#[]⟩,.slice none 0 0]),3,56):=by kernel_rfl
theorem asw:(Tryz.prog.info? 9).map (λi=>(i.zero,i.size,i.bytes))=some (some (.string ⟨#[]⟩),1,16):=by kernel_rfl
theorem apq {aV:Program}{f:Nat}{fn:Func}{c:Code}(bE:aV.funcs[f]?=some fn)(az:(fn.name== "runtime.NumGoroutine")=false) (ah:fn.body=some c) (vs:Array Value) (w:World):(callFunc f vs).run aV w=.ok (.enter f vs) w:=by
 have ax:¬fn.name= "runtime.NumGoroutine":=by simpa using az
 simp[callFunc,bE,ax,ah]
set_option maxRecDepth 100000 in
set_option maxHeartbeats 8000000 in
theorem aN8 {c8:M}{d0:kX oW}{w0:World}{r:Nat}{u:Value}(fQ:dY)(many:a_ .i64)(eK:L (D [.str])){y:U Ep}(h:YO (((),fQ,many,eK,()),(d0,())) y)(bh:bQ c8 (nN d0) w0)(aU:c8.pl 0=some r)(hu:dU c8.fz (.a4 [.str]) eK u):
 Calls Tryz.prog 193 #[.pointer (some ⟨r,0,none⟩),.string fQ.1,.int .i64 many.1,u] w0 λe w'=>∃m' v1 v2,e=.returned (.agg #[.string y.1.1.1.1,v1,v2])/\K c8 d0 w0 m' y.2.1 w'/\dU m'.fz (.a4 [.str]) y.1.1.2.1 v1/\dU m'.fz (.a4 ff) y.1.1.2.2.1 v2:=by
 obtain⟨aq,cg,aS,a9,db,cl,eV,cc,bT,mG,aa,af,dK,dh,gT,j7,pF,s7,wE,s8,vl,xY,vm,wD⟩:=h;dsimp only at aa af dh gT pF vm wD;obtain⟨many,aQi⟩:=many;dsimp only at aa af dh gT vm wD;obtain⟨e9,rfl⟩:∃e9:Nat,many=e9:=⟨many.toNat,ab⟩;have S7:2<=e9:=ab;have AF:e9<=5:=ab;obtain⟨i0,sr,q_,D6,D7⟩:=info_parts asv;obtain⟨Tx,abw,asK,asL,asM⟩:=info_parts asw;obtain⟨YY,J9⟩:∃W,W=w0.alloc (.cells #[.string ⟨#[]⟩,.slice none 0 0,.slice none 0 0] 68):=⟨_,rfl⟩;have qE:K c8 d0 w0 c8 d0 w0:=⟨bh,bh,Step.refl ..⟩;have cY:Below w0.heap.size w0 YY:=by rw[J9];exact(Below.refl _ _).alloc (Nat.le_refl _) _
 have YE:=Lib.hid (qE.below cY);have Rg:=Lib.hid (show ja YY w0.heap.size #[.string ⟨#[]⟩,.slice none 0 0,.slice none 0 0] 68 by rw[J9];exact ja.new ..);have YJ:=Lib.hid (show kQ c8 w0.heap.size from bh.rU (Nat.le_refl _));have an9:=Lib.hid J9;obtain⟨jx,S'⟩:∃p:Nat,a9.1.1.1=p:=⟨a9.1.1.1.toNat,ab⟩;obtain⟨rn,Ta⟩:∃p:Nat,(bc (a_.w .i64 2) cl.1.1).1=p:=⟨(bc (a_.w .i64 2) cl.1.1).1.toNat,ab⟩;obtain⟨nl,ou⟩:∃n:Nat,n=aS.1.1.1.length:=⟨_,rfl⟩;have SZ:aS.1.1.1[jx]?=some db:=by have:=s7.2;rw[S'] at this;simpa using this
 have Kh:aS.1.1.1[rn]?=some eV:=by have:=s8.2;rw[Ta] at this;simpa using this
 have arw:jx<nl:=by rw[ou];exact(ep.1 SZ).1
 have arx:rn<nl:=by rw[ou];exact(ep.1 Kh).1
 have arH:nl=4:=by rw[ou];cases j7;rfl
 have aqo:(jx:Int)<4:=ab;have aqp:(rn:Int)<4:=ab;have YC:=Lib.hid SZ;have YD:=Lib.hid Kh;have Rq:=Lib.hid ou;have Ri:=Lib.hid (λm d w (k:K c8 d0 w0 m d w)=>as4 k j7);have Ym:=Lib.hid (UF (d0:=d0) (w0:=w0) aU pF S');obtain⟨iO,Tq⟩:∃p:Int,cl.1.1.1=p:=⟨_,rfl⟩;have Yn:=Lib.hid (UF (d0:=d0) (w0:=w0) aU wE Tq);have asd:IntKind.i64.wrap (2+iO)=(rn:Int):=by rw[<-Tq,<-Ta];rfl
 obtain⟨I3,Tp⟩:∃p:Int,cc.1.1.1=p:=⟨_,rfl⟩;have anU:=Lib.hid (UF (d0:=d0) (w0:=w0) aU vl Tp);have anV:=Lib.hid (λm w (k:K c8 d0 w0 m cc.2.1 w)=>ZJ k aU xY);rw[Tp] at wD;clear ou SZ Kh Tq Ta S' Tp;have anT:=Lib.hid wD;have Yg:=Lib.hid vm;have aO0:=Lib.hid xY;have tW:=Lib.hid vl;have aO4:=Lib.hid s8;have aO3:=Lib.hid wE;have Yj:=Lib.hid s7;have aO2:=Lib.hid pF;have aO1:=Lib.hid j7;have Yi:=Lib.hid gT;have Yy:=Lib.hid aU;have Yz:=Lib.hid hu;have aO6:=Lib.hid bh;have aO5:=Lib.hid (And.intro aa af);have Yh:=Lib.hid dh;have anR:=Lib.hid dK;clear dK wD vm xY vl s8 wE s7 pF j7 gT dh J9 aU hu bh qE cY aa af
 go_enter Tryz.func193,Tryz.ntmps193
 go_wp2_with fail
 rw[<-an9.out];refine(aN3 YE.out anR.out).mono ?_;rintro e eX ⟨cX,v2,rfl,bB,acF,JG⟩;obtain⟨Re,avp,ZH,rfl⟩:∃A n c,v2=.slice A n c:=by
  simp only[dU] at JG;obtain⟨A,c,h,_⟩:=JG;exact⟨A,_,c,h⟩
 obtain⟨arJ,arD,amB⟩:=aN9 JG bB.aU;have aog:e9<=aq.1.1.1.length:=by have:=Yh.out;omega
 have hcut:=λW=>aOa (P:=Tryz.prog) 65 9 Tryz.underlying65 Tx abw Re avp ZH e9 (e9:Int) rfl ab W;have amC:kx eX Re (rv cg.1):=by
  have:=amB.take e9;unfold rv at this⊢;rw[Yi.out]
  rwa [<-List.map_take] at this
 have kq:cg.1.length=e9:=by rw[Yi.out];simp;omega
 have vf:=Lib.hid kq;have YN:=Lib.hid amC;have I_:=Lib.hid bB;have Ja:=Lib.hid acF;clear kq amC amB aog bB acF JG arJ arD
 go_wp2_with (at_builtin;refine anE _ rfl _ _ _ rfl eX.heap.size 9 Tx _ 1 16 Tryz.underlying65 abw asK asL asM rfl ab (.slice none 0 0) 0 [] rfl (World.ownsRow_nil _ _ _ _) Re e9 ZH (rv cg.1) rfl YN.out (by unfold rv;rw[List.length_map,vf.out];omega) (ayz _) ab (by unfold maxLen;omega) (Nat.le_refl _) ?_;intro zM eU gj Km yO DH Ka;have Yt:=Lib.hid (And.intro Km (And.intro yO (And.intro DH Ka)));clear Km yO DH Ka)
 obtain⟨Km,yO,DH,Ka⟩:=Yt.out;have bM:Below eX.heap.size eX gj:=(Below.refl _ _).grown DH (Nat.le_refl _) (by intro k aX;cases aX);rw[List.nil_append] at yO;have J4:∀g,mQ zM=some g->eX.heap.size<=g/\g<gj.heap.size:=λg cj=>yO.lt g (by rw[vY];exact cj);obtain⟨eR,aaa,dc,Sa,agT⟩:=(I_.out.below bM).row (l:=cg) yO λg cj=>⟨I_.out.aU.rU (J4 g cj).1,by have:=(J4 g cj).1;have:=I_.out.st.gF.size;omega⟩;have Th:=Ja.out.2.1;have aaO:=Rg.out.lt;have ez:=Ja.out.2.2 _ aaO YJ.out;obtain⟨YZ,J_⟩:∃W,W=gj.alloc (.cells #[.string fQ.1,.slice zM e9 eU,.slice none 0 0] 68):=⟨_,rfl⟩;have oT:Below gj.heap.size gj YZ:=by rw[J_];exact(Below.refl _ _).alloc (Nat.le_refl _) _
 have QN:uj c8 d0 w0 68 68 w0.heap.size gj.heap.size #[.string ⟨#[]⟩,.slice none 0 0,.slice none 0 0] #[.string fQ.1,.slice zM e9 eU,.slice none 0 0] cg eK (.slice zM e9 eU) u eR d0 YZ:=by
  rw[gd] at Sa;refine⟨dc.below oT,?_,?_,?_,dc.aU.rU (Nat.le_refl _),Sa,(Yz.out.ext Ja.out.1.fz).ext aaa.fz⟩
  ·exact(oT.block _ (by have:=bM.size;omega)).trans ((bM.block _ ab).trans (ez.1.trans Rg.out))
  ·exact agT _ (λe=>by have:=(J4 _ e.symm).1;omega) ez.2
  ·rw[J_];exact ja.new ..
 have aA:w0.heap.size<gj.heap.size:=by have:=bM.size;omega
 have YA:=Lib.hid J_;have YQ:=Lib.hid QN;clear Yt Km yO DH Ka bM J4 aaa dc Sa agT Th aaO ez oT QN J_ Ja I_ YN hcut Yz YJ Rg YE;rw[<-YA.out];clear YA;have Rs:=Lib.hid (YQ.out.below (Below.refl _ _).drew)
 go_cut [10,11] from 24 to 34 (λxA aOf Yb=>xA=.string db.1.1/\aOf=.string eV.1.1/\Hid (∃m,uj c8 d0 w0 68 68 w0.heap.size gj.heap.size #[.string ⟨#[]⟩,.slice none 0 0,.slice none 0 0] #[.string fQ.1,.slice zM e9 eU,.slice none 0 0] cg eK (.slice zM e9 eU) u m cl.2.1 Yb))
 case first=>
  go_region_law (first
   |(go_simp;go_at_call 108;refine(Yn.out _ _ YS.out.k).mono ?_;rintro e nm ⟨AR,rfl,p1,KM⟩;have Bc:=p1.aU.cellOf (KM.1.fz _ _ _ f6.out);have gz:=p1.aU.cellOf (KM.1.fz _ _ _ (Ea.out.1.fz _ _ _ (AQ.out.1.fz _ _ _ f4.out)));have Je:=Lib.hid (YS.out.call p1 KM);clear p1 KM;go_simp)
   |(go_simp;go_at_call 58;refine(Ri.out _ _ _ vj.out.k).mono ?_;rintro e aOO ⟨sG,v6,rfl,o_,Ea,ZR⟩;have fy:=o_.aU.cellOf (Ea.1.fz _ _ _ (AQ.out.1.fz _ _ _ f4.out));obtain⟨aPd,aQQ,m6,rfl,aqV,f6⟩:=ZR.am9 YD.out;rw[<-Rq.out] at aqV⊢;have YS:=Lib.hid (vj.out.call o_ Ea);have f6:=Lib.hid f6;have Ea:=Lib.hid Ea;clear o_ ZR;go_simp)
   |(go_simp;go_at_call 108;refine(Ym.out _ _ YR.out.k).mono ?_;rintro e Cl ⟨nS,rfl,iU,AQ⟩;have eP:=iU.aU.cellOf (AQ.1.fz _ _ _ f4.out);have vj:=Lib.hid (YR.out.call iU AQ);have AQ:=Lib.hid AQ;clear iU;go_simp)
   |(go_simp;go_at_call 58;refine(Ri.out _ _ _ Rs.out.k).mono ?_;rintro e aQ8 ⟨mS,v4,rfl,ek,acG,ZQ⟩;obtain⟨oT,aQP,iR,rfl,aqU,f4⟩:=ZQ.am9 YC.out;rw[<-Rq.out] at aqU⊢;have YR:=Lib.hid (Rs.out.call ek acG);have f4:=Lib.hid f4;clear ek acG ZQ;go_simp))
  all_goals
   go_wp2_with fail
   go_meet
   exact⟨rfl,rfl,Lib.hid ⟨_,Je.out⟩⟩
 case rest=>
  obtain⟨rfl,rfl,dI⟩:=hcut;obtain⟨aQL,XN⟩:=dI.out;have Rt:=Lib.hid XN;clear XN dI Rs YQ aqo aqp arw arx arH asd;clear Ri Ym Yn YC YD Rq
  go_wp2_with fail
  refine(anU.out _ _ Rt.out.k).mono ?_;rintro e aQ9 ⟨aQM,rfl,acB,acH⟩;have a7:=Lib.hid (Rt.out.call acB acH);clear acB acH Rt
  go_wp2_with fail
  refine(anV.out _ _ a7.out.k).mono ?_;rintro e Cm ⟨ac4,rfl,y5,acI⟩;have YT:=Lib.hid (a7.out.call y5 acI);clear y5 acI a7;generalize aa4:(I3==1)=ay;have Yv:=Lib.hid aa4;clear aa4
  go_wp2_with fail
  obtain⟨nJ,J'⟩:∃W,W=Cm.alloc (.cells #[.int .i64 bT.1.1.1.1,.string bT.1.1.2.1.1] 120):=⟨_,rfl⟩;have Jo:Below Cm.heap.size Cm nJ:=by rw[J'];exact(Below.refl _ _).alloc (Nat.le_refl _) _
  have Rf:ja nJ Cm.heap.size #[.int .i64 bT.1.1.1.1,.string bT.1.1.2.1.1] 120:=by rw[J'];exact ja.new ..
  have Cg:=YT.out.below Jo;obtain⟨jU,k5,rfl,k3⟩:=rowAt Cg.ro (λe=>by have:=vf.out;rw[e] at this;simp at this;omega);have vj:=Lib.hid Cg;have RX:∀i,i<e9->nJ.cell? ⟨jU,k5+i,none⟩=some (.string (gp cg i).1):=λi aj=>by
   obtain⟨e,aa,af⟩:=amQ (l:=cg) (i:=i) (by rw[vf.out];exact aj);rw[<-af];exact Cg.k.aU.cellOf (k3 i e aa)
  have pI:nJ.cell? ⟨jU,k5,none⟩=some (.string (gp cg 0).1):=RX 0 ab;have cW:=RX 1 ab;obtain⟨aOV,Cp,n3⟩:=wO Cg.CP;have anI:=Rf.cell 0;have anJ:=Rf.cell 1;have Rn:=Lib.hid (Cg.start (kg:=148) (j3:=151));have aaS:(1:Int)<(e9:Int):=ab;have aPt:0<e9:=ab;have aPu:1<e9:=ab;have YB:=Lib.hid J';clear J' Jo Cg RX Rf YT;rw[<-YB.out];refine dt.start (f:=20) (S:=λW=>W.cell? ⟨gj.heap.size,1,none⟩=some (.slice (some ⟨jU,k5,none⟩) e9 eU)/\W.cell? ⟨gj.heap.size,2,none⟩=some (.slice none 0 0)/\W.cell? ⟨jU,k5,none⟩=some (.string (gp cg 0).1)/\W.cell? ⟨jU,k5+1,none⟩=some (.string (gp cg 1).1)/\W.cell? ⟨Cm.heap.size,0,none⟩=some (.int .i64 bT.1.1.1.1)/\W.cell? ⟨Cm.heap.size,1,none⟩=some (.string bT.1.1.2.1.1)) (by kernel_rfl) ⟨Cp,n3,pI,cW,anI,anJ⟩ (λc4=>?_);clear aOV Cp n3 pI cW anI anJ;refine dt.dV 0 c4 ?_;(try simp only[Act.put,ed]);refine dt.dV 1 c4 ?_;(try simp only[Act.put,ed]);refine dt.dV 2 c4 ?_;(try simp only[Act.put,ed]);refine dt.dV 3 c4 ?_;(try simp only[Act.put,ed]);refine dt.dV 4 c4 ?_;(try simp only[Act.put,ed]);refine dt.dV 5 c4 ?_;(try simp only[Act.put,ed]);refine dt.dV 6 c4 ?_;(try simp only[Act.put,ed]);refine dt.dV 7 c4 ?_;(try simp only[Act.put,ed]);refine dt.dV 8 c4 ?_;(try simp only[Act.put,ed]);refine dt.dV 9 c4 ?_;(try simp only[Act.put,ed]);refine dt.dV 10 c4 ?_;(try simp only[Act.put,ed]);refine dt.dV 11 c4 ?_;(try simp only[Act.put,ed]);refine dt.dV 12 c4 ?_;(try simp only[Act.put,ed]);refine dt.dV 13 c4 ?_;(try simp only[Act.put,ed]);refine dt.dV 14 c4 ?_;(try simp only[Act.put,ed]);refine dt.one (i:=15) rfl (by kernel_rfl) ?_;intro K ev
  go_simp
  refine ev.out _ _ (λ_=>?_) (λdI=>?_)
  ·exact⟨jc c4.1,jc c4.2.1,jc c4.2.2.1,jc c4.2.2.2.1,jc c4.2.2.2.2.1,jc c4.2.2.2.2.2⟩
  replace c4:=dI bu;clear ev K dI;(try simp only[Act.put,ed]);refine dt.dV 16 c4 ?_;(try simp only[Act.put,ed]);refine dt.one (i:=17) rfl (by kernel_rfl) ?_;intro K ev
  go_simp
  refine ev.out _ _ (λ_=>?_) (λdI=>?_)
  ·exact⟨jc c4.1,jc c4.2.1,jc c4.2.2.1,jc c4.2.2.2.1,jc c4.2.2.2.2.1,jc c4.2.2.2.2.2⟩
  replace c4:=dI bu;clear ev K dI;(try simp only[Act.put,ed]);refine dt.one (i:=18) rfl (by kernel_rfl) ?_;intro K ev;refine QX _ (by rfl) _ _ _ (by rfl) nJ.heap.size 148 i0 _ 3 56 Tryz.underlying66 sr q_ D6 D7 rfl ab (.slice none 0 0) 0 [] (by rfl) (World.ownsRow_nil _ _ _ _) (some ⟨nJ.heap.size+1,0,none⟩) 1 1 [.string (gp cg 0).1,.string (gp cg 1).1,.slice (some ⟨nJ.heap.size,0,none⟩) 2 2] (by rfl) (kx.two _ _ _ _ _) rfl (by simp[Value.oneCell']) ab (by unfold maxLen;omega) (RH _ _ _).size ?_;intro Yj m6 aOO DQ DX yI DA;have k8:=Rn.out.pre (RH _ _ _) yI;obtain⟨bk,eg,e3⟩:=wO k8;obtain⟨f0,f1,f2⟩:=Aa k8;have Yu:=Lib.hid (And.intro DQ (And.intro DX (And.intro yI DA)));have gF:∀{p v},_->_:=λ{p v} (h:_)=>yI.cell (a:=p) (v:=v) h (by simp[Value.ownBlock]);clear DQ DX yI DA k8;refine ev.out _ _ (λ_=>?_) (λdI=>?_)
  ·exact⟨gF c4.1,gF c4.2.1,gF c4.2.2.1,gF c4.2.2.2.1,gF c4.2.2.2.2.1,gF c4.2.2.2.2.2⟩
  replace c4:=dI bu;clear ev K dI;(try simp only[Act.put,ed]);refine dt.dV 19 c4 ?_;(try simp only[Act.put,ed]);refine dt.one (i:=20) rfl (by kernel_rfl) ?_;intro K ev
  go_simp
  refine ev.out _ _ (λh=>absurd rfl h) (λyw=>?_);clear ev K c4 yw;(try simp only[Act.put,ed]);refine dt.done (by kernel_rfl) ?_ _;obtain⟨DQ,DX,yI,DA⟩:=Yu.out;have Je:mZ c8 d0 w0 68 148 151 w0.heap.size gj.heap.size nJ.heap.size #[.string ⟨#[]⟩,.slice none 0 0,.slice none 0 0] (.string fQ.1) cg eK (.slice (some ⟨jU,k5,none⟩) e9 eU) u none 0 [] ac4 bT.2.1 nJ:=
   ⟨vj.out.k,Rn.out,vj.out.lq,vj.out.rn,aA,Nat.le_refl _,vj.out.ro,vj.out.eK⟩
  obtain⟨YI,J5⟩:∃p:gS,p=(gp cg 0,gp cg 1,cD [(db.1,bT.1.1.1,bT.1.1.2.1,a_.w .i64 1,()),(eV.1,a_.w .i64 0,S ⟨#[]⟩,a_.w .i64 0,())],()):=⟨_,rfl⟩;have am0:=Je.add (p:=YI) (b:=nJ.heap.size) (RH _ _ _) (Nat.le_refl _) (aOD _ _ _) (λ_=>by rw[J5];exact(ja.new nJ.drew _ _).alloc _) yI (by rw[J5];exact DX) DA DQ;have aoa:=Lib.hid am0;have an3:=Lib.hid J5;have anS:=Lib.hid (show uN db.1 eK cg (e9-1-1) 1 bT.2.1=some (mG.1,mG.2) by rw[show e9-1-1=((e9:Int)-2).toNat by omega];exact Yg.out);have aO7:=Lib.hid k3;clear am0 J5 Je Yu DX yI DA DQ bk eg e3 f0 f1 f2 gF Rn vj YB k3
  go_wp2_with fail
  go_loopw [14] (λi wr=>∃(dR:Nat) (A:Option Addr) (c:Nat) (ct:List (Nat×gS)) (m:M) (d:kX oW) (done rest:List gS),i=.int .i64 (dR:Int)/\1<=dR/\dR+1<=e9/\ct.length=dR/\
   Hid (mZ c8 d0 w0 68 148 151 w0.heap.size gj.heap.size nJ.heap.size #[.string ⟨#[]⟩,.slice none 0 0,.slice none 0 0] (.string fQ.1) cg eK (.slice (some ⟨jU,k5,none⟩) e9 eU) u A c ct m d wr)/\
   Hid (ct.map (·.2)=YI::done)/\Hid (uN db.1 eK cg (e9-1-dR) dR d=some (rest,mG.2))/\Hid (done++rest=mG.1)) (λi _=>e9-(intOf i).toNat)
  case atStart=>exact⟨1,Yj,m6,_,ac4,bT.2.1,[],mG.1,rfl,Nat.le_refl _,ab,rfl,Lib.hid aoa.out,Lib.hid rfl,anS,Lib.hid rfl⟩
  case round=>
   obtain⟨dR,A,c,ct,m,d,done,rest,rfl,aq4,SY,hlen,dI,DZ,S9,qy⟩:=hrel;have Kq:ct.length=dR:=hlen;by_cases bl:dR+1<e9
   ·obtain⟨n,az⟩:∃n,e9-1-dR=n+1:=⟨e9-2-dR,ab⟩;have tz:=S9.out;rw[az,uN] at tz;obtain⟨xJ,acg,abJ⟩:=Option.bind_eq_some_iff.1 tz;obtain⟨QL,ab1,abK⟩:=Option.bind_eq_some_iff.1 abJ;obtain⟨AH,D0⟩:=Prod.mk.inj (eF abK);obtain⟨PP,wY⟩:∃p:gS,p=(gp cg dR,gp cg (dR+1),cD [(db.1,xJ.1.1.1,xJ.1.1.2.1,a_.w .i64 ((dR+1:Nat):Int),())],()):=⟨_,rfl⟩;rw[<-wY] at AH;have Rl:=Lib.hid wY;have an5:=Lib.hid AH;have an6:=Lib.hid D0;have an8:=Lib.hid ab1;have an_:=Lib.hid acg;have an2:=Lib.hid az;have DJ:dR<cg.1.length:=by rw[vf.out];omega
    have DK:dR+1<cg.1.length:=by rw[vf.out];omega
    have qh:=Lib.hid (And.intro DJ DK);have qi:=Lib.hid (dI.out.below (Below.refl _ _).drew);have b9:dR<e9:=ab;have aaW:(dR:Int)<(e9:Int):=ab;have aqy:(dR:Int)+1<(e9:Int):=ab;have aqx:(0:Int)<=(dR:Int)+1:=ab;have Z':IntKind.i64.wrap ((dR:Int)+1)=(dR:Int)+1:=IntWalk.i64_in _ ab;have apt:((dR:Int)+1).toNat=dR+1:=ab;have py:=Lib.hid Kq;clear tz abJ abK AH D0 ab1 acg az wY DJ DK dI Kq hlen
    go_wp2_with fail
    refine dt.start (f:=27) (S:=λW=>W.cell? ⟨gj.heap.size,1,none⟩=some (.slice (some ⟨jU,k5,none⟩) e9 eU)/\W.cell? ⟨gj.heap.size,2,none⟩=some (.slice A dR c)/\W.cell? ⟨jU,k5+dR,none⟩=some (.string (gp cg dR).1)/\W.cell? ⟨jU,k5+(dR+1),none⟩=some (.string (gp cg (dR+1)).1)) (by kernel_rfl) (qi.out.held py.out qh.out.1 qh.out.2) (λc4=>?_);refine dt.dV 0 c4 ?_;(try simp only[Act.put,ed]);refine dt.dV 1 c4 ?_;(try simp only[Act.put,ed]);refine dt.dV 2 c4 ?_;(try simp only[Act.put,ed]);refine dt.dV 3 c4 ?_;(try simp only[Act.put,ed]);refine dt.dV 4 c4 ?_;(try simp only[Act.put,ed]);refine dt.dV 5 c4 ?_;(try simp only[Act.put,ed]);refine dt.dV 6 c4 ?_;(try simp only[Act.put,ed]);refine dt.dV 7 c4 ?_;(try simp only[Act.put,ed]);refine dt.dV 8 c4 ?_;(try simp only[Act.put,ed]);refine dt.dV 9 c4 ?_;(try simp only[Act.put,ed]);refine dt.dV 10 c4 ?_;(try simp only[Act.put,ed]);refine dt.dV 11 c4 ?_;(try simp only[Act.put,ed]);refine dt.dV 12 c4 ?_;(try simp only[Act.put,ed]);refine dt.dV 13 c4 ?_;(try simp only[Act.put,ed]);refine dt.dV 14 c4 ?_;(try simp only[Act.put,ed]);refine dt.dV 15 c4 ?_;(try simp only[Act.put,ed]);refine dt.dV 17 c4 ?_;(try simp only[Act.put,ed]);refine dt.dV 18 c4 ?_;(try simp only[Act.put,ed]);refine dt.dV 19 c4 ?_;(try simp only[Act.put,ed]);refine dt.dV 20 c4 ?_;(try simp only[Act.put,ed]);refine dt.one (i:=16) rfl (by kernel_rfl) ?_;intro K ev
    go_simp
    go_at_call 238
    refine(aoN qi.out.k Yy.out eK qi.out.eK an_.out).mono ?_;rintro e qa ⟨TP,rfl,tF,Eb⟩;have rC:=Lib.hid (qi.out.call tF Eb);clear tF Eb
    go_simp
    refine ev.out _ _ (λ_=>?_) (λdI=>?_)
    ·exact rC.out.held py.out qh.out.1 qh.out.2
    replace c4:=dI bu;clear ev K dI;(try simp only[Act.put,ed]);refine dt.dV 21 c4 ?_;(try simp only[Act.put,ed]);refine dt.one (i:=22) rfl (by kernel_rfl) ?_;intro K ev
    go_simp
    refine ev.out _ _ (λ_=>?_) (λdI=>?_)
    ·exact⟨jc c4.1,jc c4.2.1,jc c4.2.2.1,jc c4.2.2.2⟩
    replace c4:=dI bu;clear ev K dI;(try simp only[Act.put,ed]);refine dt.dV 23 c4 ?_;(try simp only[Act.put,ed]);refine dt.one (i:=24) rfl (by kernel_rfl) ?_;intro K ev
    go_simp
    refine ev.out _ _ (λ_=>?_) (λdI=>?_)
    ·exact⟨jc c4.1,jc c4.2.1,jc c4.2.2.1,jc c4.2.2.2⟩
    replace c4:=dI bu;clear ev K dI;(try simp only[Act.put,ed]);refine dt.one (i:=25) rfl (by kernel_rfl) ?_;intro K ev;have tD:=λa p=>Ms rC.out.ji.row (r_ qa a p);rw[py.out] at tD;refine QX _ (by rfl) _ _ _ (by rfl) nJ.heap.size 148 i0 _ 3 56 Tryz.underlying66 sr q_ D6 D7 rfl ab (.slice A dR c) dR (ct.flatMap lW) (by rfl) (tD _ _) (some ⟨qa.heap.size+1,0,none⟩) 1 1 [.string (gp cg dR).1,.string (gp cg (dR+1)).1,.slice (some ⟨qa.heap.size,0,none⟩) 1 1] (by rfl) (kx.two _ _ _ _ _) rfl (by simp[Value.oneCell']) ab (by unfold maxLen;omega) (jF rC.out.ji.qA (r_ _ _ _).size) ?_;intro tW nL X9 o5 o7 l_ oY;have oH:=rC.out.ji.pre (r_ _ _ _) (by rw[py.out];exact l_);rw[py.out] at oH;obtain⟨bk,eg,e3⟩:=wO oH;obtain⟨f0,f1,f2⟩:=Aa oH;have eN:=rC.out.ne (λe=>by have:=qh.out.1;rw[e] at this;simp at this);rw[<-vY A dR c] at eN;have gF:=λ(o:Nat) v (h:_=some v)=>l_.cell (a:=⟨jU,o,none⟩) h eN;have Cx:=Lib.hid (And.intro o5 (And.intro o7 (And.intro l_ oY)));clear o5 o7 l_ oY oH tD eN;refine ev.out _ _ (λ_=>?_) (λdI=>?_)
    ·exact⟨eg,e3,gF _ _ c4.2.2.1,gF _ _ c4.2.2.2⟩
    replace c4:=dI bu;clear ev K dI;(try simp only[Act.put,ed]);refine dt.dV 26 c4 ?_;(try simp only[Act.put,ed]);refine dt.one (i:=27) rfl (by kernel_rfl) ?_;intro K ev;clear gF
    go_simp
    refine ev.out _ _ (λh=>absurd rfl h) (λyw=>?_);clear ev K c4 yw;(try simp only[Act.put,ed]);refine dt.done (by kernel_rfl) ?_ _
    go_wp2_with fail
    go_roundw
    case rel=>
     obtain⟨o5,o7,l_,oY⟩:=Cx.out;have aW:=py.out;subst aW;have SK:mO PP=[.string db.1.1,.int .i64 xJ.1.1.1.1,.string xJ.1.1.2.1.1,.int .i64 ((ct.length:Int)+1)]:=by
      rw[Rl.out];show[Value.string db.1.1,.int .i64 xJ.1.1.1.1,.string xJ.1.1.2.1.1,.int .i64 (a_.w .i64 ((ct.length+1:Nat):Int)).1]=_;rw[Tw ab];rfl
     have xA:=rC.out.add (p:=PP) (b:=qa.heap.size) (r_ _ _ _) (Nat.le_refl _) (Ef _ _ _) (λ_=>by rw[SK];exact(ja.new qa _ _).alloc _) l_ (by rw[UI (by rw[Rl.out];rfl),Rl.out];exact o7) oY o5;have az:=an2.out;exact⟨ct.length+1,tW,nL,_,TP,xJ.2.1,done++[PP],QL.1,rfl,ab,ab,by simp,Lib.hid xA,Lib.hid (by rw[List.map_append,DZ.out];rfl),Lib.hid (by rw[show e9-1-(ct.length+1)=n by omega,an8.out,<-an6.out]),Lib.hid (by rw[<-qy.out,<-an5.out];simp)⟩
    case measure=>simp[intOf];omega
   ·have abM:e9=dR+1:=ab;have ba:=S9.out;rw[show e9-1-dR=0 by omega,uN] at ba;obtain⟨abZ,yD⟩:=Prod.mk.inj (eF ba);have abW:ct.map (·.2)=qI db.1 eV.1 cg bT.1.1 0::mG.1:=by
     rw[DZ.out,<-qy.out,<-abZ,dr,an3.out];rfl
    have Ru:=dI.out;rw[yD] at Ru;have zV:=Lib.hid Ru;have I9:=Lib.hid abW;have aaW:(dR:Int)<(e9:Int):=ab;have aPx:dR<e9:=ab;have aPl:IntKind.i64.wrap ((e9:Int)-1)=(dR:Int):=by rw[IntWalk.i64_in _ ab];omega
    have py:=Lib.hid Kq;have Yx:=Lib.hid abM;have ou:¬((dR:Int)+1<(e9:Int)):=ab;have Z':IntKind.i64.wrap ((dR:Int)+1)=(dR:Int)+1:=IntWalk.i64_in _ ab;clear ba abZ yD Ru abW dI DZ S9 qy Kq hlen bl abM
    go_upto_if 93 with fail
    go_cut [15] from 94 to 125 (λXM Yb=>∃(A:Option Addr) (c:Nat) (cT:Nat) (a0:qc) (T:List (Nat×gS)) (m:M),T.length<=8/\
     Hid (mZ c8 d0 w0 68 148 151 w0.heap.size gj.heap.size nJ.heap.size #[.string ⟨#[]⟩,.slice none 0 0,.slice none 0 0] (.string fQ.1) cg eK (.slice (some ⟨jU,k5,none⟩) e9 eU) u A c ((cT,qZ eV.1 cg a0 0)::T) m y.2.1 Yb)/\
     Hid (y.1.1=(fQ,cg,cD ((qZ eV.1 cg a0 ((T.length+1:Nat):Int)::T.map (·.2))++tK eV.1 cg (e9-2) 1 (T.length+1)++[tV]),())))
    case first=>
     have uA:((e9:Int)-2).toNat=e9-2:=ab;rcases anT.out with⟨ai,cy,Y0,cf⟩|⟨ai,cf⟩
     ·obtain rfl:ay=true:=by rw[<-Yv.out,ai];rfl
      rw[uA] at cf;clear ai;have Cz:=Lib.hid cf;have anW:=Lib.hid (λm w (k:K c8 d0 w0 m mG.2 w)=>ZJ k Yy.out Y0);have qi:=Lib.hid (zV.out.below (Below.refl _ _).drew);have Az:dR<cg.1.length:=by rw[vf.out];omega
      have abu:0<cg.1.length:=by rw[vf.out];omega
      have qh:=Lib.hid (And.intro Az abu);clear cf Y0 uA Az abu
      go_wp2_with fail
      refine dt.start (f:=20) (S:=λW=>W.cell? ⟨gj.heap.size,1,none⟩=some (.slice (some ⟨jU,k5,none⟩) e9 eU)/\W.cell? ⟨gj.heap.size,2,none⟩=some (.slice A dR c)/\W.cell? ⟨jU,k5+dR,none⟩=some (.string (gp cg dR).1)/\W.cell? ⟨jU,k5,none⟩=some (.string (gp cg 0).1)) (by kernel_rfl) (qi.out.held py.out qh.out.1 qh.out.2) (λc4=>?_);refine dt.dV 0 c4 ?_;(try simp only[Act.put,ed]);refine dt.dV 1 c4 ?_;(try simp only[Act.put,ed]);refine dt.dV 2 c4 ?_;(try simp only[Act.put,ed]);refine dt.dV 3 c4 ?_;(try simp only[Act.put,ed]);refine dt.dV 4 c4 ?_;(try simp only[Act.put,ed]);refine dt.dV 5 c4 ?_;(try simp only[Act.put,ed]);refine dt.dV 6 c4 ?_;(try simp only[Act.put,ed]);refine dt.dV 7 c4 ?_;(try simp only[Act.put,ed]);refine dt.dV 8 c4 ?_;(try simp only[Act.put,ed]);refine dt.dV 9 c4 ?_;(try simp only[Act.put,ed]);refine dt.dV 10 c4 ?_;(try simp only[Act.put,ed]);refine dt.dV 11 c4 ?_;(try simp only[Act.put,ed]);refine dt.dV 12 c4 ?_;(try simp only[Act.put,ed]);refine dt.one (i:=13) rfl (by kernel_rfl) ?_;intro K ev
      go_simp
      go_at_call 237
      refine(anW.out _ _ qi.out.k).mono ?_;rintro e qa ⟨TP,rfl,tF,Eb⟩;have rC:=Lib.hid (qi.out.call tF Eb);clear tF Eb
      go_simp
      refine ev.out _ _ (λ_=>?_) (λdI=>?_)
      ·exact rC.out.held py.out qh.out.1 qh.out.2
      replace c4:=dI bu;clear ev K dI;(try simp only[Act.put,ed]);refine dt.dV 14 c4 ?_;(try simp only[Act.put,ed]);refine dt.one (i:=15) rfl (by kernel_rfl) ?_;intro K ev
      go_simp
      refine ev.out _ _ (λ_=>?_) (λdI=>?_)
      ·exact⟨jc c4.1,jc c4.2.1,jc c4.2.2.1,jc c4.2.2.2⟩
      replace c4:=dI bu;clear ev K dI;(try simp only[Act.put,ed]);refine dt.dV 16 c4 ?_;(try simp only[Act.put,ed]);refine dt.one (i:=17) rfl (by kernel_rfl) ?_;intro K ev
      go_simp
      refine ev.out _ _ (λ_=>?_) (λdI=>?_)
      ·exact⟨jc c4.1,jc c4.2.1,jc c4.2.2.1,jc c4.2.2.2⟩
      replace c4:=dI bu;clear ev K dI;(try simp only[Act.put,ed]);refine dt.one (i:=18) rfl (by kernel_rfl) ?_;intro K ev;have tD:=λa p=>Ms rC.out.ji.row (r_ qa a p);rw[py.out] at tD;refine QX _ (by rfl) _ _ _ (by rfl) nJ.heap.size 148 i0 _ 3 56 Tryz.underlying66 sr q_ D6 D7 rfl ab (.slice A dR c) dR (ct.flatMap lW) (by rfl) (tD _ _) (some ⟨qa.heap.size+1,0,none⟩) 1 1 [.string (gp cg dR).1,.string (gp cg 0).1,.slice (some ⟨qa.heap.size,0,none⟩) 1 1] (by rfl) (kx.two _ _ _ _ _) rfl (by simp[Value.oneCell']) ab (by unfold maxLen;omega) (jF rC.out.ji.qA (r_ _ _ _).size) ?_;intro tW nL X9 o5 o7 l_ oY;have oH:=rC.out.ji.pre (r_ _ _ _) (by rw[py.out];exact l_);rw[py.out] at oH;obtain⟨bk,eg,e3⟩:=wO oH;obtain⟨f0,f1,f2⟩:=Aa oH;have eN:=rC.out.ne (λe=>by have:=qh.out.1;rw[e] at this;simp at this);rw[<-vY A dR c] at eN;have gF:=λ(o:Nat) v (h:_=some v)=>l_.cell (a:=⟨jU,o,none⟩) h eN;have Cx:=Lib.hid (And.intro o5 (And.intro o7 (And.intro l_ oY)));clear o5 o7 l_ oY oH tD eN;refine ev.out _ _ (λ_=>?_) (λdI=>?_)
      ·exact⟨eg,e3,gF _ _ c4.2.2.1,gF _ _ c4.2.2.2⟩
      replace c4:=dI bu;clear ev K dI;(try simp only[Act.put,ed]);refine dt.dV 19 c4 ?_;(try simp only[Act.put,ed]);refine dt.one (i:=20) rfl (by kernel_rfl) ?_;intro K ev;clear gF
      go_simp
      refine ev.out _ _ (λh=>absurd rfl h) (λyw=>?_);clear ev K c4 yw;(try simp only[Act.put,ed]);refine dt.done (by kernel_rfl) ?_ _
      go_wp2_with fail
      go_meet
      obtain⟨o5,o7,l_,oY⟩:=Cx.out;have aW:=py.out;subst aW;have hm:=Yx.out;have xA:=rC.out.add (p:=(gp cg (e9-2+1),gp cg 0,cD [(S ⟨#[111,107]⟩,cy.1.1.1,cy.1.1.2.1,a_.w .i64 0,())],())) (b:=qa.heap.size) (r_ _ _ _) (Nat.le_refl _) (Ef _ _ _) (λ_=>(ja.new qa _ _).alloc _) l_ (by rw[UI rfl,show e9-2+1=ct.length by omega];exact o7) oY o5;obtain⟨cT,a0,T,b9,ah⟩:=aN7 db.1 eV.1 cg bT.1.1 (b:=qa.heap.size) (od:=cy.1.1) I9.out (e9-2);have cE:y.2.1=cy.2.1:=by rw[Cz.out]
      have bl:=congrArg List.length b9;rw[bw,gX,gX,cd] at bl;rw[b9,<-cE] at xA;exact⟨tW,nL,cT,a0,T,TP,ab,Lib.hid xA,Lib.hid (by rw[Cz.out,ah])⟩
     ·obtain rfl:ay=false:=by rw[<-Yv.out];simpa using ai
      have hm:=Yx.out;rw[uA] at cf;clear ai;have Cz:=Lib.hid cf;have eN:ct≠[]:=λe=>by have:=py.out;rw[e] at this;simp at this;omega
      obtain⟨dF,⟨iI,pl⟩,w6⟩:∃dF e,ct=dF++[e]:=⟨ct.dropLast,ct.getLast eN,(List.dropLast_concat_getLast eN).symm⟩;clear eN;subst w6;obtain⟨a,t,lf⟩:∃a t,pl.2.2.1.1=a::t:=by
       have S8:pl∈qI db.1 eV.1 cg bT.1.1 0::mG.1:=by rw[<-I9.out];simp
       rcases List.mem_cons.1 S8 with e|e
       ·rw[e];exact⟨_,_,rfl⟩
       ·obtain⟨a,h⟩:=amN Yg.out pl e;exact⟨a,[],h⟩
      have hlen:dF.length+1=dR:=by have:=py.out;simpa using this
      obtain⟨Dr,dH,DI⟩:=zV.out.ji.aa8 (i:=dF.length) (e:=(iI,pl)) (by simp);subst dH;have abq:qy iI pl=.slice (some ⟨iI,0,none⟩) (t.length+1) (t.length+1):=by
       unfold qy;rw[if_neg (by rw[lf];simp),lf];rfl
      have fP:wr.cell? ⟨Dr,dF.length*3+2,none⟩=some (.slice (some ⟨iI,0,none⟩) (t.length+1) (t.length+1)):=by rw[<-abq];exact DI
      have ah:=(zV.out.ji.el (iI,pl) (by simp)).2.2.2.2 (by rw[lf];simp);have bM:wr.cell? ⟨iI,3,none⟩=some (.int .i64 a.2.2.2.1.1):=(ah.cell 3).trans (aou lf);have aPF:wr.frozen? ⟨iI,3,none⟩=false:=ah.frozen 3;have n3:wr.cell? ⟨gj.heap.size,2,none⟩=some (.slice (some ⟨Dr,0,none⟩) dR c):=by
       have:=zV.out.ji.nX.cell 2;rw[show(dF++[(iI,pl)]).length=dR from py.out] at this;exact this
      have aPm:IntKind.i64.wrap ((dR:Int)-1)=(dF.length:Int):=by rw[IntWalk.i64_in _ ab];omega
      have aD:(dF.length:Int)<(dR:Int):=ab;have aR:dF.length<dR:=ab;have I8:=Lib.hid lf;have anZ:=Lib.hid hlen;have an1:=Lib.hid hm;clear DI abq ah lf hlen cf uA hm;have lR:0<t.length+1:=Nat.succ_pos _
      go_wp2_with fail
      go_meet
      have s:=zV.out.QQ (dF:=dF) (ea:=[]) (p':=qb pl) (j:=3) (v:=.int .i64 0) (by rw[I8.out];simp) (aOX I8.out) rfl rfl (by rw[anO I8.out,I8.out];rfl);obtain⟨cT,a0,T,b9,ah⟩:=aN5 db.1 eV.1 cg bT.1.1 I9.out (e9-2);have cE:y.2.1=mG.2:=by rw[Cz.out]
      have bl:=congrArg List.length b9;have DT:=anZ.out;have hm:=an1.out;rw[bw,gX,gX,cd] at bl;rw[b9,<-cE] at s;exact⟨_,c,cT,a0,T,m,ab,Lib.hid s,Lib.hid (by rw[Cz.out,ah])⟩
    case rest=>
     obtain⟨A,c,cT,a0,T,m,aqw,Dw,aaX⟩:=hcut;obtain⟨xd,Ki⟩:∃k,k=T.length+1:=⟨_,rfl⟩;rw[<-Ki] at aaX;obtain⟨Dr,dH,DI⟩:=Dw.out.ji.aa8 (i:=0) (e:=(cT,qZ eV.1 cg a0 0)) rfl;subst dH;have fP:wc.cell? ⟨Dr,2,none⟩=some (.slice (some ⟨cT,0,none⟩) 2 2):=DI;have ah:=(Dw.out.ji.el (cT,qZ eV.1 cg a0 0) m2).2.2.2.2 (by intro e;cases e);have gD:wc.cell? ⟨cT,7,none⟩=some (.int .i64 0):=(ah.cell 7).trans apX;have aPG:wc.frozen? ⟨cT,7,none⟩=false:=ah.frozen 7;have n3:wc.cell? ⟨gj.heap.size,2,none⟩=some (.slice (some ⟨Dr,0,none⟩) xd c):=by
      have:=Dw.out.ji.nX.cell 2;rw[show((cT,qZ eV.1 cg a0 0)::T).length=xd by rw[gX,Ki]] at this;exact this
     have XM:=mZ.QQ (dF:=[]) (ea:=T) (p':=qZ eV.1 cg a0 (xd:Int)) (j:=7) (v:=.int .i64 (xd:Int)) Dw.out (by intro e;cases e) (apY ab) rfl rfl rfl;have aob:=Lib.hid XM;have Yw:=Lib.hid Ki;have abz:0<xd:=ab;have aPJ:xd<=9:=ab;clear XM ah Dw Ki aqw zV I9 DI
     go_wp2_with fail
     go_loopw [17] (λi wr=>∃(dR:Nat) (A:Option Addr) (c:Nat) (ct:List (Nat×gS)) (m:M),i=.int .i64 (dR:Int)/\1<=dR/\dR+1<=e9/\ct.length+(e9-dR)<=20/\
      Hid (mZ c8 d0 w0 68 148 151 w0.heap.size gj.heap.size nJ.heap.size #[.string ⟨#[]⟩,.slice none 0 0,.slice none 0 0] (.string fQ.1) cg eK (.slice (some ⟨jU,k5,none⟩) e9 eU) u A c ct m y.2.1 wr)/\
      Hid (ct.map (·.2)++tK eV.1 cg (e9-1-dR) dR ct.length=(qZ eV.1 cg a0 (xd:Int)::T.map (·.2))++tK eV.1 cg (e9-2) 1 xd)) (λi _=>e9-(intOf i).toNat)
     case atStart=>exact⟨1,_,c,_,m,rfl,Nat.le_refl _,ab,by have:=Yw.out;rw[bw,gX,cd];omega,aob,Lib.hid (by rw[List.nil_append,List.map_cons,gX,Yw.out,show e9-1-1=e9-2 by omega])⟩
     case round=>
      obtain⟨dR,A,c,ct,m,rfl,aq4,SY,hlen,dI,fo⟩:=hrel;obtain⟨tN,yN⟩:∃k,ct.length=k:=⟨_,rfl⟩;have Cy:=Lib.hid yN;have aQm:tN<=20:=ab;have aQn:tN+(e9-dR)<=20:=ab;have Z':IntKind.i64.wrap ((dR:Int)+1)=(dR:Int)+1:=IntWalk.i64_in _ ab;by_cases bl:dR+1<e9
      ·have DJ:dR<cg.1.length:=by rw[vf.out];omega
       have DK:dR+1<cg.1.length:=by rw[vf.out];omega
       have qh:=Lib.hid (And.intro DJ DK);have qi:=Lib.hid (dI.out.below (Below.refl _ _).drew);have b9:dR<e9:=ab;have aaW:(dR:Int)<(e9:Int):=ab;have aqy:(dR:Int)+1<(e9:Int):=ab;have aqx:(0:Int)<=(dR:Int)+1:=ab;have apt:((dR:Int)+1).toNat=dR+1:=ab;have aPn:IntKind.i64.wrap ((tN:Int)+1)=(tN:Int)+1:=IntWalk.i64_in _ ab;clear DJ DK dI yN hlen ou
       go_wp2_with fail
       refine dt.start (f:=24) (S:=λW=>W.cell? ⟨gj.heap.size,1,none⟩=some (.slice (some ⟨jU,k5,none⟩) e9 eU)/\W.cell? ⟨gj.heap.size,2,none⟩=some (.slice A tN c)/\W.cell? ⟨jU,k5+dR,none⟩=some (.string (gp cg dR).1)/\W.cell? ⟨jU,k5+(dR+1),none⟩=some (.string (gp cg (dR+1)).1)) (by kernel_rfl) (qi.out.held Cy.out qh.out.1 qh.out.2) (λc4=>?_);refine dt.dV 0 c4 ?_;(try simp only[Act.put,ed]);refine dt.dV 1 c4 ?_;(try simp only[Act.put,ed]);refine dt.dV 2 c4 ?_;(try simp only[Act.put,ed]);refine dt.dV 3 c4 ?_;(try simp only[Act.put,ed]);refine dt.dV 4 c4 ?_;(try simp only[Act.put,ed]);refine dt.dV 5 c4 ?_;(try simp only[Act.put,ed]);refine dt.dV 6 c4 ?_;(try simp only[Act.put,ed]);refine dt.dV 7 c4 ?_;(try simp only[Act.put,ed]);refine dt.dV 8 c4 ?_;(try simp only[Act.put,ed]);refine dt.dV 9 c4 ?_;(try simp only[Act.put,ed]);refine dt.dV 10 c4 ?_;(try simp only[Act.put,ed]);refine dt.dV 11 c4 ?_;(try simp only[Act.put,ed]);refine dt.dV 12 c4 ?_;(try simp only[Act.put,ed]);refine dt.dV 13 c4 ?_;(try simp only[Act.put,ed]);refine dt.dV 14 c4 ?_;(try simp only[Act.put,ed]);refine dt.dV 15 c4 ?_;(try simp only[Act.put,ed]);refine dt.dV 16 c4 ?_;(try simp only[Act.put,ed]);refine dt.dV 17 c4 ?_;(try simp only[Act.put,ed]);refine dt.dV 18 c4 ?_;(try simp only[Act.put,ed]);refine dt.one (i:=19) rfl (by kernel_rfl) ?_;intro K ev
       go_simp
       refine ev.out _ _ (λ_=>?_) (λdI=>?_)
       ·exact⟨jc c4.1,jc c4.2.1,jc c4.2.2.1,jc c4.2.2.2⟩
       replace c4:=dI bu;clear ev K dI;(try simp only[Act.put,ed]);refine dt.dV 20 c4 ?_;(try simp only[Act.put,ed]);refine dt.one (i:=21) rfl (by kernel_rfl) ?_;intro K ev
       go_simp
       refine ev.out _ _ (λ_=>?_) (λdI=>?_)
       ·exact⟨jc c4.1,jc c4.2.1,jc c4.2.2.1,jc c4.2.2.2⟩
       replace c4:=dI bu;clear ev K dI;(try simp only[Act.put,ed]);refine dt.one (i:=22) rfl (by kernel_rfl) ?_;intro K ev;have tD:=λa p=>Ms qi.out.ji.row (r_ _ a p);rw[Cy.out] at tD;refine QX _ (by rfl) _ _ _ (by rfl) nJ.heap.size 148 i0 _ 3 56 Tryz.underlying66 sr q_ D6 D7 rfl ab (.slice A tN c) tN (ct.flatMap lW) (by rfl) (tD _ _) (some ⟨wr.heap.size+1,0,none⟩) 1 1 [.string (gp cg dR).1,.string (gp cg (dR+1)).1,.slice (some ⟨wr.heap.size,0,none⟩) 1 1] (by rfl) (kx.two _ _ _ _ _) rfl (by simp[Value.oneCell']) ab (by unfold maxLen;omega) (jF qi.out.ji.qA (r_ _ _ _).size) ?_;intro tW nL X9 o5 o7 l_ oY;have oH:=qi.out.ji.pre (r_ _ _ _) (by rw[Cy.out];exact l_);rw[Cy.out] at oH;obtain⟨bk,eg,e3⟩:=wO oH;obtain⟨f0,f1,f2⟩:=Aa oH;have eN:=qi.out.ne (λe=>by have:=qh.out.1;rw[e] at this;simp at this);rw[<-vY A tN c] at eN;have gF:=λ(o:Nat) v (h:_=some v)=>l_.cell (a:=⟨jU,o,none⟩) h eN;have Cx:=Lib.hid (And.intro o5 (And.intro o7 (And.intro l_ oY)));clear o5 o7 l_ oY oH tD eN;refine ev.out _ _ (λ_=>?_) (λdI=>?_)
       ·exact⟨eg,e3,gF _ _ c4.2.2.1,gF _ _ c4.2.2.2⟩
       replace c4:=dI bu;clear ev K dI;(try simp only[Act.put,ed]);refine dt.dV 23 c4 ?_;(try simp only[Act.put,ed]);refine dt.one (i:=24) rfl (by kernel_rfl) ?_;intro K ev;clear gF
       go_simp
       refine ev.out _ _ (λh=>absurd rfl h) (λyw=>?_);clear ev K c4 yw;(try simp only[Act.put,ed]);refine dt.done (by kernel_rfl) ?_ _
       go_wp2_with fail
       go_roundw
       case rel=>
        obtain⟨o5,o7,l_,oY⟩:=Cx.out;have aW:=Cy.out;subst aW;obtain⟨PP,wY⟩:∃p:gS,p=(gp cg dR,gp cg (dR+1),cD [(eV.1,a_.w .i64 0,S ⟨#[]⟩,a_.w .i64 ((ct.length+1:Nat):Int),())],()):=⟨_,rfl⟩;have SK:mO PP=[.string eV.1.1,.int .i64 0,.string ⟨#[]⟩,.int .i64 ((ct.length:Int)+1)]:=by
         rw[wY];show[Value.string eV.1.1,.int .i64 0,.string ⟨#[]⟩,.int .i64 (a_.w .i64 ((ct.length+1:Nat):Int)).1]=_;rw[Tw ab];rfl
        have xA:=qi.out.add (p:=PP) (b:=wr.heap.size) (r_ _ _ _) (Nat.le_refl _) (Ef _ _ _) (λ_=>by rw[SK];exact(ja.new wr.drew _ _).alloc _) l_ (by rw[UI (by rw[wY];rfl),wY];exact o7) oY o5;obtain⟨n,az⟩:∃n,e9-1-dR=n+1:=⟨e9-2-dR,ab⟩;refine⟨dR+1,tW,nL,_,m,rfl,ab,ab,by rw[bw,gX,cd];omega,Lib.hid xA,Lib.hid ?_⟩;rw[<-fo.out,az,tK,show e9-1-(dR+1)=n by omega,List.map_append,bw,wY];simp
       case measure=>simp[intOf];omega
      ·subst yN;have nf:wr.cell? ⟨gj.heap.size,2,none⟩=some (.slice A ct.length c):=dI.out.ji.nX.cell 2;have an7:=Lib.hid (λo=>Ms dI.out.ji.row (Jp wr o));have sm:=Lib.hid (λo=>jF dI.out.ji.qA (Jp wr o).size);have an0:=Lib.hid bl;have aQl:¬((dR:Int)+1<(e9:Int)):=ab;have anY:=Lib.hid (λ(eZ:Option Addr) (c':Nat) (gj:World) o (cj:(wr.alloc o).grownBy gj (Value.slice A ct.length c).ownBlock) (q9:gj.ownsRow nJ.heap.size 148 3 (.slice eZ (ct.length+1) c') (ct.length+1) (ct.flatMap lW++[.string ⟨#[]⟩,.string ⟨#[]⟩,.slice none 0 0])) lf hle=>
        dI.out.add (p:=tV) (b:=wr.heap.size) (eZ:=eZ) (c':=c') (Jp wr o) (Nat.le_refl _) (by rw[World.size_alloc];omega) (λh=>absurd rfl h) cj (by rw[ayW];exact q9) lf hle)
       have an4:=Lib.hid (λ(gj:World) o (cj:(wr.alloc o).grownBy gj (Value.slice A ct.length c).ownBlock)=>dI.out.ji.pre (Jp wr o) cj);clear hlen bl
       go_wp2_with (at_builtin;refine anE _ rfl _ _ _ rfl nJ.heap.size 148 i0 _ 3 56 Tryz.underlying66 sr q_ D6 D7 rfl ab (.slice A ct.length c) ct.length (ct.flatMap lW) rfl (an7.out _) (some ⟨wr.heap.size,0,none⟩) 1 1 [.string ⟨#[]⟩,.string ⟨#[]⟩,.slice none 0 0] rfl (kx.new wr #[.string ⟨#[]⟩,.string ⟨#[]⟩,.slice none 0 0] 148) rfl (by simp[Value.oneCell']) ab (by unfold maxLen;omega) (sm.out _) ?_;intro tW nL X9 o5 o7 l_ oY;have oH:=an4.out _ _ l_;obtain⟨bk,eg,e3⟩:=wO oH;obtain⟨f0,f1,f2⟩:=Aa oH;have xB:=anY.out _ _ _ _ l_ o7 oY o5;have A7:=xB.ji.nX;rw[bw,gX,cd,gd] at A7;obtain⟨zy,cx,cI⟩:=wO A7;obtain⟨Fu,g_,gl⟩:=wO xB.lq;obtain⟨j0,aI,aQ⟩:=Aa xB.lq;have YP:=Lib.hid xB;clear xB A7 oH o5 o7 l_ oY)
       have lq:=((YP.out.lq.IK 0 (.string fQ.1)).IK 1 (.slice (some ⟨jU,k5,none⟩) e9 eU)).IK 2 (.slice tW (ct.length+1) nL);have qE:=lq.cell 0;have bn:=lq.cell 1;have bB:=lq.cell 2;clear lq Fu g_ gl j0 aI aQ zy cx cI bk eg e3 f0 f1 f2;refine bodyPost_ret (v:=.agg #[.string fQ.1,.slice (some ⟨jU,k5,none⟩) e9 eU,.slice tW (ct.length+1) nL]) (by simp[results,Tryz.results193,go_sem,qE,bn,bB]) rfl ?_;have ai:=an0.out;have aA:=fo.out;rw[show e9-1-dR=0 by omega,tK,dr] at aA;have cf:=aaX.out;rw[<-aA] at cf;have aW:y.1.1.2.2.1.1=(ct++[(wr.heap.size,tV)]).map (·.2):=by
        rw[cf];show(cD (ct.map (·.2)++[tV])).1=_;rw[fu (by rw[bw,List.length_map,List.length_singleton];omega),List.map_append];rfl
       have s:=YP.out;obtain⟨m',ex,cB,dl,zx⟩:=s.ji.done s.k (by have:=s.ba;have:=s.ez;omega) y.1.1.2.2.1 aW;rw[bw,gX,cd,gd] at dl;refine⟨m',.slice (some ⟨jU,k5,none⟩) e9 eU,.slice tW (ct.length+1) nL,by rw[cf],K.end c8 d0 w0 cB (zx _ (by have:=s.ez;have:=s.ji.aA;omega) s.rn) s.ba _ _ _,?_,dl⟩;have:=s.ro.ext ex.fz;rw[cf];exact this
theorem aur:ud Tryz.prog 193 ⟨Eo,Ep,zf⟩:=by
 intro x y cj m w vs bh fU aT;obtain⟨aN2⟩:=aN6 cj;obtain⟨⟨Q3,fQ,many,eK,j4⟩,d0,kW⟩:=x
 match vs,aT with
 |⟨[a0,dK,dh,gT]⟩,⟨⟨r,aU,gv⟩,aE,aP,bS,_⟩=>
  have gv:a0=.pointer (some ⟨r,0,none⟩):=gv;have aE:dK=.string fQ.1:=aE;have aP:dh=.int .i64 many.1:=aP;subst gv aE aP;refine⟨apq (f:=193) (fn:=qt 193) (c:=pJ 193) (by kernel_rfl) (by kernel_rfl) (by kernel_rfl) _ _,(aN8 fQ many eK aN2 bh aU bS.1).mono ?_⟩;rintro ex w' ⟨m',v1,v2,rfl,k,aa,af⟩;refine⟨m',nN y.2.1,[.agg #[.string y.1.1.1.1,v1,v2]],rfl,k.st,k.aU,?_⟩;exact Sp (vs:=[.agg [.str y.1.1.1,.row [.str] y.1.1.2.1 .no,.row ff y.1.1.2.2.1 .no]]) k.aU rfl ⟨⟨_,rfl,rfl,⟨aa,trivial⟩,⟨af,trivial⟩,trivial⟩,trivial⟩
open bI (T)
set_option maxRecDepth 100000
theorem atQ:bt 157 K6:=bF ⟨.nil,[aH ri,aH ado,aH aur]⟩ [] []
theorem atX:bt 107 Ek:=bF ⟨(put .nil 7 .bY),[aH W1,aH atQ,aH ado]⟩ [] []
noncomputable def adm:de:=⟨(put .nil 1 .bY),[]⟩
theorem at2:bV 109 0 K9:=b5 adm [] []
theorem at5:bt 109 K8:=bF adm [bW at2] []
theorem atU:bt 53 K7:=bF ⟨(put (put .nil 3 .bY) 8 .tok),[aH atX,aH ri,aH at5]⟩ [] []
theorem K0:bt 112 za:=bF ⟨(put .nil 2 .bY),[]⟩ [] []
theorem xh:bt 115 nT:=bF fl [] []
theorem AZ:bt 118 sI:=bF fl [] []
theorem A0:bt 119 rO:=bF ⟨.nil,[aH AZ]⟩ [] []
theorem adX:bt 164 AX:=bF ⟨.nil,[aH xh,aH AZ,aH A0]⟩ [] []
theorem Eu:bt 170 uP:=bF ⟨(put .nil 3 .bY),[]⟩ [] []
theorem zi:bt 117 rN:=bF ⟨.nil,[aH Eu]⟩ [] []
theorem zh:bt 116 qH:=bF ⟨.nil,[aH Eu]⟩ [] []
theorem Lg:bt 167 tL:=bF ⟨.nil,[aH Eu]⟩ [] []
theorem auM:bt 206 Lk:=bF ⟨.nil,[aH zh,aH zi,aH Lg]⟩ [] []
theorem aus:bt 165 Lf:=bF ⟨.nil,[aH xh,aH zh,aH zi,aH AZ,aH adX,aH Lg,aH auM]⟩ [] []
theorem adZ:bt 169 Es:=bF ⟨.nil,[aH aiL]⟩ [] []
theorem au4:bV 208 1 Lo:=b5 fl [] []
theorem au2:bV 208 0 Ln:=b5 fl [bW au4] []
theorem aei:bt 208 Ev:=bF fl [bW au2] []
theorem auZ:bt 207 Lm:=bF ⟨(put (put .nil 5 .bY) 8 .bY),[aH ri,aH K0,aH xh,aH zh,aH zi,aH A0,aH aei]⟩ [] []
noncomputable def aea:de:=⟨(put .nil 4 .bY),[aH ri,aH K0,aH xh,aH zi,aH A0,aH adZ]⟩
theorem auQ:bV 114 0 Ll:=b5 aea [] []
theorem ad':bt 114 Et:=bF aea [bW auQ] []
theorem auE:bt 209 Lh:=bF ⟨.nil,[aH ri,aH zh,aH zi,aH Lg,aH Eu,aH aiL]⟩ [] []
abbrev zg:={g:U pc->Option (U rj)//bt 113 g}
noncomputable def auU (r:zg):de:=⟨(put (put (put .nil 10 .bY) 11 .bY) 13 .bY),[aH r.2,aH ad',aH xh,aH zh,aH A0,aH aei,aH auE]⟩
theorem auT:∀r:zg,bt 168 (AY r.1):=Al auU (λr=>[]) []
noncomputable def ad6 (r:zg):de:=⟨(put (put .nil 6 .bY) 11 .bY),[aH ri,aH r.2,aH xh,aH AZ,aH A0,aH adZ,aH Eu,aH auZ]⟩
theorem auH:∀r:zg,bV 166 0 (Lj r.1):=ac0 ad6 (λr=>[]) [.c 11 ad4 ad3]
theorem auJ:∀r:zg,bt 166 (Li r.1):=Al ad6 (λr=>[bW (auH r)]) []
noncomputable def auz (r:zg):de:=⟨(put .nil 6 .bY),[aH ri,aH xh,aH zh,aH zi,aH AZ,aH adX,aH aus,aH (auJ r),aH Lg,aH (auT r)]⟩
theorem auu:∀r:zg,bt 113 (AW r.1):=Al auz (λr=>[]) [.c 8 adP adO,.c 12 adR adQ,.c 20 adU adT]
theorem auv (n:Nat):bt 113 (xk n):=by
 induction n with
 |zero=>exactλx y h=>by cases h
 |succ n cu=>exact auu ⟨xk n,cu⟩
theorem auy:bt 113 TW:=auv px
theorem auo:bt 55 Le:=bF ⟨(put .nil 8 .bY),[aH ri,aH K0,aH auy]⟩ [] []
noncomputable def adE:de:=⟨(put .nil 8 .bY),[aH ri,aH K0,aH ad',aH xh,aH zh,aH zi,aH AZ,aH A0]⟩
theorem auj:bV 56 0 Ld:=b5 adE [] [.c 17 adC adB]
theorem aul:bt 56 Lc:=bF adE [bW auj] []
noncomputable def TT:de:=⟨.nil,[aH atE,aH atU,aH W1,aH auo,aH aul]⟩
theorem atK:bV 25 1 K4:=b5 TT [] []
theorem atI:bV 25 0 K3:=b5 TT [bW atK] []
theorem atN:bt 25 K2:=bF TT [bW atI] []
theorem at0:bt 26 adk:=λx y h=>by cases h
theorem ayR:bt 8 MA:=bF ⟨.nil,[aH atN,aH at0]⟩ [] []
theorem ayL:bt 7 My:=bF ⟨(put (put .nil 1 .bY) 4 .bY),[aH aE4]⟩ [] []
theorem ayO:bt 15 Mz:=bF fl [] []
def aeA:=aJ [(0,au)]
def avy:=aJ [(0,aZ)]
def Ug:aY:=⟨[(3,tG),(4,.tok [.int .u8] 0 [])],[.bC [.int .u8]]⟩
def avx:bG:=[((.exit 0),⟨[(3,tG),(4,.tok [.int .u8] 1 [])],[.gone,.bC [.int .u8]]⟩)]
def LD (x:U Ug):Option (U Ug⊕bo avx):=cond (f_ (a_.w .u64 128) x.1.1) ((c6 1 x.1.2.1 (cD [((ox (ey .u8 x.1.1) (a_.w .u8 128)),())])).bind λcg=>(ra x.1.1 (a_.w .u64 7)).bind λv4=>some (.inl ((v4,cg,()),((),())))) (some (.inr ((x.1.1,x.1.2.1,()),((),(),()))))
def xp (x:U aeA):Option (U avy):=(y3 (ey .u64 x.1.1) (a_.w .u64 1)).bind λv1=>(ra x.1.1 (a_.w .u64 63)).bind λv2=>(a2 LD (((rb v1 (ey .u64 v2)),L.nil,()),((),()))).bind λa9=>(c6 1 a9.1.2.1 (cD [((ey .u8 a9.1.1),())])).bind λiB=>some (((nK iB),()),())
def agu:aY:=⟨[(0,b_),(1,au)],lK⟩
def ayi:aY:=⟨[],lJ⟩
def Fe (x:U agu):Option (U ayi):=(xp ((x.1.2.1,()),())).bind λaq=>(sc aq.1.1).bind λea=>(c6 1 x.2.1.1 ea).bind λcg=>some ((),((cg,()),(),(),()))
def agr:aY:=⟨[(0,b_),(1,au)],lK⟩
def ayb:aY:=⟨[],lJ⟩
def lA (x:U agr):Option (U ayb):=(Fe (((),x.1.2.1,()),((x.2.1.1,()),(),()))).bind λaq=>some ((),((aq.2.1.1,()),(),(),()))
def agA:aY:=⟨[(0,b_),(1,aZ)],lK⟩
def ays:aY:=⟨[],lJ⟩
def pe (x:U agA):Option (U ays):=(lA (((),(kf x.1.2.1),()),((x.2.1.1,()),(),()))).bind λaq=>(sc x.1.2.1).bind λea=>(c6 1 aq.2.1.1 ea).bind λcg=>some ((),((cg,()),(),(),()))
def afm:aY:=⟨[(0,b_),(1,aC ck),(2,.fn 61 [(0,0)] [])],lK⟩
def awz:aY:=⟨[],lJ⟩
def afl:aY:=⟨[(2,.fn 61 [(0,0)] []),(12,aC ck),(13,au),(14,au)],lK⟩
def awx:bG:=[((.exit 0),⟨[],lJ⟩)]
def EW (x:U afl):Option (U afl⊕bo awx):=cond (bg x.1.2.2.2.1 x.1.2.2.1) ((a1 x.1.2.1 (x.1.2.2.2.1).1).bind λaP=>(pe (((),aP.1,()),((x.2.1.1,()),(),()))).bind λaK=>some (.inl (((),x.1.2.1,x.1.2.2.1,(bc x.1.2.2.2.1 (W 1)),()),((aK.2.1.1,()),(),())))) (some (.inr ((),((x.2.1.1,()),(),(),()))))
def LV (x:U afm):Option (U awz):=(lA (((),(bf x.1.2.1),()),((x.2.1.1,()),(),()))).bind λaq=>(a2 EW (((),x.1.2.1,(bf x.1.2.1),(W 0),()),((aq.2.1.1,()),(),()))).bind λaS=>some ((),((aS.2.1.1,()),(),(),()))
def agl:aY:=⟨[(0,b_),(1,.agg g4)],lK⟩
def ax3:aY:=⟨[],lJ⟩
def Fc (x:U agl):Option (U ax3):=(lA (((),x.1.2.1.1,()),((x.2.1.1,()),(),()))).bind λaq=>(pe (((),x.1.2.1.2.1,()),((aq.2.1.1,()),(),()))).bind λaB=>some ((),((aB.2.1.1,()),(),(),()))
def agk:aY:=⟨[(0,b_),(1,.agg dN)],lK⟩
def ax1:aY:=⟨[],lJ⟩
def Md (x:U agk):Option (U ax1):=(pe (((),x.1.2.1.1,()),((x.2.1.1,()),(),()))).bind λaq=>(Fc (((),(x.1.2.1.2.1,x.1.2.1.2.2.1,()),()),((aq.2.1.1,()),(),()))).bind λaB=>(lA (((),x.1.2.1.2.2.2.1,()),((aB.2.1.1,()),(),()))).bind λaK=>some ((),((aK.2.1.1,()),(),(),()))
def aeN:aY:=⟨[(0,b_),(1,aC dN),(2,.fn 66 [(0,0)] [])],lK⟩
def avL:aY:=⟨[],lJ⟩
def aeM:aY:=⟨[(2,.fn 66 [(0,0)] []),(12,aC dN),(13,au),(14,au)],lK⟩
def avK:bG:=[((.exit 0),⟨[],lJ⟩)]
def EJ (x:U aeM):Option (U aeM⊕bo avK):=cond (bg x.1.2.2.2.1 x.1.2.2.1) ((a1 x.1.2.1 (x.1.2.2.2.1).1).bind λaP=>(Md (((),aP,()),((x.2.1.1,()),(),()))).bind λaK=>some (.inl (((),x.1.2.1,x.1.2.2.1,(bc x.1.2.2.2.1 (W 1)),()),((aK.2.1.1,()),(),())))) (some (.inr ((),((x.2.1.1,()),(),(),()))))
def EI (x:U aeN):Option (U avL):=(lA (((),(bf x.1.2.1),()),((x.2.1.1,()),(),()))).bind λaq=>(a2 EJ (((),x.1.2.1,(bf x.1.2.1),(W 0),()),((aq.2.1.1,()),(),()))).bind λaS=>some ((),((aS.2.1.1,()),(),(),()))
def agy:aY:=⟨[(0,.agg ff),(1,b_)],wN⟩
def ayn:aY:=⟨[],wM⟩
def Ml (x:U agy):Option (U ayn):=(pe (((),x.1.1.1,()),((x.2.2.1.1,()),(),()))).bind λaq=>(pe (((),x.1.1.2.1,()),((aq.2.1.1,()),(),()))).bind λaB=>(EI (((),x.1.1.2.2.1,(),()),((aB.2.1.1,()),(),()))).bind λaK=>some ((),(((),()),(aK.2.1.1,()),(),(),()))
def ae_:aY:=⟨[(0,b_),(1,aC ff),(2,.fn 64 [] [(2,0)])],Js⟩
def awh:aY:=⟨[],Jr⟩
def ae9:aY:=⟨[(2,.fn 64 [] [(0,0)]),(12,aC ff),(13,au),(14,au)],wN⟩
def awf:bG:=[((.exit 0),⟨[],wM⟩)]
def ER (x:U ae9):Option (U ae9⊕bo awf):=cond (bg x.1.2.2.2.1 x.1.2.2.1) ((a1 x.1.2.1 (x.1.2.2.2.1).1).bind λaP=>(Ml ((aP,(),()),(((),()),(x.2.2.1.1,()),(),()))).bind λaK=>some (.inl (((),x.1.2.1,x.1.2.2.1,(bc x.1.2.2.2.1 (W 1)),()),(((),()),(aK.2.2.1.1,()),(),())))) (some (.inr ((),(((),()),(x.2.2.1.1,()),(),(),()))))
def LR (x:U ae_):Option (U awh):=(lA (((),(bf x.1.2.1),()),((x.2.1.1,()),(),()))).bind λaq=>(a2 ER (((),x.1.2.1,(bf x.1.2.1),(W 0),()),(((),()),(aq.2.1.1,()),(),()))).bind λaS=>some ((),((aS.2.2.1.1,()),(),((),()),(),()))
def agz:aY:=⟨[(0,b_),(1,.agg du)],lK⟩
def ayq:aY:=⟨[],lJ⟩
def Mk (x:U agz):Option (U ayq):=(pe (((),x.1.2.1.1,()),((x.2.1.1,()),(),()))).bind λaq=>(LV (((),x.1.2.1.2.1,(),()),((aq.2.1.1,()),(),()))).bind λaB=>(LR (((),x.1.2.1.2.2.1,(),()),((aB.2.1.1,()),(),((),()),()))).bind λaK=>some ((),((aK.2.1.1,()),(),(),()))
def afb:aY:=⟨[(0,b_),(1,aC du),(2,.fn 29 [(0,0)] [])],lK⟩
def awm:aY:=⟨[],lJ⟩
def afa:aY:=⟨[(2,.fn 29 [(0,0)] []),(12,aC du),(13,au),(14,au)],lK⟩
def awk:bG:=[((.exit 0),⟨[],lJ⟩)]
def ES (x:U afa):Option (U afa⊕bo awk):=cond (bg x.1.2.2.2.1 x.1.2.2.1) ((a1 x.1.2.1 (x.1.2.2.2.1).1).bind λaP=>(Mk (((),aP,()),((x.2.1.1,()),(),()))).bind λaK=>some (.inl (((),x.1.2.1,x.1.2.2.1,(bc x.1.2.2.2.1 (W 1)),()),((aK.2.1.1,()),(),())))) (some (.inr ((),((x.2.1.1,()),(),(),()))))
def LS (x:U afb):Option (U awm):=(lA (((),(bf x.1.2.1),()),((x.2.1.1,()),(),()))).bind λaq=>(a2 ES (((),x.1.2.1,(bf x.1.2.1),(W 0),()),((aq.2.1.1,()),(),()))).bind λaS=>some ((),((aS.2.1.1,()),(),(),()))
def ags:aY:=⟨[(0,.agg fS),(1,b_)],wN⟩
def ayd:aY:=⟨[],wM⟩
def Mi (x:U ags):Option (U ayd):=(lA (((),x.1.1.1,()),((x.2.2.1.1,()),(),()))).bind λaq=>(pe (((),x.1.1.2.1,()),((aq.2.1.1,()),(),()))).bind λaB=>(EI (((),x.1.1.2.2.1,(),()),((aB.2.1.1,()),(),()))).bind λaK=>some ((),(((),()),(aK.2.1.1,()),(),(),()))
def afe:aY:=⟨[(0,b_),(1,aC fS),(2,.fn 68 [] [(2,0)])],Js⟩
def awr:aY:=⟨[],Jr⟩
def afd:aY:=⟨[(2,.fn 68 [] [(0,0)]),(12,aC fS),(13,au),(14,au)],wN⟩
def awp:bG:=[((.exit 0),⟨[],wM⟩)]
def ET (x:U afd):Option (U afd⊕bo awp):=cond (bg x.1.2.2.2.1 x.1.2.2.1) ((a1 x.1.2.1 (x.1.2.2.2.1).1).bind λaP=>(Mi ((aP,(),()),(((),()),(x.2.2.1.1,()),(),()))).bind λaK=>some (.inl (((),x.1.2.1,x.1.2.2.1,(bc x.1.2.2.2.1 (W 1)),()),(((),()),(aK.2.2.1.1,()),(),())))) (some (.inr ((),(((),()),(x.2.2.1.1,()),(),(),()))))
def LU (x:U afe):Option (U awr):=(lA (((),(bf x.1.2.1),()),((x.2.1.1,()),(),()))).bind λaq=>(a2 ET (((),x.1.2.1,(bf x.1.2.1),(W 0),()),(((),()),(aq.2.1.1,()),(),()))).bind λaS=>some ((),((aS.2.2.1.1,()),(),((),()),(),()))
def agt:aY:=⟨[(0,b_),(1,.agg dZ)],lK⟩
def ayg:aY:=⟨[],lJ⟩
def Mh (x:U agt):Option (U ayg):=(pe (((),x.1.2.1.1,()),((x.2.1.1,()),(),()))).bind λaq=>(LU (((),x.1.2.1.2.1,(),()),((aq.2.1.1,()),(),((),()),()))).bind λaB=>some ((),((aB.2.1.1,()),(),(),()))
def ae7:aY:=⟨[(0,b_),(1,aC dZ),(2,.fn 31 [(0,0)] [])],lK⟩
def awc:aY:=⟨[],lJ⟩
def ae6:aY:=⟨[(2,.fn 31 [(0,0)] []),(12,aC dZ),(13,au),(14,au)],lK⟩
def awa:bG:=[((.exit 0),⟨[],lJ⟩)]
def EP (x:U ae6):Option (U ae6⊕bo awa):=cond (bg x.1.2.2.2.1 x.1.2.2.1) ((a1 x.1.2.1 (x.1.2.2.2.1).1).bind λaP=>(Mh (((),aP,()),((x.2.1.1,()),(),()))).bind λaK=>some (.inl (((),x.1.2.1,x.1.2.2.1,(bc x.1.2.2.2.1 (W 1)),()),((aK.2.1.1,()),(),())))) (some (.inr ((),((x.2.1.1,()),(),(),()))))
def LQ (x:U ae7):Option (U awc):=(lA (((),(bf x.1.2.1),()),((x.2.1.1,()),(),()))).bind λaq=>(a2 EP (((),x.1.2.1,(bf x.1.2.1),(W 0),()),((aq.2.1.1,()),(),()))).bind λaS=>some ((),((aS.2.1.1,()),(),(),()))
def aeS:aY:=⟨[(0,b_),(1,aC g4),(2,.fn 70 [(0,0)] [])],lK⟩
def avP:aY:=⟨[],lJ⟩
def aeR:aY:=⟨[(2,.fn 70 [(0,0)] []),(12,aC g4),(13,au),(14,au)],lK⟩
def avN:bG:=[((.exit 0),⟨[],lJ⟩)]
def EK (x:U aeR):Option (U aeR⊕bo avN):=cond (bg x.1.2.2.2.1 x.1.2.2.1) ((a1 x.1.2.1 (x.1.2.2.2.1).1).bind λaP=>(Fc (((),aP,()),((x.2.1.1,()),(),()))).bind λaK=>some (.inl (((),x.1.2.1,x.1.2.2.1,(bc x.1.2.2.2.1 (W 1)),()),((aK.2.1.1,()),(),())))) (some (.inr ((),((x.2.1.1,()),(),(),()))))
def LL (x:U aeS):Option (U avP):=(lA (((),(bf x.1.2.1),()),((x.2.1.1,()),(),()))).bind λaq=>(a2 EK (((),x.1.2.1,(bf x.1.2.1),(W 0),()),((aq.2.1.1,()),(),()))).bind λaS=>some ((),((aS.2.1.1,()),(),(),()))
def afh:aY:=⟨[(0,b_),(1,aC bp),(2,.fn 60 [(0,0)] [])],lK⟩
def awv:aY:=⟨[],lJ⟩
def afg:aY:=⟨[(2,.fn 60 [(0,0)] []),(12,aC bp),(13,au),(14,au)],lK⟩
def awu:bG:=[((.exit 0),⟨[],lJ⟩)]
def EV (x:U afg):Option (U afg⊕bo awu):=cond (bg x.1.2.2.2.1 x.1.2.2.1) ((a1 x.1.2.1 (x.1.2.2.2.1).1).bind λaP=>(lA (((),aP.1,()),((x.2.1.1,()),(),()))).bind λaK=>some (.inl (((),x.1.2.1,x.1.2.2.1,(bc x.1.2.2.2.1 (W 1)),()),((aK.2.1.1,()),(),())))) (some (.inr ((),((x.2.1.1,()),(),(),()))))
def EU (x:U afh):Option (U awv):=(lA (((),(bf x.1.2.1),()),((x.2.1.1,()),(),()))).bind λaq=>(a2 EV (((),x.1.2.1,(bf x.1.2.1),(W 0),()),((aq.2.1.1,()),(),()))).bind λaS=>some ((),((aS.2.1.1,()),(),(),()))
def ago:aY:=⟨[(0,.agg c7),(1,b_)],wN⟩
def ax5:aY:=⟨[],wM⟩
def Mf (x:U ago):Option (U ax5):=(pe (((),x.1.1.1,()),((x.2.2.1.1,()),(),()))).bind λaq=>(lA (((),x.1.1.2.1,()),((aq.2.1.1,()),(),()))).bind λaB=>(lA (((),x.1.1.2.2.1,()),((aB.2.1.1,()),(),()))).bind λaK=>some ((),(((),()),(aK.2.1.1,()),(),(),()))
def ae4:aY:=⟨[(0,b_),(1,aC c7),(2,.fn 123 [] [(2,0)])],Js⟩
def av9:aY:=⟨[],Jr⟩
def ae3:aY:=⟨[(2,.fn 123 [] [(0,0)]),(12,aC c7),(13,au),(14,au)],wN⟩
def av7:bG:=[((.exit 0),⟨[],wM⟩)]
def EO (x:U ae3):Option (U ae3⊕bo av7):=cond (bg x.1.2.2.2.1 x.1.2.2.1) ((a1 x.1.2.1 (x.1.2.2.2.1).1).bind λaP=>(Mf ((aP,(),()),(((),()),(x.2.2.1.1,()),(),()))).bind λaK=>some (.inl (((),x.1.2.1,x.1.2.2.1,(bc x.1.2.2.2.1 (W 1)),()),(((),()),(aK.2.2.1.1,()),(),())))) (some (.inr ((),(((),()),(x.2.2.1.1,()),(),(),()))))
def LP (x:U ae4):Option (U av9):=(lA (((),(bf x.1.2.1),()),((x.2.1.1,()),(),()))).bind λaq=>(a2 EO (((),x.1.2.1,(bf x.1.2.1),(W 0),()),(((),()),(aq.2.1.1,()),(),()))).bind λaS=>some ((),((aS.2.2.1.1,()),(),((),()),(),()))
def agp:aY:=⟨[(0,.agg fR),(1,b_)],wN⟩
def ax8:aY:=⟨[],wM⟩
def Mg (x:U agp):Option (U ax8):=(pe (((),x.1.1.1,()),((x.2.2.1.1,()),(),()))).bind λaq=>(pe (((),x.1.1.2.1,()),((aq.2.1.1,()),(),()))).bind λaB=>(EU (((),x.1.1.2.2.1,(),()),((aB.2.1.1,()),(),()))).bind λaK=>some ((),(((),()),(aK.2.1.1,()),(),(),()))
def aeY:aY:=⟨[(0,b_),(1,aC fR),(2,.fn 125 [] [(2,0)])],Js⟩
def avZ:aY:=⟨[],Jr⟩
def aeX:aY:=⟨[(2,.fn 125 [] [(0,0)]),(12,aC fR),(13,au),(14,au)],wN⟩
def avX:bG:=[((.exit 0),⟨[],wM⟩)]
def EM (x:U aeX):Option (U aeX⊕bo avX):=cond (bg x.1.2.2.2.1 x.1.2.2.1) ((a1 x.1.2.1 (x.1.2.2.2.1).1).bind λaP=>(Mg ((aP,(),()),(((),()),(x.2.2.1.1,()),(),()))).bind λaK=>some (.inl (((),x.1.2.1,x.1.2.2.1,(bc x.1.2.2.2.1 (W 1)),()),(((),()),(aK.2.2.1.1,()),(),())))) (some (.inr ((),(((),()),(x.2.2.1.1,()),(),(),()))))
def LN (x:U aeY):Option (U avZ):=(lA (((),(bf x.1.2.1),()),((x.2.1.1,()),(),()))).bind λaq=>(a2 EM (((),x.1.2.1,(bf x.1.2.1),(W 0),()),(((),()),(aq.2.1.1,()),(),()))).bind λaS=>some ((),((aS.2.2.1.1,()),(),((),()),(),()))
def agq:aY:=⟨[(0,b_),(1,.agg eI)],lK⟩
def ax':aY:=⟨[],lJ⟩
def Me (x:U agq):Option (U ax'):=(lA (((),x.1.2.1.1,()),((x.2.1.1,()),(),()))).bind λaq=>(lA (((),x.1.2.1.2.1,()),((aq.2.1.1,()),(),()))).bind λaB=>(lA (((),x.1.2.1.2.2.1,()),((aB.2.1.1,()),(),()))).bind λaK=>(Fe (((),x.1.2.1.2.2.2.1,()),((aK.2.1.1,()),(),()))).bind λaS=>(pe (((),x.1.2.1.2.2.2.2.1,()),((aS.2.1.1,()),(),()))).bind λa9=>(pe (((),x.1.2.1.2.2.2.2.2.1,()),((a9.2.1.1,()),(),()))).bind λbJ=>(EU (((),x.1.2.1.2.2.2.2.2.2.1,(),()),((bJ.2.1.1,()),(),()))).bind λbK=>(LP (((),x.1.2.1.2.2.2.2.2.2.2.1,(),()),((bK.2.1.1,()),(),((),()),()))).bind λcl=>(LN (((),x.1.2.1.2.2.2.2.2.2.2.2.1,(),()),((cl.2.1.1,()),(),((),()),()))).bind λbO=>some ((),((bO.2.1.1,()),(),(),()))
def ae1:aY:=⟨[(0,b_),(1,aC eI),(2,.fn 72 [(0,0)] [])],lK⟩
def av4:aY:=⟨[],lJ⟩
def ae0:aY:=⟨[(2,.fn 72 [(0,0)] []),(12,aC eI),(13,au),(14,au)],lK⟩
def av2:bG:=[((.exit 0),⟨[],lJ⟩)]
def EN (x:U ae0):Option (U ae0⊕bo av2):=cond (bg x.1.2.2.2.1 x.1.2.2.1) ((a1 x.1.2.1 (x.1.2.2.2.1).1).bind λaP=>(Me (((),aP,()),((x.2.1.1,()),(),()))).bind λaK=>some (.inl (((),x.1.2.1,x.1.2.2.1,(bc x.1.2.2.2.1 (W 1)),()),((aK.2.1.1,()),(),())))) (some (.inr ((),((x.2.1.1,()),(),(),()))))
def LO (x:U ae1):Option (U av4):=(lA (((),(bf x.1.2.1),()),((x.2.1.1,()),(),()))).bind λaq=>(a2 EN (((),x.1.2.1,(bf x.1.2.1),(W 0),()),((aq.2.1.1,()),(),()))).bind λaS=>some ((),((aS.2.1.1,()),(),(),()))
def agx:aY:=⟨[(0,b_),(1,.agg iP)],lK⟩
def ayk:aY:=⟨[],lJ⟩
def Mj (x:U agx):Option (U ayk):=(pe (((),x.1.2.1.1,()),((x.2.1.1,()),(),()))).bind λaq=>(LL (((),x.1.2.1.2.1,(),()),((aq.2.1.1,()),(),()))).bind λaB=>(lA (((),x.1.2.1.2.2.1,()),((aB.2.1.1,()),(),()))).bind λaK=>(LO (((),x.1.2.1.2.2.2.1,(),()),((aK.2.1.1,()),(),()))).bind λaS=>some ((),((aS.2.1.1,()),(),(),()))
def aeV:aY:=⟨[(0,b_),(1,aC iP),(2,.fn 33 [(0,0)] [])],lK⟩
def avU:aY:=⟨[],lJ⟩
def aeU:aY:=⟨[(2,.fn 33 [(0,0)] []),(12,aC iP),(13,au),(14,au)],lK⟩
def avS:bG:=[((.exit 0),⟨[],lJ⟩)]
def EL (x:U aeU):Option (U aeU⊕bo avS):=cond (bg x.1.2.2.2.1 x.1.2.2.1) ((a1 x.1.2.1 (x.1.2.2.2.1).1).bind λaP=>(Mj (((),aP,()),((x.2.1.1,()),(),()))).bind λaK=>some (.inl (((),x.1.2.1,x.1.2.2.1,(bc x.1.2.2.2.1 (W 1)),()),((aK.2.1.1,()),(),())))) (some (.inr ((),((x.2.1.1,()),(),(),()))))
def LM (x:U aeV):Option (U avU):=(lA (((),(bf x.1.2.1),()),((x.2.1.1,()),(),()))).bind λaq=>(a2 EL (((),x.1.2.1,(bf x.1.2.1),(W 0),()),((aq.2.1.1,()),(),()))).bind λaS=>some ((),((aS.2.1.1,()),(),(),()))
def aeK:=aJ [(0,aZ)]
def avF:=aJ [(0,.leaf (.int .u32))]
def Uj:=aJ [(0,aZ),(3,.leaf (.int .u32)),(6,au),(7,au)]
def aeJ:bG:=[((.exit 0),aJ [(3,.leaf (.int .u32))])]
def LH (x:U Uj):Option (U Uj⊕bo aeJ):=cond (bg x.1.2.2.2.1 x.1.2.2.1) ((sF x.1.1 (x.1.2.2.2.1).1).bind λv1=>some (.inl ((x.1.1,(sC (rb x.1.2.1 (ey .u32 v1)) (a_.w .u32 16777619)),x.1.2.2.1,(bc x.1.2.2.2.1 (W 1)),()),()))) (some (.inr ((x.1.2.1,()),())))
def zr (x:U aeK):Option (U avF):=(a2 LH ((x.1.1,(a_.w .u32 2166136261),(kf x.1.1),(W 0),()),())).bind λaB=>some ((aB.1.1,()),())
def afo:=aJ [(0,.leaf (.int .u32))]
def awB:=aJ [(0,aZ)]
def EX (x:U afo):Option (U awB):=(ra x.1.1 (a_.w .u64 24)).bind λv1=>(ra x.1.1 (a_.w .u64 16)).bind λv2=>(ra x.1.1 (a_.w .u64 8)).bind λcH=>some (((nK (cD [((ey .u8 v1),()),((ey .u8 v2),()),((ey .u8 cH),()),((ey .u8 x.1.1),())])),()),())
def aeL:=aJ [(0,.agg jD)]
def avH:=aJ [(0,aZ),(1,au)]
def LK (x:U aeL):Option (U avH):=(LS (((),x.1.1.1,(),()),(((cD [((a_.w .u8 82),()),((a_.w .u8 80),()),((a_.w .u8 84),()),((a_.w .u8 49),())]),()),(),()))).bind λaq=>(LQ (((),x.1.1.2.1,(),()),((aq.2.1.1,()),(),()))).bind λaB=>(LM (((),x.1.1.2.2.1,(),()),((aB.2.1.1,()),(),()))).bind λaK=>(zr (((nK aK.2.1.1),()),())).bind λaS=>(EX ((aS.1.1,()),())).bind λa9=>(sc a9.1.1).bind λiB=>(c6 1 aK.2.1.1 iB).bind λiV=>cond (bg (W 65536) (bf iV)) (some (((S ⟨#[]⟩),(W 3300),()),())) (some (((nK iV),(W 0),()),()))
def aeE:=aJ [(0,aZ)]
def avB:=aJ [(0,au),(1,au),(2,bA)]
def aeD:=aJ [(6,au),(7,.leaf (.int .u8))]
def aeC:bG:=[ju [],((.exit 0),aJ [])]
def aeB (x:U aeD):Option (bo aeC):=cond (bb x.1.1 (W 9)) (cond (bg (a_.w .u8 1) x.1.2.1) (some (.inr ((),()))) (some (.inl ((),())))) (some (.inl ((),())))
def Ui:=aJ [(0,aZ),(5,tG),(6,au)]
def avA:bG:=[((.exit 0),aJ []),fK [(2,au),(3,au),(4,bA)]]
def LG (x:U Ui):Option (U Ui⊕bo avA):=cond (bg x.1.2.2.1 (kf x.1.1)) (cond (bg x.1.2.2.1 (W 10)) ((sF x.1.1 (x.1.2.2.1).1).bind λv1=>(aeB ((x.1.2.2.1,v1,()),())).bind λaB=>Sum.elim (λaK=>(y3 (ey .u64 (rM v1 (a_.w .u8 127))) (sC (W 7) x.1.2.2.1)).bind λcQ=>cond (bg v1 (a_.w .u8 128)) (cond (bb v1 (a_.w .u8 0)) (cond (bg (W 0) x.1.2.2.1) (some (.inr (.inl ((),())))) ((ra (ox x.1.2.1 cQ) (a_.w .u64 1)).bind λv6=>some (.inr (.inr (((rb (ey .i64 v6) (uI (ey .i64 (rM (ox x.1.2.1 cQ) (a_.w .u64 1))))),(bc x.1.2.2.1 (W 1)),true,()),()))))) ((ra (ox x.1.2.1 cQ) (a_.w .u64 1)).bind λdW=>some (.inr (.inr (((rb (ey .i64 dW) (uI (ey .i64 (rM (ox x.1.2.1 cQ) (a_.w .u64 1))))),(bc x.1.2.2.1 (W 1)),true,()),()))))) (some (.inl ((x.1.1,(ox x.1.2.1 cQ),(bc x.1.2.2.1 (W 1)),()),())))) (λaS=>some (.inr (.inl ((),())))) aB) (some (.inr (.inl ((),()))))) (some (.inr (.inl ((),()))))
def EH (x:U aeE):Option (U avB):=(a2 LG ((x.1.1,(a_.w .u64 0),(W 0),()),())).bind λcl=>Sum.elim (λbO=>some (((W 0),(W 0),false,()),())) (λcc=>some ((cc.1.1,cc.1.2.1,cc.1.2.2.1,()),())) cl
def age:aY:=⟨[(0,b_)],[.box [aZ,bA]]⟩
def axP:aY:=⟨[(0,au)],[.box [aZ,bA]]⟩
def A2 (x:U age):Option (U axP):=(EH ((x.2.1.1,()),())).bind λaq=>cond (!aq.1.2.2.1) (some (((W 0),()),((x.2.1.1,true,()),()))) (cond (x.2.1.2.1) (some (((W 0),()),((x.2.1.1,true,()),()))) ((lM x.2.1.1 (aq.1.2.1).1 x.2.1.1.1.size).bind λv2=>some ((aq.1.1,()),((v2,x.2.1.2.1,()),()))))
def agd:aY:=⟨[(0,b_)],[.box [aZ,bA]]⟩
def axO:aY:=⟨[(0,au)],[.box [aZ,bA]]⟩
def p6 (x:U agd):Option (U axO):=(A2 (((),()),(x.2.1,()))).bind λaq=>cond (bg aq.1.1 (W 0)) (some (((W 0),()),((aq.2.1.1,true,()),()))) (cond (bg (kf aq.2.1.1) aq.1.1) (some (((W 0),()),((aq.2.1.1,true,()),()))) (cond (aq.2.1.2.1) (some (((W 0),()),(aq.2.1,()))) (some ((aq.1.1,()),(aq.2.1,())))))
def agj:aY:=⟨[(0,b_)],[.box [aZ,bA]]⟩
def axZ:aY:=⟨[(0,aZ)],[.box [aZ,bA]]⟩
def pd (x:U agj):Option (U axZ):=(p6 (((),()),(x.2.1,()))).bind λaq=>(lM aq.2.1.1 0 (aq.1.1).1).bind λv2=>(lM aq.2.1.1 (aq.1.1).1 aq.2.1.1.1.size).bind λcH=>some ((v2,()),((cH,aq.2.1.2.1,()),()))
def af3:aY:=⟨[(0,b_),(1,.fn 78 [(0,0)] [])],[.box [aZ,bA]]⟩
def axs:aY:=⟨[(0,aC ck)],[.box [aZ,bA]]⟩
def af2:aY:=⟨[(0,b_),(1,.fn 78 [(0,0)] []),(5,.tok ck 1 []),(6,au)],[.box [aZ,bA],.bC ck]⟩
def axq:bG:=[((.exit 0),⟨[(5,.tok ck 2 [])],[.box [aZ,bA],.gone,.bC ck]⟩)]
def Fa (x:U af2):Option (U af2⊕bo axq):=cond (bg (W 0) x.1.2.2.2.1) (cond (!x.2.1.2.1) ((pd (((),()),(x.2.1,()))).bind λaB=>(c6 16 x.1.2.2.1 (cD [(aB.1.1,())])).bind λcg=>some (.inl (((),(),cg,(gf x.1.2.2.2.1 (W 1)),()),(aB.2.1,(),())))) (some (.inr ((x.1.2.2.1,()),(x.2.1,(),(),()))))) (some (.inr ((x.1.2.2.1,()),(x.2.1,(),(),()))))
def L5 (x:U af3):Option (U axs):=(p6 (((),()),(x.2.1,()))).bind λaq=>(a2 Fa (((),(),L.nil,aq.1.1,()),(aq.2.1,(),()))).bind λaS=>some ((aS.1.1,()),(aS.2.1,()))
def aga:aY:=⟨[(0,b_)],[.box [aZ,bA]]⟩
def axH:aY:=⟨[(0,au)],[.box [aZ,bA]]⟩
def rQ (x:U aga):Option (U axH):=(A2 (((),()),(x.2.1,()))).bind λaq=>some ((aq.1.1,()),(aq.2.1,()))
def af6:aY:=⟨[(0,b_)],[.box [aZ,bA]]⟩
def axx:aY:=⟨[(0,.agg g4)],[.box [aZ,bA]]⟩
def Fb (x:U af6):Option (U axx):=(rQ (((),()),(x.2.1,()))).bind λaq=>(pd (((),()),(aq.2.1,()))).bind λaB=>some (((aq.1.1,aB.1.1,()),()),(aB.2.1,()))
def af5:aY:=⟨[(0,b_)],[.box [aZ,bA]]⟩
def axv:aY:=⟨[(0,.agg dN)],[.box [aZ,bA]]⟩
def L6 (x:U af5):Option (U axv):=(pd (((),()),(x.2.1,()))).bind λaq=>(Fb (((),()),(aq.2.1,()))).bind λaB=>(rQ (((),()),(aB.2.1,()))).bind λaK=>some (((aq.1.1,aB.1.1.1,aB.1.1.2.1,aK.1.1,()),()),(aK.2.1,()))
def afs:aY:=⟨[(0,b_),(1,.fn 83 [(0,0)] [])],[.box [aZ,bA]]⟩
def awE:aY:=⟨[(0,aC dN)],[.box [aZ,bA]]⟩
def afr:aY:=⟨[(0,b_),(1,.fn 83 [(0,0)] []),(5,.tok dN 1 []),(6,au)],[.box [aZ,bA],.bC dN]⟩
def awD:bG:=[((.exit 0),⟨[(5,.tok dN 2 [])],[.box [aZ,bA],.gone,.bC dN]⟩)]
def EZ (x:U afr):Option (U afr⊕bo awD):=cond (bg (W 0) x.1.2.2.2.1) (cond (!x.2.1.2.1) ((L6 (((),()),(x.2.1,()))).bind λaB=>(c6 48 x.1.2.2.1 (cD [aB.1.1])).bind λcg=>some (.inl (((),(),cg,(gf x.1.2.2.2.1 (W 1)),()),(aB.2.1,(),())))) (some (.inr ((x.1.2.2.1,()),(x.2.1,(),(),()))))) (some (.inr ((x.1.2.2.1,()),(x.2.1,(),(),()))))
def EY (x:U afs):Option (U awE):=(p6 (((),()),(x.2.1,()))).bind λaq=>(a2 EZ (((),(),L.nil,aq.1.1,()),(aq.2.1,(),()))).bind λaS=>some ((aS.1.1,()),(aS.2.1,()))
def agh:aY:=⟨[(0,b_)],wK⟩
def axU:aY:=⟨[(0,.agg ff)],wK⟩
def Mc (x:U agh):Option (U axU):=(pd (((),()),(x.2.2.1,()))).bind λaq=>(pd (((),()),(aq.2.1,()))).bind λaB=>(EY (((),(),()),(aB.2.1,()))).bind λaK=>some (((aq.1.1,aB.1.1,aK.1.1,()),()),(((),()),aK.2.1,()))
def afP:aY:=⟨[(0,b_),(1,.fn 81 [] [(1,0)])],wL⟩
def axa:aY:=⟨[(0,aC ff)],wL⟩
def afO:aY:=⟨[(0,b_),(1,.fn 81 [] [(1,0)]),(5,.tok ff 2 []),(6,au)],[.box [aZ,bA],.box [b_],.bC ff]⟩
def aw_:bG:=[((.exit 0),⟨[(5,.tok ff 3 [])],[.box [aZ,bA],.box [b_],.gone,.bC ff]⟩)]
def E6 (x:U afO):Option (U afO⊕bo aw_):=cond (bg (W 0) x.1.2.2.2.1) (cond (!x.2.1.2.1) ((Mc (((),()),(((),()),x.2.1,()))).bind λaB=>(c6 56 x.1.2.2.1 (cD [aB.1.1])).bind λcg=>some (.inl (((),(),cg,(gf x.1.2.2.2.1 (W 1)),()),(aB.2.2.1,((),()),(),())))) (some (.inr ((x.1.2.2.1,()),(x.2.1,((),()),(),(),()))))) (some (.inr ((x.1.2.2.1,()),(x.2.1,((),()),(),(),()))))
def L2 (x:U afP):Option (U axa):=(p6 (((),()),(x.2.1,()))).bind λaq=>(a2 E6 (((),(),L.nil,aq.1.1,()),(aq.2.1,((),()),(),()))).bind λaS=>some ((aS.1.1,()),(aS.2.1,((),()),()))
def agi:aY:=⟨[(0,b_)],[.box [aZ,bA]]⟩
def axX:aY:=⟨[(0,.agg du)],[.box [aZ,bA]]⟩
def Mb (x:U agi):Option (U axX):=(pd (((),()),(x.2.1,()))).bind λaq=>(L5 (((),(),()),(aq.2.1,()))).bind λaB=>(L2 (((),(),()),(aB.2.1,((),()),()))).bind λaK=>some (((aq.1.1,aB.1.1,aK.1.1,()),()),(aK.2.1,()))
def afS:aY:=⟨[(0,b_),(1,.fn 37 [(0,0)] [])],[.box [aZ,bA]]⟩
def axf:aY:=⟨[(0,aC du)],[.box [aZ,bA]]⟩
def afR:aY:=⟨[(0,b_),(1,.fn 37 [(0,0)] []),(5,.tok du 1 []),(6,au)],[.box [aZ,bA],.bC du]⟩
def axd:bG:=[((.exit 0),⟨[(5,.tok du 2 [])],[.box [aZ,bA],.gone,.bC du]⟩)]
def E7 (x:U afR):Option (U afR⊕bo axd):=cond (bg (W 0) x.1.2.2.2.1) (cond (!x.2.1.2.1) ((Mb (((),()),(x.2.1,()))).bind λaB=>(c6 64 x.1.2.2.1 (cD [aB.1.1])).bind λcg=>some (.inl (((),(),cg,(gf x.1.2.2.2.1 (W 1)),()),(aB.2.1,(),())))) (some (.inr ((x.1.2.2.1,()),(x.2.1,(),(),()))))) (some (.inr ((x.1.2.2.1,()),(x.2.1,(),(),()))))
def L3 (x:U afS):Option (U axf):=(p6 (((),()),(x.2.1,()))).bind λaq=>(a2 E7 (((),(),L.nil,aq.1.1,()),(aq.2.1,(),()))).bind λaS=>some ((aS.1.1,()),(aS.2.1,()))
def agb:aY:=⟨[(0,b_)],wK⟩
def axJ:aY:=⟨[(0,.agg fS)],wK⟩
def L' (x:U agb):Option (U axJ):=(rQ (((),()),(x.2.2.1,()))).bind λaq=>(pd (((),()),(aq.2.1,()))).bind λaB=>(EY (((),(),()),(aB.2.1,()))).bind λaK=>some (((aq.1.1,aB.1.1,aK.1.1,()),()),(((),()),aK.2.1,()))
def afV:aY:=⟨[(0,b_),(1,.fn 85 [] [(1,0)])],wL⟩
def axk:aY:=⟨[(0,aC fS)],wL⟩
def afU:aY:=⟨[(0,b_),(1,.fn 85 [] [(1,0)]),(5,.tok fS 2 []),(6,au)],[.box [aZ,bA],.box [b_],.bC fS]⟩
def axi:bG:=[((.exit 0),⟨[(5,.tok fS 3 [])],[.box [aZ,bA],.box [b_],.gone,.bC fS]⟩)]
def E8 (x:U afU):Option (U afU⊕bo axi):=cond (bg (W 0) x.1.2.2.2.1) (cond (!x.2.1.2.1) ((L' (((),()),(((),()),x.2.1,()))).bind λaB=>(c6 48 x.1.2.2.1 (cD [aB.1.1])).bind λcg=>some (.inl (((),(),cg,(gf x.1.2.2.2.1 (W 1)),()),(aB.2.2.1,((),()),(),())))) (some (.inr ((x.1.2.2.1,()),(x.2.1,((),()),(),(),()))))) (some (.inr ((x.1.2.2.1,()),(x.2.1,((),()),(),(),()))))
def L4 (x:U afV):Option (U axk):=(p6 (((),()),(x.2.1,()))).bind λaq=>(a2 E8 (((),(),L.nil,aq.1.1,()),(aq.2.1,((),()),(),()))).bind λaS=>some ((aS.1.1,()),(aS.2.1,((),()),()))
def agc:aY:=⟨[(0,b_)],[.box [aZ,bA]]⟩
def axM:aY:=⟨[(0,.agg dZ)],[.box [aZ,bA]]⟩
def L_ (x:U agc):Option (U axM):=(pd (((),()),(x.2.1,()))).bind λaq=>(L4 (((),(),()),(aq.2.1,((),()),()))).bind λaB=>some (((aq.1.1,aB.1.1,()),()),(aB.2.1,()))
def afM:aY:=⟨[(0,b_),(1,.fn 39 [(0,0)] [])],[.box [aZ,bA]]⟩
def aw7:aY:=⟨[(0,aC dZ)],[.box [aZ,bA]]⟩
def afL:aY:=⟨[(0,b_),(1,.fn 39 [(0,0)] []),(5,.tok dZ 1 []),(6,au)],[.box [aZ,bA],.bC dZ]⟩
def aw5:bG:=[((.exit 0),⟨[(5,.tok dZ 2 [])],[.box [aZ,bA],.gone,.bC dZ]⟩)]
def E5 (x:U afL):Option (U afL⊕bo aw5):=cond (bg (W 0) x.1.2.2.2.1) (cond (!x.2.1.2.1) ((L_ (((),()),(x.2.1,()))).bind λaB=>(c6 40 x.1.2.2.1 (cD [aB.1.1])).bind λcg=>some (.inl (((),(),cg,(gf x.1.2.2.2.1 (W 1)),()),(aB.2.1,(),())))) (some (.inr ((x.1.2.2.1,()),(x.2.1,(),(),()))))) (some (.inr ((x.1.2.2.1,()),(x.2.1,(),(),()))))
def L1 (x:U afM):Option (U aw7):=(p6 (((),()),(x.2.1,()))).bind λaq=>(a2 E5 (((),(),L.nil,aq.1.1,()),(aq.2.1,(),()))).bind λaS=>some ((aS.1.1,()),(aS.2.1,()))
def afx:aY:=⟨[(0,b_),(1,.fn 88 [(0,0)] [])],[.box [aZ,bA]]⟩
def awI:aY:=⟨[(0,aC g4)],[.box [aZ,bA]]⟩
def afw:aY:=⟨[(0,b_),(1,.fn 88 [(0,0)] []),(5,.tok g4 1 []),(6,au)],[.box [aZ,bA],.bC g4]⟩
def awG:bG:=[((.exit 0),⟨[(5,.tok g4 2 [])],[.box [aZ,bA],.gone,.bC g4]⟩)]
def E0 (x:U afw):Option (U afw⊕bo awG):=cond (bg (W 0) x.1.2.2.2.1) (cond (!x.2.1.2.1) ((Fb (((),()),(x.2.1,()))).bind λaB=>(c6 24 x.1.2.2.1 (cD [aB.1.1])).bind λcg=>some (.inl (((),(),cg,(gf x.1.2.2.2.1 (W 1)),()),(aB.2.1,(),())))) (some (.inr ((x.1.2.2.1,()),(x.2.1,(),(),()))))) (some (.inr ((x.1.2.2.1,()),(x.2.1,(),(),()))))
def LW (x:U afx):Option (U awI):=(p6 (((),()),(x.2.1,()))).bind λaq=>(a2 E0 (((),(),L.nil,aq.1.1,()),(aq.2.1,(),()))).bind λaS=>some ((aS.1.1,()),(aS.2.1,()))
def afY:aY:=⟨[(0,b_),(1,.fn 86 [(0,0)] [])],[.box [aZ,bA]]⟩
def axo:aY:=⟨[(0,aC bp)],[.box [aZ,bA]]⟩
def afX:aY:=⟨[(0,b_),(1,.fn 86 [(0,0)] []),(5,.tok bp 1 []),(6,au)],[.box [aZ,bA],.bC bp]⟩
def axn:bG:=[((.exit 0),⟨[(5,.tok bp 2 [])],[.box [aZ,bA],.gone,.bC bp]⟩)]
def E_ (x:U afX):Option (U afX⊕bo axn):=cond (bg (W 0) x.1.2.2.2.1) (cond (!x.2.1.2.1) ((rQ (((),()),(x.2.1,()))).bind λaB=>(c6 8 x.1.2.2.1 (cD [(aB.1.1,())])).bind λcg=>some (.inl (((),(),cg,(gf x.1.2.2.2.1 (W 1)),()),(aB.2.1,(),())))) (some (.inr ((x.1.2.2.1,()),(x.2.1,(),(),()))))) (some (.inr ((x.1.2.2.1,()),(x.2.1,(),(),()))))
def E9 (x:U afY):Option (U axo):=(p6 (((),()),(x.2.1,()))).bind λaq=>(a2 E_ (((),(),L.nil,aq.1.1,()),(aq.2.1,(),()))).bind λaS=>some ((aS.1.1,()),(aS.2.1,()))
def af9:aY:=⟨[(0,b_)],wK⟩
def axz:aY:=⟨[(0,.agg c7)],wK⟩
def L8 (x:U af9):Option (U axz):=(pd (((),()),(x.2.2.1,()))).bind λaq=>(rQ (((),()),(aq.2.1,()))).bind λaB=>(rQ (((),()),(aB.2.1,()))).bind λaK=>some (((aq.1.1,aB.1.1,aK.1.1,()),()),(((),()),aK.2.1,()))
def afJ:aY:=⟨[(0,b_),(1,.fn 134 [] [(1,0)])],wL⟩
def aw2:aY:=⟨[(0,aC c7)],wL⟩
def afI:aY:=⟨[(0,b_),(1,.fn 134 [] [(1,0)]),(5,.tok c7 2 []),(6,au)],[.box [aZ,bA],.box [b_],.bC c7]⟩
def aw0:bG:=[((.exit 0),⟨[(5,.tok c7 3 [])],[.box [aZ,bA],.box [b_],.gone,.bC c7]⟩)]
def E4 (x:U afI):Option (U afI⊕bo aw0):=cond (bg (W 0) x.1.2.2.2.1) (cond (!x.2.1.2.1) ((L8 (((),()),(((),()),x.2.1,()))).bind λaB=>(c6 32 x.1.2.2.1 (cD [aB.1.1])).bind λcg=>some (.inl (((),(),cg,(gf x.1.2.2.2.1 (W 1)),()),(aB.2.2.1,((),()),(),())))) (some (.inr ((x.1.2.2.1,()),(x.2.1,((),()),(),(),()))))) (some (.inr ((x.1.2.2.1,()),(x.2.1,((),()),(),(),()))))
def L0 (x:U afJ):Option (U aw2):=(p6 (((),()),(x.2.1,()))).bind λaq=>(a2 E4 (((),(),L.nil,aq.1.1,()),(aq.2.1,((),()),(),()))).bind λaS=>some ((aS.1.1,()),(aS.2.1,((),()),()))
def af_:aY:=⟨[(0,b_)],wK⟩
def axC:aY:=⟨[(0,.agg fR)],wK⟩
def L9 (x:U af_):Option (U axC):=(pd (((),()),(x.2.2.1,()))).bind λaq=>(pd (((),()),(aq.2.1,()))).bind λaB=>(E9 (((),(),()),(aB.2.1,()))).bind λaK=>some (((aq.1.1,aB.1.1,aK.1.1,()),()),(((),()),aK.2.1,()))
def afD:aY:=⟨[(0,b_),(1,.fn 136 [] [(1,0)])],wL⟩
def awS:aY:=⟨[(0,aC fR)],wL⟩
def afC:aY:=⟨[(0,b_),(1,.fn 136 [] [(1,0)]),(5,.tok fR 2 []),(6,au)],[.box [aZ,bA],.box [b_],.bC fR]⟩
def awQ:bG:=[((.exit 0),⟨[(5,.tok fR 3 [])],[.box [aZ,bA],.box [b_],.gone,.bC fR]⟩)]
def E2 (x:U afC):Option (U afC⊕bo awQ):=cond (bg (W 0) x.1.2.2.2.1) (cond (!x.2.1.2.1) ((L9 (((),()),(((),()),x.2.1,()))).bind λaB=>(c6 56 x.1.2.2.1 (cD [aB.1.1])).bind λcg=>some (.inl (((),(),cg,(gf x.1.2.2.2.1 (W 1)),()),(aB.2.2.1,((),()),(),())))) (some (.inr ((x.1.2.2.1,()),(x.2.1,((),()),(),(),()))))) (some (.inr ((x.1.2.2.1,()),(x.2.1,((),()),(),(),()))))
def LY (x:U afD):Option (U awS):=(p6 (((),()),(x.2.1,()))).bind λaq=>(a2 E2 (((),(),L.nil,aq.1.1,()),(aq.2.1,((),()),(),()))).bind λaS=>some ((aS.1.1,()),(aS.2.1,((),()),()))
def af':aY:=⟨[(0,b_)],[.box [aZ,bA]]⟩
def axF:aY:=⟨[(0,.agg eI)],[.box [aZ,bA]]⟩
def L7 (x:U af'):Option (U axF):=(rQ (((),()),(x.2.1,()))).bind λaq=>(rQ (((),()),(aq.2.1,()))).bind λaB=>(rQ (((),()),(aB.2.1,()))).bind λaK=>(A2 (((),()),(aK.2.1,()))).bind λaS=>(pd (((),()),(aS.2.1,()))).bind λa9=>(pd (((),()),(a9.2.1,()))).bind λbJ=>(E9 (((),(),()),(bJ.2.1,()))).bind λbK=>(L0 (((),(),()),(bK.2.1,((),()),()))).bind λcl=>(LY (((),(),()),(cl.2.1,((),()),()))).bind λbO=>some (((aq.1.1,aB.1.1,aK.1.1,aS.1.1,a9.1.1,bJ.1.1,bK.1.1,cl.1.1,bO.1.1,()),()),(bO.2.1,()))
def afG:aY:=⟨[(0,b_),(1,.fn 90 [(0,0)] [])],[.box [aZ,bA]]⟩
def awX:aY:=⟨[(0,aC eI)],[.box [aZ,bA]]⟩
def afF:aY:=⟨[(0,b_),(1,.fn 90 [(0,0)] []),(5,.tok eI 1 []),(6,au)],[.box [aZ,bA],.bC eI]⟩
def awV:bG:=[((.exit 0),⟨[(5,.tok eI 2 [])],[.box [aZ,bA],.gone,.bC eI]⟩)]
def E3 (x:U afF):Option (U afF⊕bo awV):=cond (bg (W 0) x.1.2.2.2.1) (cond (!x.2.1.2.1) ((L7 (((),()),(x.2.1,()))).bind λaB=>(c6 136 x.1.2.2.1 (cD [aB.1.1])).bind λcg=>some (.inl (((),(),cg,(gf x.1.2.2.2.1 (W 1)),()),(aB.2.1,(),())))) (some (.inr ((x.1.2.2.1,()),(x.2.1,(),(),()))))) (some (.inr ((x.1.2.2.1,()),(x.2.1,(),(),()))))
def LZ (x:U afG):Option (U awX):=(p6 (((),()),(x.2.1,()))).bind λaq=>(a2 E3 (((),(),L.nil,aq.1.1,()),(aq.2.1,(),()))).bind λaS=>some ((aS.1.1,()),(aS.2.1,()))
def agf:aY:=⟨[(0,b_)],[.box [aZ,bA]]⟩
def axR:aY:=⟨[(0,.agg iP)],[.box [aZ,bA]]⟩
def Ma (x:U agf):Option (U axR):=(pd (((),()),(x.2.1,()))).bind λaq=>(LW (((),(),()),(aq.2.1,()))).bind λaB=>(rQ (((),()),(aB.2.1,()))).bind λaK=>(LZ (((),(),()),(aK.2.1,()))).bind λaS=>some (((aq.1.1,aB.1.1,aK.1.1,aS.1.1,()),()),(aS.2.1,()))
def afA:aY:=⟨[(0,b_),(1,.fn 41 [(0,0)] [])],[.box [aZ,bA]]⟩
def awN:aY:=⟨[(0,aC iP)],[.box [aZ,bA]]⟩
def afz:aY:=⟨[(0,b_),(1,.fn 41 [(0,0)] []),(5,.tok iP 1 []),(6,au)],[.box [aZ,bA],.bC iP]⟩
def awL:bG:=[((.exit 0),⟨[(5,.tok iP 2 [])],[.box [aZ,bA],.gone,.bC iP]⟩)]
def E1 (x:U afz):Option (U afz⊕bo awL):=cond (bg (W 0) x.1.2.2.2.1) (cond (!x.2.1.2.1) ((Ma (((),()),(x.2.1,()))).bind λaB=>(c6 72 x.1.2.2.1 (cD [aB.1.1])).bind λcg=>some (.inl (((),(),cg,(gf x.1.2.2.2.1 (W 1)),()),(aB.2.1,(),())))) (some (.inr ((x.1.2.2.1,()),(x.2.1,(),(),()))))) (some (.inr ((x.1.2.2.1,()),(x.2.1,(),(),()))))
def LX (x:U afA):Option (U awN):=(p6 (((),()),(x.2.1,()))).bind λaq=>(a2 E1 (((),(),L.nil,aq.1.1,()),(aq.2.1,(),()))).bind λaS=>some ((aS.1.1,()),(aS.2.1,()))
def aeH:=aJ [(0,aZ)]
def aeI:=aJ [(0,.agg jD),(1,au)]
def LF (x:U aeH):Option (U aeI):=cond (bg (kf x.1.1) (W 8)) (some (((L.nil,L.nil,L.nil,()),(W 3301),()),())) (cond (bg (W 65536) (kf x.1.1)) (some (((L.nil,L.nil,L.nil,()),(W 3301),()),())) ((lM x.1.1 0 ((W 4)).1).bind λv1=>cond (!cz v1 (S ⟨#[82,80,84,49]⟩)) (some (((L.nil,L.nil,L.nil,()),(W 3301),()),())) ((lM x.1.1 0 ((gf (kf x.1.1) (W 4))).1).bind λv2=>(lM x.1.1 ((gf (kf x.1.1) (W 4))).1 x.1.1.1.size).bind λcH=>(zr ((v2,()),())).bind λaS=>(EX ((aS.1.1,()),())).bind λa9=>cond (!cz a9.1.1 cH) (some (((L.nil,L.nil,L.nil,()),(W 3301),()),())) ((lM v2 ((W 4)).1 v2.1.size).bind λv6=>(L3 (((),(),()),((v6,false,()),()))).bind λbK=>(L1 (((),(),()),(bK.2.1,()))).bind λcl=>(LX (((),(),()),(cl.2.1,()))).bind λbO=>cond (bO.2.1.2.1) (some (((L.nil,L.nil,L.nil,()),(W 3301),()),())) (cond (!cz bO.2.1.1 (S ⟨#[]⟩)) (some (((L.nil,L.nil,L.nil,()),(W 3301),()),())) (some (((bK.1.1,cl.1.1,bO.1.1,()),(W 0),()),())))))))
theorem avw:bV 22 0 LD:=b5 fl [] []
theorem Uh:bt 22 xp:=bF fl [bW avw] []
theorem agv:bt 120 Fe:=bF ⟨.nil,[aH Uh]⟩ [] []
theorem nU:bt 60 lA:=bF ⟨.nil,[aH agv]⟩ [] []
theorem tQ:bt 61 pe:=bF ⟨.nil,[aH nU]⟩ [] []
noncomputable def afn:de:=⟨.nil,[aH nU,aH tQ]⟩
theorem aww:bV 62 0 EW:=b5 afn [] []
theorem awy:bt 62 LV:=bF afn [bW aww] []
theorem agm:bt 70 Fc:=bF ⟨(put .nil 3 .bY),[aH nU,aH tQ]⟩ [] []
theorem ax0:bt 66 Md:=bF ⟨(put .nil 3 .bY),[aH nU,aH tQ,aH agm]⟩ [] []
noncomputable def aeP:de:=⟨(put .nil 7 .bY),[aH nU,aH ax0]⟩
theorem avJ:bV 65 0 EJ:=b5 aeP [] []
theorem aeO:bt 65 EI:=bF aeP [bW avJ] []
theorem aym:bt 64 Ml:=bF ⟨(put .nil 2 .bY),[aH tQ,aH aeO]⟩ [] []
noncomputable def ae':de:=⟨(put .nil 7 .bY),[aH nU,aH aym]⟩
theorem awe:bV 63 0 ER:=b5 ae' [] []
theorem awg:bt 63 LR:=bF ae' [bW awe] []
theorem ayp:bt 29 Mk:=bF ⟨(put .nil 3 .bY),[aH tQ,aH awy,aH awg]⟩ [] []
noncomputable def afc:de:=⟨(put .nil 7 .bY),[aH ayp,aH nU]⟩
theorem awj:bV 28 0 ES:=b5 afc [] []
theorem awl:bt 28 LS:=bF afc [bW awj] []
theorem ayc:bt 68 Mi:=bF ⟨(put .nil 2 .bY),[aH nU,aH tQ,aH aeO]⟩ [] []
noncomputable def aff:de:=⟨(put .nil 7 .bY),[aH nU,aH ayc]⟩
theorem awo:bV 67 0 ET:=b5 aff [] []
theorem awq:bt 67 LU:=bF aff [bW awo] []
theorem ayf:bt 31 Mh:=bF ⟨(put .nil 3 .bY),[aH tQ,aH awq]⟩ [] []
noncomputable def ae8:de:=⟨(put .nil 7 .bY),[aH ayf,aH nU]⟩
theorem av':bV 30 0 EP:=b5 ae8 [] []
theorem awb:bt 30 LQ:=bF ae8 [bW av'] []
noncomputable def aeT:de:=⟨(put .nil 7 .bY),[aH nU,aH agm]⟩
theorem avM:bV 69 0 EK:=b5 aeT [] []
theorem avO:bt 69 LL:=bF aeT [bW avM] []
noncomputable def afj:de:=⟨.nil,[aH nU]⟩
theorem awt:bV 121 0 EV:=b5 afj [] []
theorem afi:bt 121 EU:=bF afj [bW awt] []
theorem ax4:bt 123 Mf:=bF ⟨(put .nil 2 .bY),[aH nU,aH tQ]⟩ [] []
noncomputable def ae5:de:=⟨(put .nil 7 .bY),[aH nU,aH ax4]⟩
theorem av6:bV 122 0 EO:=b5 ae5 [] []
theorem av8:bt 122 LP:=bF ae5 [bW av6] []
theorem ax7:bt 125 Mg:=bF ⟨(put .nil 2 .bY),[aH tQ,aH afi]⟩ [] []
noncomputable def aeZ:de:=⟨(put .nil 7 .bY),[aH nU,aH ax7]⟩
theorem avW:bV 124 0 EM:=b5 aeZ [] []
theorem avY:bt 124 LN:=bF aeZ [bW avW] []
theorem ax_:bt 72 Me:=bF ⟨(put .nil 3 .bY),[aH nU,aH tQ,aH agv,aH afi,aH av8,aH avY]⟩ [] []
noncomputable def ae2:de:=⟨(put .nil 7 .bY),[aH nU,aH ax_]⟩
theorem av1:bV 71 0 EN:=b5 ae2 [] []
theorem av3:bt 71 LO:=bF ae2 [bW av1] []
theorem ayj:bt 33 Mj:=bF ⟨(put .nil 3 .bY),[aH nU,aH tQ,aH avO,aH av3]⟩ [] []
noncomputable def aeW:de:=⟨(put .nil 7 .bY),[aH ayj,aH nU]⟩
theorem avR:bV 32 0 EL:=b5 aeW [] []
theorem avT:bt 32 LM:=bF aeW [bW avR] []
theorem avE:bV 20 0 LH:=b5 fl [] []
theorem LI:bt 20 zr:=bF fl [bW avE] []
theorem afp:bt 34 EX:=bF fl [] []
theorem avG:bt 11 LK:=bF ⟨(put (put .nil 1 .bY) 5 .tok),[aH LI,aH awl,aH awb,aH avT,aH afp]⟩ [] []
theorem avz:bV 18 0 LG:=b5 fl [] [.c 11 aeD aeC]
theorem aeF:bt 18 EH:=bF fl [bW avz] []
theorem Uk:bt 131 A2:=bF ⟨.nil,[aH aeF]⟩ [] []
theorem rR:bt 77 p6:=bF ⟨.nil,[aH Uk]⟩ [] []
theorem tP:bt 78 pd:=bF ⟨.nil,[aH rR]⟩ [] []
noncomputable def af4:de:=⟨.nil,[aH rR,aH tP]⟩
theorem axp:bV 79 0 Fa:=b5 af4 [] []
theorem axr:bt 79 L5:=bF af4 [bW axp] []
theorem zt:bt 86 rQ:=bF ⟨.nil,[aH Uk]⟩ [] []
theorem af7:bt 88 Fb:=bF ⟨.nil,[aH tP,aH zt]⟩ [] []
theorem axu:bt 83 L6:=bF ⟨.nil,[aH tP,aH zt,aH af7]⟩ [] []
noncomputable def afu:de:=⟨.nil,[aH rR,aH axu]⟩
theorem awC:bV 82 0 EZ:=b5 afu [] []
theorem aft:bt 82 EY:=bF afu [bW awC] []
theorem axT:bt 81 Mc:=bF ⟨.nil,[aH tP,aH aft]⟩ [] []
noncomputable def afQ:de:=⟨.nil,[aH rR,aH axT]⟩
theorem aw9:bV 80 0 E6:=b5 afQ [] []
theorem aw':bt 80 L2:=bF afQ [bW aw9] []
theorem axW:bt 37 Mb:=bF ⟨.nil,[aH tP,aH axr,aH aw']⟩ [] []
noncomputable def afT:de:=⟨.nil,[aH axW,aH rR]⟩
theorem axc:bV 36 0 E7:=b5 afT [] []
theorem axe:bt 36 L3:=bF afT [bW axc] []
theorem axI:bt 85 L':=bF ⟨.nil,[aH tP,aH aft,aH zt]⟩ [] []
noncomputable def afW:de:=⟨.nil,[aH rR,aH axI]⟩
theorem axh:bV 84 0 E8:=b5 afW [] []
theorem axj:bt 84 L4:=bF afW [bW axh] []
theorem axL:bt 39 L_:=bF ⟨.nil,[aH tP,aH axj]⟩ [] []
noncomputable def afN:de:=⟨.nil,[aH axL,aH rR]⟩
theorem aw4:bV 38 0 E5:=b5 afN [] []
theorem aw6:bt 38 L1:=bF afN [bW aw4] []
noncomputable def afy:de:=⟨.nil,[aH rR,aH af7]⟩
theorem awF:bV 87 0 E0:=b5 afy [] []
theorem awH:bt 87 LW:=bF afy [bW awF] []
noncomputable def af0:de:=⟨.nil,[aH rR,aH zt]⟩
theorem axm:bV 132 0 E_:=b5 af0 [] []
theorem afZ:bt 132 E9:=bF af0 [bW axm] []
theorem axy:bt 134 L8:=bF ⟨.nil,[aH tP,aH zt]⟩ [] []
noncomputable def afK:de:=⟨.nil,[aH rR,aH axy]⟩
theorem awZ:bV 133 0 E4:=b5 afK [] []
theorem aw1:bt 133 L0:=bF afK [bW awZ] []
theorem axB:bt 136 L9:=bF ⟨.nil,[aH tP,aH afZ]⟩ [] []
noncomputable def afE:de:=⟨.nil,[aH rR,aH axB]⟩
theorem awP:bV 135 0 E2:=b5 afE [] []
theorem awR:bt 135 LY:=bF afE [bW awP] []
theorem axE:bt 90 L7:=bF ⟨.nil,[aH tP,aH zt,aH Uk,aH afZ,aH aw1,aH awR]⟩ [] []
noncomputable def afH:de:=⟨.nil,[aH rR,aH axE]⟩
theorem awU:bV 89 0 E3:=b5 afH [] []
theorem awW:bt 89 LZ:=bF afH [bW awU] []
theorem axQ:bt 41 Ma:=bF ⟨.nil,[aH tP,aH zt,aH awH,aH awW]⟩ [] []
noncomputable def afB:de:=⟨.nil,[aH axQ,aH rR]⟩
theorem awK:bV 40 0 E1:=b5 afB [] []
theorem awM:bt 40 LX:=bF afB [bW awK] []
theorem avC:bt 13 LF:=bF ⟨.nil,[aH LI,aH afp,aH axe,aH aw6,aH awM]⟩ [] []
def amI:=aJ []
def aNX:=aJ [(0,bA)]
def QJ (x:U amI):Option (U aNX):=(LK (((L.nil,L.nil,L.nil,()),()),())).bind λaq=>(xp (((W 0),()),())).bind λaB=>cond (cz aB.1.1 (S ⟨#[0]⟩)) ((xp (((W (-1)),()),())).bind λaK=>cond (cz aK.1.1 (S ⟨#[1]⟩)) ((xp (((W 64),()),())).bind λaS=>cond (cz aS.1.1 (S ⟨#[128,1]⟩)) (cond (bb aq.1.2.1 (W 0)) (cond (bb (kf aq.1.1) (W 11)) ((lM aq.1.1 0 ((W 7)).1).bind λcQ=>cond (cz cQ (S ⟨#[82,80,84,49,0,0,0]⟩)) ((zr (((S ⟨#[]⟩),()),())).bind λbJ=>some (((bb bJ.1.1 (a_.w .u32 2166136261)),()),())) (some ((false,()),()))) (some ((false,()),()))) (some ((false,()),()))) (some ((false,()),()))) (some ((false,()),()))) (some ((false,()),()))
def amH:=aJ [(0,aC bp),(1,aZ),(2,au),(3,au),(4,bA),(5,au)]
def aNV:=aJ [(0,bA)]
def XH:=aJ [(0,aC bp),(2,au),(3,au),(4,bA),(13,aZ)]
def amG:=[ju [(13,aZ)],fK [(12,bA)]]
def XG (x:U XH):Option (bo amG):=cond (!x.1.2.2.2.1) ((MA ((x.1.1,(W 0),(W 0),()),())).bind λaB=>(My ((aB.1.1,()),())).bind λaK=>(G8 ((aK.1.1,()),())).bind λaS=>cond (bg (kf aS.1.1) (W 12)) (some (.inr ((true,()),()))) (cond (bg (W 6000) (kf aS.1.1)) (some (.inr ((true,()),()))) ((lM aS.1.1 0 ((gf (kf aS.1.1) (W 4))).1).bind λcQ=>(sc cQ).bind λiB=>(Mz ((x.1.2.1,(gf (W (iB.1.length:Nat)) (W 4)),()),())).bind λbK=>cond (decide (0<=((bc (W 4) bK.1.1)).1)&&decide (((bc (W 4) bK.1.1)).1<(iB.1.length:Nat))) ((fq iB (((bc (W 4) bK.1.1)).1).toNat).bind λdD=>(G7 (((nK (ej iB (((bc (W 4) bK.1.1)).1).toNat ((ey .u8 x.1.2.2.1),()))),()),())).bind λbO=>(fE (nK (ej iB (((bc (W 4) bK.1.1)).1).toNat ((ey .u8 x.1.2.2.1),()))) bO.1.1).bind λv10=>some (.inl ((v10,()),()))) (none)))) (some (.inl ((x.1.2.2.2.2.1,()),())))
def XF (x:U amH):Option (U aNV):=(QJ ((),())).bind λaq=>cond (!aq.1.1) (some ((false,()),())) (cond (bg (W 3000) (kf x.1.2.1)) (some ((true,()),())) ((XG ((x.1.1,x.1.2.2.1,x.1.2.2.2.1,x.1.2.2.2.2.1,x.1.2.1,()),())).bind λbT=>Sum.elim (λcL=>(LF ((cL.1.1,()),())).bind λdX=>(Ot ((cL.1.1,()),())).bind λdy=>(EH ((x.1.2.1,()),())).bind λeD=>(G0 ((x.1.2.1,()),())).bind λeO=>cond (bb dX.1.2.1 dy.1.2.1) ((OE ((dX.1.1,dy.1.1,()),())).bind λeY=>cond (eY.1.1) (cond (bb eD.1.1 eO.1.1) (cond (bb eD.1.2.1 eO.1.2.1) (cond (eD.1.2.2.1==eO.1.2.2.1) ((zr ((x.1.2.1,()),())).bind λfe=>(G6 ((x.1.2.1,()),())).bind λfM=>cond (bb fe.1.1 fM.1.1) ((xp ((x.1.2.2.2.2.2.1,()),())).bind λiD=>(u1 ((x.1.2.2.2.2.2.1,()),())).bind λfa=>some (((cz iD.1.1 fa.1.1),()),())) (some ((false,()),()))) (some ((false,()),()))) (some ((false,()),()))) (some ((false,()),()))) (some ((false,()),()))) (some ((false,()),()))) (λcy=>some ((cy.1.1,()),())) bT))
theorem aNW:bt 6 QJ:=bF ⟨.nil,[aH avG,aH LI,aH Uh]⟩ [] []
theorem aNU:bt 4 XF:=bF ⟨(put (put (put (put .nil 14 .bY) 19 .bY) 21 .bY) 61 (.arr [false])),[aH aNW,aH ayL,aH ayR,aH aki,aH avC,aH aGD,aH ayO,aH aka,aH aFb,aH aeF,aH ajG,aH LI,aH ake,aH Uh,aH GY]⟩ [] [.c 21 XH amG]
def av {α:Type}(o:Option α)(P:α->Prop):Prop:=∃y,o=some y/\P y
section
variable{α β Cv:Type}{P Q:α->Prop}{R:β->Prop}
theorem ak {y:α}(h:P y):av (some y) P:=⟨y,rfl,h⟩
theorem bz {R:β->Prop}{y:α}(h:P y):av (some (Sum.inl y:α⊕β)) (Sum.elim P R):=⟨_,rfl,h⟩
theorem a6 {R:β->Prop}{y:β}(h:R y):av (some (Sum.inr y:α⊕β)) (Sum.elim P R):=⟨_,rfl,h⟩
theorem ae {o:Option α}{f:α->Option β}(h:av o P)(bE:∀a,P a->av (f a) R):av (o.bind f) R:=by
 obtain⟨a,rfl,bZ⟩:=h;exact bE a bZ
theorem ag {b:Bool}{x y:Option α}(aa:b=true->av x P)(af:b=false->av y P):av (cond b x y) P:=by
 cases b with
 |true=>exact aa rfl
 |false=>exact af rfl
theorem ee {S:Cv->Prop}{s:α⊕β}{f:α->Option Cv}{g:β->Option Cv}(aM:Sum.elim P R s)(aa:∀a,P a->av (f a) S)(af:∀b,R b->av (g b) S):av (Sum.elim f g s) S:=by
 cases s with
 |inl a=>exact aa a aM
 |inr b=>exact af b aM
theorem av.mono {o:Option α}(h:av o P)(aA:∀y,P y->Q y):av o Q:=by
 obtain⟨y,aa,af⟩:=h;exact⟨y,aa,aA y af⟩
theorem cS {h:α->Option (α⊕β)}(CB:α->Prop)(I4:α->Nat)(aM:∀x,CB x->av (h x) (Sum.elim (λjn=>CB jn/\I4 jn<I4 x) R)):∀x,CB x->av (a2 h x) R:=by
 have key:∀n x,I4 x<n->CB x->av (a2 h x) R:=by
  intro n;induction n with
  |zero=>intro x aO;omega
  |succ n cu=>
   intro x aO aF;obtain⟨r,aa,af⟩:=aM x aF;cases r with
   |inl jn=>
    rw[atc aa];have af:CB jn/\I4 jn<I4 x:=af;exact cu jn ab af.1
   |inr y=>exact⟨y,atb aa,af⟩
 exactλx=>key _ x (Nat.lt_succ_self _)
end
section
variable{k cB:IntKind}
theorem wrap64 (n:Int):IntKind.i64.wrap n=(n+9223372036854775808)%18446744073709551616-9223372036854775808:=by
 show(if(true&&decide (n%(2^64:Int)>=(2^(64-1):Int)))=true then n%(2^64:Int)-(2^64:Int) else n%(2^64:Int))=_;have aE:(2^64:Int)=18446744073709551616:=by decide
 have aP:(2^(64-1):Int)=9223372036854775808:=by decide
 rw[aE,aP];simp only[Bool.true_and,decide_eq_true_eq];split<;>omega
theorem mH (n:Int):IntKind.u64.wrap n=n%18446744073709551616:=by
 show(if(false&&decide (n%(2^64:Int)>=(2^(64-1):Int)))=true then n%(2^64:Int)-(2^64:Int) else n%(2^64:Int))=_;have aE:(2^64:Int)=18446744073709551616:=by decide
 rw[aE];simp
theorem wu (n:Int):IntKind.u8.wrap n=n%256:=by
 show(if(false&&decide (n%(2^8:Int)>=(2^(8-1):Int)))=true then n%(2^8:Int)-(2^8:Int) else n%(2^8:Int))=_;have aE:(2^8:Int)=256:=by decide
 rw[aE];simp
theorem L.b {α:Type}(l:L α):l.1.length<=140737488355328:=l.2
theorem S.b (s:dY):s.1.size<=9223372036854775807:=s.2
theorem a_.qm (x:a_ .i64):-9223372036854775808<=x.1/\x.1<=9223372036854775807:=x.2
theorem acr (n:Int):(a_.w k n).1=k.wrap n:=rfl
theorem Ts (a b:a_ k):(bc a b).1=k.wrap (a.1+b.1):=rfl
theorem acq (a b:a_ k):(gf a b).1=k.wrap (a.1-b.1):=rfl
theorem KE (a b:a_ k):(sC a b).1=k.wrap (a.1*b.1):=rfl
theorem o8 (a:a_ k):(ey cB a).1=cB.wrap a.1:=rfl
theorem ack (a:a_ k):(uI a).1=k.wrap (0-a.1):=rfl
theorem asu (a b:a_ k):(AL a b).1=min a.1 b.1:=by
 unfold AL;by_cases h:a.1<=b.1
 ·simp[h,Int.min_eq_left h]
 ·simp[h];omega
theorem ast (a b:a_ k):(imax a b).1=max a.1 b.1:=by
 unfold imax;by_cases h:b.1<=a.1
 ·simp[h,Int.max_eq_left h]
 ·simp[h];omega
theorem as6 {α:Type}(l:L α):(bf l).1=l.1.length:=rfl
theorem as7 (s:dY):(kf s).1=s.1.size:=rfl
theorem ass (a b:a_ k):bg a b=true↔a.1<b.1:=by simp[bg]
theorem asr (a b:a_ k):bg a b=false↔b.1<=a.1:=by simp[bg]
theorem asq (a b:a_ k):f_ a b=true↔a.1<=b.1:=by simp[f_]
theorem asp (a b:a_ k):f_ a b=false↔b.1<a.1:=by simp[f_]
theorem acj (a b:a_ k):bb a b=true↔a.1=b.1:=by simp[bb]
theorem aso (a b:a_ k):bb a b=false↔¬a.1=b.1:=by simp[bb]
theorem Z_ (s t:dY):cz s t=true↔s=t:=by simp[cz]
theorem aps (s t:dY):cz s t=false↔¬s=t:=by simp[cz]
theorem avo (b:Bool):(!b)=true↔b=false:=by cases b<;>simp
theorem avm (b:Bool):(!b)=false↔b=true:=by cases b<;>simp
theorem avf {α:Type}:(L.nil:L α).1=[]:=rfl
end
section
variable{α:Type}{k cB:IntKind}
theorem dg {l:L α}{i:Int}(h:0<=i/\i<l.1.length):av (a1 l i) (λe=>l.1[i.toNat]?=some e):=by
 have bl:i.toNat<l.1.length:=ab;refine⟨l.1[i.toNat],?_,fG bl⟩;unfold a1;rw[show decide (0<=i)=true from decide_eq_true h.1];exact fG bl
theorem mc {l:L α}{i:Nat}(h:i<l.1.length):av (fq l i) (λe=>l.1[i]?=some e):=⟨l.1[i],fG h,fG h⟩
theorem vP {s:dY}{i:Int}(h:0<=i/\i<s.1.size):av (sF s i) (λu=>∃b,s.1.data[i.toNat]?=some b/\u.1=(b.toNat:Int)):=by
 have bl:i.toNat<s.1.data.size:=by have:s.1.data.size=s.1.size:=rfl;omega
 unfold sF;rw[show decide (0<=i)=true from decide_eq_true h.1,Array.getElem?_eq_getElem bl];exact⟨_,rfl,_,rfl,rfl⟩
theorem qp {l:L α}{dA aj:Int}(h:0<=dA/\dA<=aj/\aj<=l.1.length):av (nM l dA aj) (λr=>r.1=(l.1.drop dA.toNat).take (aj-dA).toNat/\(r.1.length:Int)=aj-dA):=by
 unfold nM;rw[show(decide (0<=dA)&&decide (dA<=aj)&&decide (aj<=l.1.length))=true by simp[h]];refine⟨_,rfl,rfl,?_⟩;show(((l.1.drop dA.toNat).take (aj-dA).toNat).length:Int)=_;rw[List.length_take,List.length_drop];omega
theorem R2 {s:dY}{dA aj:Int}(h:0<=dA/\dA<=aj/\aj<=s.1.size):av (lM s dA aj) (λr=>r.1=s.1.extract dA.toNat aj.toNat/\(r.1.size:Int)=aj-dA):=by
 unfold lM;rw[dif_pos (by simp[h])];refine⟨_,rfl,rfl,?_⟩;show((s.1.extract dA.toNat aj.toNat).size:Int)=_;rw[ByteArray.size_extract];omega
theorem dq {e5:Nat}{l r:L α}(h:(l.1.length+r.1.length)*e5<=140737488355328/\l.1.length+r.1.length<=1048576000):av (c6 e5 l r) (λx=>x.1=l.1++r.1/\x.1.length=l.1.length+r.1.length):=by
 unfold c6;rw[dif_pos (by simp[room,h])];exact⟨_,rfl,rfl,bw⟩
theorem oU {s t:dY}(h:s.1.size+t.1.size<=9223372036854775807):av (fE s t) (λu=>u.1=s.1++t.1/\u.1.size=s.1.size+t.1.size):=by
 unfold fE;rw[dif_pos h];exact⟨_,rfl,rfl,ByteArray.size_append⟩
theorem uL {e5:Nat}{n:a_ k}{z:α}(h:0<=n.1/\n.1.toNat*e5<=140737488355328/\n.1.toNat<=1048576000):av (rh e5 n z) (λl=>l.1=List.replicate n.1.toNat z/\l.1.length=n.1.toNat):=by
 unfold rh;rw[dif_pos (by simp[room,h])];exact⟨_,rfl,rfl,List.length_replicate⟩
theorem Tt {a b:a_ k}(h:b.1≠0):av (AO a b) (λc=>c.1=k.wrap (Int.tdiv a.1 b.1)):=by
 unfold AO;rw[show decide (b.1=0)=false from decide_eq_false h];exact⟨_,rfl,rfl⟩
theorem vO {a b:a_ k}(h:b.1≠0):av (sE a b) (λc=>c.1=k.wrap (Int.tmod a.1 b.1)):=by
 unfold sE;rw[show decide (b.1=0)=false from decide_eq_false h];exact⟨_,rfl,rfl⟩
theorem KJ {a:a_ k}{b:a_ cB}(h:0<=b.1):av (y3 a b) (λc=>c.1=k.wrap (a.1*(2^(min b.1.toNat k.bits):Nat))):=by
 unfold y3;rw[show decide (0<=b.1)=true from decide_eq_true h];exact⟨_,rfl,rfl⟩
theorem tE {a:a_ k}{b:a_ cB}(h:0<=b.1):av (ra a b) (λc=>c.1=k.wrap (Int.fdiv a.1 (2^(min b.1.toNat k.bits):Nat))):=by
 unfold ra;rw[show decide (0<=b.1)=true from decide_eq_true h];exact⟨_,rfl,rfl⟩
theorem aoJ {s:dY}(h:s.1.size<=140737488355328):av (sc s) (λl=>l.1.length=s.1.size):=by
 unfold sc;rw[dif_pos h];refine⟨_,rfl,?_⟩;show(s.1.data.toList.map _).length=_;rw[List.length_map,Array.length_toList];rfl
end
theorem aL:(∀{k:IntKind}(n:Int),(a_.w k n).1=k.wrap n)/\(∀{k:IntKind}(a b:a_ k),(bc a b).1=k.wrap (a.1+b.1))/\(∀{k:IntKind}(a b:a_ k),(gf a b).1=k.wrap (a.1-b.1))/\(∀{k:IntKind}(a b:a_ k),(sC a b).1=k.wrap (a.1*b.1))/\(∀{k:IntKind}(a:a_ k),(uI a).1=k.wrap (0-a.1))/\(∀{k cB:IntKind}(a:a_ k),(ey cB a).1=cB.wrap a.1)/\(∀{α:Type}(l:L α),(bf l).1=l.1.length)/\(∀s:dY,(kf s).1=s.1.size)/\(∀{α:Type},(L.nil:L α).1=[])/\(∀n:Int,IntKind.i64.wrap n=(n+9223372036854775808)%18446744073709551616-9223372036854775808)/\(∀n:Int,IntKind.u64.wrap n=n%18446744073709551616)/\(∀n:Int,IntKind.u8.wrap n=n%256)/\(∀{k:IntKind}(a b:a_ k),(AL a b).1=min a.1 b.1)/\(∀{k:IntKind}(a b:a_ k),(imax a b).1=max a.1 b.1):=⟨acr,Ts,acq,KE,ack,o8,as6,as7,avf,wrap64,mH,wu,asu,ast⟩
theorem y9 {α:Type}(l:List α)(h:l.length<=100):(cD l).1.length=l.length:=by rw[fu ab]
theorem b7:(∀{α:Type},([]:List α).length=0)/\(∀{α:Type}(a:α)(l:List α),(a::l).length=l.length+1)/\(∀{α:Type}(l r:List α),(l++r).length=l.length+r.length)/\
 (∀{α:Type}(l:L α)(i:Nat)(x:α),(ej l i x).1.length=l.1.length)/\(∀{α:Type},(cD ([]:List α)).1.length=0)/\(∀{α:Type}(a:α),(cD [a]).1.length=1)/\(∀{α:Type}(a b:α),(cD [a,b]).1.length=2)/\
 (∀{α:Type}(a b c:α),(cD [a,b,c]).1.length=3)/\(∀{α:Type}(a b c d:α),(cD [a,b,c,d]).1.length=4)/\(∀{α:Type}(a b c d e:α),(cD [a,b,c,d,e]).1.length=5)/\(∀{α:Type}(a b c d e f:α),(cD [a,b,c,d,e,f]).1.length=6)/\
 (∀l:L (D [.int .u8]),(nK l).1.size=l.1.length):=
 ⟨λ{_}=>cd,λ{_} _ _=>gX,λ{_} _ _=>bw,λ{_} l i x=>by simp[ej],λ{_}=>y9 [] (by simp),λ{_} a=>y9 [a] (by simp),λ{_} a b=>y9 [a,b] (by simp),
  λ{_} a b c=>y9 [a,b,c] (by simp),λ{_} a b c d=>y9 [a,b,c,d] (by simp),λ{_} a b c d e=>y9 [a,b,c,d,e] (by simp),λ{_} a b c d e f=>y9 [a,b,c,d,e,f] (by simp),λl=>by
  show((l.1.map _).toArray).size=_
  simp⟩
theorem b8:(∀{k:IntKind}(a b:a_ k),(bg a b=true)=(a.1<b.1))/\(∀{k:IntKind}(a b:a_ k),(bg a b=false)=(b.1<=a.1))/\(∀{k:IntKind}(a b:a_ k),(f_ a b=true)=(a.1<=b.1))/\
 (∀{k:IntKind}(a b:a_ k),(f_ a b=false)=(b.1<a.1))/\(∀{k:IntKind}(a b:a_ k),(bb a b=true)=(a.1=b.1))/\(∀{k:IntKind}(a b:a_ k),(bb a b=false)=¬a.1=b.1)/\
 (∀s t:dY,(cz s t=true)=(s=t))/\(∀s t:dY,(cz s t=false)=¬s=t)/\(∀b:Bool,((!b)=true)=(b=false))/\(∀b:Bool,((!b)=false)=(b=true))/\
 (∀p q:Bool,((p&&q)=true)=(p=true/\q=true))/\(∀p q:Bool,((p||q)=true)=(p=true\/q=true))/\(∀p q:Bool,((p&&q)=false)=(p=true->q=false))/\(∀p q:Bool,((p||q)=false)=(p=false/\q=false)):=
 ⟨λa b=>propext (ass a b),λa b=>propext (asr a b),λa b=>propext (asq a b),λa b=>propext (asp a b),λa b=>propext (acj a b),λa b=>propext (aso a b),
  λs t=>propext (Z_ s t),λs t=>propext (aps s t),λb=>propext (avo b),λb=>propext (avm b),λp q=>by cases p<;>simp,λp q=>by simp,λp q=>by cases p<;>simp,λp q=>by simp⟩
theorem ay:type_of%(And.intro b8 (And.intro aL (And.intro (@decide_eq_true_eq) (@decide_eq_false_iff_not)))):=And.intro b8 (And.intro aL (And.intro (@decide_eq_true_eq) (@decide_eq_false_iff_not)))
theorem dJ {p:Prop}(h:p:=by simp only[aL,b7] at*<;>omega):p:=h
theorem di {p:Prop}(h:p:=by simp only[aL,b7];omega):p:=h
theorem lG {p:Prop}(h:p:=by simp only[b7];omega):p:=h
theorem eb {p:Prop}(h:p:=by dsimp only<;>simp only[aL,b7] at*<;>omega):p:=h
theorem e4 {p:Prop}(h:p:=by dsimp only<;>simp only[aL]<;>omega):p:=h
theorem gP {p:Prop}(h:p:=by dsimp only[Sum.elim]<;>omega):p:=h
theorem gm {p:Prop}(h:p:=by dsimp only<;>omega):p:=h
theorem df {p:Prop}(h:p:=by dsimp only[Sum.elim]<;>exact aG):p:=h
theorem iG {p:Prop}(h:p:=by dsimp only[Sum.elim]<;>rfl):p:=h
theorem r6 {p:Prop}(h:p:=by dsimp only[Sum.elim]<;>(simp only[aL];decide)):p:=h
theorem m1 {p:Prop}(h:p:=by dsimp only<;>(intro aA;contradiction)):p:=h
theorem bx {α β:Type}{l:L α}{i:Int}{f:α->Option β}{R:β->Prop}(bE:∀e,l.1[i.toNat]?=some e->av (f e) R)(h:0<=i/\i<l.1.length:=by omega):av ((a1 l i).bind f) R:=ae (dg h) bE
theorem ir {α β:Type}{l:L α}{i:Nat}{f:α->Option β}{R:β->Prop}(bE:∀e,l.1[i]?=some e->av (f e) R)(h:i<l.1.length:=by omega):av ((fq l i).bind f) R:=ae (mc h) bE
end cF
end Go.Proofs.YtgmdfchkljaooaaGreat
