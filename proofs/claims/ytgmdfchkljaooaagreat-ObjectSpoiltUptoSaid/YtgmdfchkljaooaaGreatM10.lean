/- A function that holds memory of its own beside the evaluator's. -/
import Derived.Deep.RegionHeld3
import Derived.Deep.DrawnRows
import Derived.StillTailTactics
import Derived.Deep.CutRange
import Derived.Deep.RegionLaw
import Derived.Test.YtgmdfchkljaooaaGreatM01
import Derived.Test.YtgmdfchkljaooaaGreatM09
noncomputable section
namespace Go.Proofs.YtgmdfchkljaooaaGreat
open Go.RowKit
namespace cB
open bx (T cv)
set_option linter.unusedVariables false
abbrev oq:fC:=.box [.leaf (.aH [.int .i64]),.leaf (.int .i64)]
def ng (d:kk oq):bF:=pg ⟨[],[oq]⟩ ((),(d,()))
def j6 (m:M) (b:Nat):Prop:=m.dn b=none/\m.fz b=[]
section
variable{aS:Program} {w w':World} {m m':M} {σ a8:bF}
theorem bt.Bc {F:Nat->List Value} (h:bt m σ w) (ax:w.heap.size<=w'.heap.size)
 (ai:∀b,b<w.heap.size->¬j6 m b->w'.heap[b]? =w.heap[b]? /\F b=m.fz b)
 (dz:∀(b j:Nat) v,j6 m b->(F b)[j]? =some v->∃cur ty bQ,w'.heap[b]? =some (.cells cur ty bQ)/\cur[j]? =some v):
 Ext m {m with fz:=F}/\bt {m with fz:=F} σ w':=by
 have e:Ext m {m with fz:=F}:=by
  refine⟨λ_ _ h=>h,λ_ _ h=>h,λ_ _ _ _ h=>h,λb j v aM=> ?_⟩;obtain⟨cur,ty,bQ,aa,_⟩:=h.stay b j v aM;show(F b)[j]? =some v;rw[(ai b (qD aa) λe=>by rw[e.2] at aM;cases aM).2];exact aM
 refine⟨e,⟨h.fresh,λi b aj=> ?_,h.inj,λb R k aP=>⟨Nat.lt_of_lt_of_le (h.own b R k aP).1 ax,(h.own b R k aP).2⟩,λb j v aM=> ?_⟩⟩
 ·refine(h.live i b aj).frame e rfl rfl (λc k r _ aq=> ?_) (λ_ _ _ _ aq=>aq);obtain⟨aa,ae⟩:=ai c (h.own c r k aq).1 (λe=>by rw[e.1] at aq;cases aq);exact⟨aa,rfl,ae⟩
 ·by_cases bR:j6 m b
  ·exact dz b j v bR aM
  ·rcases jL b w.heap.size with bK|lQ
   ·have aX:=(ai b bK bR).2;obtain⟨cur,ty,bQ,aa,ae⟩:=h.stay b j v (by rw[<-aX];exact aM);exact⟨cur,ty,bQ,(ai b bK bR).1.trans aa,ae⟩
   ·exact absurd ⟨h.ac_ lQ,h.vR lQ⟩ bR
theorem bt.rl (h:bt m σ w) {b:Nat} (ai:w.heap.size<=b):j6 m b:=⟨h.ac_ ai,h.vR ai⟩
structure K (dI:M) (d0:kk oq) (w0:World) (m:M) (d:kk oq) (w:World):Prop where
  bl:bt dI (ng d0) w0
  aJ:bt m (ng d) w
  st:Step dI (ng d0) w0 m (ng d) w
variable{dI:M} {d0 d d':kk oq} {w0:World}
theorem K.Bc {F:Nat->List Value} (h:K dI d0 w0 m d w) (sU:w'.os=w.os/\w'.tape=w.tape/\w'.output=w.output) (ax:w.heap.size<=w'.heap.size)
 (ai:∀b,b<w.heap.size->¬j6 m b->w'.heap[b]? =w.heap[b]? /\F b=m.fz b)
 (dz:∀(b j:Nat) v,j6 m b->(F b)[j]? =some v->∃cur ty bQ,w'.heap[b]? =some (.cells cur ty bQ)/\cur[j]? =some v)
 (Ik:∀b,b<w0.heap.size->w'.heap[b]? =w.heap[b]? /\F b=m.fz b):Ext m {m with fz:=F}/\K dI d0 w0 {m with fz:=F} d w':=by
 obtain⟨e,ae⟩:=h.aJ.Bc ax ai dz;refine⟨e,h.bl,ae,⟨h.st.ix.trans ⟨e,λ_ _=>rfl⟩ (Nat.le_refl _), ?_,h.st.next,h.st.Bg⟩⟩;have k:=h.st.gu;refine⟨sU.1.trans k.os,sU.2.1.trans k.tape,sU.2.2.trans k.output,ij k.size ax,k.fz.trans e.fz,λb ai bR=> ?_,k.own⟩;obtain⟨aa,ae,az,a9⟩:=k.kept b ai bR;exact⟨(Ik b ai).1.trans aa,(Ik b ai).2.trans ae,az,a9⟩
theorem K.world (h:K dI d0 w0 m d w) (sU:w'.os=w.os/\w'.tape=w.tape/\w'.output=w.output) (ax:w.heap.size<=w'.heap.size)
 (ai:∀b,b<w.heap.size->¬j6 m b->w'.heap[b]? =w.heap[b]?) (Ik:∀b,b<w0.heap.size->w'.heap[b]? =w.heap[b]?):K dI d0 w0 m d w':=
 (h.Bc (F:=m.fz) sU ax (λb aa ae=>⟨ai b aa ae,rfl⟩) (λb j v bw aM=>by rw[bw.2] at aM;cases aM) λb aa=>⟨Ik b aa,rfl⟩).2
theorem K.below (h:K dI d0 w0 m d w) (ai:Below w.heap.size w w'):K dI d0 w0 m d w':=h.world ⟨ai.os,ai.tape,ai.output⟩ ai.size (λb aa _=>ai.block b aa) λb aa=>ai.block b (Nat.lt_of_lt_of_le aa h.st.gu.size)
theorem aqS {σ:bF} {b:Nat} (h:j6 m b):¬A4 m σ b:=λ⟨R,k,i,x,aa,_⟩=>by rw[h.1] at aa;cases aa
theorem K.call (h:K dI d0 w0 m d w) (s:Step m (ng d) w m' (ng d') w') (ae:bt m' (ng d') w'):
 K dI d0 w0 m' d' w'/\Ext m m'/\w.heap.size<=w'.heap.size/\∀b,b<w.heap.size->j6 m b->w'.heap[b]? =w.heap[b]? /\j6 m' b:=by
 refine⟨⟨h.bl,ae,h.st.trans h.bl s⟩,s.ix.ext,s.gu.size,λb ai bw=> ?_⟩;obtain⟨aa,ae,az,a9⟩:=s.gu.kept b ai (aqS bw);exact⟨aa,az.trans bw.1,ae.trans bw.2⟩
theorem K.pl (h:K dI d0 w0 m d w) {r:Nat} (aJ:dI.pl 0=some r):m.pl 0=some r:=(h.st.ix.pl 0 (by show 0<1;omega)).trans aJ
theorem tz.run {f:Nat} {e:n5} (h:tz aS f e) {args:List V} {z:List V×bF} {x:U e.du×List Nat} {y:U e.out} (ax:vc e.du args σ=some z) (aV:xe e.du z.1 z.2=some x)
 (bT:e.g x.1=some y) (bW:zc z.2 x.2 e.out.blocks=true) (vs:Array Value) (bc:bt m σ w) (aM:cv (dW m) args vs.toList):
 Calls aS f vs w λex w'=>∃m' d_,ex=.returned d_/\Step m σ w m' (vh z.2 x.2 e.out y) w'/\bt m' (vh z.2 x.2 e.out y) w'/\dW m' (Uj (DD z.2 x.2 e.out y)) d_:=by
 obtain⟨gn,s1,bq,cN⟩:=Jr ax bc aM;obtain⟨aE,aX,bL,cM,dX,dh,fD,dG⟩:=HE (x:=x.1) (ids:=x.2) aV bq cN;obtain⟨aF,aQ⟩:=h x.1 y bT _ w vs dh dG fD;refine aQ.mono ?_;rintro ex w' ⟨dg,e5,us,rfl,cm,cF,dy⟩;obtain⟨fi,gW,fU,jo⟩:=IN bq aX bL cM (by rw[aE];rfl) dX cF cm (by rw[aE];exact dy) bW;exact⟨fi,_,rfl,s1.trans bc fU,gW,ah5 (Pl _ _ _) jo⟩
theorem dO.aiv {l:L (D [.str])} {v:Value} (bb:dO m.fz (.aH [.str]) l v) {i:Nat} {e:D [.str]} (aj:l.1[i]? =some e):
 ∃b o c,v=.slice (some ⟨b,o,none⟩) l.1.length c/\l.1.length<=c/\(m.fz b)[o+i]? =some (.string e.1.1):=by
 simp only[dO] at bb;obtain⟨A,c,rfl,aa,ae⟩:=bb;obtain⟨b,o,rfl,az⟩:=ae (by rintro aX;rw[aX] at aj;cases aj);have:=az i e aj;simp only[ic,dO] at this;obtain⟨⟨v,a9,rfl⟩,_⟩:=this;exact⟨b,o,c,rfl,aa,by simpa using a9⟩
theorem bt.cellOf (h:bt m σ w) {b j:Nat} {v:Value} (aM:(m.fz b)[j]? =some v):w.cell? ⟨b,j,none⟩=some v:=by
 obtain⟨cur,ty,bQ,aa,ae⟩:=h.stay b j v aM;unfold World.cell?;simp[aa,ae]
abbrev gL:=D eg
abbrev pG:=D eb
def za (a:pG):List Value:=[.string a.1.1,.int .i64 a.2.1.1,.string a.2.2.1.1,.int .i64 a.2.2.2.1.1]
def l_ (p:gL):List Value:=p.2.2.1.1.flatMap za
def p2 (b:Nat) (p:gL):Value:=if p.2.2.1.1=[] then .slice none 0 0 else .slice (some ⟨b,0,none⟩) p.2.2.1.1.length p.2.2.1.1.length
def lj (e:Nat×gL):List Value:=[.string e.2.1.1,.string e.2.2.1.1,p2 e.1 e.2]
theorem ajH (a:pG):(za a).length=4:=rfl
theorem adr (e:Nat×gL):(lj e).length=3:=rfl
def ma (A:Option Addr):Option Nat:=A.map (·.block)
structure l6 (jK jq ja:TypeId) (m:M) (w:World) (di q:Nat) (fp ro:Value) (A:Option Addr) (c:Nat) (b8:List (Nat×gL)):Prop where
  nv:gp w q #[fp,ro,.slice A b8.length c] jK
  ay:q<di
  p4:di<=w.heap.size
  Ks:j6 m q
  row:w.ownsRow di jq 3 (.slice A b8.length c) b8.length (b8.flatMap lj)
  aq:b8.length<=c
  rl:∀g,ma A=some g->j6 m g
  el:∀e∈b8,di<=e.1/\e.1<w.heap.size/\j6 m e.1/\some e.1≠ma A/\(e.2.2.2.1.1≠[]->gp w e.1 (l_ e.2).toArray ja)
  vb:(b8.map (·.1)).Nodup
variable{jK jq ja:TypeId} {di q:Nat} {fp ro:Value} {A eO:Option Addr} {c c':Nat} {b8:List (Nat×gL)}
theorem vi (A:Option Addr) (n c:Nat):(Value.slice A n c).ownBlock=ma A:=by cases A<;>rfl
theorem l6.vu (h:l6 jK jq ja m w di q fp ro A c b8) {g:Nat} (bZ:ma A=some g):di<=g/\g<w.heap.size:=h.row.lt g (by rw[vi];exact bZ)
theorem l6.sY (h:l6 jK jq ja m w di q fp ro A c b8) (ax:w.heap.size<=w'.heap.size) (aP:∀b,b<w.heap.size->j6 m b->w'.heap[b]? =w.heap[b]? /\j6 m' b):l6 jK jq ja m' w' di q fp ro A c b8:=by
 have ay:=aP q h.nv.lt h.Ks;refine⟨ay.1.trans h.nv,h.ay,ij h.p4 ax,ay.2,⟨h.row.1, ?_⟩,h.aq,λg bZ=>(aP g (h.vu bZ).2 (h.rl g bZ)).2,λe he=> ?_,h.vb⟩
 ·rcases h.row.2 with bl|⟨g,cap,cur,aa,ae,az,a9⟩
  ·exact .inl bl
  ·have dx:=aa;injection dx with dx _ _
   have PW:ma A=some g:=by rw[dx];rfl
   exact .inr ⟨g,cap,cur,aa,ae,(aP g (h.vu PW).2 (h.rl g PW)).1.trans az,a9⟩
 ·obtain⟨aa,ae,az,a9,cE⟩:=h.el e he;have:=aP e.1 ae az;exact⟨aa,Nat.lt_of_lt_of_le ae ax,this.2,a9,λaA=>this.1.trans (cE aA)⟩
theorem l6.below (h:l6 jK jq ja m w di q fp ro A c b8) (ai:Below w.heap.size w w'):l6 jK jq ja m w' di q fp ro A c b8:=h.sY ai.size λb aa ae=>⟨ai.block b aa,ae⟩
theorem l6.add (h:l6 jK jq ja m w di q fp ro A c b8) (bc:K dI d0 w0 m d w) (p4:w0.heap.size<=q) {eM gh:World} (ai:Below w.heap.size w eM) {b:Nat} {p:gL} (aC:w.heap.size<=b) (aT:b<eM.heap.size)
 (bW:p.2.2.1.1≠[]->gp eM b (l_ p).toArray ja) (bZ:eM.grownBy gh (Value.slice A b8.length c).ownBlock) (bR:gh.ownsRow di jq 3 (.slice eO (b8.length+1) c') (b8.length+1) (b8.flatMap lj++lj (b,p)))
 (jW:(Value.slice eO (b8.length+1) c').ownBlock=(Value.slice A b8.length c).ownBlock\/(Value.slice eO (b8.length+1) c').ownBlock=some eM.heap.size) (jN:b8.length+1<=c'):
 l6 jK jq ja m (gh.setCell ⟨q,2,none⟩ (.slice eO (b8.length+1) c')) di q fp ro eO c' (b8++[(b,p)])/\K dI d0 w0 m d (gh.setCell ⟨q,2,none⟩ (.slice eO (b8.length+1) c')):=by
 rw[vi] at bZ jW;rw[vi] at jW;have Qs:=ai.size;have aJ':=bZ.size;have Qp:=h.nv.lt;have xO:=h.ay;have alC:some q≠ma A:=λe=>by have:=(h.vu e.symm).1;omega
 have aKi:(gh.setCell ⟨q,2,none⟩ (.slice eO (b8.length+1) c')).heap.size=gh.heap.size:=by simp[World.setCell]
 have lz:∀k,k<w.heap.size->k≠q->some k≠ma A->(gh.setCell ⟨q,2,none⟩ (.slice eO (b8.length+1) c')).heap[k]? =w.heap[k]? :=λk aa ae az=>by
  rw[Below.heap_setCell _ _ _ _ ae,bZ.block k ab az,ai.block k aa]
 have aqI:∀g,ma eO=some g->j6 m g:=λg e=>by
  rcases jW with aa|aa
  ·exact h.rl g (aa.symm.trans e)
  ·rw[e] at aa;injection aa with aa
   exact bc.aJ.rl ab
 refine⟨⟨?_,h.ay,by have:=h.p4;omega,h.Ks, ?_,by simpa using jN,aqI,λe he=> ?_, ?_⟩,bc.world ?_ ab (λk aa ae=>lz k aa (λe=>ae (e▸h.Ks)) λe=>ae (h.rl k e.symm)) λk aa=> ?_⟩
 ·have fR:gp gh q #[fp,ro,.slice A b8.length c] jK:=(bZ.block q ab alC).trans ((ai.block q Qp).trans h.nv);have:=fR.GL 2 (.slice eO (b8.length+1) c');simpa using this
 ·rw[bY,List.length_singleton,List.flatMap_append];simp only[List.flatMap_cons,List.flatMap_nil,e6];exact ownsRow_setCell_below bR xO _
 ·rcases List.mem_append.1 he with he|he
  ·obtain⟨aa,ae,az,a9,cE⟩:=h.el e he;have eD:e.1≠q:=ab;refine⟨aa,ab,az,λaX=> ?_,λaA=>(lz e.1 ae eD a9).trans (cE aA)⟩;rcases jW with g|g
   ·exact a9 (aX.trans g)
   ·rw[<-aX] at g;injection g with g;omega
  ·obtain rfl:=List.mem_singleton.1 he;have eD:some b≠ma A:=λe=>by have:=(h.vu e.symm).2;omega
   refine⟨by have:=h.p4;show di<=b;omega,by show b<_;omega,bc.aJ.rl aC,λaX=> ?_,λaA=> ?_⟩
   ·rcases jW with g|g
    ·exact eD (aX.trans g)
    ·rw[<-aX] at g;injection g with g
     have g:b=eM.heap.size:=g;omega
   ·have aa:=bW aA;show(gh.setCell ⟨q,2,none⟩ (.slice eO (b8.length+1) c')).heap[b]? =_;rw[Below.heap_setCell _ _ _ _ (show b≠q by omega),bZ.block b aT eD];exact aa
 ·rw[List.map_append,List.nodup_append];refine⟨h.vb,by simp,λx aV y bT=> ?_⟩;obtain⟨e,he,rfl⟩:=List.mem_map.1 aV;have:=(h.el e he).2.1;simp at bT;omega
 ·exact⟨bZ.os.trans ai.os,bZ.tape.trans ai.tape,bZ.output.trans ai.output⟩
 ·have ax:=bc.st.gu.size;refine lz k ab ab λe=> ?_;have:=(h.vu e.symm).1;omega
theorem l6.Oa {dC eo:List (Nat×gL)} {b j:Nat} {p p':gL} {v:Value} (h:l6 jK jq ja m w di q fp ro A c (dC++(b,p)::eo)) (bc:K dI d0 w0 m d w) (p4:w0.heap.size<=q) (aA:p.2.2.1.1≠[])
 (aM:l_ p'=(l_ p).set j v) (aE:p'.1=p.1) (aX:p'.2.1=p.2.1) (bL:p'.2.2.1.1.length=p.2.2.1.1.length):
 l6 jK jq ja m (w.setCell ⟨b,j,none⟩ v) di q fp ro A c (dC++(b,p')::eo)/\K dI d0 w0 m d (w.setCell ⟨b,j,none⟩ v):=by
 obtain⟨bq,bE,c8,ei,jj⟩:=h.el (b,p) (by simp);have jj:=jj aA;have xO:=h.ay;have sR:p'.2.2.1.1≠[]:=λe=>aA (List.length_eq_zero_iff.1 (by rw[<-bL,e];rfl));have lz:∀k,k≠b->(w.setCell ⟨b,j,none⟩ v).heap[k]? =w.heap[k]? :=λk aP=>Below.heap_setCell _ _ _ _ aP;have ax:(w.setCell ⟨b,j,none⟩ v).heap.size=w.heap.size:=by simp[World.setCell]
 have cW:lj (b,p')=lj (b,p):=by
  unfold lj p2;rw[if_neg aA,if_neg sR,aE,aX,bL]
 have Pt:(dC++(b,p')::eo).length=(dC++(b,p)::eo).length:=by simp
 have akC:(dC++(b,p')::eo).flatMap lj=(dC++(b,p)::eo).flatMap lj:=by simp[List.flatMap_append,cW]
 have emap:(dC++(b,p')::eo).map (·.1)=(dC++(b,p)::eo).map (·.1):=by simp
 refine⟨⟨?_,h.ay,by rw[ax];exact h.p4,h.Ks, ?_,by rw[Pt];exact h.aq,h.rl,λe he=> ?_,by rw[emap];exact h.vb⟩,bc.world ⟨rfl,rfl,rfl⟩ ab (λk _ ae=>lz k λe=>ae (e▸c8)) λk aa=>lz k ab⟩
 ·rw[Pt];exact(lz q ab).trans h.nv
 ·rw[Pt,akC];refine⟨h.row.1, ?_⟩;rcases h.row.2 with bl|⟨g,cap,cur,aa,ae,az,a9⟩
  ·exact .inl bl
  ·have dx:=aa;injection dx with dx _ _
   exact .inr ⟨g,cap,cur,aa,ae,(lz g λe=>ei (by rw[dx,<-e];rfl)).trans az,a9⟩
 ·have r_:∀e∈dC++eo,di<=e.1/\e.1<(w.setCell ⟨b,j,none⟩ v).heap.size/\j6 m e.1/\some e.1≠ma A/\(e.2.2.2.1.1≠[]->gp (w.setCell ⟨b,j,none⟩ v) e.1 (l_ e.2).toArray ja):=λe he=>by
   obtain⟨aF,aQ,bn,cy,fj⟩:=h.el e (by rcases List.mem_append.1 he with aa|aa<;>simp[aa]);refine⟨aF,by rw[ax];exact aQ,bn,cy,λaA=>(lz e.1 λcM=> ?_).trans (fj aA)⟩;have zJ:=h.vb;rw[List.map_append,List.map_cons,List.nodup_append] at zJ;obtain⟨_,p_,Rf⟩:=zJ;rcases List.mem_append.1 he with aa|aa
   ·exact Rf e.1 (List.mem_map_of_mem aa) b (by simp) cM
   ·have a9:e.1∈eo.map (·.1):=List.mem_map_of_mem aa;rw[cM] at a9;exact(List.nodup_cons.1 p_).1 a9
  rcases List.mem_append.1 he with aa|aa
  ·exact r_ e (List.mem_append_left _ aa)
  ·rcases List.mem_cons.1 aa with rfl|aa
   ·refine⟨bq,by rw[ax];exact bE,c8,ei,λ_=> ?_⟩;have:=jj.GL j v;rw[show(l_ p').toArray=(l_ p).toArray.setIfInBounds j v by rw[aM];simp];exact this
   ·exact r_ e (List.mem_append_right _ aa)
theorem HL {α:Type} (f:α->List Value) (k:Nat) (bu:∀x,(f x).length=k):∀(l:List α) (i:Nat) (x:α) (m:Nat),l[i]? =some x->m<k->(l.flatMap f)[i*k+m]? =(f x)[m]?
 |[],i,x,m,aj,_=>by simp at aj
 |y::l,0,x,m,aj,hm=>by
  simp at aj;subst aj;rw[List.flatMap_cons,Nat.zero_mul,fL,lM (by rw[bu];exact hm)]
 |y::l,i+1,x,m,aj,hm=>by
  have e:(i+1)*k+m=k+(i*k+m):=by rw[Nat.succ_mul];omega
  rw[List.flatMap_cons,e,l8 (by rw[bu];omega),bu,show k+(i*k+m)-k=i*k+m by omega,HL f k bu l i x m (by simpa using aj) hm]
theorem WW:∀{l:List (Nat×gL)} {e:Nat×gL},(l.map (·.1)).Nodup->e∈l->l.find? (λx=>x.1==e.1)=some e
 |x::l,e,aA,he=>by
  rw[List.map_cons,List.nodup_cons] at aA;rcases List.mem_cons.1 he with rfl|aa
  ·simp
  ·rw[List.find?_cons_of_neg,WW aA.2 aa];have:x.1≠e.1:=λaX=>aA.1 (aX▸List.mem_map_of_mem aa);simpa using this
theorem l6.done (h:l6 jK jq ja m w di q fp ro A c b8) (bc:K dI d0 w0 m d w) (p4:w0.heap.size<=q) (l:L gL) (a3:l.1=b8.map (·.2)):
 ∃m',Ext m m'/\K dI d0 w0 m' d w/\dO m'.fz (.aH eg) l (.slice A b8.length c)/\∀b,b<di->j6 m b->j6 m' b:=by
 classical
 have xO:=h.ay
 let F:Nat->List Value:=λb=>if ma A=some b then b8.flatMap lj else match b8.find? (λe=>e.1==b) with
  |some e=>(if e.2.2.2.1.1=[] then[] else l_ e.2)
  |none=>m.fz b
 have U8:∀g,ma A=some g->F g=b8.flatMap lj:=λg bZ=>if_pos bZ;have n5:∀e∈b8,F e.1=if e.2.2.2.1.1=[] then[] else l_ e.2:=λe he=>by
  show(if ma A=some e.1 then _ else _)=_;rw[if_neg λaX=>(h.el e he).2.2.2.1 aX.symm,WW h.vb he]
 have G6:∀b,(ma A≠some b)->(∀e∈b8,e.1≠b)->F b=m.fz b:=λb aa ae=>by
  show(if ma A=some b then _ else _)=_;rw[if_neg aa,List.find?_eq_none.2 λe he=>by simpa using ae e he]
 have P2:∀b,ma A=some b\/(∃e∈b8,e.1=b)\/(ma A≠some b/\∀e∈b8,e.1≠b):=λb=>by
  by_cases aa:ma A=some b
  ·exact .inl aa
  ·by_cases ae:∃e∈b8,e.1=b
   ·exact .inr (.inl ae)
   ·exact .inr (.inr ⟨aa,λe he aX=>ae ⟨e,he,aX⟩⟩)
 obtain⟨e,k⟩:=bc.Bc (F:=F) (w':=w) ⟨rfl,rfl,rfl⟩ (Nat.le_refl _) (λb _ bw=>⟨rfl,by
  rcases P2 b with aa|⟨e,he,aa⟩|aa
  ·exact absurd (h.rl b aa) bw
  ·exact absurd (aa▸(h.el e he).2.2.1) bw
  ·exact G6 b aa.1 aa.2⟩) (λb j v bw aM=>by
  rcases P2 b with aa|⟨e,he,aa⟩|aa
  ·rw[U8 b aa] at aM;rcases h.row.2 with⟨bl,xm⟩|⟨g,cap,cur,aF,aQ,bn,cy,fj,fX,gU⟩
   ·have:b8=[]:=List.length_eq_zero_iff.1 xm;rw[this] at aM;simp at aM
   ·injection aF with dx _ _
    rw[dx] at aa;injection aa with aa
    have aa:g=b:=aa;subst aa;refine⟨cur,_,_,bn, ?_⟩;rw[<-gU,List.getElem?_take] at aM;split at aM
    ·simpa using aM
    ·cases aM
  ·subst aa;rw[n5 e he] at aM;split at aM
   ·simp at aM
   ·rename_i aA;exact⟨_,_,_,(h.el e he).2.2.2.2 aA,by simpa using aM⟩
  ·rw[G6 b aa.1 aa.2,bw.2] at aM;cases aM) (λb ai=>⟨rfl,by
  rcases P2 b with aa|⟨e,he,aa⟩|aa
  ·have:=(h.vu aa).1;omega
  ·have:=(h.el e he).1;omega
  ·exact G6 b aa.1 aa.2⟩)
 refine⟨_,e,k, ?_,λb ai bw=>⟨bw.1, ?_⟩⟩
 ·simp only[dO];refine⟨A,c,by rw[a3,List.length_map],by rw[a3,List.length_map];exact h.aq,λeD=> ?_⟩;rcases h.row.2 with⟨bl,xm⟩|⟨g,cap,cur,aF,aQ,bn,cy,fj,fX,gU⟩
  ·refine absurd ?_ eD;rw[a3,List.length_eq_zero_iff.1 xm];rfl
  ·injection aF with dx _ _
   refine⟨g,0,dx,λi x aj=> ?_⟩;rw[a3,List.getElem?_map] at aj;obtain⟨e,he,rfl⟩:=Option.map_eq_some_iff.1 aj;have hm:e∈b8:=List.mem_of_getElem? he;have at_:∀m,m<3->(F g)[0+i*3+m]? =(lj e)[m]? :=λm hm=>by
    rw[U8 g (by rw[dx];rfl),fL];exact HL lj 3 adr b8 i e m he hm
   have bl:=at_ 0 ab;have aa:=at_ 1 ab;have ae:=at_ 2 ab;simp only[ic,gO,dw,and_true];refine⟨⟨_,bl,rfl⟩,⟨_,aa,rfl⟩,⟨_,ae, ?_⟩⟩;show dO F (.aH eb) e.2.2.2.1 (p2 e.1 e.2);unfold p2;simp only[dO];split
   ·rename_i aA;exact⟨none,0,by rw[aA];rfl,by rw[aA];exact Nat.le_refl _,λeD=>absurd aA eD⟩
   ·rename_i aA;refine⟨_,_,rfl,Nat.le_refl _,λ_=>⟨e.1,0,rfl,λi a bW=> ?_⟩⟩;have at_:∀m,m<4->(F e.1)[0+i*4+m]? =(za a)[m]? :=λm amH=>by
     rw[n5 e hm,if_neg aA,fL];exact HL za 4 ajH _ i a m bW amH
    have a0:=at_ 0 ab;have dE:=at_ 1 ab;have dc:=at_ 2 ab;have gT:=at_ 3 ab;simp only[ic,gO,dw,and_true];exact⟨⟨_,a0,rfl⟩,⟨_,dE,rfl⟩,⟨_,dc,rfl⟩,⟨_,gT,rfl⟩⟩
 ·rw[<-bw.2];refine G6 b (λe=> ?_) λe he aX=> ?_
  ·have:=(h.vu e).1;omega
  ·have:=(h.el e he).1;omega
def qN (l:List (D [.str])):List Value:=l.map λe=>.string e.1.1
theorem aHQ {l:L (D [.str])} {n:Nat} (bb:dO m.fz (.aH [.str]) l (.slice A n c)) (h:bt m σ w):n=l.1.length/\n<=c/\fP w A (qN l.1):=by
 simp only[dO] at bb;obtain⟨eO,c',aa,ae,az⟩:=bb;injection aa with aE aX bL
 subst aE bL;refine⟨aX,ab,λaA=> ?_⟩;obtain⟨b,o,rfl,a9⟩:=az (λe=>aA (by unfold qN;rw[e];rfl));have at_:∀i u,(qN l.1)[i]? =some u->(m.fz b)[o+i]? =some u:=λi u hu=>by
  unfold qN at hu;rw[List.getElem?_map] at hu;obtain⟨e,he,rfl⟩:=Option.map_eq_some_iff.1 hu;have:=a9 i e he;simp only[ic,dO] at this;obtain⟨⟨v,a9,rfl⟩,_⟩:=this;simpa using a9
 refine⟨b,o,rfl, ?_,λi u hu=>h.cellOf (at_ i u hu)⟩;cases aV:qN l.1 with
 |nil=>exact absurd aV aA
 |cons a t=>
  obtain⟨cur,ty,bQ,aF,_⟩:=h.stay b _ _ (at_ 0 a (by rw[aV];rfl));exact qD aF
theorem auD (l:List (D [.str])):∀u∈qN l,u.oneCell'=true:=by
 intro u hu;obtain⟨s,_,rfl⟩:=List.mem_map.1 hu;rfl
theorem K.row {e:TypeId} {n base:Nat} {l:L (D [.str])} (bc:K dI d0 w0 m d w) (bR:w.ownsRow base e 1 (.slice A n c) n (qN l.1)) (bw:∀g,ma A=some g->j6 m g/\w0.heap.size<=g):
 ∃m',Ext m m'/\K dI d0 w0 m' d w/\dO m'.fz (.aH [.str]) l (.slice A n c)/\∀b,some b≠ma A->j6 m b->j6 m' b:=by
 have aA:n=l.1.length:=by have:=bR.1;unfold qN at this;simp at this;omega
 rcases bR.2 with⟨bl,xm⟩|⟨g,cap,cur,aF,aQ,bn,cy,fj,fX,gU⟩
 ·refine⟨m,Ext.refl _,bc, ?_,λb _ h=>h⟩;rw[bl];have:l=L.nil:=Subtype.ext (List.length_eq_zero_iff.1 (by rw[<-aA];exact xm));rw[this];exact dO.nil _ _
 ·injection aF with dx _ al_
  subst dx al_;obtain⟨eL,fw⟩:=bw g rfl;obtain⟨ex,k⟩:=bc.Bc (F:=λb=>if b=g then qN l.1 else m.fz b) (w':=w) ⟨rfl,rfl,rfl⟩ (Nat.le_refl _) (λb _ ai=>⟨rfl,if_neg (show¬b=g fromλaX=>ai (by rw[aX];exact eL))⟩) (λb j v ai aM=>by
   split at aM
   ·rename_i zy;subst zy;refine⟨cur,_,_,bn, ?_⟩;rw[<-gU,List.getElem?_take] at aM;split at aM
    ·simpa using aM
    ·cases aM
   ·rw[ai.2] at aM;cases aM) (λb ai=>⟨rfl,if_neg ab⟩)
  refine⟨_,ex,k, ?_,λb ai bw=>⟨bw.1,(if_neg λe=>ai (by rw[e];rfl)).trans bw.2⟩⟩;simp only[dO];refine⟨_,_,by rw[aA],ab,λ_=>⟨g,0,rfl,λi x aj=> ?_⟩⟩;simp only[ic,dO,and_true];refine⟨_, ?_,rfl⟩;rw[if_pos trivial];unfold qN;rw[List.getElem?_map];simp[aj]
def oS (m:M) (w:World) (m':M) (w':World):Prop:=Ext m m'/\w.heap.size<=w'.heap.size/\∀b,b<w.heap.size->j6 m b->w'.heap[b]? =w.heap[b]? /\j6 m' b
theorem oS.trans {lF:M} {qh:World} (h:oS m w m' w') (k:oS m' w' lF qh):oS m w lF qh:=
 ⟨h.1.trans k.1,ij h.2.1 k.2.1,λb ai bw=>by
  obtain⟨dE,dc⟩:=h.2.2 b ai bw;obtain⟨cR,fg⟩:=k.2.2 b (Nat.lt_of_lt_of_le ai h.2.1) dc;exact⟨cR.trans dE,fg⟩⟩
theorem oS.below (ai:Below w.heap.size w w'):oS m w m w':=⟨Ext.refl _,ai.size,λb aa ae=>⟨ai.block b aa,ae⟩⟩
structure tF (dI:M) (d0:kk oq) (w0:World) (t8 t9:TypeId) (gx jn:Nat) (iB j4:Array Value) (cf eE:L (D [.str])) (ro u:Value) (m:M) (d:kk oq) (w:World):Prop where
  k:K dI d0 w0 m d w
  kP:gp w gx iB t8
  qK:j6 m gx
  Bd:gp w jn j4 t9
  nv:j6 m jn
  ro:dO m.fz (.aH [.str]) cf ro
  eE:dO m.fz (.aH [.str]) eE u
theorem tF.call {t8 t9:TypeId} {gx jn:Nat} {iB j4:Array Value} {cf eE:L (D [.str])} {ro u:Value} (h:tF dI d0 w0 t8 t9 gx jn iB j4 cf eE ro u m d w) (k:K dI d0 w0 m' d' w') (s:oS m w m' w'):tF dI d0 w0 t8 t9 gx jn iB j4 cf eE ro u m' d' w':=by
 have eS:=s.2.2 gx h.kP.lt h.qK;have fR:=s.2.2 jn h.Bd.lt h.nv;exact⟨k,eS.1.trans h.kP,eS.2,fR.1.trans h.Bd,fR.2,h.ro.ext s.1.fz,h.eE.ext s.1.fz⟩
theorem tF.below {t8 t9:TypeId} {gx jn:Nat} {iB j4:Array Value} {cf eE:L (D [.str])} {ro u:Value} (h:tF dI d0 w0 t8 t9 gx jn iB j4 cf eE ro u m d w) (ai:Below w.heap.size w w'):tF dI d0 w0 t8 t9 gx jn iB j4 cf eE ro u m d w':=h.call (h.k.below ai) (oS.below ai)
theorem rowAt {l:L (D [.str])} {n:Nat} (bb:dO m.fz (.aH [.str]) l (.slice A n c)) (eD:l.1≠[]):∃b o,A=some ⟨b,o,none⟩/\∀(i:Nat) e,l.1[i]? =some e->(m.fz b)[o+i]? =some (.string e.1.1):=by
 simp only[dO] at bb;obtain⟨eO,c',aa,ae,az⟩:=bb;injection aa with aE aX bL
 subst aE;obtain⟨b,o,rfl,a9⟩:=az eD;refine⟨b,o,rfl,λi e he=> ?_⟩;have:=a9 i e he;simp only[ic,dO] at this;obtain⟨⟨v,a9,rfl⟩,_⟩:=this;simpa using a9
theorem ah' {l:L (D [.str])} {i:Nat} (h:i<l.1.length):∃e,l.1[i]? =some e/\e.1=fZ l i:=by
 refine⟨l.1[i],e_ h, ?_⟩;unfold fZ;rw[e_ h];rfl
theorem fP.two (w:World) (a p:Array Value) (ja jq:TypeId):fP ((w.alloc (.cells a ja)).alloc (.cells p jq)) (some ⟨w.heap.size+1,0,none⟩) p.toList:=by
 have:=fP.new (w.alloc (.cells a ja)) p jq;simpa using this
theorem l6.pre (h:l6 jK jq ja m w di q fp ro A c b8) {eM gh:World} (ai:Below w.heap.size w eM) (bZ:eM.grownBy gh (Value.slice A b8.length c).ownBlock):gp gh q #[fp,ro,.slice A b8.length c] jK:=by
 rw[vi] at bZ;have Qs:=ai.size;have Qp:=h.nv.lt;have xO:=h.ay;exact(bZ.block q ab (λe=>by have:=(h.vu e.symm).1;omega)).trans ((ai.block q Qp).trans h.nv)
theorem O4 (w:World) (a b:Obj):Below w.heap.size w ((w.drew.alloc a).alloc b):=
 ((Below.refl w.heap.size w).drew.alloc (Nat.le_refl _) a).alloc (by rw[World.size_alloc];exact Nat.le_succ _) b
theorem rD (w:World) (a b:Obj):Below w.heap.size w ((w.alloc a).alloc b):=
 ((Below.refl w.heap.size w).alloc (Nat.le_refl _) a).alloc (by rw[World.size_alloc];exact Nat.le_succ _) b
theorem CD (w:World) (a b:Obj):w.heap.size<((w.alloc a).alloc b).heap.size:=by
 rw[World.size_alloc,World.size_alloc];omega
theorem QF {n:Nat} (h:n<=100):(aO.w .i64 (n:Int)).1=(n:Int):=by
 have aa:IntKind.i64.min<=(n:Int)/\(n:Int)<=IntKind.i64.max:=by
  simp[IntKind.min,IntKind.max,IntKind.bits,IntKind.signed]<;>omega
 exact AT aa
theorem aIn (w:World) (a b:Obj):w.heap.size<((w.drew.alloc a).alloc b).heap.size:=by
 rw[World.size_alloc,World.size_alloc];show w.heap.size<w.heap.size+1+1;omega
theorem tF.start {t8:TypeId} {gx jn:Nat} {iB:Array Value} {cf eE:L (D [.str])} {u:Value} (h:tF dI d0 w0 t8 jK gx jn iB #[fp,ro,.slice none 0 0] cf eE ro u m d w):l6 jK jq ja m w w.heap.size jn fp ro none 0 []:=
 ⟨h.Bd,h.Bd.lt,Nat.le_refl _,h.nv,World.ownsRow_nil _ _ _ _,Nat.le_refl _,λg bZ=>(by cases bZ),λe he=>absurd he List.not_mem_nil,List.nodup_nil⟩
theorem RZ {b:Nat} {p:gL} {a:pG} {l:List pG} (h:p.2.2.1.1=a::l):lj (b,p)=[.string p.1.1,.string p.2.1.1,.slice (some ⟨b,0,none⟩) (l.length+1) (l.length+1)]:=by
 unfold lj p2;rw[if_neg (by rw[h];simp),h];rfl
structure mr (dI:M) (d0:kk oq) (w0:World) (jK jq ja:TypeId) (gx jn di:Nat) (iB:Array Value) (fp:Value) (cf eE:L (D [.str])) (ro u:Value) (A:Option Addr) (c:Nat) (b8:List (Nat×gL)) (m:M) (d:kk oq) (w:World):Prop where
  k:K dI d0 w0 m d w
  iR:l6 jK jq ja m w di jn fp ro A c b8
  kP:gp w gx iB jK
  qK:j6 m gx
  eS:gx<jn
  bl:w0.heap.size<=gx
  ro:dO m.fz (.aH [.str]) cf ro
  eE:dO m.fz (.aH [.str]) eE u
section
variable{gx jn:Nat} {iB:Array Value} {cf eE:L (D [.str])} {u:Value}
theorem mr.call (h:mr dI d0 w0 jK jq ja gx jn di iB fp cf eE ro u A c b8 m d w) (k:K dI d0 w0 m' d' w') (s:oS m w m' w'):mr dI d0 w0 jK jq ja gx jn di iB fp cf eE ro u A c b8 m' d' w':=by
 have eS:=s.2.2 gx h.kP.lt h.qK;exact⟨k,h.iR.sY s.2.1 s.2.2,eS.1.trans h.kP,eS.2,h.eS,h.bl,h.ro.ext s.1.fz,h.eE.ext s.1.fz⟩
theorem mr.below (h:mr dI d0 w0 jK jq ja gx jn di iB fp cf eE ro u A c b8 m d w) (ai:Below w.heap.size w w'):mr dI d0 w0 jK jq ja gx jn di iB fp cf eE ro u A c b8 m d w':=h.call (h.k.below ai) (oS.below ai)
theorem mr.add (h:mr dI d0 w0 jK jq ja gx jn di iB fp cf eE ro u A c b8 m d w) {eM gh:World} (ai:Below w.heap.size w eM) {b:Nat} {p:gL} (aC:w.heap.size<=b) (aT:b<eM.heap.size)
 (bW:p.2.2.1.1≠[]->gp eM b (l_ p).toArray ja) (bZ:eM.grownBy gh (Value.slice A b8.length c).ownBlock) (bR:gh.ownsRow di jq 3 (.slice eO (b8.length+1) c') (b8.length+1) (b8.flatMap lj++lj (b,p)))
 (jW:(Value.slice eO (b8.length+1) c').ownBlock=(Value.slice A b8.length c).ownBlock\/(Value.slice eO (b8.length+1) c').ownBlock=some eM.heap.size) (jN:b8.length+1<=c'):
 mr dI d0 w0 jK jq ja gx jn di iB fp cf eE ro u eO c' (b8++[(b,p)]) m d (gh.setCell ⟨jn,2,none⟩ (.slice eO (b8.length+1) c')):=by
 have fR:=h.eS;have bl:=h.bl;have ay:=h.iR.ay;obtain⟨iR,k⟩:=h.iR.add h.k ab ai aC aT bW bZ bR jW jN;refine⟨k,iR, ?_,h.qK,h.eS,h.bl,h.ro,h.eE⟩;have bK:=h.kP.lt;have aU:=ai.size;rw[vi] at bZ;show(gh.setCell ⟨jn,2,none⟩ (.slice eO (b8.length+1) c')).heap[gx]? =_;rw[Below.heap_setCell _ _ _ _ (show gx≠jn by omega),bZ.block gx ab (λe=>by have:=(h.iR.vu e.symm).1;omega),ai.block gx bK];exact h.kP
theorem mr.Oa {dC eo:List (Nat×gL)} {b j:Nat} {p p':gL} {v:Value} (h:mr dI d0 w0 jK jq ja gx jn di iB fp cf eE ro u A c (dC++(b,p)::eo) m d w) (aA:p.2.2.1.1≠[])
 (aM:l_ p'=(l_ p).set j v) (aE:p'.1=p.1) (aX:p'.2.1=p.2.1) (bL:p'.2.2.1.1.length=p.2.2.1.1.length):
 mr dI d0 w0 jK jq ja gx jn di iB fp cf eE ro u A c (dC++(b,p')::eo) m d (w.setCell ⟨b,j,none⟩ v):=by
 have fR:=h.eS;have bl:=h.bl;have ay:=h.iR.ay;obtain⟨iR,k⟩:=h.iR.Oa h.k ab aA aM aE aX bL;have ai:=(h.iR.el (b,p) (by simp)).1;refine⟨k,iR, ?_,h.qK,h.eS,h.bl,h.ro,h.eE⟩;show(w.setCell ⟨b,j,none⟩ v).heap[gx]? =_;rw[Below.heap_setCell _ _ _ _ (show gx≠b fromλe=>by have ai:di<=b:=ai;omega)];exact h.kP
end
section
variable{gx jn:Nat} {iB:Array Value} {cf eE:L (D [.str])} {u:Value} {jv ky n eJ:Nat}
theorem mr.held (h:mr dI d0 w0 jK jq ja gx jn di iB fp cf eE (.slice (some ⟨jv,ky,none⟩) n eJ) u A c b8 m d w) {s7 i j:Nat} (a3:b8.length=s7) (aj:i<cf.1.length) (au:j<cf.1.length):
 w.cell? ⟨jn,1,none⟩=some (.slice (some ⟨jv,ky,none⟩) n eJ)/\w.cell? ⟨jn,2,none⟩=some (.slice A s7 c)/\w.cell? ⟨jv,ky+i,none⟩=some (.string (fZ cf i).1)/\w.cell? ⟨jv,ky+j,none⟩=some (.string (fZ cf j).1):=by
 subst a3;obtain⟨fG,fl,e,ku⟩:=rowAt h.ro (λe=>by rw[e] at aj;simp at aj);cases e;have at_:∀i,i<cf.1.length->w.cell? ⟨jv,ky+i,none⟩=some (.string (fZ cf i).1):=λi aj=>by
  obtain⟨e,aa,ae⟩:=ah' aj;rw[<-ae];exact h.k.aJ.cellOf (ku i e aa)
 exact⟨h.iR.nv.cell 1,h.iR.nv.cell 2,at_ i aj,at_ j au⟩
theorem mr.ne (h:mr dI d0 w0 jK jq ja gx jn di iB fp cf eE (.slice (some ⟨jv,ky,none⟩) n eJ) u A c b8 m d w) (eD:cf.1≠[]):some jv≠ma A:=λe=>by
 obtain⟨fG,fl,e',ku⟩:=rowAt h.ro eD;cases e';have bw:=h.iR.rl jv e.symm;have aa:=ku 0 _ (e_ (List.length_pos_iff.2 eD));rw[bw.2] at aa;cases aa
end
end
def pF (p:gL):gL:=(p.1,p.2.1,cx (match p.2.2.1.1 with|[]=>[]|a::l=>(a.1,a.2.1,a.2.2.1,aO.w .i64 0,())::l),())
theorem aij:∀(l:List gL) (p:gL),wq (l++[p])=l++[pF p]
 |[],p=>rfl
 |q::l,p=>by
  have h:=aij l p;cases l with
  |nil=>rfl
  |cons x l=>
   show q::wq ((x::l)++[p])=_;rw[h];rfl
theorem ah8 {go:ew} {eE ro:L (D [.str])}:∀{n i:Nat} {d:kk oq} {r:List (D eg)×kk oq},ua go eE ro n i d=some r->∀p∈r.1,∃a:pG,p.2.2.1.1=[a]
 |0,i,d,r,h,p,bw=>by cases h;simp at bw
 |n+1,i,d,r,h,p,bw=>by
  rw[ua] at h;obtain⟨wM,aa,h⟩:=Option.bind_eq_some_iff.1 h;obtain⟨N9,ae,h⟩:=Option.bind_eq_some_iff.1 h;cases h;rcases List.mem_cons.1 bw with rfl|bw
  ·exact⟨_,rfl⟩
  ·exact ah8 ae p bw
section
variable(go iJ:ew) (ro:L (D [.str])) (c:D jG)
def qa (k:Int):gL:=(fZ ro 0,fZ ro 1,cx [(go,c.1,c.2.1,aO.w .i64 1,()),(iJ,aO.w .i64 0,S ⟨#[]⟩,aO.w .i64 k,())],())
def qt (a0:pG) (k:Int):gL:=(fZ ro 0,fZ ro 1,cx [a0,(iJ,aO.w .i64 0,S ⟨#[]⟩,aO.w .i64 k,())],())
def tj:gL:=(S ⟨#[]⟩,S ⟨#[]⟩,L.nil,())
theorem aHM {wm:List gL} {dC:List (Nat×gL)} {b:Nat} {p:gL} (h:(dC++[(b,p)]).map (·.2)=qa go iJ ro c 0::wm) (m:Nat):
 ∃cH a0 T,dC++[(b,pF p)]=(cH,qt iJ ro a0 0)::T/\z0 go iJ ro m c wm none=(qt iJ ro a0 ((T.length+1:Nat):Int)::T.map (·.2))++s3 iJ ro m 1 (T.length+1)++[tj]:=by
 cases dC with
 |nil=>
  simp at h;obtain⟨rfl,rfl⟩:=h;exact⟨b,(go,c.1,c.2.1,aO.w .i64 0,()),[],rfl,rfl⟩
 |cons e dC=>
  simp at h;obtain⟨aa,rfl⟩:=h;refine⟨e.1,(go,c.1,c.2.1,aO.w .i64 1,()),dC++[(b,pF p)],by rw[List.cons_append];congr 1;exact Prod.ext rfl aa, ?_⟩;have ax:∀k,wq (qa go iJ ro c k::(dC.map (·.2)++[p]))=qa go iJ ro c k::(dC.map (·.2)++[pF p]):=λk=>aij (qa go iJ ro c k::dC.map (λx:Nat×gL=>x.2)) p;show wq (qa go iJ ro c (((wq (qa go iJ ro c 0::(dC.map (·.2)++[p]))).length:Nat):Int)::(dC.map (·.2)++[p]))++s3 iJ ro m 1 (wq (qa go iJ ro c 0::(dC.map (·.2)++[p]))).length++[tj]=_;rw[ax,ax];have a3:(qa go iJ ro c 0::(dC.map (·.2)++[pF p])).length=(dC++[(b,pF p)]).length+1:=by simp
  rw[a3,List.map_append];rfl
theorem aHO {wm:List gL} {b8:List (Nat×gL)} {b:Nat} {mT:D jG} (h:b8.map (·.2)=qa go iJ ro c 0::wm) (m:Nat):
 ∃cH a0 T,b8++[(b,(fZ ro (m+1),fZ ro 0,cx [(S ⟨#[111,107]⟩,mT.1,mT.2.1,aO.w .i64 0,())],()))]=(cH,qt iJ ro a0 0)::T/\
  z0 go iJ ro m c wm (some mT)=(qt iJ ro a0 ((T.length+1:Nat):Int)::T.map (·.2))++s3 iJ ro m 1 (T.length+1)++[tj]:=by
 cases b8 with
 |nil=>simp at h
 |cons e b8=>
  simp at h;obtain⟨aa,rfl⟩:=h;refine⟨e.1,(go,c.1,c.2.1,aO.w .i64 1,()),b8++[(b,(fZ ro (m+1),fZ ro 0,cx [(S ⟨#[111,107]⟩,mT.1,mT.2.1,aO.w .i64 0,())],()))],by rw[List.cons_append];congr 1;exact Prod.ext rfl aa, ?_⟩;have a3:(qa go iJ ro c 0::b8.map (·.2)++[((fZ ro (m+1),fZ ro 0,cx [(S ⟨#[111,107]⟩,mT.1,mT.2.1,aO.w .i64 0,())],()):gL)]).length=(b8++[(b,((fZ ro (m+1),fZ ro 0,cx [(S ⟨#[111,107]⟩,mT.1,mT.2.1,aO.w .i64 0,())],()):gL))]).length+1:=by simp
  show(qa go iJ ro c (((qa go iJ ro c 0::b8.map (·.2)++[((fZ ro (m+1),fZ ro 0,cx [(S ⟨#[111,107]⟩,mT.1,mT.2.1,aO.w .i64 0,())],()):gL)]).length:Nat):Int)::b8.map (·.2)++[_])++s3 iJ ro m 1 (qa go iJ ro c 0::b8.map (·.2)++[((fZ ro (m+1),fZ ro 0,cx [(S ⟨#[111,107]⟩,mT.1,mT.2.1,aO.w .i64 0,())],()):gL)]).length++[tj]=_;rw[a3,List.map_append];rfl
end
theorem l6.Xy {m:M} {w:World} {jK jq ja:TypeId} {di q:Nat} {fp ro:Value} {A:Option Addr} {c:Nat} {b8:List (Nat×gL)} (h:l6 jK jq ja m w di q fp ro A c b8) {i:Nat} {e:Nat×gL} (he:b8[i]? =some e):
 ∃g,A=some ⟨g,0,none⟩/\w.cell? ⟨g,i*3+2,none⟩=some (p2 e.1 e.2):=by
 rcases h.row.2 with⟨bl,xm⟩|⟨g,cap,cur,aF,aQ,bn,cy,fj,fX,gU⟩
 ·rw[List.length_eq_zero_iff.1 xm] at he;cases he
 ·injection aF with dx _ _
  refine⟨g,dx, ?_⟩;have aa:=HL lj 3 adr b8 i e 2 he ab;rw[<-gU,List.getElem?_take] at aa;split at aa
  ·rw[show(lj e)[2]? =some (p2 e.1 e.2) from rfl] at aa;unfold World.cell?;simp[bn];simpa using aa
  ·cases aa
theorem ai4 {p:gL} {a:pG} {t:List pG} (h:p.2.2.1.1=a::t):(pF p).2.2.1.1=(a.1,a.2.1,a.2.2.1,aO.w .i64 0,())::t:=by
 unfold pF;rw[h];refine fT ?_;have:=p.2.2.1.2;rw[h] at this;exact this
theorem aIM {p:gL} {a:pG} {t:List pG} (h:p.2.2.1.1=a::t):l_ (pF p)=(l_ p).set 3 (.int .i64 0):=by
 unfold l_;rw[ai4 h,h];rfl
theorem ajI {p:gL} {a:pG} {t:List pG} (h:p.2.2.1.1=a::t):(l_ p).toArray[3]? =some (.int .i64 a.2.2.2.1.1):=by
 unfold l_;rw[h];simp[za]
theorem alj {iJ:ew} {ro:L (D [.str])} {a0:pG} {k:Nat} (aP:k<=100):l_ (qt iJ ro a0 (k:Int))=(l_ (qt iJ ro a0 0)).set 7 (.int .i64 (k:Int)):=by
 show za a0++[Value.string iJ.1,.int .i64 0,.string ⟨#[]⟩,.int .i64 (aO.w .i64 (k:Int)).1]=_;rw[QF aP];rfl
theorem ali {iJ:ew} {ro:L (D [.str])} {a0:pG}:(l_ (qt iJ ro a0 0)).toArray[7]? =some (.int .i64 0):=rfl
theorem K.end {gx:Nat} (dI:M) (d0:kk oq) (w0:World) {m:M} {d:kk oq} {w:World} (h:K dI d0 w0 m d w) (bw:j6 m gx) (ay:w0.heap.size<=gx) (Om jD kj:Value):
 K dI d0 w0 m d (((w.setCell ⟨gx,0,none⟩ Om).setCell ⟨gx,1,none⟩ jD).setCell ⟨gx,2,none⟩ kj):=by
 have lz:∀k,k≠gx->(((w.setCell ⟨gx,0,none⟩ Om).setCell ⟨gx,1,none⟩ jD).setCell ⟨gx,2,none⟩ kj).heap[k]? =w.heap[k]? :=λk aP=>by
  rw[Below.heap_setCell _ _ _ _ aP,Below.heap_setCell _ _ _ _ aP,Below.heap_setCell _ _ _ _ aP]
 exact h.world ⟨rfl,rfl,rfl⟩ (by simp[World.setCell]) (λb _ ai=>lz b λe=>ai (e▸bw)) λb ai=>lz b ab
theorem au4 (b:Nat):lj (b,tj)=[.string ⟨#[]⟩,.string ⟨#[]⟩,.slice none 0 0]:=by
 have ax:p2 b tj=.slice none 0 0:=if_pos rfl;show[Value.string (S ⟨#[]⟩).1,.string (S ⟨#[]⟩).1,p2 b tj]=_;rw[ax];rfl
theorem Hn (w:World) (a:Obj):Below w.heap.size w (w.alloc a):=(Below.refl w.heap.size w).alloc (Nat.le_refl _) a
section
variable{dI m:M} {d0 d:kk oq} {w0 w:World} {r:Nat}
theorem aHK (k:K dI d0 w0 m d w) {y} (bT:yf ((),())=some y):
 Calls Tryz.prog 57 #[] w λe w'=>∃m' v,e=.returned v/\K dI d0 w0 m' d w'/\oS m w m' w'/\dO m'.fz (.aH [.str]) y.1.1 v:=by
 refine(Z2.run (σ:=ng d) (args:=[]) (z:=([],ng d)) (x:=(((),()),[])) rfl rfl bT rfl #[] k.aJ trivial).mono ?_;rintro ex w' ⟨m',v,rfl,s,h,aM⟩;obtain⟨cj,ia⟩:=k.call (d':=d) s h;exact⟨m',v,rfl,cj,ia,aM.1⟩
theorem aof (k:K dI d0 w0 m d w) {y} (bT:ye ((),())=some y):
 Calls Tryz.prog 58 #[] w λe w'=>∃m' v,e=.returned v/\K dI d0 w0 m' d w'/\oS m w m' w'/\dO m'.fz (.aH [.str]) y.1.1 v:=by
 refine(ZS.run (σ:=ng d) (args:=[]) (z:=([],ng d)) (x:=(((),()),[])) rfl rfl bT rfl #[] k.aJ trivial).mono ?_;rintro ex w' ⟨m',v,rfl,s,h,aM⟩;obtain⟨cj,ia⟩:=k.call (d':=d) s h;exact⟨m',v,rfl,cj,ia,aM.1⟩
theorem auO (k:K dI d0 w0 m d w) (aJ:dI.pl 0=some r) (n:aO .i64) {y} (bT:g7 (((),n,()),(d,()))=some y):
 Calls Tryz.prog 108 #[.pointer (some ⟨r,0,none⟩),.int .i64 n.1] w λe w'=>∃m',e=.returned (.int .i64 y.1.1.1)/\K dI d0 w0 m' y.2.1 w'/\oS m w m' w':=by
 refine(qF.run (σ:=ng d) (args:=[.c (.ptr (some (0,0))),.c (.int .i64 n)]) (z:=([.c (.ptr (some (0,0))),.c (.int .i64 n)],ng d)) (x:=((((),n,()),(d,())),[0])) rfl rfl bT rfl #[.pointer (some ⟨r,0,none⟩),.int .i64 n.1] k.aJ ⟨⟨r,k.pl aJ,rfl⟩,rfl,trivial⟩).mono ?_;rintro ex w' ⟨m',v,rfl,s,h,aM⟩;obtain⟨cj,ia⟩:=k.call (d':=y.2.1) s h;exact⟨m',by rw[show v=.int .i64 y.1.1.1 from aM],cj,ia⟩
theorem RW (aJ:dI.pl 0=some r) {p:Int} {y:U CH} (bT:g7 (((),(aO.w .i64 2),()),(d,()))=some y) (bw:y.1.1.1=p) (m:M) (w:World) (k:K dI d0 w0 m d w):
 Calls Tryz.prog 108 #[.pointer (some ⟨r,0,none⟩),.int .i64 2] w λe w'=>∃m',e=.returned (.int .i64 p)/\K dI d0 w0 m' y.2.1 w'/\oS m w m' w':=by
 have:=auO k aJ (aO.w .i64 2) bT;rw[bw] at this;exact this
theorem Wl (k:K dI d0 w0 m d w) (aJ:dI.pl 0=some r) {y} (bT:t_ (((),()),(d,()))=some y):
 Calls Tryz.prog 237 #[.pointer (some ⟨r,0,none⟩)] w λe w'=>∃m',e=.returned (.agg #[.int .i64 y.1.1.1.1,.string y.1.1.2.1.1])/\K dI d0 w0 m' y.2.1 w'/\oS m w m' w':=by
 refine(Zv.run (σ:=ng d) (args:=[.c (.ptr (some (0,0)))]) (z:=([.c (.ptr (some (0,0)))],ng d)) (x:=((((),()),(d,())),[0])) rfl rfl bT rfl #[.pointer (some ⟨r,0,none⟩)] k.aJ ⟨⟨r,k.pl aJ,rfl⟩,trivial⟩).mono ?_;rintro ex w' ⟨m',v,rfl,s,h,aM⟩;obtain⟨cj,ia⟩:=k.call (d':=y.2.1) s h;obtain⟨cs,rfl,aM⟩:=aM;refine⟨m', ?_,cj,ia⟩
 match cs,aM with
 |⟨[a,b]⟩,⟨aa,ae,_⟩=>rw[show a=.int .i64 y.1.1.1.1 from aa,show b=.string y.1.1.2.1.1 from ae]
theorem aj4 (k:K dI d0 w0 m d w) (aJ:dI.pl 0=some r) (eE:L (D [.str])) {u:Value} (hu:dO m.fz (.aH [.str]) eE u) {y} (bT:yd (((),eE,()),(d,()))=some y):
 Calls Tryz.prog 238 #[.pointer (some ⟨r,0,none⟩),u] w λe w'=>∃m',e=.returned (.agg #[.int .i64 y.1.1.1.1,.string y.1.1.2.1.1])/\K dI d0 w0 m' y.2.1 w'/\oS m w m' w':=by
 refine(ZP.run (σ:=ng d) (args:=[.c (.ptr (some (0,0))),.c (.row [.str] eE .no)]) (z:=([.c (.ptr (some (0,0))),.c (.row [.str] eE .no)],ng d)) (x:=((((),eE,()),(d,())),[0])) rfl rfl bT rfl #[.pointer (some ⟨r,0,none⟩),u] k.aJ ⟨⟨r,k.pl aJ,rfl⟩,⟨hu,trivial⟩,trivial⟩).mono ?_;rintro ex w' ⟨m',v,rfl,s,h,aM⟩;obtain⟨cj,ia⟩:=k.call (d':=y.2.1) s h;obtain⟨cs,rfl,aM⟩:=aM;refine⟨m', ?_,cj,ia⟩
 match cs,aM with
 |⟨[a,b]⟩,⟨aa,ae,_⟩=>rw[show a=.int .i64 y.1.1.1.1 from aa,show b=.string y.1.1.2.1.1 from ae]
end
structure Vt (x:U CM) (y:U CN) where
  aB:U Z3
  cf:L (D [.str])
  a2:U ZT
  bf:U CH
  dh:D [.str]
  cD:U CH
  eK:D [.str]
  cu:U CH
  b6:U Zw
  lZ:List (D eg)×kk oq
  aa:2<=x.1.2.2.1.1
  ae:x.1.2.2.1.1<=5
  dE:yf ((),())=some aB
  dc:x.1.2.2.1.1<=aB.1.1.1.length
  gT:cf.1=aB.1.1.1.take x.1.2.2.1.1.toNat
  kD:ye ((),())=some a2
  oV:g7 (((),(aO.w .i64 (2)),()),(x.2.1,()))=some bf
  sA:0<=bf.1.1.1/\a2.1.1.1[bf.1.1.1.toNat]? =some dh
  vG:g7 (((),(aO.w .i64 (2)),()),(bf.2.1,()))=some cD
  sB:0<=(bg (aO.w .i64 (2)) cD.1.1).1/\a2.1.1.1[(bg (aO.w .i64 (2)) cD.1.1).1.toNat]? =some eK
  uI:g7 (((),(aO.w .i64 (2)),()),(cD.2.1,()))=some cu
  w1:t_ (((),()),(cu.2.1,()))=some b6
  uJ:ua dh.1 x.1.2.2.2.1 cf (x.1.2.2.1.1-2).toNat 1 b6.2.1=some lZ
  vF:(cu.1.1.1=1/\∃cG,t_ (((),()),(lZ.2,()))=some cG/\
      y=(((x.1.2.1,cf,cx (z0 dh.1 eK.1 cf (x.1.2.2.1.1-2).toNat b6.1.1 lZ.1 (some cG.1.1)),()),()),(cG.2.1,())))\/
    (cu.1.1.1≠1/\y=(((x.1.2.1,cf,cx (z0 dh.1 eK.1 cf (x.1.2.2.1.1-2).toNat b6.1.1 lZ.1 none),()),()),(lZ.2,())))
theorem YO {α:Type} {l:L α} {i:Int} {e:α} (h:a7 l i=some e):0<=i/\l.1[i.toNat]? =some e:=by
 unfold a7 at h;by_cases bl:0<=i
 ·rw[decide_eq_true bl] at h;exact⟨bl,h⟩
 ·rw[decide_eq_false bl] at h;cases h
theorem aHN {x:U CM} {y:U CN} (h:yg x=some y):Nonempty (Vt x y):=by
 unfold yg at h;cases aa:fM (aO.w .i64 2) x.1.2.2.1
 ·rw[aa] at h;cases h
 cases ae:fM x.1.2.2.1 (aO.w .i64 5)
 ·rw[aa,ae] at h;cases h
 rw[aa,ae] at h;simp only[cond_true] at h;obtain⟨aB,dE,h⟩:=Option.bind_eq_some_iff.1 h;obtain⟨v2,dc,h⟩:=Option.bind_eq_some_iff.1 h;obtain⟨cf,gT,h⟩:=Option.bind_eq_some_iff.1 h;obtain⟨a2,kD,h⟩:=Option.bind_eq_some_iff.1 h;obtain⟨bf,oV,h⟩:=Option.bind_eq_some_iff.1 h;obtain⟨dh,sA,h⟩:=Option.bind_eq_some_iff.1 h;obtain⟨cD,vG,h⟩:=Option.bind_eq_some_iff.1 h;obtain⟨eK,sB,h⟩:=Option.bind_eq_some_iff.1 h;obtain⟨cu,uI,h⟩:=Option.bind_eq_some_iff.1 h;obtain⟨b6,w1,h⟩:=Option.bind_eq_some_iff.1 h;obtain⟨lZ,uJ,h⟩:=Option.bind_eq_some_iff.1 h;have aF:2<=x.1.2.2.1.1:=of_decide_eq_true aa;have aQ:x.1.2.2.1.1<=5:=of_decide_eq_true ae;have fg:x.1.2.2.1.1<=aB.1.1.1.length/\v2.1=aB.1.1.1.take x.1.2.2.1.1.toNat:=by
  unfold nf at dc;cases aq:(decide (0<=(0:Int))&&decide (0<=x.1.2.2.1.1)&&decide (x.1.2.2.1.1<=aB.1.1.1.length))
  ·rw[aq] at dc;cases dc
  ·rw[aq] at dc;cases dc;simp at aq;exact⟨aq.2,by simp⟩
 have hJ:cf.1=v2.1:=by
  unfold de at gT;split at gT
  ·cases gT;simp[L.nil]
  ·cases gT
 refine⟨⟨aB,cf,a2,bf,dh,cD,eK,cu,b6,lZ,aF,aQ,dE,fg.1,by rw[hJ,fg.2],kD,oV,YO sA,vG,YO sB,uI,w1,uJ, ?_⟩⟩;cases az:bd cu.1.1 (aO.w .i64 1)
 ·rw[az] at h;refine .inr ⟨?_,(hP h).symm⟩;exact of_decide_eq_false az
 ·rw[az] at h;simp only[cond_true] at h;obtain⟨cG,vF,h⟩:=Option.bind_eq_some_iff.1 h;refine .inl ⟨of_decide_eq_true az,cG,vF,(hP h).symm⟩
end cB
def dk (P:Program) (ops:Array Oper) (Q:Exit->Act->World->Prop) (S:World->Prop) (f:Nat):Nat->Array Bool->Act->World->Prop
 |0,l,a,w=>Region.ready .any ops l=[]/\Q .normal a w
 |n+1,l,a,w=>(Region.ready .any ops l=[]->Q .normal a w)/\∀i∈Region.ready .any ops l,wpOp P ops Q i (λcY w'=>(i≠f->S w')/\dk P ops Q S f n (l.setIfInBounds i true) cY w') a w
section
variable{P:Program} {ops:Array Oper} {Q:Exit->Act->World->Prop} {S:World->Prop} {f:Nat}
theorem dk.any:∀(n:Nat) (l:Array Bool) (a:Act) (w:World),dk P ops Q S f n l a w->wpAny P .any ops Q n l a w
 |0,_,_,_,h=>h
 |n+1,_,_,_,h=>⟨h.1,λi aj=>wpOp_mono (λcY w' g=>dk.any n _ cY w' g.2) (h.2 i aj)⟩
theorem dk.start {id:Nat} {a:Act} {w:World} (hm:P.follows .mixedOrders=true) (dz:S w.drew) (h:S w.drew->dk P ops Q S f ops.size (Array.replicate ops.size false) a w.drew):(Code.region id ops true).wp P Q a w:=wp_region_any hm (dk.any _ _ _ _ (h dz))
def waits (ops:Array Oper) (f i:Nat):Bool:=match ops[f]? with
 |some o=>o.after.any λe=>Region.binds .any e&&e.on==i
 |none=>false
theorem aiR {i:Nat} (h:waits ops f i=true) {l:Array Bool} (a3:l.getD i true=false):f∉Region.ready .any ops l:=by
 unfold waits at h;split at h
 ·rename_i o bR;intro bu;obtain⟨_,fl,gd,nk⟩:=mem_ready.1 bu;rw[bR] at gd;cases gd;rw[Array.any_eq_true] at h;obtain⟨k,aP,ai⟩:=h;rw[gJ,beq_iff_eq] at ai;have ae:=nk _ (Array.getElem_mem aP) ai.1;rw[ai.2] at ae;rcases jL i l.size with h'|h'
  ·simp[h'] at a3 ae;rw[a3] at ae;cases ae
  ·simp[Array.getElem?_eq_none h'] at ae
 ·cases h
theorem dk.first {i:Nat} {r9:Oper} {v:Value} (aj:ops[i]? =some r9) (Qu:Region.noSelect ops=true) (hw:waits ops f i=true) (fc:∀c a w,Q (.panic c) (a.put r9.dst v) w->Q (.panic c) a w):
 ∀(n:Nat) (l:Array Bool) (a:Act) (w:World),(∀j nr,ops[j]? =some nr->j≠i->l.getD j true=false->(∀e∈nr.after,Region.binds .any e=true->e.on≠i)->r9.apart ops nr=true)->
  i∈Region.ready .any ops l->YieldsIf P ops S r9 v a->S w->dk P ops Q S f n (l.setIfInBounds i true) (a.put r9.dst v) w->dk P ops Q S f (n+1) l a w
 |n,l,a,w,XP,aJ,bT,dz,H=>by
  have Ir:l.getD i true=false:=(mem_ready.1 aJ).1;have amg:i≠f:=λe=>aiR hw Ir (e▸aJ);refine⟨λh=>(by rw[h] at aJ;cases aJ),λj au=> ?_⟩;by_cases iE:j=i
  ·subst iE;exact bT.wpOp aj dz ⟨λ_=>dz,H⟩
  have zG:j≠f:=λe=>aiR hw Ir (e▸au);have lE:=ready_mono au iE;cases n with
  |zero=>rw[H.1] at lE;cases lE
  |succ n=>
   obtain⟨XX,nr,u2,nk⟩:=mem_ready.1 au;have amR:∀e∈nr.after,Region.binds .any e=true->e.on≠i:=λe he ai heq=>by
    have aa:=nk e he ai;rw[heq] at aa;rcases jL i l.size with h'|h'
    ·simp[h'] at Ir aa;rw[Ir] at aa;cases aa
    ·simp[Array.getElem?_eq_none h'] at aa
   have ae:=wpOp_putIf u2 (XP j nr u2 iE XX amR) (λcs b=>Region.noSelect_spec Qu i r9 cs b aj) (λcs b=>Region.noSelect_spec Qu j nr cs b u2) fc bT (H.2 j lE);refine wpOp_mono (λcY w' g=>⟨λ_=>g.2.1 zG,dk.first aj Qu hw fc n (l.setIfInBounds j true) cY w' (λk ok aP amp hu tR=> ?_) (ready_mono aJ (Ne.symm iE)) g.1 (g.2.1 zG) ?_⟩) ae
   ·refine XP k ok aP amp ?_ tR;by_cases rT:j=k
    ·subst rT;exact XX
    ·rw[getD_set_ne true rT] at hu;exact hu
   ·rw[Array.setIfInBounds_comm _ _ iE];exact g.2.2
theorem dk.take {i:Nat} {r9:Oper} {v:Value} {n:Nat} {l:Array Bool} {a:Act} {w:World} (aj:ops[i]? =some r9) (aU:(Region.noSelect ops&&waits ops f i&&Region.free .any ops l i&&(Region.ready .any ops l).contains i)=true)
 (fc:∀c a w,Q (.panic c) (a.put r9.dst v) w->Q (.panic c) a w) (ano:Region.wanted r9 (yielded ops a.tmps)=true) (bT:∀w,S w->(execOp a.eval r9).run P w=.ok (.value v) w) (dz:S w)
 (h:dk P ops Q S f n (l.setIfInBounds i true) (a.put r9.dst v) w):dk P ops Q S f (n+1) l a w:=by
 rw[gJ,gJ,gJ] at aU;exact dk.first aj aU.1.1.1 aU.1.1.2 fc n l a w (Region.free_spec aj aU.1.2) (by simpa using aU.2) (.inl ⟨ano,bT⟩) dz h
theorem dk.one {i:Nat} {o:Oper} {n:Nat} {l:Array Bool} {a:Act} {w:World} (aj:ops[i]? =some o) (aJ:Region.ready .any ops l=[i])
 (h:∀K:Act->World->Prop,Shut (∀a w,(i≠f->S w)->((i≠f->S w)->dk P ops Q S f n (l.setIfInBounds i true) a w)->K a w)->if Region.wanted o (yielded ops a.tmps)=true then Oper.wp P o a w K Q else K (a.put o.dst undef) w):dk P ops Q S f (n+1) l a w:=by
 refine⟨λbl=>(by rw[aJ] at bl;cases bl),λj au=> ?_⟩;rw[aJ,List.mem_singleton] at au;subst au;exact wpOp_step aj λK ef=>h K (λa w dz rN=>ef a w ⟨dz,rN dz⟩)
theorem dk.done {l:Array Bool} {a:Act} {w:World} (aJ:Region.ready .any ops l=[]) (h:Q .normal a w):∀n,dk P ops Q S f n l a w
 |0=>⟨aJ,h⟩
 |n+1=>⟨λ_=>h,by rw[aJ];simp⟩
end
theorem iL {w:World} {o:Obj} {p:Addr} {v:Value} (h:w.cell? p=some v):(w.alloc o).cell? p=some v:=(World.cell?_alloc_lt w o p (World.block_lt_of_cell? w p h)).trans h
namespace cB
open bx (T cv)
set_option linter.unusedVariables false
set_option linter.unusedSimpArgs false
attribute[local go_sem↓] Go.wp_at_zero Go.wp_at_succ
theorem anI:(Tryz.prog.info? 148).map (λi=>(i.zero,i.size,i.bytes))=some (some (.agg #[.string ⟨#[]⟩,.string ⟨#[]⟩,.slice none 0 0]),3,56):=by kernel_rfl
theorem anJ:(Tryz.prog.info? 9).map (λi=>(i.zero,i.size,i.bytes))=some (some (.string ⟨#[]⟩),1,16):=by kernel_rfl
theorem akK {aS:Program} {f:Nat} {fn:Func} {c:Code} (bu:aS.funcs[f]? =some fn) (aA:(fn.name== "runtime.NumGoroutine")=false) (ai:fn.body=some c) (vs:Array Value) (w:World):(callFunc f vs).run aS w=.ok (.enter f vs) w:=by
 have az:¬fn.name= "runtime.NumGoroutine":=by simpa using aA
 simp[callFunc,bu,az,ai]
set_option maxRecDepth 100000 in
set_option maxHeartbeats 8000000 in
theorem aHP {dI:M} {d0:kk oq} {w0:World} {r:Nat} {u:Value} (fp:ew) (many:aO .i64) (eE:L (D [.str])) {y:U CN} (h:Vt (((),fp,many,eE,()),(d0,())) y) (bc:bt dI (ng d0) w0) (aJ:dI.pl 0=some r) (hu:dO dI.fz (.aH [.str]) eE u):
 Calls Tryz.prog 193 #[.pointer (some ⟨r,0,none⟩),.string fp.1,.int .i64 many.1,u] w0 λe w'=>∃m' v1 v2,e=.returned (.agg #[.string y.1.1.1.1,v1,v2])/\K dI d0 w0 m' y.2.1 w'/\dO m'.fz (.aH [.str]) y.1.1.2.1 v1/\dO m'.fz (.aH eg) y.1.1.2.2.1 v2:=by
 obtain⟨aB,cf,a2,bf,dh,cD,eK,cu,b6,lZ,aa,ae,dE,dc,gT,kD,oV,sA,vG,sB,uI,w1,uJ,vF⟩:=h;dsimp only at aa ae dc gT oV uJ vF;obtain⟨many,aJ3⟩:=many;dsimp only at aa ae dc gT uJ vF;obtain⟨eW,rfl⟩:∃eW:Nat,many=eW:=⟨many.toNat,ab⟩;have Qh:2<=eW:=ab;have aJ2:eW<=5:=ab;obtain⟨i0,rS,qC,Ct,Cu⟩:=info_parts anI;obtain⟨QG,XW,anX,anY,anZ⟩:=info_parts anJ;obtain⟨VD,H3⟩:∃W,W=w0.alloc (.cells #[.string ⟨#[]⟩,.slice none 0 0,.slice none 0 0] 68):=⟨_,rfl⟩;have p7:K dI d0 w0 dI d0 w0:=⟨bc,bc,Step.refl ..⟩;have cR:Below w0.heap.size w0 VD:=by rw[H3];exact(Below.refl _ _).alloc (Nat.le_refl _) _
 have Vj:=Lib.hid (p7.below cR);have OD:=Lib.hid (show gp VD w0.heap.size #[.string ⟨#[]⟩,.slice none 0 0,.slice none 0 0] 68 by rw[H3];exact gp.new ..);have Vo:=Lib.hid (show j6 dI w0.heap.size from bc.rl (Nat.le_refl _));have ajo:=Lib.hid H3;obtain⟨jC,Ql⟩:∃p:Nat,bf.1.1.1=p:=⟨bf.1.1.1.toNat,ab⟩;obtain⟨qK,Qm⟩:∃p:Nat,(bg (aO.w .i64 2) cD.1.1).1=p:=⟨(bg (aO.w .i64 2) cD.1.1).1.toNat,ab⟩;obtain⟨nl,nQ⟩:∃n:Nat,n=a2.1.1.1.length:=⟨_,rfl⟩;have P9:a2.1.1.1[jC]? =some dh:=by have:=sA.2;rw[Ql] at this;simpa using this
 have Ia:a2.1.1.1[qK]? =some eK:=by have:=sB.2;rw[Qm] at this;simpa using this
 have amF:jC<nl:=by rw[nQ];exact(ed.1 P9).1
 have amG:qK<nl:=by rw[nQ];exact(ed.1 Ia).1
 have amQ:nl=4:=by rw[nQ];cases kD;rfl
 have alG:(jC:Int)<4:=ab;have alH:(qK:Int)<4:=ab;have Vh:=Lib.hid P9;have Vi:=Lib.hid Ia;have ON:=Lib.hid nQ;have OF:=Lib.hid (λm d w (k:K dI d0 w0 m d w)=>aof k kD);have U3:=Lib.hid (RW (d0:=d0) (w0:=w0) aJ oV Ql);obtain⟨iB,QA⟩:∃p:Int,cD.1.1.1=p:=⟨_,rfl⟩;have U4:=Lib.hid (RW (d0:=d0) (w0:=w0) aJ vG QA);have ann:IntKind.i64.wrap (2+iB)=(qK:Int):=by rw[<-QA,<-Qm];rfl
 obtain⟨G1,Qz⟩:∃p:Int,cu.1.1.1=p:=⟨_,rfl⟩;have ai':=Lib.hid (RW (d0:=d0) (w0:=w0) aJ uI Qz);have aja:=Lib.hid (λm w (k:K dI d0 w0 m cu.2.1 w)=>Wl k aJ w1);rw[Qz] at vF;clear nQ P9 Ia QA Qm Ql Qz;have ai_:=Lib.hid vF;have UX:=Lib.hid uJ;have aIP:=Lib.hid w1;have tl:=Lib.hid uI;have aIT:=Lib.hid sB;have aIS:=Lib.hid vG;have U0:=Lib.hid sA;have aIR:=Lib.hid oV;have aIQ:=Lib.hid kD;have UZ:=Lib.hid gT;have Vd:=Lib.hid aJ;have Ve:=Lib.hid hu;have aIV:=Lib.hid bc;have aIU:=Lib.hid (And.intro aa ae);have UY:=Lib.hid dc;have ai8:=Lib.hid dE;clear dE vF uJ w1 uI sB vG sA oV kD gT dc H3 aJ hu bc p7 cR aa ae
 go_enter Tryz.func193,Tryz.ntmps193
 go_wp2_with fail
 rw[<-ajo.out];refine(aHK Vj.out ai8.out).mono ?_;rintro e eM ⟨dg,v2,rfl,bE,Y0,Hy⟩;obtain⟨OB,aqU,Wi,rfl⟩:∃A n c,v2=.slice A n c:=by
  simp only[dO] at Hy;obtain⟨A,c,h,_⟩:=Hy;exact⟨A,_,c,h⟩
 obtain⟨amS,amM,ahY⟩:=aHQ Hy bE.aJ;have ajx:eW<=aB.1.1.1.length:=by have:=UY.out;omega
 have hcut:=λW=>aHT (P:=Tryz.prog) 65 9 Tryz.underlying65 QG XW OB aqU Wi eW (eW:Int) rfl ab W;have ahZ:fP eM OB (qN cf.1):=by
  have:=ahY.take eW;unfold qN at this⊢;rw[UZ.out]
  rwa [<-List.map_take] at this
 have k9:cf.1.length=eW:=by rw[UZ.out];simp;omega
 have uC:=Lib.hid k9;have Vs:=Lib.hid ahZ;have G9:=Lib.hid bE;have G_:=Lib.hid Y0;clear k9 ahZ ahY ajx bE Y0 Hy amS amM
 go_wp2_with (at_builtin;refine aiT _ rfl _ _ _ rfl eM.heap.size 9 QG _ 1 16 Tryz.underlying65 XW anX anY anZ rfl ab (.slice none 0 0) 0 [] rfl (World.ownsRow_nil _ _ _ _) OB eW Wi (qN cf.1) rfl Vs.out (by unfold qN;rw[List.length_map,uC.out];omega) (auD _) ab (by unfold maxLen;omega) (Nat.le_refl _) ?_;intro yQ eJ gh Ih xM B3 H6;have U_:=Lib.hid (And.intro Ih (And.intro xM (And.intro B3 H6)));clear Ih xM B3 H6)
 obtain⟨Ih,xM,B3,H6⟩:=U_.out;have bJ:Below eM.heap.size eM gh:=(Below.refl _ _).grown B3 (Nat.le_refl _) (by intro k aP;cases aP);rw[List.nil_append] at xM;have HX:∀g,ma yQ=some g->eM.heap.size<=g/\g<gh.heap.size:=λg bZ=>xM.lt g (by rw[vi];exact bZ);obtain⟨fi,WO,c8,Pn,adp⟩:=(G9.out.below bJ).row (l:=cf) xM λg bZ=>⟨G9.out.aJ.rl (HX g bZ).1,by have:=(HX g bZ).1;have:=G9.out.st.gu.size;omega⟩;have Qs:=G_.out.2.1;have Xf:=OD.out.lt;have eS:=G_.out.2.2 _ Xf Vo.out;obtain⟨VE,H4⟩:∃W,W=gh.alloc (.cells #[.string fp.1,.slice yQ eW eJ,.slice none 0 0] 68):=⟨_,rfl⟩;have oe:Below gh.heap.size gh VE:=by rw[H4];exact(Below.refl _ _).alloc (Nat.le_refl _) _
 have N_:tF dI d0 w0 68 68 w0.heap.size gh.heap.size #[.string ⟨#[]⟩,.slice none 0 0,.slice none 0 0] #[.string fp.1,.slice yQ eW eJ,.slice none 0 0] cf eE (.slice yQ eW eJ) u fi d0 VE:=by
  rw[fL] at Pn;refine⟨c8.below oe, ?_, ?_, ?_,c8.aJ.rl (Nat.le_refl _),Pn,(Ve.out.ext G_.out.1.fz).ext WO.fz⟩
  ·exact(oe.block _ (by have:=bJ.size;omega)).trans ((bJ.block _ ab).trans (eS.1.trans OD.out))
  ·exact adp _ (λe=>by have:=(HX _ e.symm).1;omega) eS.2
  ·rw[H4];exact gp.new ..
 have ay:w0.heap.size<gh.heap.size:=by have:=bJ.size;omega
 have Vf:=Lib.hid H4;have Vv:=Lib.hid N_;clear U_ Ih xM B3 H6 bJ HX WO c8 Pn adp Qs Xf eS oe N_ H4 G_ G9 Vs hcut Ve Vo OD Vj;rw[<-Vf.out];clear Vf;have OP:=Lib.hid (Vv.out.below (Below.refl _ _).drew)
 go_cut [10,11] from 24 to 34 (λwE aHY UQ=>wE=.string dh.1.1/\aHY=.string eK.1.1/\Hid (∃m,tF dI d0 w0 68 68 w0.heap.size gh.heap.size #[.string ⟨#[]⟩,.slice none 0 0,.slice none 0 0] #[.string fp.1,.slice yQ eW eJ,.slice none 0 0] cf eE (.slice yQ eW eJ) u m cD.2.1 UQ))
 case first=>
  go_region_law (first
   |(go_simp;go_at_call 108;refine(U4.out _ _ Vx.out.k).mono ?_;rintro e mK ⟨aov,rfl,pj,IG⟩;have Ag:=pj.aJ.cellOf (IG.1.fz _ _ _ f6.out);have gU:=pj.aJ.cellOf (IG.1.fz _ _ _ (Cy.out.1.fz _ _ _ (zW.out.1.fz _ _ _ f4.out)));have Hb:=Lib.hid (Vx.out.call pj IG);clear pj IG;go_simp)
   |(go_simp;go_at_call 58;refine(OF.out _ _ _ uG.out.k).mono ?_;rintro e aIA ⟨Zm,v6,rfl,oD,Cy,Wt⟩;have fX:=oD.aJ.cellOf (Cy.1.fz _ _ _ (zW.out.1.fz _ _ _ f4.out));obtain⟨aI4,aKz,my,rfl,al9,f6⟩:=Wt.aiv Vi.out;rw[<-ON.out] at al9⊢;have Vx:=Lib.hid (uG.out.call oD Cy);have f6:=Lib.hid f6;have Cy:=Lib.hid Cy;clear oD Wt;go_simp)
   |(go_simp;go_at_call 108;refine(U3.out _ _ Vw.out.k).mono ?_;rintro e aiQ ⟨u_,rfl,jj,zW⟩;have fj:=jj.aJ.cellOf (zW.1.fz _ _ _ f4.out);have uG:=Lib.hid (Vw.out.call jj zW);have zW:=Lib.hid zW;clear jj;go_simp)
   |(go_simp;go_at_call 58;refine(OF.out _ _ _ OP.out.k).mono ?_;rintro e aKN ⟨r5,v4,rfl,ei,Y1,Ws⟩;obtain⟨oe,aKy,iD,rfl,al8,f4⟩:=Ws.aiv Vh.out;rw[<-ON.out] at al8⊢;have Vw:=Lib.hid (OP.out.call ei Y1);have f4:=Lib.hid f4;clear ei Y1 Ws;go_simp))
  all_goals
   go_wp2_with fail
   go_meet
   exact⟨rfl,rfl,Lib.hid ⟨_,Hb.out⟩⟩
 case rest=>
  obtain⟨rfl,rfl,dz⟩:=hcut;obtain⟨aKu,Um⟩:=dz.out;have OQ:=Lib.hid Um;clear Um dz OP Vv alG alH amF amG amQ ann;clear OF U3 U4 Vh Vi ON
  go_wp2_with fail
  refine(ai'.out _ _ OQ.out.k).mono ?_;rintro e aKO ⟨aKv,rfl,YW,Y2⟩;have c4:=Lib.hid (OQ.out.call YW Y2);clear YW Y2 OQ
  go_wp2_with fail
  refine(aja.out _ _ c4.out.k).mono ?_;rintro e AQ ⟨Zp,rfl,x7,Y3⟩;have Vy:=Lib.hid (c4.out.call x7 Y3);clear x7 Y3 c4;generalize Xv:(G1==1)=av;have Va:=Lib.hid Xv;clear Xv
  go_wp2_with fail
  obtain⟨m_,H5⟩:∃W,W=AQ.alloc (.cells #[.int .i64 b6.1.1.1.1,.string b6.1.1.2.1.1] 120):=⟨_,rfl⟩;have Hl:Below AQ.heap.size AQ m_:=by rw[H5];exact(Below.refl _ _).alloc (Nat.le_refl _) _
  have OC:gp m_ AQ.heap.size #[.int .i64 b6.1.1.1.1,.string b6.1.1.2.1.1] 120:=by rw[H5];exact gp.new ..
  have AL:=Vy.out.below Hl;obtain⟨jv,ky,rfl,ku⟩:=rowAt AL.ro (λe=>by have:=uC.out;rw[e] at this;simp at this;omega);have uG:=Lib.hid AL;have O_:∀i,i<eW->m_.cell? ⟨jv,ky+i,none⟩=some (.string (fZ cf i).1):=λi aj=>by
   obtain⟨e,aa,ae⟩:=ah' (l:=cf) (i:=i) (by rw[uC.out];exact aj);rw[<-ae];exact AL.k.aJ.cellOf (ku i e aa)
  have oY:m_.cell? ⟨jv,ky,none⟩=some (.string (fZ cf 0).1):=O_ 0 ab;have cN:=O_ 1 ab;obtain⟨aIH,si,nA⟩:=vM AL.Bd;have aiX:=OC.cell 0;have aiY:=OC.cell 1;have OK:=Lib.hid (AL.start (jq:=148) (ja:=151));have Xj:(1:Int)<(eW:Int):=ab;have aJa:0<eW:=ab;have aJb:1<eW:=ab;have Vg:=Lib.hid H5;clear H5 Hl AL O_ OC Vy;rw[<-Vg.out];refine dk.start (f:=20) (S:=λW=>W.cell? ⟨gh.heap.size,1,none⟩=some (.slice (some ⟨jv,ky,none⟩) eW eJ)/\W.cell? ⟨gh.heap.size,2,none⟩=some (.slice none 0 0)/\W.cell? ⟨jv,ky,none⟩=some (.string (fZ cf 0).1)/\W.cell? ⟨jv,ky+1,none⟩=some (.string (fZ cf 1).1)/\W.cell? ⟨AQ.heap.size,0,none⟩=some (.int .i64 b6.1.1.1.1)/\W.cell? ⟨AQ.heap.size,1,none⟩=some (.string b6.1.1.2.1.1)) (by kernel_rfl) ⟨si,nA,oY,cN,aiX,aiY⟩ (λcQ=> ?_);clear aIH si nA oY cN aiX aiY;refine dk.take (i:=0) (v:= ?_) rfl (by kernel_rfl) (λ_ _ _ h=>h) (by rfl) ?_ cQ ?_
  rotate_left
  ·(intro w cK;(try dsimp only at cK);go_simp<;>with_reducible rfl)
  try simp only[Act.put,dS,dU,dP]
  refine dk.take (i:=1) (v:= ?_) rfl (by kernel_rfl) (λ_ _ _ h=>h) (by rfl) ?_ cQ ?_
  rotate_left
  ·(intro w cK;(try dsimp only at cK);go_simp<;>with_reducible rfl)
  try simp only[Act.put,dS,dU,dP]
  refine dk.take (i:=2) (v:= ?_) rfl (by kernel_rfl) (λ_ _ _ h=>h) (by rfl) ?_ cQ ?_
  rotate_left
  ·(intro w cK;(try dsimp only at cK);go_simp<;>with_reducible rfl)
  try simp only[Act.put,dS,dU,dP]
  refine dk.take (i:=3) (v:= ?_) rfl (by kernel_rfl) (λ_ _ _ h=>h) (by rfl) ?_ cQ ?_
  rotate_left
  ·(intro w cK;(try dsimp only at cK);go_simp<;>with_reducible rfl)
  try simp only[Act.put,dS,dU,dP]
  refine dk.take (i:=4) (v:= ?_) rfl (by kernel_rfl) (λ_ _ _ h=>h) (by rfl) ?_ cQ ?_
  rotate_left
  ·(intro w cK;(try dsimp only at cK);go_simp<;>with_reducible rfl)
  try simp only[Act.put,dS,dU,dP]
  refine dk.take (i:=5) (v:= ?_) rfl (by kernel_rfl) (λ_ _ _ h=>h) (by rfl) ?_ cQ ?_
  rotate_left
  ·(intro w cK;(try dsimp only at cK);go_simp<;>with_reducible rfl)
  try simp only[Act.put,dS,dU,dP]
  refine dk.take (i:=6) (v:= ?_) rfl (by kernel_rfl) (λ_ _ _ h=>h) (by rfl) ?_ cQ ?_
  rotate_left
  ·(intro w cK;(try dsimp only at cK);go_simp<;>with_reducible rfl)
  try simp only[Act.put,dS,dU,dP]
  refine dk.take (i:=7) (v:= ?_) rfl (by kernel_rfl) (λ_ _ _ h=>h) (by rfl) ?_ cQ ?_
  rotate_left
  ·(intro w cK;(try dsimp only at cK);go_simp<;>with_reducible rfl)
  try simp only[Act.put,dS,dU,dP]
  refine dk.take (i:=8) (v:= ?_) rfl (by kernel_rfl) (λ_ _ _ h=>h) (by rfl) ?_ cQ ?_
  rotate_left
  ·(intro w cK;(try dsimp only at cK);go_simp<;>with_reducible rfl)
  try simp only[Act.put,dS,dU,dP]
  refine dk.take (i:=9) (v:= ?_) rfl (by kernel_rfl) (λ_ _ _ h=>h) (by rfl) ?_ cQ ?_
  rotate_left
  ·(intro w cK;(try dsimp only at cK);go_simp<;>with_reducible rfl)
  try simp only[Act.put,dS,dU,dP]
  refine dk.take (i:=10) (v:= ?_) rfl (by kernel_rfl) (λ_ _ _ h=>h) (by rfl) ?_ cQ ?_
  rotate_left
  ·(intro w cK;(try dsimp only at cK);go_simp<;>with_reducible rfl)
  try simp only[Act.put,dS,dU,dP]
  refine dk.take (i:=11) (v:= ?_) rfl (by kernel_rfl) (λ_ _ _ h=>h) (by rfl) ?_ cQ ?_
  rotate_left
  ·(intro w cK;(try dsimp only at cK);go_simp<;>with_reducible rfl)
  try simp only[Act.put,dS,dU,dP]
  refine dk.take (i:=12) (v:= ?_) rfl (by kernel_rfl) (λ_ _ _ h=>h) (by rfl) ?_ cQ ?_
  rotate_left
  ·(intro w cK;(try dsimp only at cK);go_simp<;>with_reducible rfl)
  try simp only[Act.put,dS,dU,dP]
  refine dk.take (i:=13) (v:= ?_) rfl (by kernel_rfl) (λ_ _ _ h=>h) (by rfl) ?_ cQ ?_
  rotate_left
  ·(intro w cK;(try dsimp only at cK);go_simp<;>with_reducible rfl)
  try simp only[Act.put,dS,dU,dP]
  refine dk.take (i:=14) (v:= ?_) rfl (by kernel_rfl) (λ_ _ _ h=>h) (by rfl) ?_ cQ ?_
  rotate_left
  ·(intro w cK;(try dsimp only at cK);go_simp<;>with_reducible rfl)
  try simp only[Act.put,dS,dU,dP]
  refine dk.one (i:=15) rfl (by kernel_rfl) ?_;intro K ef
  go_simp
  refine ef.out _ _ (λ_=> ?_) (λdz=> ?_)
  ·exact⟨iL cQ.1,iL cQ.2.1,iL cQ.2.2.1,iL cQ.2.2.2.1,iL cQ.2.2.2.2.1,iL cQ.2.2.2.2.2⟩
  replace cQ:=dz bp;clear ef K dz
  try simp only[Act.put,dS,dU,dP]
  refine dk.take (i:=16) (v:= ?_) rfl (by kernel_rfl) (λ_ _ _ h=>h) (by rfl) ?_ cQ ?_
  rotate_left
  ·(intro w cK;(try dsimp only at cK);go_simp<;>with_reducible rfl)
  try simp only[Act.put,dS,dU,dP]
  refine dk.one (i:=17) rfl (by kernel_rfl) ?_;intro K ef
  go_simp
  refine ef.out _ _ (λ_=> ?_) (λdz=> ?_)
  ·exact⟨iL cQ.1,iL cQ.2.1,iL cQ.2.2.1,iL cQ.2.2.2.1,iL cQ.2.2.2.2.1,iL cQ.2.2.2.2.2⟩
  replace cQ:=dz bp;clear ef K dz
  try simp only[Act.put,dS,dU,dP]
  refine dk.one (i:=18) rfl (by kernel_rfl) ?_;intro K ef;refine Oh _ (by rfl) _ _ _ (by rfl) m_.heap.size 148 i0 _ 3 56 Tryz.underlying66 rS qC Ct Cu rfl ab (.slice none 0 0) 0 [] (by rfl) (World.ownsRow_nil _ _ _ _) (some ⟨m_.heap.size+1,0,none⟩) 1 1 [.string (fZ cf 0).1,.string (fZ cf 1).1,.slice (some ⟨m_.heap.size,0,none⟩) 2 2] (by rfl) (fP.two _ _ _ _ _) rfl (by simp[Value.oneCell']) ab (by unfold maxLen;omega) (O4 _ _ _).size ?_;intro U0 my aIA Cb Cj xG BS;have kB:=OK.out.pre (O4 _ _ _) xG;obtain⟨g_,ey,fq⟩:=vM kB;obtain⟨f0,f1,f2⟩:=zg kB;have U':=Lib.hid (And.intro Cb (And.intro Cj (And.intro xG BS)));have gu:∀{p v},_->_:=λ{p v} (h:_)=>xG.cell (a:=p) (v:=v) h (by simp[Value.ownBlock]);clear Cb Cj xG BS kB;refine ef.out _ _ (λ_=> ?_) (λdz=> ?_)
  ·exact⟨gu cQ.1,gu cQ.2.1,gu cQ.2.2.1,gu cQ.2.2.2.1,gu cQ.2.2.2.2.1,gu cQ.2.2.2.2.2⟩
  replace cQ:=dz bp;clear ef K dz
  try simp only[Act.put,dS,dU,dP]
  refine dk.take (i:=19) (v:= ?_) rfl (by kernel_rfl) (λ_ _ _ h=>h) (by rfl) ?_ cQ ?_
  rotate_left
  ·(intro w cK;(try dsimp only at cK);go_simp<;>with_reducible rfl)
  try simp only[Act.put,dS,dU,dP]
  refine dk.one (i:=20) rfl (by kernel_rfl) ?_;intro K ef
  go_simp
  refine ef.out _ _ (λh=>absurd rfl h) (λxq=> ?_);clear ef K cQ xq
  try simp only[Act.put,dS,dU,dP]
  refine dk.done (by kernel_rfl) ?_ _;obtain⟨Cb,Cj,xG,BS⟩:=U'.out;have Hb:mr dI d0 w0 68 148 151 w0.heap.size gh.heap.size m_.heap.size #[.string ⟨#[]⟩,.slice none 0 0,.slice none 0 0] (.string fp.1) cf eE (.slice (some ⟨jv,ky,none⟩) eW eJ) u none 0 [] Zp b6.2.1 m_:=
   ⟨uG.out.k,OK.out,uG.out.kP,uG.out.qK,ay,Nat.le_refl _,uG.out.ro,uG.out.eE⟩
  obtain⟨Vn,HY⟩:∃p:gL,p=(fZ cf 0,fZ cf 1,cx [(dh.1,b6.1.1.1,b6.1.1.2.1,aO.w .i64 1,()),(eK.1,aO.w .i64 0,S ⟨#[]⟩,aO.w .i64 0,())],()):=⟨_,rfl⟩;have aik:=Hb.add (p:=Vn) (b:=m_.heap.size) (O4 _ _ _) (Nat.le_refl _) (aIn _ _ _) (λ_=>by rw[HY];exact(gp.new m_.drew _ _).alloc _) xG (by rw[HY];exact Cj) BS Cb;have ajr:=Lib.hid aik;have aji:=Lib.hid HY;have ai9:=Lib.hid (show ua dh.1 eE cf (eW-1-1) 1 b6.2.1=some (lZ.1,lZ.2) by rw[show eW-1-1=((eW:Int)-2).toNat by omega];exact UX.out);have aIW:=Lib.hid ku;clear aik HY Hb U' Cj xG BS Cb g_ ey fq f0 f1 f2 gu OK uG Vg ku
  go_wp2_with fail
  go_loopw [14] (λi wr=>∃(dL:Nat) (A:Option Addr) (c:Nat) (b8:List (Nat×gL)) (m:M) (d:kk oq) (done rest:List gL),i=.int .i64 (dL:Int)/\1<=dL/\dL+1<=eW/\b8.length=dL/\
   Hid (mr dI d0 w0 68 148 151 w0.heap.size gh.heap.size m_.heap.size #[.string ⟨#[]⟩,.slice none 0 0,.slice none 0 0] (.string fp.1) cf eE (.slice (some ⟨jv,ky,none⟩) eW eJ) u A c b8 m d wr)/\
   Hid (b8.map (·.2)=Vn::done)/\Hid (ua dh.1 eE cf (eW-1-dL) dL d=some (rest,lZ.2))/\Hid (done++rest=lZ.1)) (λi _=>eW-(intOf i).toNat)
  case atStart=>exact⟨1,U0,my,_,Zp,b6.2.1,[],lZ.1,rfl,Nat.le_refl _,ab,rfl,Lib.hid ajr.out,Lib.hid rfl,ai9,Lib.hid rfl⟩
  case round=>
   obtain⟨dL,A,c,b8,m,d,done,rest,rfl,ame,P8,hlen,dz,Cl,Qj,p2⟩:=hrel;have Il:b8.length=dL:=hlen;by_cases bK:dL+1<eW
   ·obtain⟨n,aA⟩:∃n,eW-1-dL=n+1:=⟨eW-2-dL,ab⟩;have q4:=Qj.out;rw[aA,ua] at q4;obtain⟨wM,YF,X8⟩:=Option.bind_eq_some_iff.1 q4;obtain⟨N9,Ym,X9⟩:=Option.bind_eq_some_iff.1 X8;obtain⟨xP,xQ⟩:=Prod.mk.inj (hP X9);obtain⟨PP,vU⟩:∃p:gL,p=(fZ cf dL,fZ cf (dL+1),cx [(dh.1,wM.1.1.1,wM.1.1.2.1,aO.w .i64 ((dL+1:Nat):Int),())],()):=⟨_,rfl⟩;rw[<-vU] at xP;have OI:=Lib.hid vU;have ajk:=Lib.hid xP;have ajl:=Lib.hid xQ;have ajn:=Lib.hid Ym;have ajp:=Lib.hid YF;have ajh:=Lib.hid aA;have B5:dL<cf.1.length:=by rw[uC.out];omega
    have B6:dL+1<cf.1.length:=by rw[uC.out];omega
    have pK:=Lib.hid (And.intro B5 B6);have pM:=Lib.hid (dz.out.below (Below.refl _ _).drew);have bS:dL<eW:=ab;have Xn:(dL:Int)<(eW:Int):=ab;have alP:(dL:Int)+1<(eW:Int):=ab;have alO:(0:Int)<=(dL:Int)+1:=ab;have WN:IntKind.i64.wrap ((dL:Int)+1)=(dL:Int)+1:=IntWalk.i64_in _ ab;have akO:((dL:Int)+1).toNat=dL+1:=ab;have oR:=Lib.hid Il;clear q4 X8 X9 xP xQ Ym YF aA vU B5 B6 dz Il hlen
    go_wp2_with fail
    refine dk.start (f:=27) (S:=λW=>W.cell? ⟨gh.heap.size,1,none⟩=some (.slice (some ⟨jv,ky,none⟩) eW eJ)/\W.cell? ⟨gh.heap.size,2,none⟩=some (.slice A dL c)/\W.cell? ⟨jv,ky+dL,none⟩=some (.string (fZ cf dL).1)/\W.cell? ⟨jv,ky+(dL+1),none⟩=some (.string (fZ cf (dL+1)).1)) (by kernel_rfl) (pM.out.held oR.out pK.out.1 pK.out.2) (λcQ=> ?_);refine dk.take (i:=0) (v:= ?_) rfl (by kernel_rfl) (λ_ _ _ h=>h) (by rfl) ?_ cQ ?_
    rotate_left
    ·(intro w cK;(try dsimp only at cK);go_simp<;>with_reducible rfl)
    try simp only[Act.put,dS,dU,dP]
    refine dk.take (i:=1) (v:= ?_) rfl (by kernel_rfl) (λ_ _ _ h=>h) (by rfl) ?_ cQ ?_
    rotate_left
    ·(intro w cK;(try dsimp only at cK);go_simp<;>with_reducible rfl)
    try simp only[Act.put,dS,dU,dP]
    refine dk.take (i:=2) (v:= ?_) rfl (by kernel_rfl) (λ_ _ _ h=>h) (by rfl) ?_ cQ ?_
    rotate_left
    ·(intro w cK;(try dsimp only at cK);go_simp<;>with_reducible rfl)
    try simp only[Act.put,dS,dU,dP]
    refine dk.take (i:=3) (v:= ?_) rfl (by kernel_rfl) (λ_ _ _ h=>h) (by rfl) ?_ cQ ?_
    rotate_left
    ·(intro w cK;(try dsimp only at cK);go_simp<;>with_reducible rfl)
    try simp only[Act.put,dS,dU,dP]
    refine dk.take (i:=4) (v:= ?_) rfl (by kernel_rfl) (λ_ _ _ h=>h) (by rfl) ?_ cQ ?_
    rotate_left
    ·(intro w cK;(try dsimp only at cK);go_simp<;>with_reducible rfl)
    try simp only[Act.put,dS,dU,dP]
    refine dk.take (i:=5) (v:= ?_) rfl (by kernel_rfl) (λ_ _ _ h=>h) (by rfl) ?_ cQ ?_
    rotate_left
    ·(intro w cK;(try dsimp only at cK);go_simp<;>with_reducible rfl)
    try simp only[Act.put,dS,dU,dP]
    refine dk.take (i:=6) (v:= ?_) rfl (by kernel_rfl) (λ_ _ _ h=>h) (by rfl) ?_ cQ ?_
    rotate_left
    ·(intro w cK;(try dsimp only at cK);go_simp<;>with_reducible rfl)
    try simp only[Act.put,dS,dU,dP]
    refine dk.take (i:=7) (v:= ?_) rfl (by kernel_rfl) (λ_ _ _ h=>h) (by rfl) ?_ cQ ?_
    rotate_left
    ·(intro w cK;(try dsimp only at cK);go_simp<;>with_reducible rfl)
    try simp only[Act.put,dS,dU,dP]
    refine dk.take (i:=8) (v:= ?_) rfl (by kernel_rfl) (λ_ _ _ h=>h) (by rfl) ?_ cQ ?_
    rotate_left
    ·(intro w cK;(try dsimp only at cK);go_simp<;>with_reducible rfl)
    try simp only[Act.put,dS,dU,dP]
    refine dk.take (i:=9) (v:= ?_) rfl (by kernel_rfl) (λ_ _ _ h=>h) (by rfl) ?_ cQ ?_
    rotate_left
    ·(intro w cK;(try dsimp only at cK);go_simp<;>with_reducible rfl)
    try simp only[Act.put,dS,dU,dP]
    refine dk.take (i:=10) (v:= ?_) rfl (by kernel_rfl) (λ_ _ _ h=>h) (by rfl) ?_ cQ ?_
    rotate_left
    ·(intro w cK;(try dsimp only at cK);go_simp<;>with_reducible rfl)
    try simp only[Act.put,dS,dU,dP]
    refine dk.take (i:=11) (v:= ?_) rfl (by kernel_rfl) (λ_ _ _ h=>h) (by rfl) ?_ cQ ?_
    rotate_left
    ·(intro w cK;(try dsimp only at cK);go_simp<;>with_reducible rfl)
    try simp only[Act.put,dS,dU,dP]
    refine dk.take (i:=12) (v:= ?_) rfl (by kernel_rfl) (λ_ _ _ h=>h) (by rfl) ?_ cQ ?_
    rotate_left
    ·(intro w cK;(try dsimp only at cK);go_simp<;>with_reducible rfl)
    try simp only[Act.put,dS,dU,dP]
    refine dk.take (i:=13) (v:= ?_) rfl (by kernel_rfl) (λ_ _ _ h=>h) (by rfl) ?_ cQ ?_
    rotate_left
    ·(intro w cK;(try dsimp only at cK);go_simp<;>with_reducible rfl)
    try simp only[Act.put,dS,dU,dP]
    refine dk.take (i:=14) (v:= ?_) rfl (by kernel_rfl) (λ_ _ _ h=>h) (by rfl) ?_ cQ ?_
    rotate_left
    ·(intro w cK;(try dsimp only at cK);go_simp<;>with_reducible rfl)
    try simp only[Act.put,dS,dU,dP]
    refine dk.take (i:=15) (v:= ?_) rfl (by kernel_rfl) (λ_ _ _ h=>h) (by rfl) ?_ cQ ?_
    rotate_left
    ·(intro w cK;(try dsimp only at cK);go_simp<;>with_reducible rfl)
    try simp only[Act.put,dS,dU,dP]
    refine dk.take (i:=17) (v:= ?_) rfl (by kernel_rfl) (λ_ _ _ h=>h) (by rfl) ?_ cQ ?_
    rotate_left
    ·(intro w cK;(try dsimp only at cK);go_simp<;>with_reducible rfl)
    try simp only[Act.put,dS,dU,dP]
    refine dk.take (i:=18) (v:= ?_) rfl (by kernel_rfl) (λ_ _ _ h=>h) (by rfl) ?_ cQ ?_
    rotate_left
    ·(intro w cK;(try dsimp only at cK);go_simp<;>with_reducible rfl)
    try simp only[Act.put,dS,dU,dP]
    refine dk.take (i:=19) (v:= ?_) rfl (by kernel_rfl) (λ_ _ _ h=>h) (by rfl) ?_ cQ ?_
    rotate_left
    ·(intro w cK;(try dsimp only at cK);go_simp<;>with_reducible rfl)
    try simp only[Act.put,dS,dU,dP]
    refine dk.take (i:=20) (v:= ?_) rfl (by kernel_rfl) (λ_ _ _ h=>h) (by rfl) ?_ cQ ?_
    rotate_left
    ·(intro w cK;(try dsimp only at cK);go_simp<;>with_reducible rfl)
    try simp only[Act.put,dS,dU,dP]
    refine dk.one (i:=16) rfl (by kernel_rfl) ?_;intro K ef
    go_simp
    go_at_call 238
    refine(aj4 pM.out.k Vd.out eE pM.out.eE ajp.out).mono ?_;rintro e pE ⟨QY,rfl,sX,Cz⟩;have qR:=Lib.hid (pM.out.call sX Cz);clear sX Cz
    go_simp
    refine ef.out _ _ (λ_=> ?_) (λdz=> ?_)
    ·exact qR.out.held oR.out pK.out.1 pK.out.2
    replace cQ:=dz bp;clear ef K dz
    try simp only[Act.put,dS,dU,dP]
    refine dk.take (i:=21) (v:= ?_) rfl (by kernel_rfl) (λ_ _ _ h=>h) (by rfl) ?_ cQ ?_
    rotate_left
    ·(intro w cK;(try dsimp only at cK);go_simp<;>with_reducible rfl)
    try simp only[Act.put,dS,dU,dP]
    refine dk.one (i:=22) rfl (by kernel_rfl) ?_;intro K ef
    go_simp
    refine ef.out _ _ (λ_=> ?_) (λdz=> ?_)
    ·exact⟨iL cQ.1,iL cQ.2.1,iL cQ.2.2.1,iL cQ.2.2.2⟩
    replace cQ:=dz bp;clear ef K dz
    try simp only[Act.put,dS,dU,dP]
    refine dk.take (i:=23) (v:= ?_) rfl (by kernel_rfl) (λ_ _ _ h=>h) (by rfl) ?_ cQ ?_
    rotate_left
    ·(intro w cK;(try dsimp only at cK);go_simp<;>with_reducible rfl)
    try simp only[Act.put,dS,dU,dP]
    refine dk.one (i:=24) rfl (by kernel_rfl) ?_;intro K ef
    go_simp
    refine ef.out _ _ (λ_=> ?_) (λdz=> ?_)
    ·exact⟨iL cQ.1,iL cQ.2.1,iL cQ.2.2.1,iL cQ.2.2.2⟩
    replace cQ:=dz bp;clear ef K dz
    try simp only[Act.put,dS,dU,dP]
    refine dk.one (i:=25) rfl (by kernel_rfl) ?_;intro K ef;have sV:=λa p=>Kh qR.out.iR.row (rD pE a p);rw[oR.out] at sV;refine Oh _ (by rfl) _ _ _ (by rfl) m_.heap.size 148 i0 _ 3 56 Tryz.underlying66 rS qC Ct Cu rfl ab (.slice A dL c) dL (b8.flatMap lj) (by rfl) (sV _ _) (some ⟨pE.heap.size+1,0,none⟩) 1 1 [.string (fZ cf dL).1,.string (fZ cf (dL+1)).1,.slice (some ⟨pE.heap.size,0,none⟩) 1 1] (by rfl) (fP.two _ _ _ _ _) rfl (by simp[Value.oneCell']) ab (by unfold maxLen;omega) (ij qR.out.iR.p4 (rD _ _ _).size) ?_;intro tl na UK oz oB lD ot;have n3:=qR.out.iR.pre (rD _ _ _) (by rw[oR.out];exact lD);rw[oR.out] at n3;obtain⟨g_,ey,fq⟩:=vM n3;obtain⟨f0,f1,f2⟩:=zg n3;have eD:=qR.out.ne (λe=>by have:=pK.out.1;rw[e] at this;simp at this);rw[<-vi A dL c] at eD;have gu:=λ(o:Nat) v (h:_=some v)=>lD.cell (a:=⟨jv,o,none⟩) h eD;have AY:=Lib.hid (And.intro oz (And.intro oB (And.intro lD ot)));clear oz oB lD ot n3 sV eD;refine ef.out _ _ (λ_=> ?_) (λdz=> ?_)
    ·exact⟨ey,fq,gu _ _ cQ.2.2.1,gu _ _ cQ.2.2.2⟩
    replace cQ:=dz bp;clear ef K dz
    try simp only[Act.put,dS,dU,dP]
    refine dk.take (i:=26) (v:= ?_) rfl (by kernel_rfl) (λ_ _ _ h=>h) (by rfl) ?_ cQ ?_
    rotate_left
    ·(intro w cK;(try dsimp only at cK);go_simp<;>with_reducible rfl)
    try simp only[Act.put,dS,dU,dP]
    refine dk.one (i:=27) rfl (by kernel_rfl) ?_;intro K ef;clear gu
    go_simp
    refine ef.out _ _ (λh=>absurd rfl h) (λxq=> ?_);clear ef K cQ xq
    try simp only[Act.put,dS,dU,dP]
    refine dk.done (by kernel_rfl) ?_ _
    go_wp2_with fail
    go_roundw
    case rel=>
     obtain⟨oz,oB,lD,ot⟩:=AY.out;have a3:=oR.out;subst a3;have PY:l_ PP=[.string dh.1.1,.int .i64 wM.1.1.1.1,.string wM.1.1.2.1.1,.int .i64 ((b8.length:Int)+1)]:=by
      rw[OI.out];show[Value.string dh.1.1,.int .i64 wM.1.1.1.1,.string wM.1.1.2.1.1,.int .i64 (aO.w .i64 ((b8.length+1:Nat):Int)).1]=_;rw[QF ab];rfl
     have wE:=qR.out.add (p:=PP) (b:=pE.heap.size) (rD _ _ _) (Nat.le_refl _) (CD _ _ _) (λ_=>by rw[PY];exact(gp.new pE _ _).alloc _) lD (by rw[RZ (by rw[OI.out];rfl),OI.out];exact oB) ot oz;have aA:=ajh.out;exact⟨b8.length+1,tl,na,_,QY,wM.2.1,done++[PP],N9.1,rfl,ab,ab,by simp,Lib.hid wE,Lib.hid (by rw[List.map_append,Cl.out];rfl),Lib.hid (by rw[show eW-1-(b8.length+1)=n by omega,ajn.out,<-ajl.out]),Lib.hid (by rw[<-p2.out,<-ajk.out];simp)⟩
    case measure=>simp[intOf];omega
   ·have X_:eW=dL+1:=ab;have bl:=Qj.out;rw[show eW-1-dL=0 by omega,ua] at bl;obtain⟨Yk,xB⟩:=Prod.mk.inj (hP bl);have Yh:b8.map (·.2)=qa dh.1 eK.1 cf b6.1.1 0::lZ.1:=by
     rw[Cl.out,<-p2.out,<-Yk,e6,aji.out];rfl
    have OS:=dz.out;rw[xB] at OS;have yZ:=Lib.hid OS;have G8:=Lib.hid Yh;have Xn:(dL:Int)<(eW:Int):=ab;have aJe:dL<eW:=ab;have aI9:IntKind.i64.wrap ((eW:Int)-1)=(dL:Int):=by rw[IntWalk.i64_in _ ab];omega
    have oR:=Lib.hid Il;have Vc:=Lib.hid X_;have nQ:¬((dL:Int)+1<(eW:Int)):=ab;have WN:IntKind.i64.wrap ((dL:Int)+1)=(dL:Int)+1:=IntWalk.i64_in _ ab;clear bl Yk xB OS Yh dz Cl Qj p2 Il hlen bK X_
    go_upto_if 93 with fail
    go_cut [15] from 94 to 125 (λUl UQ=>∃(A:Option Addr) (c:Nat) (cH:Nat) (a0:pG) (T:List (Nat×gL)) (m:M),T.length<=8/\
     Hid (mr dI d0 w0 68 148 151 w0.heap.size gh.heap.size m_.heap.size #[.string ⟨#[]⟩,.slice none 0 0,.slice none 0 0] (.string fp.1) cf eE (.slice (some ⟨jv,ky,none⟩) eW eJ) u A c ((cH,qt eK.1 cf a0 0)::T) m y.2.1 UQ)/\
     Hid (y.1.1=(fp,cf,cx ((qt eK.1 cf a0 ((T.length+1:Nat):Int)::T.map (·.2))++s3 eK.1 cf (eW-2) 1 (T.length+1)++[tj]),())))
    case first=>
     have tN:((eW:Int)-2).toNat=eW-2:=ab;rcases ai_.out with⟨ax,cG,VF,bT⟩|⟨ax,bT⟩
     ·obtain rfl:av=true:=by rw[<-Va.out,ax];rfl
      rw[tN] at bT;clear ax;have A0:=Lib.hid bT;have ajb:=Lib.hid (λm w (k:K dI d0 w0 m lZ.2 w)=>Wl k Vd.out VF);have pM:=Lib.hid (yZ.out.below (Below.refl _ _).drew);have zE:dL<cf.1.length:=by rw[uC.out];omega
      have XU:0<cf.1.length:=by rw[uC.out];omega
      have pK:=Lib.hid (And.intro zE XU);clear bT VF tN zE XU
      go_wp2_with fail
      refine dk.start (f:=20) (S:=λW=>W.cell? ⟨gh.heap.size,1,none⟩=some (.slice (some ⟨jv,ky,none⟩) eW eJ)/\W.cell? ⟨gh.heap.size,2,none⟩=some (.slice A dL c)/\W.cell? ⟨jv,ky+dL,none⟩=some (.string (fZ cf dL).1)/\W.cell? ⟨jv,ky,none⟩=some (.string (fZ cf 0).1)) (by kernel_rfl) (pM.out.held oR.out pK.out.1 pK.out.2) (λcQ=> ?_);refine dk.take (i:=0) (v:= ?_) rfl (by kernel_rfl) (λ_ _ _ h=>h) (by rfl) ?_ cQ ?_
      rotate_left
      ·(intro w cK;(try dsimp only at cK);go_simp<;>with_reducible rfl)
      try simp only[Act.put,dS,dU,dP]
      refine dk.take (i:=1) (v:= ?_) rfl (by kernel_rfl) (λ_ _ _ h=>h) (by rfl) ?_ cQ ?_
      rotate_left
      ·(intro w cK;(try dsimp only at cK);go_simp<;>with_reducible rfl)
      try simp only[Act.put,dS,dU,dP]
      refine dk.take (i:=2) (v:= ?_) rfl (by kernel_rfl) (λ_ _ _ h=>h) (by rfl) ?_ cQ ?_
      rotate_left
      ·(intro w cK;(try dsimp only at cK);go_simp<;>with_reducible rfl)
      try simp only[Act.put,dS,dU,dP]
      refine dk.take (i:=3) (v:= ?_) rfl (by kernel_rfl) (λ_ _ _ h=>h) (by rfl) ?_ cQ ?_
      rotate_left
      ·(intro w cK;(try dsimp only at cK);go_simp<;>with_reducible rfl)
      try simp only[Act.put,dS,dU,dP]
      refine dk.take (i:=4) (v:= ?_) rfl (by kernel_rfl) (λ_ _ _ h=>h) (by rfl) ?_ cQ ?_
      rotate_left
      ·(intro w cK;(try dsimp only at cK);go_simp<;>with_reducible rfl)
      try simp only[Act.put,dS,dU,dP]
      refine dk.take (i:=5) (v:= ?_) rfl (by kernel_rfl) (λ_ _ _ h=>h) (by rfl) ?_ cQ ?_
      rotate_left
      ·(intro w cK;(try dsimp only at cK);go_simp<;>with_reducible rfl)
      try simp only[Act.put,dS,dU,dP]
      refine dk.take (i:=6) (v:= ?_) rfl (by kernel_rfl) (λ_ _ _ h=>h) (by rfl) ?_ cQ ?_
      rotate_left
      ·(intro w cK;(try dsimp only at cK);go_simp<;>with_reducible rfl)
      try simp only[Act.put,dS,dU,dP]
      refine dk.take (i:=7) (v:= ?_) rfl (by kernel_rfl) (λ_ _ _ h=>h) (by rfl) ?_ cQ ?_
      rotate_left
      ·(intro w cK;(try dsimp only at cK);go_simp<;>with_reducible rfl)
      try simp only[Act.put,dS,dU,dP]
      refine dk.take (i:=8) (v:= ?_) rfl (by kernel_rfl) (λ_ _ _ h=>h) (by rfl) ?_ cQ ?_
      rotate_left
      ·(intro w cK;(try dsimp only at cK);go_simp<;>with_reducible rfl)
      try simp only[Act.put,dS,dU,dP]
      refine dk.take (i:=9) (v:= ?_) rfl (by kernel_rfl) (λ_ _ _ h=>h) (by rfl) ?_ cQ ?_
      rotate_left
      ·(intro w cK;(try dsimp only at cK);go_simp<;>with_reducible rfl)
      try simp only[Act.put,dS,dU,dP]
      refine dk.take (i:=10) (v:= ?_) rfl (by kernel_rfl) (λ_ _ _ h=>h) (by rfl) ?_ cQ ?_
      rotate_left
      ·(intro w cK;(try dsimp only at cK);go_simp<;>with_reducible rfl)
      try simp only[Act.put,dS,dU,dP]
      refine dk.take (i:=11) (v:= ?_) rfl (by kernel_rfl) (λ_ _ _ h=>h) (by rfl) ?_ cQ ?_
      rotate_left
      ·(intro w cK;(try dsimp only at cK);go_simp<;>with_reducible rfl)
      try simp only[Act.put,dS,dU,dP]
      refine dk.take (i:=12) (v:= ?_) rfl (by kernel_rfl) (λ_ _ _ h=>h) (by rfl) ?_ cQ ?_
      rotate_left
      ·(intro w cK;(try dsimp only at cK);go_simp<;>with_reducible rfl)
      try simp only[Act.put,dS,dU,dP]
      refine dk.one (i:=13) rfl (by kernel_rfl) ?_;intro K ef
      go_simp
      go_at_call 237
      refine(ajb.out _ _ pM.out.k).mono ?_;rintro e pE ⟨QY,rfl,sX,Cz⟩;have qR:=Lib.hid (pM.out.call sX Cz);clear sX Cz
      go_simp
      refine ef.out _ _ (λ_=> ?_) (λdz=> ?_)
      ·exact qR.out.held oR.out pK.out.1 pK.out.2
      replace cQ:=dz bp;clear ef K dz
      try simp only[Act.put,dS,dU,dP]
      refine dk.take (i:=14) (v:= ?_) rfl (by kernel_rfl) (λ_ _ _ h=>h) (by rfl) ?_ cQ ?_
      rotate_left
      ·(intro w cK;(try dsimp only at cK);go_simp<;>with_reducible rfl)
      try simp only[Act.put,dS,dU,dP]
      refine dk.one (i:=15) rfl (by kernel_rfl) ?_;intro K ef
      go_simp
      refine ef.out _ _ (λ_=> ?_) (λdz=> ?_)
      ·exact⟨iL cQ.1,iL cQ.2.1,iL cQ.2.2.1,iL cQ.2.2.2⟩
      replace cQ:=dz bp;clear ef K dz
      try simp only[Act.put,dS,dU,dP]
      refine dk.take (i:=16) (v:= ?_) rfl (by kernel_rfl) (λ_ _ _ h=>h) (by rfl) ?_ cQ ?_
      rotate_left
      ·(intro w cK;(try dsimp only at cK);go_simp<;>with_reducible rfl)
      try simp only[Act.put,dS,dU,dP]
      refine dk.one (i:=17) rfl (by kernel_rfl) ?_;intro K ef
      go_simp
      refine ef.out _ _ (λ_=> ?_) (λdz=> ?_)
      ·exact⟨iL cQ.1,iL cQ.2.1,iL cQ.2.2.1,iL cQ.2.2.2⟩
      replace cQ:=dz bp;clear ef K dz
      try simp only[Act.put,dS,dU,dP]
      refine dk.one (i:=18) rfl (by kernel_rfl) ?_;intro K ef;have sV:=λa p=>Kh qR.out.iR.row (rD pE a p);rw[oR.out] at sV;refine Oh _ (by rfl) _ _ _ (by rfl) m_.heap.size 148 i0 _ 3 56 Tryz.underlying66 rS qC Ct Cu rfl ab (.slice A dL c) dL (b8.flatMap lj) (by rfl) (sV _ _) (some ⟨pE.heap.size+1,0,none⟩) 1 1 [.string (fZ cf dL).1,.string (fZ cf 0).1,.slice (some ⟨pE.heap.size,0,none⟩) 1 1] (by rfl) (fP.two _ _ _ _ _) rfl (by simp[Value.oneCell']) ab (by unfold maxLen;omega) (ij qR.out.iR.p4 (rD _ _ _).size) ?_;intro tl na UK oz oB lD ot;have n3:=qR.out.iR.pre (rD _ _ _) (by rw[oR.out];exact lD);rw[oR.out] at n3;obtain⟨g_,ey,fq⟩:=vM n3;obtain⟨f0,f1,f2⟩:=zg n3;have eD:=qR.out.ne (λe=>by have:=pK.out.1;rw[e] at this;simp at this);rw[<-vi A dL c] at eD;have gu:=λ(o:Nat) v (h:_=some v)=>lD.cell (a:=⟨jv,o,none⟩) h eD;have AY:=Lib.hid (And.intro oz (And.intro oB (And.intro lD ot)));clear oz oB lD ot n3 sV eD;refine ef.out _ _ (λ_=> ?_) (λdz=> ?_)
      ·exact⟨ey,fq,gu _ _ cQ.2.2.1,gu _ _ cQ.2.2.2⟩
      replace cQ:=dz bp;clear ef K dz
      try simp only[Act.put,dS,dU,dP]
      refine dk.take (i:=19) (v:= ?_) rfl (by kernel_rfl) (λ_ _ _ h=>h) (by rfl) ?_ cQ ?_
      rotate_left
      ·(intro w cK;(try dsimp only at cK);go_simp<;>with_reducible rfl)
      try simp only[Act.put,dS,dU,dP]
      refine dk.one (i:=20) rfl (by kernel_rfl) ?_;intro K ef;clear gu
      go_simp
      refine ef.out _ _ (λh=>absurd rfl h) (λxq=> ?_);clear ef K cQ xq
      try simp only[Act.put,dS,dU,dP]
      refine dk.done (by kernel_rfl) ?_ _
      go_wp2_with fail
      go_meet
      obtain⟨oz,oB,lD,ot⟩:=AY.out;have a3:=oR.out;subst a3;have hm:=Vc.out;have wE:=qR.out.add (p:=(fZ cf (eW-2+1),fZ cf 0,cx [(S ⟨#[111,107]⟩,cG.1.1.1,cG.1.1.2.1,aO.w .i64 0,())],())) (b:=pE.heap.size) (rD _ _ _) (Nat.le_refl _) (CD _ _ _) (λ_=>(gp.new pE _ _).alloc _) lD (by rw[RZ rfl,show eW-2+1=b8.length by omega];exact oB) ot oz;obtain⟨cH,a0,T,bS,ai⟩:=aHO dh.1 eK.1 cf b6.1.1 (b:=pE.heap.size) (mT:=cG.1.1) G8.out (eW-2);have cn:y.2.1=cG.2.1:=by rw[A0.out]
      have bK:=congrArg List.length bS;rw[bY,gO,gO,dw] at bK;rw[bS,<-cn] at wE;exact⟨tl,na,cH,a0,T,QY,ab,Lib.hid wE,Lib.hid (by rw[A0.out,ai])⟩
     ·obtain rfl:av=false:=by rw[<-Va.out];simpa using ax
      have hm:=Vc.out;rw[tN] at bT;clear ax;have A0:=Lib.hid bT;have eD:b8≠[]:=λe=>by have:=oR.out;rw[e] at this;simp at this;omega
      obtain⟨dC,⟨iw,pl⟩,v_⟩:∃dC e,b8=dC++[e]:=⟨b8.dropLast,b8.getLast eD,(List.dropLast_concat_getLast eD).symm⟩;clear eD;subst v_;obtain⟨a,t,jW⟩:∃a t,pl.2.2.1.1=a::t:=by
       have Qi:pl∈qa dh.1 eK.1 cf b6.1.1 0::lZ.1:=by rw[<-G8.out];simp
       rcases List.mem_cons.1 Qi with e|e
       ·rw[e];exact⟨_,_,rfl⟩
       ·obtain⟨a,h⟩:=ah8 UX.out pl e;exact⟨a,[],h⟩
      have hlen:dC.length+1=dL:=by have:=oR.out;simpa using this
      obtain⟨BK,dx,B4⟩:=yZ.out.iR.Xy (i:=dC.length) (e:=(iw,pl)) (by simp);subst dx;have XS:p2 iw pl=.slice (some ⟨iw,0,none⟩) (t.length+1) (t.length+1):=by
       unfold p2;rw[if_neg (by rw[jW];simp),jW];rfl
      have fB:wr.cell? ⟨BK,dC.length*3+2,none⟩=some (.slice (some ⟨iw,0,none⟩) (t.length+1) (t.length+1)):=by rw[<-XS];exact B4
      have ai:=(yZ.out.iR.el (iw,pl) (by simp)).2.2.2.2 (by rw[jW];simp);have bJ:wr.cell? ⟨iw,3,none⟩=some (.int .i64 a.2.2.2.1.1):=(ai.cell 3).trans (ajI jW);have aJl:wr.frozen? ⟨iw,3,none⟩=false:=ai.frozen 3;have nA:wr.cell? ⟨gh.heap.size,2,none⟩=some (.slice (some ⟨BK,0,none⟩) dL c):=by
       have:=yZ.out.iR.nv.cell 2;rw[show(dC++[(iw,pl)]).length=dL from oR.out] at this;exact this
      have aI_:IntKind.i64.wrap ((dL:Int)-1)=(dC.length:Int):=by rw[IntWalk.i64_in _ ab];omega
      have aC:(dC.length:Int)<(dL:Int):=ab;have aT:dC.length<dL:=ab;have G7:=Lib.hid jW;have aje:=Lib.hid hlen;have ajg:=Lib.hid hm;clear B4 XS ai jW hlen bT tN hm;have k_:0<t.length+1:=Nat.succ_pos _
      go_wp2_with fail
      go_meet
      have s:=yZ.out.Oa (dC:=dC) (eo:=[]) (p':=pF pl) (j:=3) (v:=.int .i64 0) (by rw[G7.out];simp) (aIM G7.out) rfl rfl (by rw[ai4 G7.out,G7.out];rfl);obtain⟨cH,a0,T,bS,ai⟩:=aHM dh.1 eK.1 cf b6.1.1 G8.out (eW-2);have cn:y.2.1=lZ.2:=by rw[A0.out]
      have bK:=congrArg List.length bS;have Ce:=aje.out;have hm:=ajg.out;rw[bY,gO,gO,dw] at bK;rw[bS,<-cn] at s;exact⟨_,c,cH,a0,T,m,ab,Lib.hid s,Lib.hid (by rw[A0.out,ai])⟩
    case rest=>
     obtain⟨A,c,cH,a0,T,m,alN,BO,Xo⟩:=hcut;obtain⟨wi,Ib⟩:∃k,k=T.length+1:=⟨_,rfl⟩;rw[<-Ib] at Xo;obtain⟨BK,dx,B4⟩:=BO.out.iR.Xy (i:=0) (e:=(cH,qt eK.1 cf a0 0)) rfl;subst dx;have fB:wc.cell? ⟨BK,2,none⟩=some (.slice (some ⟨cH,0,none⟩) 2 2):=B4;have ai:=(BO.out.iR.el (cH,qt eK.1 cf a0 0) mw).2.2.2.2 (by intro e;cases e);have gF:wc.cell? ⟨cH,7,none⟩=some (.int .i64 0):=(ai.cell 7).trans ali;have aJm:wc.frozen? ⟨cH,7,none⟩=false:=ai.frozen 7;have nA:wc.cell? ⟨gh.heap.size,2,none⟩=some (.slice (some ⟨BK,0,none⟩) wi c):=by
      have:=BO.out.iR.nv.cell 2;rw[show((cH,qt eK.1 cf a0 0)::T).length=wi by rw[gO,Ib]] at this;exact this
     have Ul:=mr.Oa (dC:=[]) (eo:=T) (p':=qt eK.1 cf a0 (wi:Int)) (j:=7) (v:=.int .i64 (wi:Int)) BO.out (by intro e;cases e) (alj ab) rfl rfl rfl;have ajs:=Lib.hid Ul;have Vb:=Lib.hid Ib;have XZ:0<wi:=ab;have aJr:wi<=9:=ab;clear Ul ai BO Ib alN yZ G8 B4
     go_wp2_with fail
     go_loopw [17] (λi wr=>∃(dL:Nat) (A:Option Addr) (c:Nat) (b8:List (Nat×gL)) (m:M),i=.int .i64 (dL:Int)/\1<=dL/\dL+1<=eW/\b8.length+(eW-dL)<=20/\
      Hid (mr dI d0 w0 68 148 151 w0.heap.size gh.heap.size m_.heap.size #[.string ⟨#[]⟩,.slice none 0 0,.slice none 0 0] (.string fp.1) cf eE (.slice (some ⟨jv,ky,none⟩) eW eJ) u A c b8 m y.2.1 wr)/\
      Hid (b8.map (·.2)++s3 eK.1 cf (eW-1-dL) dL b8.length=(qt eK.1 cf a0 (wi:Int)::T.map (·.2))++s3 eK.1 cf (eW-2) 1 wi)) (λi _=>eW-(intOf i).toNat)
     case atStart=>exact⟨1,_,c,_,m,rfl,Nat.le_refl _,ab,by have:=Vb.out;rw[bY,gO,dw];omega,ajs,Lib.hid (by rw[List.nil_append,List.map_cons,gO,Vb.out,show eW-1-1=eW-2 by omega])⟩
     case round=>
      obtain⟨dL,A,c,b8,m,rfl,ame,P8,hlen,dz,fc⟩:=hrel;obtain⟨s7,xL⟩:∃k,b8.length=k:=⟨_,rfl⟩;have AZ:=Lib.hid xL;have aJ7:s7<=20:=ab;have aJ8:s7+(eW-dL)<=20:=ab;have WN:IntKind.i64.wrap ((dL:Int)+1)=(dL:Int)+1:=IntWalk.i64_in _ ab;by_cases bK:dL+1<eW
      ·have B5:dL<cf.1.length:=by rw[uC.out];omega
       have B6:dL+1<cf.1.length:=by rw[uC.out];omega
       have pK:=Lib.hid (And.intro B5 B6);have pM:=Lib.hid (dz.out.below (Below.refl _ _).drew);have bS:dL<eW:=ab;have Xn:(dL:Int)<(eW:Int):=ab;have alP:(dL:Int)+1<(eW:Int):=ab;have alO:(0:Int)<=(dL:Int)+1:=ab;have akO:((dL:Int)+1).toNat=dL+1:=ab;have aI':IntKind.i64.wrap ((s7:Int)+1)=(s7:Int)+1:=IntWalk.i64_in _ ab;clear B5 B6 dz xL hlen nQ
       go_wp2_with fail
       refine dk.start (f:=24) (S:=λW=>W.cell? ⟨gh.heap.size,1,none⟩=some (.slice (some ⟨jv,ky,none⟩) eW eJ)/\W.cell? ⟨gh.heap.size,2,none⟩=some (.slice A s7 c)/\W.cell? ⟨jv,ky+dL,none⟩=some (.string (fZ cf dL).1)/\W.cell? ⟨jv,ky+(dL+1),none⟩=some (.string (fZ cf (dL+1)).1)) (by kernel_rfl) (pM.out.held AZ.out pK.out.1 pK.out.2) (λcQ=> ?_);refine dk.take (i:=0) (v:= ?_) rfl (by kernel_rfl) (λ_ _ _ h=>h) (by rfl) ?_ cQ ?_
       rotate_left
       ·(intro w cK;(try dsimp only at cK);go_simp<;>with_reducible rfl)
       try simp only[Act.put,dS,dU,dP]
       refine dk.take (i:=1) (v:= ?_) rfl (by kernel_rfl) (λ_ _ _ h=>h) (by rfl) ?_ cQ ?_
       rotate_left
       ·(intro w cK;(try dsimp only at cK);go_simp<;>with_reducible rfl)
       try simp only[Act.put,dS,dU,dP]
       refine dk.take (i:=2) (v:= ?_) rfl (by kernel_rfl) (λ_ _ _ h=>h) (by rfl) ?_ cQ ?_
       rotate_left
       ·(intro w cK;(try dsimp only at cK);go_simp<;>with_reducible rfl)
       try simp only[Act.put,dS,dU,dP]
       refine dk.take (i:=3) (v:= ?_) rfl (by kernel_rfl) (λ_ _ _ h=>h) (by rfl) ?_ cQ ?_
       rotate_left
       ·(intro w cK;(try dsimp only at cK);go_simp<;>with_reducible rfl)
       try simp only[Act.put,dS,dU,dP]
       refine dk.take (i:=4) (v:= ?_) rfl (by kernel_rfl) (λ_ _ _ h=>h) (by rfl) ?_ cQ ?_
       rotate_left
       ·(intro w cK;(try dsimp only at cK);go_simp<;>with_reducible rfl)
       try simp only[Act.put,dS,dU,dP]
       refine dk.take (i:=5) (v:= ?_) rfl (by kernel_rfl) (λ_ _ _ h=>h) (by rfl) ?_ cQ ?_
       rotate_left
       ·(intro w cK;(try dsimp only at cK);go_simp<;>with_reducible rfl)
       try simp only[Act.put,dS,dU,dP]
       refine dk.take (i:=6) (v:= ?_) rfl (by kernel_rfl) (λ_ _ _ h=>h) (by rfl) ?_ cQ ?_
       rotate_left
       ·(intro w cK;(try dsimp only at cK);go_simp<;>with_reducible rfl)
       try simp only[Act.put,dS,dU,dP]
       refine dk.take (i:=7) (v:= ?_) rfl (by kernel_rfl) (λ_ _ _ h=>h) (by rfl) ?_ cQ ?_
       rotate_left
       ·(intro w cK;(try dsimp only at cK);go_simp<;>with_reducible rfl)
       try simp only[Act.put,dS,dU,dP]
       refine dk.take (i:=8) (v:= ?_) rfl (by kernel_rfl) (λ_ _ _ h=>h) (by rfl) ?_ cQ ?_
       rotate_left
       ·(intro w cK;(try dsimp only at cK);go_simp<;>with_reducible rfl)
       try simp only[Act.put,dS,dU,dP]
       refine dk.take (i:=9) (v:= ?_) rfl (by kernel_rfl) (λ_ _ _ h=>h) (by rfl) ?_ cQ ?_
       rotate_left
       ·(intro w cK;(try dsimp only at cK);go_simp<;>with_reducible rfl)
       try simp only[Act.put,dS,dU,dP]
       refine dk.take (i:=10) (v:= ?_) rfl (by kernel_rfl) (λ_ _ _ h=>h) (by rfl) ?_ cQ ?_
       rotate_left
       ·(intro w cK;(try dsimp only at cK);go_simp<;>with_reducible rfl)
       try simp only[Act.put,dS,dU,dP]
       refine dk.take (i:=11) (v:= ?_) rfl (by kernel_rfl) (λ_ _ _ h=>h) (by rfl) ?_ cQ ?_
       rotate_left
       ·(intro w cK;(try dsimp only at cK);go_simp<;>with_reducible rfl)
       try simp only[Act.put,dS,dU,dP]
       refine dk.take (i:=12) (v:= ?_) rfl (by kernel_rfl) (λ_ _ _ h=>h) (by rfl) ?_ cQ ?_
       rotate_left
       ·(intro w cK;(try dsimp only at cK);go_simp<;>with_reducible rfl)
       try simp only[Act.put,dS,dU,dP]
       refine dk.take (i:=13) (v:= ?_) rfl (by kernel_rfl) (λ_ _ _ h=>h) (by rfl) ?_ cQ ?_
       rotate_left
       ·(intro w cK;(try dsimp only at cK);go_simp<;>with_reducible rfl)
       try simp only[Act.put,dS,dU,dP]
       refine dk.take (i:=14) (v:= ?_) rfl (by kernel_rfl) (λ_ _ _ h=>h) (by rfl) ?_ cQ ?_
       rotate_left
       ·(intro w cK;(try dsimp only at cK);go_simp<;>with_reducible rfl)
       try simp only[Act.put,dS,dU,dP]
       refine dk.take (i:=15) (v:= ?_) rfl (by kernel_rfl) (λ_ _ _ h=>h) (by rfl) ?_ cQ ?_
       rotate_left
       ·(intro w cK;(try dsimp only at cK);go_simp<;>with_reducible rfl)
       try simp only[Act.put,dS,dU,dP]
       refine dk.take (i:=16) (v:= ?_) rfl (by kernel_rfl) (λ_ _ _ h=>h) (by rfl) ?_ cQ ?_
       rotate_left
       ·(intro w cK;(try dsimp only at cK);go_simp<;>with_reducible rfl)
       try simp only[Act.put,dS,dU,dP]
       refine dk.take (i:=17) (v:= ?_) rfl (by kernel_rfl) (λ_ _ _ h=>h) (by rfl) ?_ cQ ?_
       rotate_left
       ·(intro w cK;(try dsimp only at cK);go_simp<;>with_reducible rfl)
       try simp only[Act.put,dS,dU,dP]
       refine dk.take (i:=18) (v:= ?_) rfl (by kernel_rfl) (λ_ _ _ h=>h) (by rfl) ?_ cQ ?_
       rotate_left
       ·(intro w cK;(try dsimp only at cK);go_simp<;>with_reducible rfl)
       try simp only[Act.put,dS,dU,dP]
       refine dk.one (i:=19) rfl (by kernel_rfl) ?_;intro K ef
       go_simp
       refine ef.out _ _ (λ_=> ?_) (λdz=> ?_)
       ·exact⟨iL cQ.1,iL cQ.2.1,iL cQ.2.2.1,iL cQ.2.2.2⟩
       replace cQ:=dz bp;clear ef K dz
       try simp only[Act.put,dS,dU,dP]
       refine dk.take (i:=20) (v:= ?_) rfl (by kernel_rfl) (λ_ _ _ h=>h) (by rfl) ?_ cQ ?_
       rotate_left
       ·(intro w cK;(try dsimp only at cK);go_simp<;>with_reducible rfl)
       try simp only[Act.put,dS,dU,dP]
       refine dk.one (i:=21) rfl (by kernel_rfl) ?_;intro K ef
       go_simp
       refine ef.out _ _ (λ_=> ?_) (λdz=> ?_)
       ·exact⟨iL cQ.1,iL cQ.2.1,iL cQ.2.2.1,iL cQ.2.2.2⟩
       replace cQ:=dz bp;clear ef K dz
       try simp only[Act.put,dS,dU,dP]
       refine dk.one (i:=22) rfl (by kernel_rfl) ?_;intro K ef;have sV:=λa p=>Kh pM.out.iR.row (rD _ a p);rw[AZ.out] at sV;refine Oh _ (by rfl) _ _ _ (by rfl) m_.heap.size 148 i0 _ 3 56 Tryz.underlying66 rS qC Ct Cu rfl ab (.slice A s7 c) s7 (b8.flatMap lj) (by rfl) (sV _ _) (some ⟨wr.heap.size+1,0,none⟩) 1 1 [.string (fZ cf dL).1,.string (fZ cf (dL+1)).1,.slice (some ⟨wr.heap.size,0,none⟩) 1 1] (by rfl) (fP.two _ _ _ _ _) rfl (by simp[Value.oneCell']) ab (by unfold maxLen;omega) (ij pM.out.iR.p4 (rD _ _ _).size) ?_;intro tl na UK oz oB lD ot;have n3:=pM.out.iR.pre (rD _ _ _) (by rw[AZ.out];exact lD);rw[AZ.out] at n3;obtain⟨g_,ey,fq⟩:=vM n3;obtain⟨f0,f1,f2⟩:=zg n3;have eD:=pM.out.ne (λe=>by have:=pK.out.1;rw[e] at this;simp at this);rw[<-vi A s7 c] at eD;have gu:=λ(o:Nat) v (h:_=some v)=>lD.cell (a:=⟨jv,o,none⟩) h eD;have AY:=Lib.hid (And.intro oz (And.intro oB (And.intro lD ot)));clear oz oB lD ot n3 sV eD;refine ef.out _ _ (λ_=> ?_) (λdz=> ?_)
       ·exact⟨ey,fq,gu _ _ cQ.2.2.1,gu _ _ cQ.2.2.2⟩
       replace cQ:=dz bp;clear ef K dz
       try simp only[Act.put,dS,dU,dP]
       refine dk.take (i:=23) (v:= ?_) rfl (by kernel_rfl) (λ_ _ _ h=>h) (by rfl) ?_ cQ ?_
       rotate_left
       ·(intro w cK;(try dsimp only at cK);go_simp<;>with_reducible rfl)
       try simp only[Act.put,dS,dU,dP]
       refine dk.one (i:=24) rfl (by kernel_rfl) ?_;intro K ef;clear gu
       go_simp
       refine ef.out _ _ (λh=>absurd rfl h) (λxq=> ?_);clear ef K cQ xq
       try simp only[Act.put,dS,dU,dP]
       refine dk.done (by kernel_rfl) ?_ _
       go_wp2_with fail
       go_roundw
       case rel=>
        obtain⟨oz,oB,lD,ot⟩:=AY.out;have a3:=AZ.out;subst a3;obtain⟨PP,vU⟩:∃p:gL,p=(fZ cf dL,fZ cf (dL+1),cx [(eK.1,aO.w .i64 0,S ⟨#[]⟩,aO.w .i64 ((b8.length+1:Nat):Int),())],()):=⟨_,rfl⟩;have PY:l_ PP=[.string eK.1.1,.int .i64 0,.string ⟨#[]⟩,.int .i64 ((b8.length:Int)+1)]:=by
         rw[vU];show[Value.string eK.1.1,.int .i64 0,.string ⟨#[]⟩,.int .i64 (aO.w .i64 ((b8.length+1:Nat):Int)).1]=_;rw[QF ab];rfl
        have wE:=pM.out.add (p:=PP) (b:=wr.heap.size) (rD _ _ _) (Nat.le_refl _) (CD _ _ _) (λ_=>by rw[PY];exact(gp.new wr.drew _ _).alloc _) lD (by rw[RZ (by rw[vU];rfl),vU];exact oB) ot oz;obtain⟨n,aA⟩:∃n,eW-1-dL=n+1:=⟨eW-2-dL,ab⟩;refine⟨dL+1,tl,na,_,m,rfl,ab,ab,by rw[bY,gO,dw];omega,Lib.hid wE,Lib.hid ?_⟩;rw[<-fc.out,aA,s3,show eW-1-(dL+1)=n by omega,List.map_append,bY,vU];simp
       case measure=>simp[intOf];omega
      ·subst xL;have mD:wr.cell? ⟨gh.heap.size,2,none⟩=some (.slice A b8.length c):=dz.out.iR.nv.cell 2;have ajm:=Lib.hid (λo=>Kh dz.out.iR.row (Hn wr o));have rO:=Lib.hid (λo=>ij dz.out.iR.p4 (Hn wr o).size);have ajf:=Lib.hid bK;have aJ6:¬((dL:Int)+1<(eW:Int)):=ab;have ajd:=Lib.hid (λ(eO:Option Addr) (c':Nat) (gh:World) o (bZ:(wr.alloc o).grownBy gh (Value.slice A b8.length c).ownBlock) (qB:gh.ownsRow m_.heap.size 148 3 (.slice eO (b8.length+1) c') (b8.length+1) (b8.flatMap lj++[.string ⟨#[]⟩,.string ⟨#[]⟩,.slice none 0 0])) jW hle=>
        dz.out.add (p:=tj) (b:=wr.heap.size) (eO:=eO) (c':=c') (Hn wr o) (Nat.le_refl _) (by rw[World.size_alloc];omega) (λh=>absurd rfl h) bZ (by rw[au4];exact qB) jW hle)
       have ajj:=Lib.hid (λ(gh:World) o (bZ:(wr.alloc o).grownBy gh (Value.slice A b8.length c).ownBlock)=>dz.out.iR.pre (Hn wr o) bZ);clear hlen bK
       go_wp2_with (at_builtin;refine aiT _ rfl _ _ _ rfl m_.heap.size 148 i0 _ 3 56 Tryz.underlying66 rS qC Ct Cu rfl ab (.slice A b8.length c) b8.length (b8.flatMap lj) rfl (ajm.out _) (some ⟨wr.heap.size,0,none⟩) 1 1 [.string ⟨#[]⟩,.string ⟨#[]⟩,.slice none 0 0] rfl (fP.new wr #[.string ⟨#[]⟩,.string ⟨#[]⟩,.slice none 0 0] 148) rfl (by simp[Value.oneCell']) ab (by unfold maxLen;omega) (rO.out _) ?_;intro tl na UK oz oB lD ot;have n3:=ajj.out _ _ lD;obtain⟨g_,ey,fq⟩:=vM n3;obtain⟨f0,f1,f2⟩:=zg n3;have wF:=ajd.out _ _ _ _ lD oB ot oz;have Aa:=wF.iR.nv;rw[bY,gO,dw,fL] at Aa;obtain⟨yC,cm,cF⟩:=vM Aa;obtain⟨DL,gW,fU⟩:=vM wF.kP;obtain⟨jz,aF,aQ⟩:=zg wF.kP;have Vu:=Lib.hid wF;clear wF Aa n3 oz oB lD ot)
       have kP:=((Vu.out.kP.GL 0 (.string fp.1)).GL 1 (.slice (some ⟨jv,ky,none⟩) eW eJ)).GL 2 (.slice tl (b8.length+1) na);have p7:=kP.cell 0;have bq:=kP.cell 1;have bE:=kP.cell 2;clear kP DL gW fU jz aF aQ yC cm cF g_ ey fq f0 f1 f2;refine bodyPost_ret (v:=.agg #[.string fp.1,.slice (some ⟨jv,ky,none⟩) eW eJ,.slice tl (b8.length+1) na]) (by simp[results,Tryz.results193,go_sem,p7,bq,bE]) rfl ?_;have ax:=ajf.out;have ay:=fc.out;rw[show eW-1-dL=0 by omega,s3,e6] at ay;have bT:=Xo.out;rw[<-ay] at bT;have a3:y.1.1.2.2.1.1=(b8++[(wr.heap.size,tj)]).map (·.2):=by
        rw[bT];show(cx (b8.map (·.2)++[tj])).1=_;rw[fT (by rw[bY,List.length_map,List.length_singleton];omega),List.map_append];rfl
       have s:=Vu.out;obtain⟨m',ex,cj,dl,yB⟩:=s.iR.done s.k (by have:=s.bl;have:=s.eS;omega) y.1.1.2.2.1 a3;rw[bY,gO,dw,fL] at dl;refine⟨m',.slice (some ⟨jv,ky,none⟩) eW eJ,.slice tl (b8.length+1) na,by rw[bT],K.end dI d0 w0 cj (yB _ (by have:=s.eS;have:=s.iR.ay;omega) s.qK) s.bl _ _ _, ?_,dl⟩;have:=s.ro.ext ex.fz;rw[bT];exact this
theorem apL:tz Tryz.prog 193 ⟨CM,CN,yg⟩:=by
 intro x y bZ m w vs bc fE aM;obtain⟨aHJ⟩:=aHN bZ;obtain⟨⟨Om,fp,many,eE,jD⟩,d0,kj⟩:=x
 match vs,aM with
 |⟨[a0,dE,dc,gT]⟩,⟨⟨r,aJ,fQ⟩,aE,aX,bL,_⟩=>
  have fQ:a0=.pointer (some ⟨r,0,none⟩):=fQ;have aE:dE=.string fp.1:=aE;have aX:dc=.int .i64 many.1:=aX;subst fQ aE aX;refine⟨akK (f:=193) (fn:=pX 193) (c:=o2 193) (by kernel_rfl) (by kernel_rfl) (by kernel_rfl) _ _,(aHP fp many eE aHJ bc aJ bL.1).mono ?_⟩;rintro ex w' ⟨m',v1,v2,rfl,k,aa,ae⟩;refine⟨m',ng y.2.1,[.agg #[.string y.1.1.1.1,v1,v2]],rfl,k.st,k.aJ, ?_⟩;exact PD (vs:=[.agg [.str y.1.1.1,.row [.str] y.1.1.2.1 .no,.row eg y.1.1.2.2.1 .no]]) k.aJ rfl ⟨⟨_,rfl,rfl,⟨aa,trivial⟩,⟨ae,trivial⟩,trivial⟩,trivial⟩
open bx (T)
set_option maxRecDepth 100000
def ao4:bI:=⟨.nil,[aR qF,aR ZJ,aR apL]⟩
theorem ao3:bC 157 I2:=bN ao4 [] []
def apa:bI:=⟨(put .nil 7 .bX),[aR TF,aR ao3,aR ZJ]⟩
theorem ao':bC 107 CI:=bN apa [] []
def ZH:bI:=⟨(put .nil 1 .bX),[]⟩
theorem apf:cl 109 0 I5:=ct ZH [] []
theorem api:bC 109 I4:=bN ZH [cr apf] []
def ao8:bI:=⟨(put (put .nil 3 .bX) 8 .tok),[aR ao',aR qF,aR api]⟩
theorem ao7:bC 53 I3:=bN ao8 [] []
def aoT:bI:=⟨(put .nil 2 .bX),[]⟩
theorem IW:bC 112 yc:=bN aoT [] []
def apw:bI:=⟨.nil,[]⟩
theorem wo:bC 115 np:=bN apw [] []
def aql:bI:=⟨.nil,[]⟩
theorem z4:bC 118 r7:=bN aql [] []
def aqp:bI:=⟨.nil,[aR z4]⟩
theorem z5:bC 119 rb:=bN aqp [] []
def apX:bI:=⟨.nil,[aR wo,aR z4,aR z5]⟩
theorem aag:bC 164 z2:=bN apX [] []
def aqn:bI:=⟨(put .nil 3 .bX),[]⟩
theorem CR:bC 170 uc:=bN aqn [] []
def aqe:bI:=⟨.nil,[aR CR]⟩
theorem yl:bC 117 ra:=bN aqe [] []
def aqc:bI:=⟨.nil,[aR CR]⟩
theorem yj:bC 116 p9:=bN aqc [] []
def apV:bI:=⟨.nil,[aR CR]⟩
theorem Jc:bC 167 s4:=bN apV [] []
def ap':bI:=⟨.nil,[aR yj,aR yl,aR Jc]⟩
theorem ap_:bC 206 Jg:=bN ap' [] []
def apN:bI:=⟨.nil,[aR wo,aR yj,aR yl,aR z4,aR aag,aR Jc,aR ap_]⟩
theorem apM:bC 165 Jb:=bN apN [] []
def apZ:bI:=⟨.nil,[aR ae8]⟩
theorem aai:bC 169 CP:=bN apZ [] []
def Rd:bI:=⟨.nil,[]⟩
theorem aqx:cl 208 1 Jk:=ct Rd [] []
theorem aqv:cl 208 0 Jj:=ct Rd [cr aqx] []
theorem aaD:bC 208 CS:=bN Rd [cr aqv] []
def aqs:bI:=⟨(put (put .nil 5 .bX) 8 .bX),[aR qF,aR IW,aR wo,aR yj,aR yl,aR z5,aR aaD]⟩
theorem aqr:bC 207 Ji:=bN aqs [] []
def aav:bI:=⟨(put .nil 4 .bX),[aR qF,aR IW,aR wo,aR yl,aR z5,aR aai]⟩
theorem aqf:cl 114 0 Jh:=ct aav [] []
theorem aau:bC 114 CQ:=bN aav [cr aqf] []
def ap2:bI:=⟨.nil,[aR qF,aR yj,aR yl,aR Jc,aR CR,aR ae8]⟩
theorem ap1:bC 209 Jd:=bN ap2 [] []
abbrev yh:={g:U oG->Option (U qG)//bC 113 g}
def aqj (r:yh):bI:=⟨(put (put (put .nil 10 .bX) 11 .bX) 13 .bX),[aR r.2,aR aau,aR wo,aR yj,aR z5,aR aaD,aR ap1]⟩
theorem aqi:∀r:yh,bC 168 (z3 r.1):=zr aqj (λr=>[]) []
def aap (r:yh):bI:=⟨(put (put .nil 6 .bX) 11 .bX),[aR qF,aR r.2,aR wo,aR z4,aR z5,aR aai,aR CR,aR aqr]⟩
theorem ap5:∀r:yh,cl 166 0 (Jf r.1):=Zk aap (λr=>[]) [.c 11 aan aam]
theorem ap7:∀r:yh,bC 166 (Je r.1):=zr aap (λr=>[cr (ap5 r)]) []
def apT (r:yh):bI:=⟨(put .nil 6 .bX),[aR qF,aR wo,aR yj,aR yl,aR z4,aR aag,aR apM,aR (ap7 r),aR Jc,aR (aqi r)]⟩
theorem apP:∀r:yh,bC 113 (z1 r.1):=zr apT (λr=>[]) [.c 8 Z_ Z9,.c 12 aaa Z',.c 20 aad aac]
theorem apQ (n:Nat):bC 113 (wu n):=by
 induction n with
 |zero=>exactλx y h=>by cases h
 |succ n b_=>exact apP ⟨wu n,b_⟩
theorem apS:bC 113 Q6:=apQ oP
def apH:bI:=⟨(put .nil 8 .bX),[aR qF,aR IW,aR apS]⟩
theorem apG:bC 55 Ja:=bN apH [] []
def ZZ:bI:=⟨(put .nil 8 .bX),[aR qF,aR IW,aR aau,aR wo,aR yj,aR yl,aR z4,aR z5]⟩
theorem apB:cl 56 0 I_:=ct ZZ [] [.c 17 ZX ZW]
theorem apD:bC 56 I9:=bN ZZ [cr apB] []
def Q3:bI:=⟨.nil,[aR aoP,aR ao7,aR TF,aR apG,aR apD]⟩
theorem aoX:cl 25 1 I0:=ct Q3 [] []
theorem aoV:cl 25 0 IZ:=ct Q3 [cr aoX] []
theorem ao0:bC 25 IY:=bN Q3 [cr aoV] []
theorem apd:bC 26 ZF:=λx y h=>by cases h
def auZ:bI:=⟨.nil,[aR ao0,aR apd]⟩
theorem auY:bC 8 Kp:=bN auZ [] []
def auR:bI:=⟨(put (put .nil 1 .bX) 4 .bX),[aR aBy]⟩
theorem auQ:bC 7 Kn:=bN auR [] []
def auV:bI:=⟨.nil,[]⟩
theorem auU:bC 15 Ko:=bN auV [] []
end cB
end Go.Proofs.YtgmdfchkljaooaaGreat
