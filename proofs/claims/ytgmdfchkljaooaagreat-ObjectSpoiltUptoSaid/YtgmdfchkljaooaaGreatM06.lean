/- Typed values. -/
import Derived.LoopN
import Derived.Test.YtgmdfchkljaooaaGreatProg
import Derived.KernelRfl
import Derived.Test.YtgmdfchkljaooaaGreatM05
noncomputable section
namespace Go.Proofs.YtgmdfchkljaooaaGreat
open Go.RowKit
namespace cB
open bx (T cv under size j3 ff jr)
set_option linter.unusedVariables false
set_option linter.unusedSimpArgs false
def Kf (k:Nat):List fu:=(nz 0 k).map λj=>⟨j,j,0⟩
def ac9 (a b:Option Nat):Bool:=match a with
 |some x=>match b with
  |some y=> !Nat.beq x y
  |none=>true
 |none=>true
def anK (ρ:List fu) (l:List fC):Bool:=(nz 0 l.length).all λj=>(nz 0 l.length).all λiY=>Nat.beq j iY|| !live l j|| !live l iY||ac9 (jQ ρ j) (jQ ρ iY)
def BC (p:aw) (k:Nat) (vs:List V) (σ:bF):Option (U p):=match HD false p (Kf k) vs σ with
 |some y=>match Nat.ble k p.blocks.length&&p.ok&&anK y.2 p.blocks with
  |true=>some y.1
  |false=>none
 |none=>none
def nt (σ:bF) (ids:List Nat) (n:Nat):List Nat:=ids++nz σ.next (n-ids.length)
def um (σ:bF) (ids:List Nat) (n k:Nat):Nat:=(nt σ ids n)[k]?.getD 0
def z' (σ:bF) (ids:List Nat) (j:Nat):Nat:=match ids[j]? with
 |some i=>wL σ i+1
 |none=>0
def vh (σ:bF) (ids:List Nat) (p:aw) (y:U p):bF:=⟨putAt (nt σ ids p.blocks.length) (tK (um σ ids p.blocks.length) (lenOf y.2) (z' σ ids) p.blocks 0 y.2) σ.heap,σ.next+(p.blocks.length-ids.length)⟩
def DD (σ:bF) (ids:List Nat) (p:aw) (y:U p):List V:=nL (um σ ids p.blocks.length) (lenOf y.2) p.kinds y.1
def zc (σ:bF) (ids:List Nat) (l:List fC):Bool:=(nz 0 ids.length).all λj=> !wh l j||(match ids[j]? with
 |some i=>match σ.heap.get i with
  |some (.arr _ _ _ _ _)=>true
  |_=>false
 |none=>false)
section
variable{w eM:World} {m dg:M} {σ j5 e5:bF} {p:aw} {vs:List V} {us:List Value} {ids:List Nat}
theorem auz:∀k,nF (Kf k)/\∀j,j<k->(⟨j,j,0⟩:fu)∈Kf k:=λk=>by
 have mem:∀{e:fu},e∈Kf k->e.k=e.id:=λ{e} he=>by
  obtain⟨j,_,rfl⟩:=List.mem_map.1 he;rfl
 have key:∀{l:List fu},(∀e∈l,e.k=e.id)->∀e∈l,jQ l e.k=some e.id:=by
  intro l;induction l with
  |nil=>intro _ e he;cases he
  |cons x l b_=>
   intro a3 e he;rw[jQ];split
   ·rename_i ai;have:=gq ai;rw[<-a3 x mw,this,a3 e he]
   ·rename_i ai;rcases List.mem_cons.1 he with rfl|he
    ·rw[Nat.beq_refl] at ai;cases ai
    ·exact b_ (λe he=>a3 e (List.mem_cons_of_mem _ he)) e he
 refine⟨key λe he=>mem he,λj au=>List.mem_map.2 ⟨j, ?_,rfl⟩⟩;have:=AO (i:=0) au;rw[fL] at this;exact List.mem_of_getElem? this
def x6:List Nat->Nat->Option Nat
 |[],_=>none
 |x::l,i=>if x=i then some 0 else(x6 l i).map (·+1)
theorem YQ:∀{l:List Nat} {i j:Nat},x6 l i=some j->l[j]? =some i
 |x::l,i,j,h=>by
  rw[x6] at h;split at h
  ·rename_i he;cases h;simp[he]
  ·obtain⟨k,aP,rfl⟩:=Option.map_eq_some_iff.1 h;simpa using YQ aP
theorem YP:∀{l:List Nat} {i j:Nat},l.Nodup->l[j]? =some i->x6 l i=some j
 |[],i,j,_,h=>by simp at h
 |x::l,i,0,_,h=>by simp at h;simp[x6,h]
 |x::l,i,j+1,bb,h=>by
  rw[List.nodup_cons] at bb;have h:l[j]? =some i:=by simpa using h
  have eD:x≠i:=λe=>bb.1 (by rw[e];exact List.mem_of_getElem? h);rw[x6,if_neg eD,YP bb.2 h];rfl
theorem ado (bb:ids.Nodup) (a3:∀i∈ids,i<σ.next) (n:Nat):(nt σ ids n).Nodup:=by
 unfold nt;rw[List.nodup_append];refine⟨bb,Ot,λa bW b ai e=> ?_⟩;have:=a3 a bW;have:=(GX ai).1;omega
theorem Kr {n j:Nat} (au:j<ids.length):(nt σ ids n)[j]? =ids[j]? :=by
 unfold nt;rw[lM au]
theorem RY {n j:Nat} (au:ids.length<=j) (aA:j<n):(nt σ ids n)[j]? =some (σ.next+(j-ids.length)):=by
 unfold nt;rw[l8 au,AO ab]
theorem RX {n:Nat} (h:ids.length<=n):(nt σ ids n).length=n:=by
 unfold nt;rw[bY,UH];omega
structure ajc (p:aw) (k:Nat) (y:U p) (m:M) (σ:bF) (us:List Value) (f:Nat->Nat):Prop where
  ok:p.ok=true
  aP:k<=p.blocks.length
  r_:∀j,live p.blocks j=true->j<k->f j=j
  inj:∀j iY,live p.blocks j=true->live p.blocks iY=true->f j=f iY->j=iY
  GZ:cv (dW m) (nL f (lenOf y.2) p.kinds y.1) us
  ajP:∀(j:Nat) (b:fC),p.blocks[j]? =some b->b.oC=false->∃x,σ.heap.get (f j)=some x/\((∃t a4 l v,x=.arr t a4 l none v)->wh p.blocks j=true)/\
    ∀(f':Nat->Nat) (fi:M) (cX:Nat->Nat),tG m fi f f' (live p.blocks)->∃fG,(tK f' (lenOf y.2) cX p.blocks 0 y.2)[j]? =some (some fG)/\tt m fi x fG/\∀t a4 l k v,fG=.arr t a4 l k v->v=cX j
  gone:∀(j:Nat) (b:fC),p.blocks[j]? =some b->b.oC=true->∀(f' cX:Nat->Nat),(tK f' (lenOf y.2) cX p.blocks 0 y.2)[j]? =some none
def pH (p:aw) (k:Nat) (y:U p) (m:M) (σ:bF) (us:List Value):Prop:=∃f,ajc p k y m σ us f
theorem Oq {j n:Nat} (h:j<n):j∈nz 0 n:=by
 have:=AO (i:=0) h;rw[fL] at this;exact List.mem_of_getElem? this
theorem QW {l:List fC} {j:Nat} (h:live l j=true):∃b,l[j]? =some b/\b.oC=false:=by
 unfold live at h;split at h
 ·rename_i b ai;exact⟨b,ai,by simpa using h⟩
 ·cases h
theorem Xb {l:List fC} {j:Nat} {b:fC} (h:l[j]? =some b) (bZ:b.oC=false):live l j=true:=by unfold live;rw[h];simp[bZ]
theorem Wn (f len cX:Nat->Nat):∀{l:List fC} {i j:Nat} (x:nC l) {b:fC},l[j]? =some b->b.oC=true->(tK f len cX l i x)[j]? =some none
 |[],i,j,x,b,h,_=>by simp at h
 |cH::l,i,0,x,b,h,bZ=>by
  simp at h;subst h;cases cH with
  |gone=>rfl
  |box cs=>cases bZ
  |arr t a4=>cases bZ
  |a6 t=>cases bZ
 |cH::l,i,j+1,x,b,h,bZ=>by
  show(tK f len cX l (Nat.succ i) x.2)[j]? =some none;exact Wn f len cX x.2 (by simpa using h) bZ
theorem PD {k:Nat} {y:U p} (ae:bt dg e5 eM) (h:BC p k vs e5=some y) (aM:cv (dW dg) vs us):pH p k y dg e5 us:=by
 unfold BC at h;split at h
 ·rename_i z ax;split at h
  ·rename_i nP;cases h;simp only[gJ] at nP;obtain⟨⟨aP,iQ⟩,amh⟩:=nP;have aP:=Nat.le_of_ble_eq_true aP;have amT:=iQ;unfold aw.ok at iQ;rw[gJ] at iQ;obtain⟨sk,aE,aX,bL⟩:=WE ax;obtain⟨dE,dc,gT,kD⟩:=zq (m:=dg) aE;obtain⟨mj,lG⟩:=auz k;have qv:=dc mj;obtain⟨cR,fg,hJ⟩:=xc aX qv;have Cm:=ah1 ae aX qv bL;have Ij:∀j,j<k->jQ z.2 j=some j:=λj au=>fg _ (cR _ (dE _ (lG j au)));have v7:∀j,live p.blocks j=true->j<p.blocks.length/\∃s,jQ z.2 j=some s:=λj au=>by
    obtain⟨b,ai,bZ⟩:=QW au;obtain⟨id,x,aF,_⟩:=hJ j b ai bZ;exact⟨(ed.1 ai).1,id,by rw[fL] at aF;exact aF⟩
   refine⟨λk=>(jQ z.2 k).getD 0,amT,aP,λj au bK=>(by show(jQ z.2 j).getD 0=j;rw[Ij j bK];rfl),λj iY au lE he=> ?_,OY _ _ _ (gT _ (lenOf z.1.2) (Cm.of cR)) aM,λj b ai bZ=> ?_,λj b ai bZ f' cX=>Wn _ _ _ _ ai bZ⟩
   ·obtain⟨aA,s,aU⟩:=v7 j au;obtain⟨sR,ep,pc⟩:=v7 iY lE;simp only[aU,pc,Option.getD_some] at he;subst he;have:=List.all_eq_true.1 (List.all_eq_true.1 amh j (Oq aA)) iY (Oq sR);rw[au,lE,aU,pc] at this;cases tM:Nat.beq j iY with
    |true=>exact gq tM
    |false=>
     rw[tM] at this;simp[ac9] at this
   ·obtain⟨id,x,cm,cF,dy,e8,ki,lX⟩:=hJ j b ai bZ;rw[fL] at cm;refine⟨x,by simp only[cm,Option.getD_some];exact cF,λaV=> ?_,λf' fi cX bH=> ?_⟩
    ·obtain⟨t,a4,he⟩:=lX aV;unfold wh;rw[ai,he]
    ·rcases HC (f':=f') (cX:=cX) bH aX qv iQ.2 Cm j b ai with⟨jz,_⟩|⟨_,xW,g9,fG,aF,aQ,bn,cy,fj⟩
     ·rw[bZ] at jz;cases jz
     ·rw[fL,cm] at aF;cases aF;rw[cF] at aQ;cases aQ;rw[fL] at fj;exact⟨fG,bn,cy,fj⟩
  ·cases h
 ·cases h
theorem IN {y:U p} (bc:bt m σ w) (bb:ids.Nodup) (a3:∀i∈ids,i<σ.next) (P1:∀i∈ids,∀cs,σ.heap.get i=some (.box cs)->m.pl i≠none) (sS:j5.next=ids.length)
 (aC:∀j cR,j5.heap.get j=some cR->∃i b,ids[j]? =some i/\σ.heap.get i=some b) (ae:bt dg e5 eM) (st:Step (m.sub σ ids) j5 w dg e5 eM) (h:pH p ids.length y dg e5 us) (bW:zc σ ids p.blocks=true):
 ∃fi,bt fi (vh σ ids p y) eM/\Step m σ w fi (vh σ ids p y) eM/\cv (dW fi) (DD σ ids p y) us:=by
 obtain⟨f,aq⟩:=h;have aP:=aq.aP;have iQ:=aq.ok;unfold aw.ok at iQ;rw[gJ] at iQ;have v7:∀j,live p.blocks j=true->j<p.blocks.length:=λj au=>by
  obtain⟨b,ai,_⟩:=QW au;exact(ed.1 ai).1
 have Ab:=ado (σ:=σ) bb a3 p.blocks.length;obtain⟨pos,k_⟩:∃pos,pos=nt σ ids p.blocks.length:=⟨_,rfl⟩;obtain⟨ex,hex⟩:∃ex:Nat->Option Nat,ex=λi=>match x6 pos i with
  |some j=>if live p.blocks j=true then some (f j) else none
  |none=>none:=⟨_,rfl⟩
 have HH:∀{i s:Nat},ex i=some s->∃j,pos[j]? =some i/\live p.blocks j=true/\f j=s:=λ{i s} h=>by
  rw[hex] at h;simp only at h;split at h
  ·rename_i j au;split at h
   ·rename_i xK;exact⟨j,YQ au,xK,by cases h;rfl⟩
   ·cases h
  ·cases h
 have WQ:∀{j i:Nat},pos[j]? =some i->live p.blocks j=true->ex i=some (f j):=λ{j i} aa ae=>by
  rw[hex];simp only
  rw[YP (by rw[k_];exact Ab) aa];simp only
  rw[if_pos ae]
 have WS:U7 σ ids ex (vh σ ids p y).next:=by
  refine⟨λi s h bK=> ?_,λi s h lQ=> ?_,λi dL s h h'=> ?_⟩
  ·obtain⟨j,aF,aQ,bn⟩:=HH h;rcases jL j ids.length with au|au
   ·rw[k_,Kr au] at aF;rw[aq.r_ j aQ au] at bn;rw[<-bn];exact aF
   ·rw[k_,RY au (v7 j aQ)] at aF;cases aF;omega
  ·obtain⟨j,aF,aQ,bn⟩:=HH h;rcases jL j ids.length with au|au
   ·rw[k_,Kr au] at aF;have:=a3 i (List.mem_of_getElem? aF);omega
   ·have mC:=v7 j aQ;rw[k_,RY au mC] at aF;cases aF;show _<σ.next+(p.blocks.length-ids.length);omega
  ·obtain⟨j,aF,aQ,bn⟩:=HH h;obtain⟨iY,BI,HQ,aln⟩:=HH h';have:=aq.inj j iY aQ HQ (bn.trans aln.symm);subst this;rw[aF] at BI;cases BI;rfl
 have low:∀{s i:Nat},ids[s]? =some i->s<j5.next:=λ{s i} aU=>by rw[sS];exact(ed.1 aU).1
 have yA:∀{i s:Nat},ex i=some s->(m.glue σ dg e5 ex).pl i=dg.pl s:=λ{i s} he=>by
  show(if i<σ.next then _ else _)=_;split
  ·rename_i bK;have aU:=WS.r_ i s he bK;rw[st.ix.pl s (low aU)];simp[M.sub,aU]
  ·rw[he];rfl
 have aqN:∀{k:Nat},live p.blocks k=true->∃i,pos[k]? =some i/\um σ ids p.blocks.length k=i/\ex i=some (f k):=λ{k} q3=>by
  have aa:=v7 k q3;obtain⟨i,bw⟩:∃i,pos[k]? =some i:=⟨_,e_ (by rw[k_,RX aP];exact aa)⟩;refine⟨i,bw, ?_,WQ bw q3⟩;unfold um;rw[<-k_,bw];rfl
 have Cr:tG dg (m.glue σ dg e5 ex) f (um σ ids p.blocks.length) (live p.blocks):=by
  refine⟨ie.refl _,λk q3=> ?_⟩;obtain⟨i,aF,aQ,cy⟩:=aqN q3;simp only[aQ];refine⟨λr aJ=>by rw[yA cy];exact aJ,λv aM=> ?_⟩;show(match ex i with|some s=>dg.bb s|none=>m.bb i)=_;rw[cy];exact aM
 have key:=bc.glue (ll:=vh σ ids p y) a3 sS aC P1 ae st WS (Nat.le_add_right _ _) (λi amP bK=> ?_) (λi ajQ aj p0=> ?_)
 ·exact⟨_,key.1,key.2,Pm Cr iQ.1 aq.GZ⟩
 ·show(putAt _ _ σ.heap).get i=_;refine Ae λhm=> ?_;unfold nt at hm;rcases List.mem_append.1 hm with g|g
  ·exact amP g
  ·have:=(GX g).1;omega
 ·have aj:(putAt (nt σ ids p.blocks.length) _ σ.heap).get i=some ajQ:=aj;have Qi:i∈nt σ ids p.blocks.length:=Classical.byContradiction λaA=>by
   rw[Ae aA] at aj;rcases p0 with g|g
   ·exact aA (by unfold nt;exact List.mem_append_left _ g)
   ·rw[(bc.fresh i g).2.2.2] at aj;cases aj
  obtain⟨j,au⟩:=List.mem_iff_getElem?.1 Qi;have mC:j<p.blocks.length:=by
   have:=(ed.1 au).1
   rwa [RX aP] at this
  have rP:p.blocks[j]? =some (p.blocks[j]'mC):=e_ mC
  cases bZ:(p.blocks[j]'mC).oC with
  |true=>
   rw[Ad Ab au (aq.gone j _ rP bZ _ _)] at aj;cases aj
  |false=>
   obtain⟨x,aQ,alo,bn⟩:=aq.ajP j _ rP bZ;obtain⟨fG,cy,fj,fX⟩:=bn _ _ (z' σ ids) Cr;rw[Ad Ab au cy] at aj;cases aj;have Cd:=Xb rP bZ;refine⟨f j,x,WQ (by rw[k_];exact au) Cd,aQ,fj,λt a4 l k jE ai=> ?_⟩;have Qx:=fX t a4 l k jE ai;subst Qx;unfold s5;rcases jL j ids.length with B7|B7
   ·rw[Kr B7] at au;have bK:=a3 i (List.mem_of_getElem? au);rw[if_neg ab];have amm:wh p.blocks j=true:=by
     subst ai;cases fj with
     |arr cX jE=>exact alo ⟨_,_,_,_,rfl⟩
    have:=List.all_eq_true.1 bW j (Oq B7);rw[amm,au] at this;simp only[Bool.not_true,Bool.false_or] at this;split at this
    ·rename_i t0 aI3 wj bl v0 XR;rw[XR];simp only[z',au,wL,XR,B.cX]
    ·cases this
   ·rw[RY B7 mC] at au;cases au;rw[if_pos ab];have:ids[j]? =none:=List.getElem?_eq_none B7;simp[z',this]
theorem aiD {f f' len:Nat->Nat} {P:Nat->Bool} {m m':M} (bH:tG m m' f f' P):∀{l:List fa} {x:rz l},l.all (fa.tg P)=true->((nL f' len l x).map vw).length=((nL f len l x).map vw).length/\
 ∀(j:Nat) c',((nL f' len l x).map vw)[j]? =some c'->∃c,((nL f len l x).map vw)[j]? =some c/\∀v,cT m c v->cT m' c' v
 |[],x,_=>⟨rfl,λj c' h=>by simp[nL] at h⟩
 |s::l,x,hu=>by
  rw[List.all_cons,gJ] at hu;obtain⟨aa,ae⟩:=aiD (len:=len) (x:=x.2) bH hu.2;rw[Hx,Hx,List.map_cons,List.map_cons];refine⟨by simp[aa],λj c' au=> ?_⟩;cases j with
  |zero=>
   simp at au;subst au;refine⟨_,rfl,λv aM=> ?_⟩;have key:=Pk (len:=len) (x:=x.1) (u:=v) bH hu.1;cases s with
   |agg t=>exact aM
   |r8 t nl=>exact aM
   |_=>exact key aM
  |succ j=>
   obtain⟨c,aF,aQ⟩:=ae j c' (by simpa using au);exact⟨c,by simpa using aF,aQ⟩
theorem Wm (f len cX:Nat->Nat):∀{l:List fC} {i j:Nat} (x:nC l) {b:fC},l[j]? =some b->∃z:kk b,∀(f:Nat->Nat) (cX:Nat->Nat),(tK f len cX l i x)[j]? =some (Bq f len (cX (i+j)) b z)
 |[],i,j,x,b,h=>by simp at h
 |cH::l,i,0,x,b,h=>by
  simp at h;subst h;exact⟨x.1,λf cX=>rfl⟩
 |cH::l,i,j+1,x,b,h=>by
  obtain⟨z,ax⟩:=Wm f len cX (i:=Nat.succ i) x.2 (by simpa using h);exact⟨z,λf cX=>by
   show(tK f len cX l (Nat.succ i) x.2)[j]? =_;rw[ax,show Nat.succ i+j=i+(j+1) by omega]⟩
theorem auK {y:U p} {k:Nat} {fi:M} (h:pH p ids.length y dg e5 us) (bb:ids.Nodup) (a3:∀i∈ids,i<σ.next) (aM:cv (dW fi) (DD σ ids p y) us) (aP:ids.length=k) (rU:k<=σ.next) (hold:∀j,live p.blocks j=true->j<k->ids[j]? =some j):
 pH p k y fi (vh σ ids p y) us:=by
 obtain⟨f,aq⟩:=h;subst aP;have iQ:=aq.ok;unfold aw.ok at iQ;rw[gJ] at iQ;have Ab:=ado (σ:=σ) bb a3 p.blocks.length;have v7:∀j,live p.blocks j=true->j<p.blocks.length:=λj au=>by
  obtain⟨b,ai,_⟩:=QW au;exact(ed.1 ai).1
 have fp:∀j,live p.blocks j=true->(nt σ ids p.blocks.length)[j]? =some (um σ ids p.blocks.length j):=λj au=>by
  unfold um;have:(nt σ ids p.blocks.length)[j]? =some ((nt σ ids p.blocks.length)[j]'(by rw[RX aq.aP];exact v7 j au)):=e_ _
  rw[this];rfl
 refine⟨um σ ids p.blocks.length,aq.ok,aq.aP,λj au bK=> ?_,λj iY au lE he=> ?_,aM,λj b ai bZ=> ?_,aq.gone⟩
 ·have aa:=fp j au;rw[Kr bK,hold j au bK] at aa;exact(hP aa).symm
 ·have aa:=fp j au;rw[he] at aa;exact idx_eq Ab aa (fp iY lE)
 ·have au:=Xb ai bZ;obtain⟨z,ax⟩:=Wm (um σ ids p.blocks.length) (lenOf y.2) (z' σ ids) (i:=0) y.2 ai;have hu:b.tg (live p.blocks)=true:=List.all_eq_true.1 iQ.2 b (List.mem_of_getElem? ai);obtain⟨cR,aC⟩:∃cR,Bq (um σ ids p.blocks.length) (lenOf y.2) (z' σ ids (0+j)) b z=some cR:=by
   cases b with
   |gone=>cases bZ
   |box cs=>exact⟨_,rfl⟩
   |arr t a4=>exact⟨_,rfl⟩
   |a6 t=>exact⟨_,rfl⟩
  refine⟨cR, ?_,λaV=> ?_,λf' r5 cX bH=> ?_⟩
  ·show(putAt _ _ σ.heap).get _=_;rw[Ad Ab (fp j au) (ax _ _),aC]
  ·obtain⟨t,a4,l,v,rfl⟩:=aV;unfold wh;rw[ai];cases b with
   |arr t a4=>rfl
   |gone=>cases bZ
   |box cs=>cases aC
   |a6 t=>cases aC
  ·rw[ax];cases b with
   |gone=>cases bZ
   |arr t a4=>
    cases aC;exact⟨_,rfl,.arr _ _,λt a4 l k v aM=>by cases aM;rw[fL]⟩
   |a6 t=>
    cases aC;exact⟨_,rfl,.a6 _,λt a4 l k v aM=>by cases aM⟩
   |box cs=>
    cases aC;obtain⟨cm,cF⟩:=aiD (len:=lenOf y.2) (x:=z) bH hu;exact⟨_,rfl,.box cm cF,λt a4 l k v aM=>by cases aM⟩
end
def xh (c:C) (σ:bF):Option (C×bF):=match c with
 |.aH id n=>match σ.heap.get id with
  |some (.arr t a4 l none cX)=>some (.row t l .no,⟨σ.heap.put id none,σ.next⟩)
  |_=>none
 |.ux id di n sz=>match σ.heap.get id with
  |some (.arr t a4 l none cX)=>match Nat.beq t.length sz with
   |true=>some (.row t (nY l di n) .no,⟨σ.heap.put id none,σ.next⟩)
   |false=>none
  |_=>none
 |c=>some (c,σ)
def xj:List C->bF->Option (List C×bF)
 |[],σ=>some ([],σ)
 |c::l,σ=>match xh c σ with
  |some y=>match xj l y.2 with
   |some z=>some (y.1::z.1,z.2)
   |none=>none
  |none=>none
def qs (s:fa) (v:V) (σ:bF):Option (V×bF):=match s with
 |.leaf _=>match v with
  |.p (.c c)=>match xh c σ with
   |some y=>some (.p (.c y.1),y.2)
   |none=>none
  |v=>some (v,σ)
 |.agg _=>match v with
  |.p (.agg cs)=>match xj cs σ with
   |some y=>some (.p (.agg y.1),y.2)
   |none=>none
  |v=>some (v,σ)
 |.r8 _ _=>match v with
  |.p (.agg cs)=>match xj cs σ with
   |some y=>some (.p (.agg y.1),y.2)
   |none=>none
  |v=>some (v,σ)
 |.tok t _ _=>match v with
  |.p (.c .cP)=>some (.p (.c (.row t L.nil (.ny σ.next (t.map λ_=>true) t.length))),⟨σ.heap.put σ.next (some (.a6 t)),σ.next+1⟩)
  |v=>some (v,σ)
 |.arr _ t a4=>match v with
  |.p (.c .cP)=>some (.p (.c (.aH σ.next 0)),⟨σ.heap.put σ.next (some (.arr t a4 L.nil none 0)),σ.next+1⟩)
  |v=>some (v,σ)
 |_=>some (v,σ)
def pY:List fa->List V->bF->Option (List V×bF)
 |s::l,v::vs,σ=>match qs s v σ with
  |some y=>match pY l vs y.2 with
   |some z=>some (y.1::z.1,z.2)
   |none=>none
  |none=>none
 |_,vs,σ=>some (vs,σ)
section
variable{w:World} {m:M} {σ a8:bF}
theorem Step.drop {m':M} {i:Nat} {b:B} (h:bt m σ w) (aj:σ.heap.get i=some b) (ai:(∀q,b≠.box q)\/m.pl i≠none) (e:js σ.next m m') (k:gX m σ w m' ⟨σ.heap.put i none,σ.next⟩ w):Step m σ w m' ⟨σ.heap.put i none,σ.next⟩ w:=⟨e,k,Nat.le_refl _,λj cs au bw=>DK aj ai au bw none⟩
theorem W2 {c c':C} {u:Value} (h:xh c σ=some (c',a8)) (bc:bt m σ w) (aq:cT m c u):∃m',Step m σ w m' a8 w/\bt m' a8 w/\cT m' c' u:=by
 unfold xh at h;split at h
 ·rename_i id n;split at h
  ·rename_i t a4 l cX aj;cases h;obtain⟨A,cp,aa,ae,az,a9⟩:=aq;obtain⟨m',aF,aQ,bn,cy⟩:=bc.W1 aj (by rw[ae]);exact⟨m',.drop bc aj (.inl λq ay=>by cases ay) aF cy,bn,aQ,trivial⟩
  ·cases h
 ·rename_i id di n sz;split at h
  ·rename_i t a4 l cX aj;split at h
   ·rename_i fh;have fh:=gq fh;subst fh;cases h;obtain⟨A,cp,rfl,ae,az,a9⟩:=aq;obtain⟨ai7,oY,aE,_⟩:=bc.live id _ aj;obtain⟨m',aF,aQ,bn,cy⟩:=bc.W1 aj aE;refine⟨m',.drop bc aj (.inl λq ay=>by cases ay) aF cy,bn, ?_,trivial⟩;have hlen:n≠0->(nY l di n).1.length=n:=λaA=>by
     obtain⟨b,k,cN,cm,cF,dy⟩:=a9 aA;rw[cm] at aE;cases aE;show((l.1.drop di).take n).length=n;rw[List.length_take,List.length_drop];omega
    simp only[dO];by_cases aA:n=0
    ·subst aA;have aM:(nY l di 0).1=[]:=by simp[nY]
     exact⟨A,cp,by rw[aM];rfl,by rw[aM];exact Nat.zero_le _,λq=>absurd aM q⟩
    ·obtain⟨b,k,cN,cm,rfl,dy⟩:=a9 aA;rw[cm] at aE;cases aE;simp only[dO] at aQ;obtain⟨UY,dq,gW,fU,jo⟩:=aQ;cases gW;have eD:l.1≠[]:=λq=>by
      have bl:l.1.length=0:=by rw[q];rfl
      rw[bl] at dy;exact aA (Nat.le_zero.1 (ij (Nat.le_add_left n di) dy))
     obtain⟨fG,fl,s1,s2⟩:=jo eD;cases s1;refine⟨_,cp,by rw[hlen aA],by rw[hlen aA];exact ae,λ_=>⟨b,di*t.length,rfl,λi e he=> ?_⟩⟩;have fe:((l.1.drop di).take n)[i]? =some e:=he;have bK:i<n:=by
      have:=(ed.1 fe).1;rw[List.length_take] at this;omega
     rw[List.getElem?_take,if_pos bK,List.getElem?_drop] at fe;have:=s2 (di+i) e fe
     rwa [fL,iC] at this
   ·cases h
  ·cases h
 ·cases h;exact⟨m,Step.refl ..,bc,aq⟩
theorem PO:∀{l eu:List C} {us:List Value} {m:M} {σ a8:bF},xj l σ=some (eu,a8)->bt m σ w->cv (cT m) l us->∃m',Step m σ w m' a8 w/\bt m' a8 w/\cv (cT m') eu us
 |[],eu,us,m,σ,a8,h,bc,aM=>by cases h;exact⟨m,Step.refl ..,bc,aM⟩
 |c::l,eu,us,m,σ,a8,h,bc,aM=>by
  rw[xj] at h;split at h
  ·rename_i y bT;split at h
   ·rename_i z ax;cases h
    match us,aM with
    |u::us,⟨aa,ae⟩=>
     obtain⟨gn,s1,bq,cN⟩:=W2 bT bc aa;obtain⟨dg,s2,bE,dq⟩:=PO ax bq (ae.imp λ_ _=>cT.ext s1.ix.ext);exact⟨dg,s1.trans bc s2,bE,cN.ext s2.ix.ext,dq⟩
   ·cases h
  ·cases h
theorem alg {s:fa} {v d_:V} {u:Value} (h:qs s v σ=some (d_,a8)) (bc:bt m σ w) (aM:dW m v u):∃m',Step m σ w m' a8 w/\bt m' a8 w/\dW m' d_ u:=by
 unfold qs at h;split at h
 ·split at h
  ·split at h
   ·rename_i c y bT;cases h;exact W2 bT bc aM
   ·cases h
  ·cases h;exact⟨m,Step.refl ..,bc,aM⟩
 ·split at h
  ·split at h
   ·rename_i cs y bT;cases h;obtain⟨vs,rfl,ae⟩:=aM;obtain⟨m',s1,bq,cN⟩:=PO bT bc ae;exact⟨m',s1,bq,vs,rfl,cN⟩
   ·cases h
  ·cases h;exact⟨m,Step.refl ..,bc,aM⟩
 ·split at h
  ·split at h
   ·rename_i cs y bT;cases h;obtain⟨vs,rfl,ae⟩:=aM;obtain⟨m',s1,bq,cN⟩:=PO bT bc ae;exact⟨m',s1,bq,vs,rfl,cN⟩
   ·cases h
  ·cases h;exact⟨m,Step.refl ..,bc,aM⟩
 ·rename_i t k nl;split at h
  ·cases h;obtain⟨aF,aQ,bn⟩:=bc.Rm t;have hu:u=.slice none 0 0:=aM;subst hu;exact⟨_,.put bc aF bn,aQ,dO.nil _ t,by simp[M.ez],nG.nil⟩
  ·cases h;exact⟨m,Step.refl ..,bc,aM⟩
 ·rename_i k t a4;split at h
  ·cases h;obtain⟨m',aF,aQ,bn,cy⟩:=bc.Rk t a4;have hu:u=.slice none 0 0:=aM;subst hu;exact⟨_,.put bc aF bn,aQ,none,0,rfl,cy,λh=>absurd rfl h,ab⟩
  ·cases h;exact⟨m,Step.refl ..,bc,aM⟩
 ·cases h;exact⟨m,Step.refl ..,bc,aM⟩
theorem BF:∀{l:List fa} {vs fO:List V} {us:List Value} {m:M} {σ a8:bF},pY l vs σ=some (fO,a8)->bt m σ w->cv (dW m) vs us->∃m',Step m σ w m' a8 w/\bt m' a8 w/\cv (dW m') fO us
 |[],vs,fO,us,m,σ,a8,h,bc,aM=>by
  have h:some (vs,σ)=some (fO,a8):=by cases vs<;>exact h
  cases h;exact⟨m,Step.refl ..,bc,aM⟩
 |s::l,[],fO,us,m,σ,a8,h,bc,aM=>by cases h;exact⟨m,Step.refl ..,bc,aM⟩
 |s::l,v::vs,fO,us,m,σ,a8,h,bc,aM=>by
  rw[pY] at h;split at h
  ·rename_i y bT;split at h
   ·rename_i z ax;cases h
    match us,aM with
    |u::us,⟨aa,ae⟩=>
     obtain⟨gn,s1,bq,cN⟩:=alg bT bc aa;obtain⟨dg,s2,bE,dq⟩:=BF ax bq (ae.imp λ_ _=>dW.ext s1.ix.ext);exact⟨dg,s1.trans bc s2,bE,cN.ext s2.ix.ext,dq⟩
   ·cases h
  ·cases h
theorem bt.aHw {i r:Nat} {cs l:List C} {cur:Array Value} {ty:TypeId} {bQ:Nat×Nat} (h:bt m σ w) (aj:σ.heap.get i=some (.box cs)) (aJ:m.pl i=some r) (hw:w.heap[r]? =some (.cells cur ty bQ)) (aM:cv (cT m) l cur.toList):
 bt m ⟨σ.heap.put i (some (.box l)),σ.next⟩ w/\Step m σ w m ⟨σ.heap.put i (some (.box l)),σ.next⟩ w:=by
 have Cd:=h.live i _ aj;rcases Cd with g|⟨lY,g5,iS,jh,aa,ae,az,a9,cE,dm,er⟩
 ·rw[aJ] at g;cases g
 rw[aJ] at aa;cases aa;rw[hw] at ae;cases ae;have key:=h.change (m':=m) (w':=w) (a8:=⟨σ.heap.put i (some (.box l)),σ.next⟩) (λj=>j=i) (Ext.refl m) ⟨rfl,rfl,rfl⟩ (Nat.le_refl _) (λj au=> ?_) (λj b au ai=> ?_) (λj au=>⟨bx.T.eB _ _ au,rfl,rfl⟩)
  (λb ai aV=>⟨rfl,rfl,rfl⟩) (λj k _ _ _ au aP _ _ _ _=>au.trans aP.symm) (λj x R au _ e7=>.inr (.inl ⟨i,_,rfl,aj,au▸e7⟩)) h.own (λb R k aa ae=>absurd aa ae) h.stay
 ·refine⟨key.1,js.refl _ m,key.2,Nat.le_refl _,λj k5 au bw=>DK aj (.inr (by rw[aJ];simp)) au bw _⟩
 ·obtain⟨aF,aQ,bn,cy⟩:=h.fresh j au;refine⟨aF,aQ,bn, ?_⟩;rw[bx.T.kF];split
  ·subst_vars;rw[aF] at aJ;cases aJ
  ·exact cy
 ·subst au;simp only[bx.T.hN] at ai;cases ai;have hlen:=aM.length;rw[Array.length_toList] at hlen;refine .inr ⟨r,cur,ty,bQ,aJ,hw,az,hlen.symm,λk c aq=> ?_,dm,er⟩;obtain⟨v,bq,bE⟩:=aM.get aq;exact⟨v,by simpa using bq,bE⟩
def CY (i:Nat) (ia:List fa) (σ:bF):Option bF:=match σ.heap.get i with
 |some (.box cs)=>match pY ia (cs.map λc=>.p (.c c)) σ with
  |some z=>match z.2.heap.get i with
   |some (.box _)=>some ⟨z.2.heap.put i (some (.box (z.1.map vw))),z.2.next⟩
   |_=>none
  |none=>none
 |_=>none
theorem aiC:∀{vs:List V} {us:List Value},(∀v∈vs,∃c,v=.p (.c c))->cv (dW m) vs us->cv (cT m) (vs.map vw) us
 |[],[],_,_=>trivial
 |v::vs,u::us,bw,⟨aa,ae⟩=>by
  refine⟨?_,aiC (λv aM=>bw v (List.mem_cons_of_mem _ aM)) ae⟩;obtain⟨c,rfl⟩:=bw v mw;exact aa
theorem ald {s:fa} {c:C} {d_:V} (h:qs s (.p (.c c)) σ=some (d_,a8)):∃c',d_=.p (.c c'):=by
 cases s with
 |leaf l=>
  simp only[qs] at h;split at h
  ·cases h;exact⟨_,rfl⟩
  ·cases h
 |tok t k nl=>
  simp only[qs] at h;split at h
  ·cases h;exact⟨_,rfl⟩
  ·cases h;exact⟨_,rfl⟩
 |arr k t a4=>
  simp only[qs] at h;split at h
  ·cases h;exact⟨_,rfl⟩
  ·cases h;exact⟨_,rfl⟩
 |_=>cases h;exact⟨_,rfl⟩
theorem W3:∀{l:List fa} {vs fO:List V} {σ a8:bF},pY l vs σ=some (fO,a8)->(∀v∈vs,∃c,v=.p (.c c))->∀v∈fO,∃c,v=.p (.c c)
 |[],vs,fO,σ,a8,h,bw=>by
  have h:some (vs,σ)=some (fO,a8):=by cases vs<;>exact h
  cases h;exact bw
 |s::l,[],fO,σ,a8,h,bw=>by cases h;exact bw
 |s::l,v::vs,fO,σ,a8,h,bw=>by
  rw[pY] at h;split at h
  ·rename_i y bT;split at h
   ·rename_i z ax;cases h;intro d_ rX;obtain⟨c,rfl⟩:=bw v mw;rcases List.mem_cons.1 rX with rfl|rX
    ·exact ald bT
    ·exact W3 ax (λv aM=>bw v (List.mem_cons_of_mem _ aM)) d_ rX
   ·cases h
  ·cases h
theorem aaU {i r:Nat} {ia:List fa} (h:CY i ia σ=some a8) (bc:bt m σ w) (aJ:m.pl i=some r):∃m',Step m σ w m' a8 w/\bt m' a8 w:=by
 unfold CY at h;split at h
 ·rename_i cs aj;split at h
  ·rename_i z ax;split at h
   ·rename_i aI6 P8;cases h;rcases bc.live i _ aj with g|⟨lY,cur,ty,bQ,aa,ae,az,a9,cE,dm,er⟩
    ·rw[aJ] at g;cases g
    rw[aJ] at aa;cases aa;have kH:∀{cs:List C} {vs:List Value},vs.length=cs.length->(∀(j:Nat) c,cs[j]? =some c->∃v,vs[j]? =some v/\cT m c v)->cv (dW m) (cs.map λc=>.p (.c c)) vs:=by
     intro cs;induction cs with
     |nil=>intro vs a3 _;match vs,a3 with|[],_=>trivial
     |cons c cs b_=>
      intro vs a3 aq
      match vs,a3 with
      |v::vs,a3=>
       obtain⟨d_,bq,bE⟩:=aq 0 c rfl;simp at bq;subst bq;exact⟨bE,b_ (by simpa using a3) λj c au=>by
        obtain⟨d_,bq,bE⟩:=aq (j+1) c (by simpa using au);exact⟨d_,by simpa using bq,bE⟩⟩
    have nk:=kH (cs:=cs) (vs:=cur.toList) (by rw[Array.length_toList];exact a9) λj c au=>by
     obtain⟨v,bq,bE⟩:=cE j c au;exact⟨v,by simpa using bq,bE⟩
    obtain⟨gn,s1,bq,cN⟩:=BF ax bc nk;have v9:gn.pl i=some r:=s1.ix.ext.pl i r aJ;have al6:=aiC (W3 ax λv aM=>by
     obtain⟨c,_,rfl⟩:=List.mem_map.1 aM;exact⟨c,rfl⟩) cN
    obtain⟨cm,cF⟩:=bq.aHw P8 v9 ae al6;exact⟨gn,s1.trans bc cF,cm⟩
   ·cases h
  ·cases h
 ·cases h
def yu (iW iw:List fC):List Nat->bF->Option bF
 |[],σ=>some σ
 |j::l,σ=>match iW[j]? with
  |some (.box _)=>match iw[j]? with
   |some (.box ia)=>match CY j ia σ with
    |some a8=>yu iW iw l a8
    |none=>none
   |_=>yu iW iw l σ
  |_=>yu iW iw l σ
theorem CZ {iW iw:List fC}:∀{l:List Nat} {m:M} {σ a8:bF},yu iW iw l σ=some a8->bt m σ w->ry iW m->∃m',Step m σ w m' a8 w/\bt m' a8 w
 |[],m,σ,a8,h,bc,bw=>by
  have h:some σ=some a8:=h;cases h;exact⟨m,Step.refl ..,bc⟩
 |j::l,m,σ,a8,h,bc,bw=>by
  unfold yu at h;split at h
  ·rename_i an9 au;split at h
   ·split at h
    ·rename_i j5 aU;cases aJ:m.pl j with
     |none=>exact absurd aJ (bw j an9 au)
     |some r=>
      obtain⟨gn,s1,bq⟩:=aaU aU bc aJ;obtain⟨dg,s2,bE⟩:=CZ h bq λi ia aj=>by
       have:=bw i ia aj;cases ay:m.pl i with
       |none=>exact absurd ay this
       |some r=>rw[s1.ix.ext.pl i r ay];simp
      exact⟨dg,s1.trans bc s2,bE⟩
    ·cases h
   ·exact CZ h bc bw
  ·exact CZ h bc bw
theorem ry.ext {iw:List fC} {m m':M} (h:ry iw m) (e:Ext m m'):ry iw m':=λj ia au=>by
 have:=h j ia au;cases ay:m.pl j with
 |none=>exact absurd ay this
 |some r=>rw[e.pl j r ay];simp
end
inductive lq
  |normal
  |exit (i:Nat)
  |ret
def PB:lq->lq->Bool
 |.normal,.normal=>true
 |.exit i,.exit j=>Nat.beq i j
 |.ret,.ret=>true
 |_,_=>false
theorem WK:∀{a b:lq},PB a b=true->a=b
 |.normal,.normal,_=>rfl
 |.exit i,.exit j,h=>by rw[gq h]
 |.ret,.ret,_=>rfl
 |.normal,.exit _,h=>by cases h
 |.normal,.ret,h=>by cases h
 |.exit _,.normal,h=>by cases h
 |.exit _,.ret,h=>by cases h
 |.ret,.normal,h=>by cases h
 |.ret,.exit _,h=>by cases h
def xf:lq->Exit
 |.normal=>.normal
 |.exit i=>.exit i
 |.ret=>.ret
abbrev bB:=List (lq×aw)
@[reducible] def bA:bB->Type
 |[]=>Empty
 |[p]=>U p.2
 |p::q::l=>U p.2⊕bA (q::l)
def Oe (l:List (Nat×fa)) (F:Fr):List V:=List.rec (motive:=λ_=>List V) [] (λs _ b_=>gE F s.1::b_) l
def R3 (l:List (Nat×fa)):List V->Fr->Fr:=List.rec (motive:=λ_=>List V->Fr->Fr) (λ_ F=>F) (λs _ b_ vs F=>match vs with
 |v::vs=>qL (b_ vs F) s.1 v
 |[]=>b_ [] F) l
def vP (wr:List Nat):Fr->Fr
 |[]=>[]
 |x::l=>match uR x.1 wr with
  |true=>vP wr l
  |false=>x::vP wr l
def BB (p:aw) (iW:List fC) (F:Fr) (σ:bF):Option (U p):=match pY p.kinds (Oe p.pz F) σ with
 |some z=>match yu iW p.blocks (nz 0 iW.length) z.2 with
  |some a8=>BC p iW.length z.1 a8
  |none=>none
 |none=>none
def sM (iW:List fC) (e:lq) (F:Fr) (σ:bF):(l:bB)->Option (bA l)
 |[]=>none
 |[p]=>match PB p.1 e with
  |true=>BB p.2 iW F σ
  |false=>none
 |p::q::l=>match PB p.1 e with
  |true=>match BB p.2 iW F σ with
   |some y=>some (.inl y)
   |none=>none
  |false=>match sM iW e F σ (q::l) with
   |some y=>some (.inr y)
   |none=>none
def IM (F:Fr) (σ:bF) (ids wr:List Nat) (p:lq×aw) (y:U p.2):Q (lq×Fr×bF):=match zc σ ids p.2.blocks with
 |true=>.ret (p.1,R3 p.2.pz (DD σ ids p.2 y) (vP wr F),vh σ ids p.2 y)
 |false=>.fail
def QT (F:Fr) (σ:bF) (ids wr:List Nat):(l:bB)->bA l->Q (lq×Fr×bF)
 |[],_=>.fail
 |[p],y=>IM F σ ids wr p y
 |p::q::l,y=>.alt y (λy=>IM F σ ids wr p y) λy=>QT F σ ids wr (q::l) y
def zQ (p:aw) (x:U p):Fr:=R3 p.pz (IA p x) []
section
variable{w eM:World} {m dg:M} {σ j5 e5:bF} {F yX:Fr} {a dc:Go.Act} {n:Nat}
theorem Of (a5:dr m n F a):∀(l:List (Nat×fa)),cv (dW m) (Oe l F) (l.map λs=>a.tmps.getD s.1 undef)
 |[]=>trivial
 |s::l=>⟨a5.slot s.1,Of a5 l⟩
theorem Kt:∀{l:List (Nat×fa)} {vs:List V} {F:Fr},cv (dW m) vs (l.map λs=>a.tmps.getD s.1 undef)->dr m n F a->dr m n (R3 l vs F) a
 |[],vs,F,_,a5=>a5
 |s::l,[],F,h,_=>h.elim
 |s::l,v::vs,F,⟨aa,ae⟩,a5=>(Kt ae a5).qb aa
theorem Wv (wr:List Nat) (t:Nat):∀(F:Fr),gE (vP wr F) t=if t∈wr then .any else gE F t
 |[]=>by
  show V.any=_;split<;>rfl
 |x::F=>by
  rw[vP];have b_:=Wv wr t F;have aV:gE (x::F) t=if t=x.1 then x.2 else gE F t:=uQ F x.1 t x.2
  cases ai:uR x.1 wr with
  |true=>
   simp only
   rw[b_,aV];have:=(xu _ _).1 ai;by_cases bH:t=x.1
   ·subst bH;rw[if_pos this,if_pos this]
   ·rw[if_neg bH]
  |false=>
   simp only
   have aA:x.1∉wr:=λh=>by rw[(xu _ _).2 h] at ai;cases ai
   rw[show gE (x::vP wr F) t=if t=x.1 then x.2 else gE (vP wr F) t from uQ _ x.1 t x.2,b_,aV];by_cases bH:t=x.1
   ·subst bH;rw[if_pos rfl,if_neg aA,if_pos rfl]
   ·rw[if_neg bH,if_neg bH]
theorem aku {wr:List Nat} (a5:dr m n F a) (aU:iq wr a dc) (ax:a.tmps.size<=dc.tmps.size\/n<=dc.tmps.size) (bb:dc.defers=[]) (e:Ext m dg):dr dg n (vP wr F) dc:=by
 refine⟨?_,bb,λt=> ?_⟩
 ·have:=a5.size;rcases ax with h|h<;>omega
 ·rw[Wv];split
  ·trivial
  ·rename_i bH;rw[aU t bH];exact(a5.slot t).ext e
theorem akP {p:aw} {iW:List fC} {y:U p} (h:BB p iW yX e5=some y) (a5:dr dg n yX dc) (bc:bt dg e5 eM) (bw:ry iW dg):
 ∃vs m' a8,BC p iW.length vs a8=some y/\Step dg e5 eM m' a8 eM/\bt m' a8 eM/\cv (dW m') vs (p.pz.map λs=>dc.tmps.getD s.1 undef):=by
 unfold BB at h;split at h
 ·rename_i z ax;split at h
  ·rename_i a8 aU;obtain⟨m',s1,bq,cN⟩:=BF ax bc (Of a5 p.pz);obtain⟨gn,s2,bE⟩:=CZ aU bq (bw.ext s1.ix.ext);exact⟨z.1,gn,a8,h,s1.trans bc s2,bE,cN.imp λ_ _=>dW.ext s2.ix.ext⟩
  ·cases h
 ·cases h
structure G5 (m:M) (σ:bF) (ids:List Nat) (j5:bF):Prop where
  vb:ids.Nodup
  low:∀i∈ids,i<σ.next
  vN:∀i∈ids,∀cs,σ.heap.get i=some (.box cs)->m.pl i≠none
  dY:j5.next=ids.length
  iw:∀j cR,j5.heap.get j=some cR->∃i b,ids[j]? =some i/\σ.heap.get i=some b
def wQ (k:Nat) (e:lq) (m:M) (σ:bF) (a:Go.Act):(l:bB)->bA l->Prop
 |[],_=>False
 |[p],y=>p.1=e/\pH p.2 k y m σ (p.2.pz.map λs=>a.tmps.getD s.1 undef)
 |p::q::l,y=>match y with
  |.inl y=>p.1=e/\pH p.2 k y m σ (p.2.pz.map λs=>a.tmps.getD s.1 undef)
  |.inr y=>wQ k e m σ a (q::l) y
theorem WR {p:aw} {iW:List fC} {y:U p} (h:BB p iW yX e5=some y) (a5:dr dg n yX dc) (bc:bt dg e5 eM) (bw:ry iW dg):
 ∃m' a8,Step dg e5 eM m' a8 eM/\bt m' a8 eM/\pH p iW.length y m' a8 (p.pz.map λs=>dc.tmps.getD s.1 undef):=by
 obtain⟨vs,m',a8,bq,bE,c8,ei⟩:=akP h a5 bc bw;exact⟨m',a8,bE,c8,PD c8 bq ei⟩
theorem Py (a5:dr dg n yX dc) (bc:bt dg e5 eM) {iW:List fC} (bw:ry iW dg) {e:lq}:∀{l:bB} {y:bA l},sM iW e yX e5 l=some y->∃m' a8,Step dg e5 eM m' a8 eM/\bt m' a8 eM/\wQ iW.length e m' a8 dc l y
 |[],y,h=>by cases h
 |[p],y,h=>by
  rw[sM] at h;split at h
  ·rename_i aV;obtain⟨m',a8,aa,ae,az⟩:=WR h a5 bc bw;exact⟨m',a8,aa,ae,WK aV,az⟩
  ·cases h
 |p::q::l,y,h=>by
  rw[sM] at h;split at h
  ·rename_i aV;split at h
   ·rename_i aB bT;cases h;obtain⟨m',a8,aa,ae,az⟩:=WR bT a5 bc bw;exact⟨m',a8,aa,ae,WK aV,az⟩
   ·cases h
  ·split at h
   ·rename_i aB bT;cases h;exact Py a5 bc bw (l:=q::l) bT
   ·cases h
theorem Y' {ids wr:List Nat} {p:lq×aw} {y:U p.2} {z:lq×Fr×bF} (a5:dr m n F a) (bc:bt m σ w) (he:G5 m σ ids j5) (st:Step (m.sub σ ids) j5 w dg e5 eM) (fh:n<=dc.tmps.size) (BZ:dc.defers=[]) (xo:bt dg e5 eM) (aU:iq wr a dc)
 (aa:pH p.2 ids.length y dg e5 (p.2.pz.map λs=>dc.tmps.getD s.1 undef)) (h:cI (IM F σ ids wr p y) z):z.1=p.1/\∃fi,Step m σ w fi z.2.2 eM/\bt fi z.2.2 eM/\dr fi n z.2.1 dc:=by
 unfold IM at h;split at h
 ·rename_i bW;obtain rfl:=h.eA;obtain⟨fi,aF,aQ,bn⟩:=IN bc he.vb he.low he.vN he.dY he.iw xo st aa bW;exact⟨rfl,fi,aQ,aF,Kt bn (aku a5 aU (.inr fh) BZ aQ.ix.ext)⟩
 ·exact h.b7.elim
theorem Za {ids wr:List Nat} (a5:dr m n F a) (bc:bt m σ w) (he:G5 m σ ids j5) (st:Step (m.sub σ ids) j5 w dg e5 eM) (fh:n<=dc.tmps.size) (BZ:dc.defers=[]) (xo:bt dg e5 eM) (aU:iq wr a dc) {e:lq}:∀{l:bB} {y:bA l} {z:lq×Fr×bF},
 wQ ids.length e dg e5 dc l y->cI (QT F σ ids wr l y) z->z.1=e/\∃fi,Step m σ w fi z.2.2 eM/\bt fi z.2.2 eM/\dr fi n z.2.1 dc
 |[],y,z,h,aJ=>h.elim
 |[p],y,z,h,aJ=>by
  have:=Y' a5 bc he st fh BZ xo aU h.2 aJ;rw[h.1] at this;exact this
 |p::q::l,y,z,h,aJ=>by
  rcases aJ.ac4 with⟨l2,aa,ae⟩|⟨l2,aa,ae⟩
  ·subst aa;have h:p.1=e/\pH p.2 ids.length l2 dg e5 _:=h;have:=Y' a5 bc he st fh BZ xo aU h.2 ae;rw[h.1] at this;exact this
  ·subst aa;exact Za a5 bc he st fh BZ xo aU (l:=q::l) h ae
end
section
variable{w:World} {m:M} {σ a8:bF}
def GV (s:fa):fa:=match s with
 |.tok t k nl=>.tok t k nl
 |.arr k t a4=>.arr k t a4
 |_=>.Jn
def Js (i:Nat) (ia:List fa) (σ:bF):Option bF:=CY i (ia.map GV) σ
theorem aqX {i r:Nat} {ia:List fa} (h:Js i ia σ=some a8) (bc:bt m σ w) (aJ:m.pl i=some r):∃m',Step m σ w m' a8 w/\bt m' a8 w:=aaU h bc aJ
theorem alh {s:fa} {v d_:V} (h:qs (GV s) v σ=some (d_,a8)):σ.next<=a8.next/\∀i,i<σ.next->a8.heap.get i=σ.heap.get i:=by
 have refl:σ.next<=σ.next/\∀i,i<σ.next->σ.heap.get i=σ.heap.get i:=⟨Nat.le_refl _,λ_ _=>rfl⟩;cases s with
 |tok t k nl=>
  simp only[GV,qs] at h;split at h
  ·cases h;exact⟨Nat.le_succ _,λi aj=>bx.T.eB _ _ ab⟩
  ·cases h;exact refl
 |arr k t a4=>
  simp only[GV,qs] at h;split at h
  ·cases h;exact⟨Nat.le_succ _,λi aj=>bx.T.eB _ _ ab⟩
  ·cases h;exact refl
 |_=>cases h;exact refl
theorem W6:∀{l:List fa} {vs fO:List V} {σ a8:bF},pY (l.map GV) vs σ=some (fO,a8)->σ.next<=a8.next/\∀i,i<σ.next->a8.heap.get i=σ.heap.get i
 |[],vs,fO,σ,a8,h=>by
  have h:some (vs,σ)=some (fO,a8):=by cases vs<;>exact h
  cases h;exact⟨Nat.le_refl _,λ_ _=>rfl⟩
 |s::l,[],fO,σ,a8,h=>by cases h;exact⟨Nat.le_refl _,λ_ _=>rfl⟩
 |s::l,v::vs,fO,σ,a8,h=>by
  rw[List.map_cons,pY] at h;split at h
  ·rename_i y bT;split at h
   ·rename_i z ax;cases h;obtain⟨dE,dc⟩:=alh bT;obtain⟨cR,fg⟩:=W6 ax;exact⟨ij dE cR,λi aj=>(fg i (Nat.lt_of_lt_of_le aj dE)).trans (dc i aj)⟩
   ·cases h
  ·cases h
theorem aqW {i:Nat} {ia:List fa} (h:Js i ia σ=some a8):σ.next<=a8.next/\∀j,j<σ.next->j≠i->a8.heap.get j=σ.heap.get j:=by
 unfold Js CY at h;split at h
 ·split at h
  ·rename_i z ax;split at h
   ·cases h;obtain⟨dE,dc⟩:=W6 ax;exact⟨dE,λj au eD=>(bx.T.eB _ _ eD).trans (dc j au)⟩
   ·cases h
  ·cases h
 ·cases h
def uf (iw:List fC):List fa->List V->bF->Option bF
 |s::l,v::vs,σ=>match s with
  |.ptr k _=>match v with
   |.p (.c (.ptr (some y)))=>match iw[k]? with
    |some (.box cs)=>match Js y.1 cs σ with
     |some a8=>uf iw l vs a8
     |none=>none
    |_=>uf iw l vs σ
   |_=>uf iw l vs σ
  |_=>uf iw l vs σ
 |_,_,σ=>some σ
def vc (p:aw) (vs:List V) (σ:bF):Option (List V×bF):=match pY p.kinds vs σ with
 |some z=>match uf p.blocks p.kinds z.1 z.2 with
  |some a8=>some (z.1,a8)
  |none=>none
 |none=>none
theorem C0 {iw:List fC}:∀{l:List fa} {vs:List V} {us:List Value} {m:M} {σ a8:bF},uf iw l vs σ=some a8->bt m σ w->cv (dW m) vs us->∃m',Step m σ w m' a8 w/\bt m' a8 w
 |[],vs,us,m,σ,a8,h,bc,aM=>by
  have h:some σ=some a8:=by cases vs<;>exact h
  cases h;exact⟨m,Step.refl ..,bc⟩
 |s::l,[],us,m,σ,a8,h,bc,aM=>by cases h;exact⟨m,Step.refl ..,bc⟩
 |s::l,v::vs,us,m,σ,a8,h,bc,aM=>by
  match us,aM with
  |u::us,⟨aa,ae⟩=>
   cases s with
   |ptr k o=>
    simp only[uf] at h;split at h
    ·split at h
     ·split at h
      ·rename_i j5 aU;obtain⟨r,aJ,_⟩:=aa;obtain⟨gn,s1,bq⟩:=aqX aU bc aJ;obtain⟨dg,s2,bE⟩:=C0 h bq (ae.imp λ_ _=>dW.ext s1.ix.ext);exact⟨dg,s1.trans bc s2,bE⟩
      ·cases h
     ·exact C0 h bc ae
    ·exact C0 h bc ae
   |_=>exact C0 (l:=l) (vs:=vs) h bc ae
theorem Jr {p:aw} {vs fO:List V} {us:List Value} (h:vc p vs σ=some (fO,a8)) (bc:bt m σ w) (aM:cv (dW m) vs us):∃m',Step m σ w m' a8 w/\bt m' a8 w/\cv (dW m') fO us:=by
 unfold vc at h;split at h
 ·rename_i z ax;split at h
  ·rename_i j5 aU;cases h;obtain⟨gn,s1,bq,cN⟩:=BF ax bc aM;obtain⟨dg,s2,bE⟩:=C0 aU bq cN;exact⟨dg,s1.trans bc s2,bE,cN.imp λ_ _=>dW.ext s2.ix.ext⟩
  ·cases h
 ·cases h
end
structure LE where
  du:aw
  outs:bB
  g:U du->Option (bA outs)
inductive m7
  |one
  |seq (a b:m7)
  |two (a b:m7)
  |sub (a:m7)
  |loop (e:LE)
  |cut (du:aw) (outs:bB) (a:m7)
def Ou (l:List Oper):List Nat:=l.flatMap λo=>o.dst.toList
def oO:Code->List Nat
 |.region _ ops _=>Ou ops.toList
 |.seq a b=>oO a++oO b
 |.cond _ a b=>oO a++oO b
 |.block _ a=>oO a
 |.loop a=>oO a
 |_=>[]
def HF (du:aw) (outs:bB) (wr:List Nat) (g:U du->Option (bA outs)) (F:Fr) (σ:bF):Q (lq×Fr×bF):=match vc du (Oe du.pz F) σ with
 |some z=>match xe du z.1 z.2 with
  |some x=>.bind (g x.1) λy=>QT F z.2 x.2 wr outs y
  |none=>.fail
 |none=>.fail
def Ue (E:Env) (call:kM) (n:Nat) (ops:Array Oper) (qq:Bool) (F:Fr) (σ:bF):Q (Fr×bF):=match qq with
 |false=>steps E call n ops ops.toList F σ
 |true=>match Ac .nil 0 ops.toList with
  |some l=>drawn E call n ops l F σ
  |none=>.fail
def pS (E:Env) (call:kM) (n:Nat):m7->Code->Fr->bF->Q (lq×Fr×bF)
 |.one,c,F,σ=>match c with
  |.skip=>.ret (.normal,F,σ)
  |.region _ ops qq=>(Ue E call n ops qq F σ).kY λy=>.ret (.normal,y.1,y.2)
  |.exit i=>.ret (.exit i,F,σ)
  |.ret=>.ret (.ret,F,σ)
  |_=>.fail
 |.seq a b,c,F,σ=>match c with
  |.seq cN dq=>(pS E call n a cN F σ).kY λy=>match y.1 with
   |.normal=>pS E call n b dq y.2.1 y.2.2
   |_=>.ret y
  |_=>.fail
 |.two a b,c,F,σ=>match c with
  |.cond x cN dq=>match i_ x F with
   |.p (.c (.bool v))=>.ite v (pS E call n a cN F σ) (pS E call n b dq F σ)
   |_=>.fail
  |_=>.fail
 |.sub a,c,F,σ=>match c with
  |.block id p=>(pS E call n a p F σ).kY λy=>match y.1 with
   |.exit i=>match Nat.beq i id with
    |true=>.ret (.normal,y.2)
    |false=>.ret y
   |_=>.ret y
  |_=>.fail
 |.loop e,c,F,σ=>match c with
  |.loop p=>HF e.du e.outs (oO p) e.g F σ
  |_=>.fail
 |.cut du outs a,c,F,σ=>HF du outs (oO c) (λx=>((pS E call n a c (zQ du x) (pg du x)).kY λy=>.ret (sM du.blocks y.1 y.2.1 y.2.2 outs)).opt) F σ
def y6 (aS:Program) (n:Nat) (c:Code) (wr:List Nat) (du:aw) (outs:bB) (g:U du->Option (bA outs)):Prop:=∀x y,g x=some y->∀m w a,dr m n (zQ du x) a->bt m (pg du x) w->ry du.blocks m->∀Q:Exit->Go.Act->World->Prop,(∀ex e5 m' cY w',wQ du.blocks.length ex m' e5 cY outs y->Step m (pg du x) w m' e5 w'->n<=cY.tmps.size->cY.defers=[]->bt m' e5 w'->iq wr a cY->Q (xf ex) cY w')->c.wp aS Q a w
def n4 (aS:Program) (E:Env) (n:Nat):m7->Code->Prop
 |.one,c=>match c with
  |.region _ ops qq=>qq=true->GH E ops=true
  |_=>True
 |.seq a b,c=>match c with
  |.seq cN dq=>n4 aS E n a cN/\n4 aS E n b dq
  |_=>True
 |.two a b,c=>match c with
  |.cond x cN dq=>n4 aS E n a cN/\n4 aS E n b dq
  |_=>True
 |.sub a,c=>match c with
  |.block id p=>n4 aS E n a p
  |_=>True
 |.loop e,c=>match c with
  |.loop p=>y6 aS n (.loop p) (oO p) e.du e.outs e.g
  |_=>True
 |.cut du outs a,c=>n4 aS E n a c
section
variable{aS:Program} {E:Env} {call:kM} {n:Nat}
theorem WJ {c:Code} {wr:List Nat} {du:aw} {outs:bB} {g:U du->Option (bA outs)} (bZ:y6 aS n c wr du outs g) {m:M} {σ:bF} {F:Fr} {a:Go.Act} {w:World} {y:lq×Fr×bF} (a5:dr m n F a) (bc:bt m σ w)
 (h:cI (HF du outs wr g F σ) y) {Q:Exit->Go.Act->World->Prop} (fc:∀m' cY w',Step m σ w m' y.2.2 w'->dr m' n y.2.1 cY->bt m' y.2.2 w'->iq wr a cY->Q (xf y.1) cY w'):c.wp aS Q a w:=by
 unfold HF at h;split at h
 ·rename_i z ax;split at h
  ·rename_i x aV;obtain⟨aB,aa,ae⟩:=h.mG;obtain⟨gn,s1,bq,cN⟩:=Jr ax bc (Of a5 du.pz);obtain⟨aE,aX,bL,cM,dX,dh,fD,dG⟩:=HE (x:=x.1) (ids:=x.2) aV bq cN;have jY:dr (gn.sub z.2 x.2) n (zQ du x.1) a:=Kt fD ⟨a5.size,a5.defers,λt=>trivial⟩;refine bZ x.1 aB aa _ w a jY dh dG Q λex e5 dg cY w' cm cF dy lX e8 ki=> ?_;have he:G5 gn z.2 x.2 (pg du x.1):=⟨aX,bL,cM,by rw[aE];rfl,dX⟩;obtain⟨gW,fi,fU,jo,mm⟩:=Za (a5.ext s1.ix.ext) bq he cF dy lX e8 ki (by rw[aE];exact cm) ae;have:=fc fi cY w' (s1.trans bc fU) mm jo ki;rw[gW] at this;exact this
  ·exact h.b7.elim
 ·exact h.b7.elim
theorem aiV {ops:List Oper} {o:Oper} {t:Nat} (bR:o∈ops) (bb:o.dst=some t):t∈Ou ops:=List.mem_flatMap.2 ⟨o,bR,by rw[bb];simp⟩
theorem aHx (pb:aS.follows .mixedOrders=true) (jV:tq aS E) (iP:ru aS call) {id:Nat} {ops:Array Oper} {qq:Bool} (zL:qq=true->GH E ops=true) {m:M} {σ:bF} {F:Fr} {a:Go.Act} {w:World} {y:Fr×bF} (a5:dr m n F a) (bc:bt m σ w)
 (h:cI (Ue E call n ops qq F σ) y) {Q:Exit->Go.Act->World->Prop} (fc:∀m' cY w',Step m σ w m' y.2 w'->dr m' n y.1 cY->bt m' y.2 w'->iq (Ou ops.toList) a cY->Q .normal cY w'):(Code.region id ops qq).wp aS Q a w:=by
 unfold Ue at h;cases qq with
 |false=>
  refine wp_region ?_;have:=ait (ds:=Ou ops.toList) jV iP (Q:=Q) ops.toList 0 (by simp) (λo bR t bb=>aiV bR bb) a5 bc h fc
  rwa [Array.length_toList,<-List.range_eq_range'] at this
 |true=>
  simp only at h;split at h
  ·rename_i l a3;exact akt pb jV iP (zL rfl) a3 (λi o t bR bb=>aiV (List.mem_of_getElem? (by rw[Array.getElem?_toList];exact bR)) bb) a5 bc h fc
  ·exact h.b7.elim
theorem uM (pb:aS.follows .mixedOrders=true) (jV:tq aS E) (iP:ru aS call):∀(hU:m7) (c:Code),n4 aS E n hU c->∀{m:M} {σ:bF} {F:Fr} {a:Go.Act} {w:World} {y:lq×Fr×bF} {Q:Exit->Go.Act->World->Prop},dr m n F a->bt m σ w->
 cI (pS E call n hU c F σ) y->(∀m' cY w',Step m σ w m' y.2.2 w'->dr m' n y.2.1 cY->bt m' y.2.2 w'->iq (oO c) a cY->Q (xf y.1) cY w')->c.wp aS Q a w
 |.one,c,iQ,m,σ,F,a,w,y,Q,a5,bc,h,fc=>by
  unfold pS at h;cases c with
  |skip=>obtain rfl:=h.eA;exact wp_skip (fc m a w (Step.refl ..) a5 bc (iq.refl _ _))
  |region id ops qq=>
   obtain⟨aB,aa,ae⟩:=h.lf;obtain rfl:=ae.eA;exact aHx pb jV iP iQ a5 bc aa fc
  |exit i=>obtain rfl:=h.eA;exact wp_exit (fc m a w (Step.refl ..) a5 bc (iq.refl _ _))
  |ret=>obtain rfl:=h.eA;exact wp_ret (fc m a w (Step.refl ..) a5 bc (iq.refl _ _))
  |_=>exact h.b7.elim
 |.seq hU O6,c,iQ,m,σ,F,a,w,y,Q,a5,bc,h,fc=>by
  unfold pS at h;cases c with
  |seq cN dq=>
   obtain⟨aB,aa,ae⟩:=h.lf;refine wp_seq (uM pb jV iP hU cN iQ.1 a5 bc aa λm' cY w' e pZ qX aU=> ?_);have Yn:iq (oO (.seq cN dq)) a cY:=aU.mono λt bH=>List.mem_append_left _ bH;split at ae
   ·rename_i aA;rw[aA];exact uM pb jV iP O6 dq iQ.2 pZ qX ae λlF y8 qh e' aa ae pc=>fc lF y8 qh (e.trans bc e') aa ae (Yn.trans (pc.mono λt bH=>List.mem_append_right _ bH))
   ·rename_i aA;obtain rfl:=ae.eA;have:=fc m' cY w' e pZ qX Yn;cases he:y.1 with
    |normal=>exact absurd he aA
    |exit i=>rw[he] at this;exact this
    |ret=>rw[he] at this;exact this
  |_=>exact h.b7.elim
 |.two hU O6,c,iQ,m,σ,F,a,w,y,Q,a5,bc,h,fc=>by
  unfold pS at h;cases c with
  |cond x cN dq=>
   simp only at h;split at h
   ·rename_i v aM;have aq:a.eval x=.bool v:=by have:=lg a5 x;rw[aM] at this;exact this
    rcases h.vg with⟨ai,h'⟩|⟨ai,h'⟩
    ·subst ai;exact wp_cond_true aq (uM pb jV iP hU cN iQ.1 a5 bc h' λm' cY w' e aa ae aU=>fc m' cY w' e aa ae (aU.mono λt bH=>List.mem_append_left _ bH))
    ·subst ai;exact wp_cond_false aq (uM pb jV iP O6 dq iQ.2 a5 bc h' λm' cY w' e aa ae aU=>fc m' cY w' e aa ae (aU.mono λt bH=>List.mem_append_right _ bH))
   ·exact h.b7.elim
  |_=>exact h.b7.elim
 |.sub hU,c,iQ,m,σ,F,a,w,y,Q,a5,bc,h,fc=>by
  unfold pS at h;cases c with
  |block id p=>
   obtain⟨aB,aa,ae⟩:=h.lf;refine wp_block (uM pb jV iP hU p iQ a5 bc aa λm' cY w' e pZ qX aU=> ?_);split at ae
   ·rename_i i aj;split at ae
    ·rename_i ai;obtain rfl:=ae.eA;have:=gq ai;subst this;rw[aj];simpa[xf,Exit.inBlock] using fc m' cY w' e pZ qX aU
    ·rename_i ai;obtain rfl:=ae.eA;have eD:i≠id:=λhe=>by subst he;rw[Nat.beq_refl] at ai;cases ai
     have:=fc m' cY w' e pZ qX aU;rw[aj] at this⊢;simpa[xf,Exit.inBlock,eD] using this
   ·rename_i aA;obtain rfl:=ae.eA;have:=fc m' cY w' e pZ qX aU;cases he:y.1 with
    |normal=>rw[he] at this;exact this
    |exit i=>exact absurd he (aA i)
    |ret=>rw[he] at this;exact this
  |_=>exact h.b7.elim
 |.loop e,c,iQ,m,σ,F,a,w,y,Q,a5,bc,h,fc=>by
  unfold pS at h;cases c with
  |loop p=>exact WJ iQ a5 bc h fc
  |_=>exact h.b7.elim
 |.cut du outs hU,c,iQ,m,σ,F,a,w,y,Q,a5,bc,h,fc=>by
  unfold pS at h;refine WJ (c:=c) (wr:=oO c) (λx aB bZ gn m6 dE alE Xi v9 aIX HZ=> ?_) a5 bc h fc;obtain⟨aG,aa,ae⟩:=cI.lf (cI.Ke bZ);have ae:=ae.eA;refine uM pb jV iP hU c iQ alE Xi aa λm' cY w' e aF aQ bn=> ?_;obtain⟨dg,e5,s1,s2,tf⟩:=Py aF aQ (v9.ext e.ix.ext) ae.symm;exact HZ aG.1 e5 dg cY w' tf (e.trans Xi s1) aF.size aF.defers s2 bn
end
section
variable{A B:Type} {h:A->Option (A⊕B)}
inductive Reach (h:A->Option (A⊕B)):A->B->Prop
  |done {x:A} {y:B}:h x=some (.inr y)->Reach h x y
  |more {x g9:A} {y:B}:h x=some (.inl g9)->Reach h g9 y->Reach h x y
theorem Reach.unique {x:A} {y l2:B} (r:Reach h x y) (lY:Reach h x l2):y=l2:=by
 induction r with
 |done aa=>
  cases lY with
  |done ae=>rw[aa] at ae;cases ae;rfl
  |more ae _=>rw[aa] at ae;cases ae
 |more aa _ b_=>
  cases lY with
  |done ae=>rw[aa] at ae;cases ae
  |more ae fU=>rw[aa] at ae;cases ae;exact b_ fU
open Classical in
def a_ (h:A->Option (A⊕B)) (x:A):Option B:=if aV:∃y,Reach h x y then some (Classical.choose aV) else none
theorem QX {x:A} {y:B} (r:Reach h x y):a_ h x=some y:=by
 have aV:∃y,Reach h x y:=⟨y,r⟩;unfold a_;rw[dif_pos aV];exact congrArg some ((Classical.choose_spec aV).unique r)
theorem Uc {x:A} {y:B} (e:a_ h x=some y):Reach h x y:=by
 unfold a_ at e;split at e
 ·rename_i aV;cases e;exact Classical.choose_spec aV
 ·cases e
theorem aon {x:A} {y:B} (e:h x=some (.inr y)):a_ h x=some y:=QX (.done e)
theorem aoo {x g9:A} (e:h x=some (.inl g9)):a_ h x=a_ h g9:=by
 cases bT:a_ h g9 with
 |some y=>exact QX (.more e (Uc bT))
 |none=>
  cases ax:a_ h x with
  |none=>rfl
  |some z=>
   have:=Uc ax;cases this with
   |done aX=>rw[e] at aX;cases aX
   |more aX r=>rw[e] at aX;cases aX;rw[QX r] at bT;cases bT
end
def QH (σ:bF) (ids:List Nat) (outs:bB):Bool:=outs.all λp=>zc σ ids p.2.blocks&&(nz 0 ids.length).all λj=> !live p.2.blocks j||(match ids[j]? with
 |some i=>Nat.beq i j
 |none=>false)
def aHL (E:Env) (call:kM) (n:Nat) (hU:m7) (c:Code) (du:aw) (outs:bB) (x:U du):Q (Option (U du⊕bA outs)):=(pS E call n hU c (zQ du x) (pg du x)).kY λy=>match y.1 with
 |.normal=>match vc du (Oe du.pz y.2.1) y.2.2 with
  |some z=>match xe du z.1 z.2 with
   |some g9=>match QH z.2 g9.2 outs with
    |true=>.ret (some (.inl g9.1))
    |false=>.fail
   |none=>.fail
  |none=>.fail
 |e=>.ret (match sM du.blocks e y.2.1 y.2.2 outs with
  |some y=>some (.inr y)
  |none=>none)
def Uk (E:Env) (call:kM) (n:Nat) (hU:m7) (c:Code) (du:aw) (outs:bB) (x:U du):Option (U du⊕bA outs):=(aHL E call n hU c du outs x).opt
section
variable{aS:Program} {E:Env} {call:kM} {n:Nat} {w eM:World} {m dg:M} {σ j5 e5:bF} {dc:Go.Act} {ids:List Nat}
theorem akm (bc:bt m σ w) (he:G5 m σ ids j5) (st:Step (m.sub σ ids) j5 w dg e5 eM) (xo:bt dg e5 eM) (rU:ids.length<=σ.next) {e:lq}:∀{l:bB} {y:bA l},QH σ ids l=true->wQ ids.length e dg e5 dc l y->
 ∃fi ll,Step m σ w fi ll eM/\bt fi ll eM/\wQ ids.length e fi ll dc l y:=by
 have one:∀{p:lq×aw} {y:U p.2},(zc σ ids p.2.blocks&&(nz 0 ids.length).all λj=> !live p.2.blocks j||(match ids[j]? with
  |some i=>Nat.beq i j
  |none=>false))=true->pH p.2 ids.length y dg e5 (p.2.pz.map λs=>dc.tmps.getD s.1 undef)->∃fi ll,Step m σ w fi ll eM/\bt fi ll eM/\pH p.2 ids.length y fi ll (p.2.pz.map λs=>dc.tmps.getD s.1 undef):=by
  intro p y aP aq;rw[gJ] at aP;obtain⟨fi,aF,aQ,bn⟩:=IN bc he.vb he.low he.vN he.dY he.iw xo st aq aP.1;refine⟨fi,_,aQ,aF,auK aq he.vb he.low bn rfl rU λj au bK=> ?_⟩;have:=List.all_eq_true.1 aP.2 j (Oq bK);rw[au] at this;simp only[Bool.not_true,Bool.false_or] at this;split at this
  ·rename_i i aj;rw[aj,gq this]
  ·cases this
 intro l;induction l with
 |nil=>intro y _ h;exact h.elim
 |cons p l b_=>
  intro y aP h;unfold QH at aP;rw[List.all_cons,gJ] at aP;cases l with
  |nil=>
   obtain⟨fi,ll,aF,aQ,bn⟩:=one aP.1 h.2;exact⟨fi,ll,aF,aQ,h.1,bn⟩
  |cons q l=>
   cases y with
   |inl y=>
    have h:p.1=e/\pH p.2 ids.length y dg e5 _:=h;obtain⟨fi,ll,aF,aQ,bn⟩:=one aP.1 h.2;exact⟨fi,ll,aF,aQ,h.1,bn⟩
   |inr y=>exact b_ (y:=y) aP.2 h
theorem Zj (pb:aS.follows .mixedOrders=true) (jV:tq aS E) (iP:ru aS call) {hU:m7} {p:Code} {du:aw} {outs:bB} {h:U du->Option (U du⊕bA outs)} (iQ:n4 aS E n hU p) (fB:∀x,Uk E call n hU p du outs x=h x):
 y6 aS n (.loop p) (oO p) du outs (a_ h):=by
 have key:∀{x:U du} {y:bA outs},Reach h x y->∃N,∀m w a,dr m n (zQ du x) a->bt m (pg du x) w->ry du.blocks m->∀Q:Exit->Go.Act->World->Prop,
  (∀ex e5 m' cY w',wQ du.blocks.length ex m' e5 cY outs y->Step m (pg du x) w m' e5 w'->n<=cY.tmps.size->cY.defers=[]->bt m' e5 w'->iq (oO p) a cY->Q (xf ex) cY w')->Code.rounds aS p Q N a w:=by
  intro x y r;induction r with
  |@done x y aa=>
   refine⟨1,λm w a a5 bc bw Q fc=> ?_⟩;rw[rounds_succ];rw[<-fB] at aa;obtain⟨aG,bq,bE⟩:=cI.lf (cI.Ke aa);refine uM pb jV iP hU p iQ a5 bc bq λm' cY w' e aF aQ bn=> ?_;have fin:∀{ex:lq},aG.1=ex->ex≠.normal->sM du.blocks ex aG.2.1 aG.2.2 outs=some y->Q (xf ex) cY w':=λ{ex} aV aA he=>by
    obtain⟨fi,ll,s1,s2,tf⟩:=Py aF aQ (bw.ext e.ix.ext) he;exact fc ex ll fi cY w' tf (e.trans bc s1) aF.size aF.defers s2 bn
   cases aV:aG.1 with
   |normal=>
    rw[aV] at bE;simp only at bE;split at bE
    ·split at bE
     ·split at bE
      ·have:=bE.eA;cases this
      ·exact bE.b7.elim
     ·exact bE.b7.elim
    ·exact bE.b7.elim
   |exit i=>
    rw[aV] at bE;have c8:=bE.eA;refine fin aV (by simp) ?_;cases he:sM du.blocks (.exit i) aG.2.1 aG.2.2 outs with
    |none=>rw[he] at c8;cases c8
    |some l2=>rw[he] at c8;cases c8;rfl
   |ret=>
    rw[aV] at bE;have c8:=bE.eA;refine fin aV (by simp) ?_;cases he:sM du.blocks .ret aG.2.1 aG.2.2 outs with
    |none=>rw[he] at c8;cases c8
    |some l2=>rw[he] at c8;cases c8;rfl
  |@more x g9 y aa _ b_=>
   obtain⟨N,b_⟩:=b_;refine⟨N+1,λm w a a5 bc bw Q fc=> ?_⟩;rw[rounds_succ];rw[<-fB] at aa;obtain⟨aG,bq,bE⟩:=cI.lf (cI.Ke aa);refine uM pb jV iP hU p iQ a5 bc bq λm' cY w' e aF aQ bn=> ?_;cases aV:aG.1 with
   |normal=>
    rw[aV] at bE;simp only at bE;split at bE
    ·rename_i z ax;split at bE
     ·rename_i nA mD;split at bE
      ·rename_i amo;have c8:=bE.eA;cases c8;obtain⟨gn,s1,bo,cN⟩:=Jr ax aQ (Of aF du.pz);obtain⟨aE,aX,bL,cM,dX,dh,fD,dG⟩:=HE (x:=nA.1) (ids:=nA.2) mD bo cN;have jY:dr (gn.sub z.2 nA.2) n (zQ du nA.1) cY:=Kt fD ⟨aF.size,aF.defers,λt=>trivial⟩;have oM:Step m (pg du x) w gn z.2 w':=e.trans bc s1;refine b_ _ w' cY jY dh dG Q λex e5 dg dc eM cm cF dy lX e8 ki=> ?_;obtain⟨fi,ll,gW,fU,jo⟩:=akm bo ⟨aX,bL,cM,by rw[aE];rfl,dX⟩ cF e8 (by rw[aE];exact oM.next) amo (by rw[aE];exact cm);exact fc ex ll fi dc eM (by rw[aE] at jo;exact jo) (oM.trans bc gW) dy lX fU (bn.trans ki)
      ·exact bE.b7.elim
     ·exact bE.b7.elim
    ·exact bE.b7.elim
   |exit i=>
    rw[aV] at bE;have c8:=bE.eA;cases he:sM du.blocks (.exit i) aG.2.1 aG.2.2 outs with
    |none=>rw[he] at c8;cases c8
    |some l2=>rw[he] at c8;cases c8
   |ret=>
    rw[aV] at bE;have c8:=bE.eA;cases he:sM du.blocks .ret aG.2.1 aG.2.2 outs with
    |none=>rw[he] at c8;cases c8
    |some l2=>rw[he] at c8;cases c8
 intro x y bZ m w a a5 bc bw Q fc;obtain⟨N,sO⟩:=key (Uc bZ);exact wp_loop_rounds N (sO m w a a5 bc bw Q fc)
end
open bx (T cv under size j3 ff jr qd lH)
structure n5 where
  du:aw
  out:aw
  g:U du->Option (U out)
def VW (v:V):P:=match v with
 |.p x=>x
 |_=>.c .rf
def Uj (l:List V):V:=match l with
 |[v]=>v
 |l=>.yM (l.map VW)
def AK (l:List Value):Value:=match l with
 |[u]=>u
 |us=>.tuple us.toArray
def xX (v:V):List Nat:=match v with
 |.p (.c c)=>jI c
 |.p (.agg cs)=>cs.flatMap jI
 |_=>[]
def Iz (nx:Nat->Option n5) (f:Nat) (args:List V) (σ:bF):List Nat:=match nx f with
 |some e=>match vc e.du args σ with
  |some z=>match xe e.du z.1 z.2 with
   |some x=>args.flatMap xX++x.2
   |none=>[]
  |none=>[]
 |none=>[]
def GJ (nx:Nat->Option n5) (f:Nat) (args:List V) (σ:bF):Q (V×bF):=match nx f with
 |some e=>match vc e.du args σ with
  |some z=>match xe e.du z.1 z.2 with
   |some x=>.bind (e.g x.1) λy=>match zc z.2 x.2 e.out.blocks with
    |true=>.ret (Uj (DD z.2 x.2 e.out y),vh z.2 x.2 e.out y)
    |false=>.fail
   |none=>.fail
  |none=>.fail
 |none=>.fail
def Bh (nx:Nat->Option n5):kM:=⟨GJ nx,Iz nx⟩
def tz (aS:Program) (f:Nat) (e:n5):Prop:=∀x y,e.g x=some y->∀m w (vs:Array Value),bt m (pg e.du x) w->ry e.du.blocks m->cv (dW m) (IA e.du x) vs.toList->(callFunc f vs).run aS w=.ok (.enter f vs) w/\Calls aS f vs w λex w'=>∃m' a8 us,ex=.returned (AK us)/\Step m (pg e.du x) w m' a8 w'/\bt m' a8 w'/\pH e.out e.du.blocks.length y m' a8 us
section
variable{aS:Program} {w:World} {m:M} {σ a8:bF}
theorem akr (f len:Nat->Nat) (s:fa) (x:vD s):∃p,w9 f len s x=.p p:=by cases s<;>exact⟨_,rfl⟩
theorem Pl (f len:Nat->Nat):∀{l:List fa} (x:rz l),∀v∈nL f len l x,∃p,v=.p p
 |[],x,v,h=>absurd h List.not_mem_nil
 |s::l,x,v,h=>by
  rw[Hx] at h;rcases List.mem_cons.1 h with rfl|h
  ·exact akr ..
  ·exact Pl f len x.2 v h
theorem VX:∀{vs:List V} {us:List Value},(∀v∈vs,∃p,v=.p p)->cv (dW m) vs us->cv (iT m) (vs.map VW) us
 |[],[],_,_=>trivial
 |v::vs,u::us,bw,⟨aa,ae⟩=>by
  refine⟨?_,VX (λv aM=>bw v (List.mem_cons_of_mem _ aM)) ae⟩;obtain⟨p,rfl⟩:=bw v mw;exact aa
theorem ah5 {vs:List V} {us:List Value} (bw:∀v∈vs,∃p,v=.p p) (h:cv (dW m) vs us):dW m (Uj vs) (AK us):=by
 match vs,us,h with
 |[],[],h=>exact⟨#[],rfl,trivial⟩
 |[v],[u],h=>exact h.1
 |v::d_::vs,u::eI::us,h=>exact⟨(u::eI::us).toArray,rfl,by simpa using VX bw h⟩
theorem PN {c c':C} (h:xh c σ=some (c',a8)):a8.next=σ.next/\∀i,i∉jI c->a8.heap.get i=σ.heap.get i:=by
 unfold xh at h;split at h
 ·split at h
  ·cases h;exact⟨rfl,λi aj=>bx.T.eB _ _ λe=>aj (by simp[jI,e])⟩
  ·cases h
 ·split at h
  ·split at h
   ·cases h;exact⟨rfl,λi aj=>bx.T.eB _ _ λe=>aj (by simp[jI,e])⟩
   ·cases h
  ·cases h
 ·cases h;exact⟨rfl,λ_ _=>rfl⟩
theorem BE:∀{l eu:List C} {σ a8:bF},xj l σ=some (eu,a8)->a8.next=σ.next/\∀i,i∉l.flatMap jI->a8.heap.get i=σ.heap.get i
 |[],eu,σ,a8,h=>by cases h;exact⟨rfl,λ_ _=>rfl⟩
 |c::l,eu,σ,a8,h=>by
  rw[xj] at h;split at h
  ·rename_i y bT;split at h
   ·rename_i z ax;cases h;obtain⟨dE,dc⟩:=PN bT;obtain⟨cR,fg⟩:=BE ax;refine⟨cR.trans dE,λi aj=> ?_⟩;rw[List.flatMap_cons,List.mem_append,not_or] at aj;exact(fg i aj.2).trans (dc i aj.1)
   ·cases h
  ·cases h
theorem alf {s:fa} {v d_:V} (h:qs s v σ=some (d_,a8)):σ.next<=a8.next/\∀i,i<σ.next->i∉xX v->a8.heap.get i=σ.heap.get i:=by
 have refl:σ.next<=σ.next/\∀i,i<σ.next->i∉xX v->σ.heap.get i=σ.heap.get i:=⟨Nat.le_refl _,λ_ _ _=>rfl⟩;unfold qs at h;split at h
 ·split at h
  ·split at h
   ·rename_i c y bT;cases h;exact⟨Nat.le_of_eq (PN bT).1.symm,λi _ aj=>(PN bT).2 i aj⟩
   ·cases h
  ·cases h;exact refl
 ·split at h
  ·split at h
   ·rename_i cs y bT;cases h;exact⟨Nat.le_of_eq (BE bT).1.symm,λi _ aj=>(BE bT).2 i aj⟩
   ·cases h
  ·cases h;exact refl
 ·split at h
  ·split at h
   ·rename_i cs y bT;cases h;exact⟨Nat.le_of_eq (BE bT).1.symm,λi _ aj=>(BE bT).2 i aj⟩
   ·cases h
  ·cases h;exact refl
 ·split at h
  ·cases h;exact⟨Nat.le_succ _,λi aj _=>bx.T.eB _ _ ab⟩
  ·cases h;exact refl
 ·split at h
  ·cases h;exact⟨Nat.le_succ _,λi aj _=>bx.T.eB _ _ ab⟩
  ·cases h;exact refl
 ·cases h;exact refl
theorem W5:∀{l:List fa} {vs fO:List V} {σ a8:bF},pY l vs σ=some (fO,a8)->σ.next<=a8.next/\∀i,i<σ.next->i∉vs.flatMap xX->a8.heap.get i=σ.heap.get i
 |[],vs,fO,σ,a8,h=>by
  have h:some (vs,σ)=some (fO,a8):=by cases vs<;>exact h
  cases h;exact⟨Nat.le_refl _,λ_ _ _=>rfl⟩
 |s::l,[],fO,σ,a8,h=>by cases h;exact⟨Nat.le_refl _,λ_ _ _=>rfl⟩
 |s::l,v::vs,fO,σ,a8,h=>by
  rw[pY] at h;split at h
  ·rename_i y bT;split at h
   ·rename_i z ax;cases h;obtain⟨dE,dc⟩:=alf bT;obtain⟨cR,fg⟩:=W5 ax;refine⟨ij dE cR,λi bK aj=> ?_⟩;rw[List.flatMap_cons,List.mem_append,not_or] at aj;exact(fg i (Nat.lt_of_lt_of_le bK dE) aj.2).trans (dc i bK aj.1)
   ·cases h
  ·cases h
theorem ale {s:fa} {v d_:V} (h:qs s v σ=some (d_,a8)) {k i:Nat} (aM:d_=.p (.c (.ptr (some (i,k))))):v=.p (.c (.ptr (some (i,k)))):=by
 unfold qs at h;split at h
 ·split at h
  ·split at h
   ·rename_i c y bT;cases h;unfold xh at bT;split at bT
    ·split at bT
     ·cases bT;cases aM
     ·cases bT
    ·split at bT
     ·split at bT
      ·cases bT;cases aM
      ·cases bT
     ·cases bT
    ·cases bT;exact aM
   ·cases h
  ·cases h;exact aM
 ·split at h
  ·split at h
   ·cases h;cases aM
   ·cases h
  ·cases h;exact aM
 ·split at h
  ·split at h
   ·cases h;cases aM
   ·cases h
  ·cases h;exact aM
 ·split at h
  ·cases h;cases aM
  ·cases h;exact aM
 ·split at h
  ·cases h;cases aM
  ·cases h;exact aM
 ·cases h;exact aM
theorem W4:∀{l:List fa} {vs fO:List V} {σ a8:bF},pY l vs σ=some (fO,a8)->∀i k,V.p (.c (.ptr (some (i,k))))∈fO->V.p (.c (.ptr (some (i,k))))∈vs
 |[],vs,fO,σ,a8,h=>by
  have h:some (vs,σ)=some (fO,a8):=by cases vs<;>exact h
  cases h;exactλ_ _ h=>h
 |s::l,[],fO,σ,a8,h=>by cases h;exactλ_ _ h=>h
 |s::l,v::vs,fO,σ,a8,h=>by
  rw[pY] at h;split at h
  ·rename_i y bT;split at h
   ·rename_i z ax;cases h;intro i k hm;rcases List.mem_cons.1 hm with g|g
    ·have:=ale bT g.symm;rw[this];exact mw
    ·exact List.mem_cons_of_mem _ (W4 ax i k g)
   ·cases h
  ·cases h
theorem Ro {iw:List fC}:∀{l:List fa} {vs:List V} {σ a8:bF},uf iw l vs σ=some a8->σ.next<=a8.next/\∀j,j<σ.next->(∀k,V.p (.c (.ptr (some (j,k))))∉vs)->a8.heap.get j=σ.heap.get j
 |[],vs,σ,a8,h=>by
  have h:some σ=some a8:=by cases vs<;>exact h
  cases h;exact⟨Nat.le_refl _,λ_ _ _=>rfl⟩
 |s::l,[],σ,a8,h=>by cases h;exact⟨Nat.le_refl _,λ_ _ _=>rfl⟩
 |s::l,v::vs,σ,a8,h=>by
  have rest:uf iw l vs σ=some a8->σ.next<=a8.next/\∀j,j<σ.next->(∀k,V.p (.c (.ptr (some (j,k))))∉v::vs)->a8.heap.get j=σ.heap.get j:=λh=>by
   obtain⟨dE,dc⟩:=Ro h;exact⟨dE,λj au aA=>dc j au λk aP=>aA k (List.mem_cons_of_mem _ aP)⟩
  cases s with
  |ptr k o=>
   simp only[uf] at h;split at h
   ·rename_i y;split at h
    ·split at h
     ·rename_i j5 aU;obtain⟨dE,dc⟩:=aqW aU;obtain⟨cR,fg⟩:=Ro h;refine⟨ij dE cR,λj au aA=> ?_⟩;rw[fg j (Nat.lt_of_lt_of_le au dE) λk aP=>aA k (List.mem_cons_of_mem _ aP)];exact dc j au λe=>aA y.2 (by rw[e];exact mw)
     ·cases h
    ·exact rest h
   ·exact rest h
  |_=>exact rest h
theorem aqV {p:aw} {vs fO:List V} (h:vc p vs σ=some (fO,a8)):σ.next<=a8.next/\∀i,i<σ.next->i∉vs.flatMap xX->a8.heap.get i=σ.heap.get i:=by
 unfold vc at h;split at h
 ·rename_i z ax;split at h
  ·rename_i j5 aU;cases h;obtain⟨dE,dc⟩:=W5 ax;obtain⟨cR,fg⟩:=Ro aU;refine⟨ij dE cR,λi aj aA=> ?_⟩;rw[fg i (Nat.lt_of_lt_of_le aj dE) λk aP=>aA (List.mem_flatMap.2 ⟨_,W4 ax i k aP,by simp[xX,jI]⟩)];exact dc i aj aA
  ·cases h
 ·cases h
theorem Hr {nx:Nat->Option n5} (bH:∀f e,nx f=some e->tz aS f e):ru aS (Bh nx) where
 run f args σ v a8 m w vs h bc aM:=by
  have h:cI (GJ nx f args σ) (v,a8):=h;unfold GJ at h;split at h
  ·rename_i e he;split at h
   ·rename_i z ax;split at h
    ·rename_i x aV;obtain⟨y,bT,h⟩:=h.mG;split at h
     ·rename_i bW;have h:=h.eA;cases h;obtain⟨gn,s1,bq,cN⟩:=Jr ax bc aM;obtain⟨aE,aX,bL,cM,dX,dh,fD,dG⟩:=HE (x:=x.1) (ids:=x.2) aV bq cN;obtain⟨aF,aQ⟩:=bH f e he x.1 y bT _ w vs dh dG fD;refine⟨aF,aQ.mono ?_⟩;rintro ex w' ⟨dg,e5,us,rfl,cm,cF,dy⟩;obtain⟨fi,gW,fU,jo⟩:=IN bq aX bL cM (by rw[aE];rfl) dX cF cm (by rw[aE];exact dy) bW;exact⟨fi,_,rfl,s1.trans bc fU,gW,ah5 (Pl _ _ _) jo⟩
     ·exact h.b7.elim
    ·exact h.b7.elim
   ·exact h.b7.elim
  ·exact h.b7.elim
 wr f args σ v a8 h:=by
  have h:cI (GJ nx f args σ) (v,a8):=h;show∀i,i<σ.next->i∉Iz nx f args σ->_;unfold GJ at h;split at h
  ·rename_i e he;split at h
   ·rename_i z ax;split at h
    ·rename_i x aV;obtain⟨y,bT,h⟩:=h.mG;split at h
     ·have h:=h.eA;cases h;intro i aj aA;have jY:Iz nx f args σ=args.flatMap xX++x.2:=by unfold Iz;rw[he];simp only;rw[ax];simp only;rw[aV]
      rw[jY,List.mem_append,not_or] at aA;obtain⟨dE,dc⟩:=aqV ax;rw[<-dc i aj aA.1];show(putAt _ _ z.2.heap).get i=_;refine Ae λhm=> ?_;unfold nt at hm;rcases List.mem_append.1 hm with g|g
      ·exact aA.2 g
      ·have:=(GX g).1;omega
     ·exact h.b7.elim
    ·exact h.b7.elim
   ·exact h.b7.elim
  ·exact h.b7.elim
end
def QD (c:C):Bool:=match c with
 |.ptr (some _)=>true
 |.cW _ _ _=>true
 |.jy _ _ _ _=>true
 |_=>false
def Uh (E:Env) (b t:Nat) (F:Fr) (σ:bF):Q V:=match k4 (gE F b) with
 |some c=>match QD c with
  |true=>match bx.isAgg E.cg t,size E.cg t with
   |some true,some n=>x9 n c σ
   |some false,_=>u9 c σ
   |_,_=>.fail
  |false=>.fail
 |none=>.fail
def GI (E:Env):List ResultVar->Fr->bF->Q (List V)
 |[],F,σ=>.ret []
 |.tmp t::l,F,σ=>(GI E l F σ).kY λvs=>.ret (gE F t::vs)
 |.cell b t::l,F,σ=>(Uh E b t F σ).kY λv=>(GI E l F σ).kY λvs=>.ret (v::vs)
def HI (p:aw) (iW:List fC) (vs:List V) (σ:bF):Option (U p):=match pY p.kinds vs σ with
 |some z=>match yu iW p.blocks (nz 0 iW.length) z.2 with
  |some a8=>BC p iW.length z.1 a8
  |none=>none
 |none=>none
def Ba:List V->Nat->Fr->Fr
 |[],_,F=>F
 |v::l,i,F=>qL (Ba l (Nat.succ i) F) i v
def ak6 (E:Env) (call:kM) (fn:Func) (c:Code) (hU:m7) (du out:aw) (x:U du):Q (Option (U out)):=(pS E call fn.ntmps hU c (Ba (IA du x) 0 []) (pg du x)).kY λy=>match y.1 with
 |.exit _=>.fail
 |_=>(GI E fn.results.toList y.2.1 y.2.2).kY λvs=>.ret (HI out du.blocks vs y.2.2)
def PL (E:Env) (call:kM) (fn:Func) (c:Code) (hU:m7) (du out:aw) (x:U du):Option (U out):=(ak6 E call fn c hU du out x).opt
def yH (tmps:Array Value):ResultVar->Sem Value
 |.tmp t=>pure (tmps.getD t undef)
 |.cell a t=>do loadVar t (<-asAddr (tmps.getD a undef))
section
variable{aS:Program} {w:World} {m:M} {σ:bF} {F:Fr} {a:Go.Act} {n:Nat} {E:Env} {call:kM}
theorem au2 {c:C} {u:Value} (h:QD c=true) (aq:cT m c u):∃A,u=.pointer (some A):=by
 unfold QD at h;split at h
 ·obtain⟨r,_,rfl⟩:=aq;exact⟨_,rfl⟩
 ·obtain⟨b,a,rfl,_⟩:=aq;exact⟨_,rfl⟩
 ·obtain⟨b,k,c,_,rfl⟩:=aq;exact⟨_,rfl⟩
 ·cases h
theorem aHG (bS:ff aS E.cg) (a5:dr m n F a) (bc:bt m σ w) {b t:Nat} {v:V} (h:cI (Uh E b t F σ) v):∃u,(yH a.tmps (.cell b t)).run aS w=.ok u w/\dW m v u:=by
 unfold Uh at h;split at h
 ·rename_i c aq;split at h
  ·rename_i bw;have xA:cT m c (a.tmps.getD b undef):=pP aq (a5.slot b);obtain⟨A,dx⟩:=au2 bw xA;have kV:k4 (i_ (.tmp b) F)=some c:=aq;have fin:∀{u:Value},(Instr.loadAt t (a.eval (.tmp b))).run aS w=.ok u w->(yH a.tmps (.cell b t)).run aS w=.ok u w:=λ{u} h=>by
    have aE:a.eval (.tmp b)=.pointer (some A):=dx;rw[aE] at h;rw[<-h];simp only[yH];rw[dx];simp[Instr.loadAt,Instr.sureAddr,asAddr]
   split at h
   ·rename_i k bZ aU;obtain⟨u,aa,ae⟩:=Zh (x:=.tmp b) bS a5 bc bZ aU v (by unfold lV;rw[kV];exact h);exact⟨u,fin aa,ae⟩
   ·rename_i _ bZ;obtain⟨u,aa,ae⟩:=Zi (x:=.tmp b) bS a5 bc bZ v (by unfold lV;rw[kV];exact h);exact⟨u,fin aa,ae⟩
   ·exact h.b7.elim
  ·exact h.b7.elim
 ·exact h.b7.elim
theorem Ui (bS:ff aS E.cg) (a5:dr m n F a) (bc:bt m σ w):∀{l:List ResultVar} {vs:List V},cI (GI E l F σ) vs->∃us,(l.mapM (yH a.tmps)).run aS w=.ok us w/\cv (dW m) vs us
 |[],vs,h=>by obtain rfl:=h.eA;exact⟨[],by simp,trivial⟩
 |.tmp t::l,vs,h=>by
  obtain⟨fO,aa,ae⟩:=cI.lf h;obtain rfl:=ae.eA;obtain⟨us,aF,aQ⟩:=Ui bS a5 bc aa;exact⟨a.tmps.getD t undef::us,by simp[List.mapM_cons,yH,aF],a5.slot t,aQ⟩
 |.cell b t::l,vs,h=>by
  obtain⟨v,bl,h⟩:=cI.lf h;obtain⟨fO,aa,ae⟩:=cI.lf h;obtain rfl:=ae.eA;obtain⟨u,bq,bE⟩:=aHG bS a5 bc bl;obtain⟨us,aF,aQ⟩:=Ui bS a5 bc aa;exact⟨u::us,by simp[List.mapM_cons,bq,aF],bE,aQ⟩
theorem aHI (fn:Func) (tmps:Array Value):
 results fn tmps=(fn.results.toList.mapM (yH tmps)>>=λvs=>pure (if h:vs.toArray.size=1 then vs.toArray[0] else .tuple vs.toArray)):=by
 have e:results fn tmps=(fn.results.mapM (yH tmps)>>=λvs=>pure (if h:vs.size=1 then vs[0] else .tuple vs)):=by
  unfold results;refine congrArg (·>>=_) (congrArg (λf=>Array.mapM f fn.results) ?_);funext r;cases r<;>rfl
 rw[e,Array.mapM_eq_mapM_toList];simp
theorem aHH (us:List Value):(if h:us.toArray.size=1 then us.toArray[0] else .tuple us.toArray)=AK us:=by
 match us with
 |[]=>rfl
 |[u]=>rfl
 |u::eI::us=>simp[AK]
theorem VS:∀{l:List V} {i t:Nat},gE (Ba l i []) t=if i<=t then(l[t-i]?).getD .any else .any
 |[],i,t=>by
  show V.any=_;split<;>simp
 |v::l,i,t=>by
  rw[Ba,uQ,VS];by_cases h:t=i
  ·subst h;simp
  ·rw[if_neg h];by_cases aa:i<=t
   ·rw[if_pos ab,if_pos aa,show t-i=(t-Nat.succ i)+1 by omega,List.getElem?_cons_succ]
   ·rw[if_neg ab,if_neg aa]
theorem aH' {args:List V} {vs:Array Value} (k:Nat) (aM:cv (dW m) args vs.toList):dr m k (Ba args 0 []) {tmps:=vs++Array.replicate (k-vs.size) undef,defers:=[]}:=by
 refine⟨by simp;omega,rfl,λt=> ?_⟩;rw[VS,if_pos (Nat.zero_le _),Nat.sub_zero];have hlen:=aM.length;simp only[Array.length_toList] at hlen;by_cases h:t<args.length
 ·obtain⟨v,aa,ae⟩:=aM.get (e_ h);rw[e_ h];have az:(vs++Array.replicate (k-vs.size) undef).getD t undef=v:=by
   rw[Array.getD_eq_getD_getElem?,Array.getElem?_append_left ab];rw[Array.getElem?_toList] at aa;rw[aa];rfl
  rw[az];exact ae
 ·rw[List.getElem?_eq_none ab];trivial
theorem akQ {p:aw} {iW:List fC} {y:U p} {vs:List V} {us:List Value} (h:HI p iW vs σ=some y) (bc:bt m σ w) (bw:ry iW m) (aM:cv (dW m) vs us):∃m' a8,Step m σ w m' a8 w/\bt m' a8 w/\pH p iW.length y m' a8 us:=by
 unfold HI at h;split at h
 ·rename_i z ax;split at h
  ·rename_i a8 aU;obtain⟨m',s1,bq,cN⟩:=BF ax bc aM;obtain⟨gn,s2,bE⟩:=CZ aU bq (bw.ext s1.ix.ext);exact⟨gn,a8,s1.trans bc s2,bE,PD bE h (cN.imp λ_ _=>dW.ext s2.ix.ext)⟩
  ·cases h
 ·cases h
theorem WY (bS:ff aS E.cg) (pb:aS.follows .mixedOrders=true) (jV:tq aS E) (iP:ru aS call) {f:Nat} {fn:Func} {c:Code} {hU:m7} {e:n5} (bu:aS.funcs[f]? =some fn) (amL:(fn.name== "runtime.NumGoroutine")=false) (ai:fn.body=some c) (iQ:n4 aS E fn.ntmps hU c)
 (bZ:∀x,PL E call fn c hU e.du e.out x=e.g x):tz aS f e:=by
 intro x y bT m w vs bc bw aM;have az:¬fn.name= "runtime.NumGoroutine":=by simpa using amL
 refine⟨by simp[callFunc,bu,az,ai],calls_of_wp bu ai ?_⟩;rw[<-bZ] at bT;obtain⟨z,aa,ae⟩:=cI.lf (cI.Ke bT);refine uM pb jV iP hU c iQ (aH' fn.ntmps aM) bc aa λm' cY w' st a5 qX aU=> ?_;have key:cI ((GI E fn.results.toList z.2.1 z.2.2).kY λvs=>.ret (HI e.out e.du.blocks vs z.2.2)) (some y)->∃v,(results fn cY.tmps).run aS w'=.ok v w'/\∃dg e5 us,Ending.returned v=.returned (AK us)/\Step m (pg e.du x) w dg e5 w'/\bt dg e5 w'/\pH e.out e.du.blocks.length y dg e5 us:=λh=>by
  obtain⟨fO,bq,bE⟩:=h.lf;have bE:=bE.eA;obtain⟨us,aF,aQ⟩:=Ui bS a5 qX bq;obtain⟨dg,e5,s1,s2,tf⟩:=akQ bE.symm qX (bw.ext st.ix.ext) aQ;refine⟨AK us, ?_,dg,e5,us,rfl,st.trans bc s1,s2,tf⟩;rw[aHI,iv,aF];simp only[iV,ju];rw[aHH]
 cases aV:z.1 with
 |exit i=>rw[aV] at ae;exact ae.b7.elim
 |normal=>
  rw[aV] at ae;obtain⟨v,cm,cF⟩:=key ae;exact⟨a5.defers,v,cm,cF⟩
 |ret=>
  rw[aV] at ae;obtain⟨v,cm,cF⟩:=key ae;exact⟨a5.defers,v,cm,cF⟩
end
structure A2 where
  e:LE
  p:Code
def pO (E:Env):m7->Code->Bool
 |.one,c=>match c with
  |.region _ ops qq=>match qq with
   |true=>GH E ops
   |false=>true
  |_=>true
 |.seq a b,c=>match c with
  |.seq cN dq=>match pO E a cN with
   |true=>pO E b dq
   |false=>false
  |_=>true
 |.two a b,c=>match c with
  |.cond x cN dq=>match pO E a cN with
   |true=>pO E b dq
   |false=>false
  |_=>true
 |.sub a,c=>match c with
  |.block id p=>pO E a p
  |_=>true
 |.loop e,c=>true
 |.cut du outs a,c=>pO E a c
def rB:m7->Code->List A2
 |.one,c=>[]
 |.seq a b,c=>match c with
  |.seq cN dq=>rB a cN++rB b dq
  |_=>[]
 |.two a b,c=>match c with
  |.cond x cN dq=>rB a cN++rB b dq
  |_=>[]
 |.sub a,c=>match c with
  |.block id p=>rB a p
  |_=>[]
 |.loop e,c=>match c with
  |.loop p=>[⟨e,p⟩]
  |_=>[]
 |.cut du outs a,c=>rB a c
def tr (aS:Program) (n:Nat):List A2->Prop
 |[]=>True
 |o::l=>y6 aS n (.loop o.p) (oO o.p) o.e.du o.e.outs o.e.g/\tr aS n l
section
variable{aS:Program} {E:Env} {n:Nat}
theorem tr.app:∀{l r:List A2},tr aS n (l++r)->tr aS n l/\tr aS n r
 |[],r,h=>⟨trivial,h⟩
 |o::l,r,h=>⟨⟨h.1,(tr.app h.2).1⟩,(tr.app h.2).2⟩
theorem w2:∀(hU:m7) (c:Code),pO E hU c=true->tr aS n (rB hU c)->n4 aS E n hU c
 |.one,c,h,a3=>by
  unfold n4;unfold pO at h;split
  ·rename_i ops qq;simp only at h;intro bb;subst bb;exact h
  ·trivial
 |.seq a b,c,h,a3=>by
  unfold n4;cases c with
  |seq cN dq=>
   unfold pO at h;simp only at h;split at h
   ·rename_i aa;exact⟨w2 a cN aa a3.app.1,w2 b dq h a3.app.2⟩
   ·cases h
  |_=>trivial
 |.two a b,c,h,a3=>by
  unfold n4;cases c with
  |cond x cN dq=>
   unfold pO at h;simp only at h;split at h
   ·rename_i aa;exact⟨w2 a cN aa a3.app.1,w2 b dq h a3.app.2⟩
   ·cases h
  |_=>trivial
 |.sub a,c,h,a3=>by
  unfold n4;cases c with
  |block id p=>exact w2 a p h a3
  |_=>trivial
 |.loop e,c,h,a3=>by
  unfold n4;cases c with
  |loop p=>exact a3.1
  |_=>trivial
 |.cut du outs a,c,h,a3=>by
  unfold n4;exact w2 a c h a3
theorem He {hU:m7} {c:Code} {l:List A2} (h:pO E hU c=true) (a3:rB hU c=l) (bW:tr aS n l):n4 aS E n hU c:=w2 hU c h (a3▸bW)
def AN (l:List (Nat×n5)):Nat->Option n5:=List.rec (motive:=λ_=>Nat->Option n5) (λ_=>none) (λy _ b_ k=>match Nat.beq y.1 k with
 |true=>some y.2
 |false=>b_ k) l
def A6 (aS:Program):List (Nat×n5)->Prop
 |[]=>True
 |y::l=>tz aS y.1 y.2/\A6 aS l
theorem GQ:∀{l:List (Nat×n5)},A6 aS l->∀f e,AN l f=some e->tz aS f e
 |[],_,f,e,h=>by cases h
 |y::l,a3,f,e,h=>by
  have k8:tz aS y.1 y.2/\A6 aS l:=a3;have h:(match Nat.beq y.1 f with
   |true=>some y.2
   |false=>AN l f)=some e:=h
  split at h
  ·rename_i ai;cases h;rw[<-gq ai];exact k8.1
  ·exact GQ k8.2 f e h
end
def put {α:Type} (t:T α) (k:Nat) (a:α):T α:=t.put k (some a)
def PJ {α:Type} (l:List α):Nat->T α->T α:=List.rec (motive:=λ_=>Nat->T α->T α) (λ_ t=>t) (λx _ b_ i t=>b_ (Nat.succ i) (t.put i (some x))) l
def oP:Nat:=100000
inductive uB
  |c (k:Nat) (p:aw) (o:bB)
  |s (k:Nat)
structure OL where
  hU:m7
  k:Nat
  ls:List LE
  cs:List uB
def Bo (k:Nat) (ls:List LE) (cs:List uB) (f:List uB->OL):OL:=match cs with
 |[]=>f []
 |.c j p o::r=>match Nat.beq j k with
  |true=>match f r with
   |⟨hU,cj,l,q⟩=>⟨.cut p o hU,cj,l,q⟩
  |false=>f cs
 |.s j::r=>match Nat.beq j k with
  |true=>⟨.one,k+1,ls,r⟩
  |false=>f cs
def zX:Code->Nat->List LE->List uB->OL
 |.seq a b,k,ls,cs=>Bo k ls cs λcs=>match zX a (k+1) ls cs with
  |⟨x,cj,l,q⟩=>match zX b cj l q with
   |⟨y,cj,l,q⟩=>⟨.seq x y,cj,l,q⟩
 |.cond _ a b,k,ls,cs=>Bo k ls cs λcs=>match zX a (k+1) ls cs with
  |⟨x,cj,l,q⟩=>match zX b cj l q with
   |⟨y,cj,l,q⟩=>⟨.two x y,cj,l,q⟩
 |.block _ a,k,ls,cs=>Bo k ls cs λcs=>match zX a (k+1) ls cs with
  |⟨x,cj,l,q⟩=>⟨.sub x,cj,l,q⟩
 |.loop _,k,ls,cs=>Bo k ls cs λcs=>match ls with
  |e::r=>⟨.loop e,k+1,r,cs⟩
  |[]=>⟨.one,k+1,[],cs⟩
 |_,k,ls,cs=>Bo k ls cs λcs=>⟨.one,k+1,ls,cs⟩
def x_:Code->List Code
 |.seq a b=>x_ a++x_ b
 |.cond _ a b=>x_ a++x_ b
 |.block _ a=>x_ a
 |.loop a=>a::x_ a
 |_=>[]
open bx (T)
set_option maxRecDepth 100000
abbrev aW:da:=[.int .i64]
abbrev bM:da:=[.str]
abbrev jG:da:=[.int .i64,.str]
abbrev eb:da:=[.str,.int .i64,.str,.int .i64]
abbrev eg:da:=[.str,.str,.aH eb]
abbrev cV:da:=[.str,.aH bM,.aH eg]
abbrev gz:da:=[.int .i64,.str,.aH eb]
abbrev dt:da:=[.str,.aH gz]
abbrev c_:da:=[.str,.int .i64,.int .i64]
abbrev fV:da:=[.str,.str,.aH aW]
abbrev eF:da:=[.int .i64,.int .i64,.int .i64,.int .i64,.str,.str,.aH aW,.aH c_,.aH fV]
abbrev mR:da:=[.str,.aH jG,.int .i64,.aH eF]
abbrev qS:da:=[.aH cV,.aH dt,.aH mR]
abbrev dJ:da:=[.str,.int .i64,.str]
abbrev ck:da:=[.int .i64,.str,.int .i64,.str,.int .i64,.int .i64]
abbrev mu:da:=[.str,.str,.int .i64]
abbrev bz:da:=[.int .i64,.str,.str,.str,.str,.int .i64,.aH aW,.aH fV,.aH mu,.int .i64]
abbrev fb:da:=[.str,.aH dJ,.aH ck,.aH bz]
abbrev g4:da:=[.aH cV,.aH dt,.aH fb]
abbrev sx:da:=[.int .i64,.int .i64,.int .i64]
abbrev ir:da:=[.int .i64,.int .i64]
abbrev k1:da:=[.str,.int .i64,.int .i64,.int .i64]
abbrev jt:da:=[.int .i64,.str,.aH k1]
abbrev hG:da:=[.aH jt,.aH bM,.aH aW]
abbrev eP:da:=[.bool,.aH c_]
abbrev ag:fa:=.leaf (.int .i64)
abbrev bP:fa:=.leaf (.bool)
abbrev aN:fa:=.leaf (.str)
abbrev zV:fa:=.leaf (.int .u64)
abbrev b9:fa:=.ptr 0 0
abbrev W (n:Int):aO .i64:=aO.w .i64 n
abbrev ak (t:da):fa:=.leaf (.aH t)
abbrev aZ (l:List (Nat×fa)):aw:=⟨l,[]⟩
abbrev jB (l:List (Nat×fa)):lq×aw:=(.normal,⟨l,[]⟩)
abbrev gA (l:List (Nat×fa)):lq×aw:=(.ret,⟨l,[]⟩)
def cg:T TypeInfo:=PJ Tryz.prog.types.toList 0 .nil
def aIo:T da:=(put (put (put (put (put (put (put (put (put (put (put (put (put (put (put (put (put (put (put (put (put (put (put (put (put (put (put (put (put (put (put (put (put (put (put (put (put (put (put (put (put (put (put (put (put (put (put (put (put (put (put (put (put (put (put (put (put (put (put (put .nil 2 aW) 3 aW) 4 [.bool]) 5 [.int .u8]) 9 bM) 22 [.aH aW]) 23 [.aH cV]) 24 [.aH dt]) 25 [.aH mR]) 27 qS) 31 [.aH fb]) 33 g4) 44 [.aH [.int .u8]]) 56 [.aH jG]) 57 [.aH eF]) 59 mR) 63 [.aH [.int .u8]]) 65 [.aH bM]) 66 [.aH eg]) 68 cV) 71 [.aH gz]) 73 dt) 81 [.str,.bool]) 94 [.str,.bool]) 99 sx) 105 [.aH ck]) 106 [.aH bz]) 108 fb) 111 [.aH eP]) 112 [.aH [.aH aW]]) 117 [.str,.aH dJ,.aH ck,.aH bz,.aH eP,.aH [.aH bM],.aH [.aH aW],.aH [.aH aW],.aH eF]) 120 jG) 122 dJ) 131 [.aH fV]) 132 [.aH mu]) 134 bz) 137 fV) 138 [.aH c_]) 139 [.aH fV]) 141 eF) 146 [.aH eb]) 148 eg) 151 eb) 156 gz) 183 [.aH jt]) 185 hG) 190 [.aH c_]) 192 eP) 194 ir) 196 c_) 203 mu) 205 c_) 207 [.aH aW,.int .i64]) 223 fV) 263 [.str,.aH bM,.aH eg,.str,.aH [.aH aW]]) 272 ck) 286 [.aH k1]) 288 jt) 292 k1) 370 ir)
def HK:T (List TypeDesc):=(put (put (put (put .nil 120 [.int .i64,.string]) 151 [.string,.int .i64,.string,.int .i64]) 205 [.string,.int .i64,.int .i64]) 370 [.int .i64,.int .i64])
def pX (k:Nat):Func:=Tryz.prog.funcs[k]?.getD default
def o2 (k:Nat):Code:=(pX k).body.getD .skip
theorem WV {α:Type}:∀(l:List α) (i:Nat) (t:T α) (k:Nat),(PJ l i t).get k=if i<=k/\k-i<l.length then l[k-i]? else t.get k
 |[],i,t,k=>by
  show t.get k=_;rw[if_neg];rintro⟨_,h⟩;exact absurd h (Nat.not_lt_zero _)
 |x::l,i,t,k=>by
  show(PJ l (Nat.succ i) (t.put i (some x))).get k=_;rw[WV l,bx.T.kF];by_cases aa:Nat.succ i<=k/\k-Nat.succ i<l.length
  ·have e:k-i=(k-Nat.succ i)+1:=ab;have ae:i<=k/\k-i<(x::l).length:=⟨ab,by rw[e,gO];omega⟩;rw[if_pos aa,if_pos ae,e,List.getElem?_cons_succ]
  ·rw[if_neg aa];by_cases az:k=i
   ·subst az;rw[if_pos rfl,if_pos ⟨Nat.le_refl _,by simp⟩];simp
   ·rw[if_neg az,if_neg];rintro⟨a9,cE⟩;rw[gO] at cE;exact aa ⟨ab,ab⟩
theorem UE:bx.ff Tryz.prog cg:=⟨λt i h=>by
 unfold cg at h;rw[WV] at h;split at h
 ·rename_i aa;rw[Nat.sub_zero,Array.getElem?_toList] at h;have bK:t<Tryz.prog.types.size:=(nJ.1 h).1;show(if t<Tryz.prog.types.size then Tryz.prog.types[t]? else _)=some i;rw[if_pos bK];exact h
 ·rw[bx.T.get_nil] at h;cases h⟩
theorem mixed:Tryz.prog.follows .mixedOrders=true:=by kernel_rfl
theorem WU:so Tryz.prog 120 2 [.int .i64,.string]:=PK (k:=0) Tryz.underlying120 (by kernel_rfl) (.leaf bp rfl (by kernel_rfl) (.leaf bp rfl (by kernel_rfl) (.nil _)))
theorem akS:∃k,k<=9000/\so Tryz.prog 120 k [.int .i64,.string]:=⟨_,bp,WU⟩
theorem an4:tA Tryz.prog 120 (.flat [.int .i64,.string]):=⟨akS,by kernel_rfl⟩
theorem akX:so Tryz.prog 151 4 [.string,.int .i64,.string,.int .i64]:=PK (k:=2) Tryz.underlying151 (by kernel_rfl) (.leaf bp rfl (by kernel_rfl) (.row (lP:=[.int .i64,.string]) (fs':=(Tryz.prog.underlying 120).elim #[] λ|.struct jH=>jH|_=>#[]) bp rfl (by kernel_rfl) (by kernel_rfl) WU (.leaf bp rfl (by kernel_rfl) (.nil _))))
theorem akT:∃k,k<=9000/\so Tryz.prog 151 k [.string,.int .i64,.string,.int .i64]:=⟨_,bp,akX⟩
theorem an5:tA Tryz.prog 151 (.flat [.string,.int .i64,.string,.int .i64]):=⟨akT,by kernel_rfl⟩
theorem akY:so Tryz.prog 205 2 [.string,.int .i64,.int .i64]:=PK (k:=0) Tryz.underlying205 (by kernel_rfl) (.leaf bp rfl (by kernel_rfl) (.leaf bp rfl (by kernel_rfl) (.leaf bp rfl (by kernel_rfl) (.nil _))))
theorem akU:∃k,k<=9000/\so Tryz.prog 205 k [.string,.int .i64,.int .i64]:=⟨_,bp,akY⟩
theorem an6:tA Tryz.prog 205 (.flat [.string,.int .i64,.int .i64]):=⟨akU,by kernel_rfl⟩
theorem akV:∃k,k<=9000/\so Tryz.prog 370 k [.int .i64,.int .i64]:=⟨_,bp,ak4 (k:=2) (e:=3) (dd:=.int .i64) (i:=(Tryz.prog.info? 3).getD default) (by kernel_rfl) (by kernel_rfl) (by kernel_rfl) (by kernel_rfl)⟩
theorem an7:tA Tryz.prog 370 (.flat [.int .i64,.int .i64]):=⟨akV,by kernel_rfl⟩
theorem an8 (t:Nat) (ds:List TypeDesc) (h:HK.get t=some ds):tA Tryz.prog t (.flat ds):=by
 unfold HK put at h;rw[bx.T.kF] at h;split at h
 ·rename_i he;subst he;cases h;exact an7
 rw[bx.T.kF] at h;split at h
 ·rename_i he;subst he;cases h;exact an6
 rw[bx.T.kF] at h;split at h
 ·rename_i he;subst he;cases h;exact an5
 rw[bx.T.kF] at h;split at h
 ·rename_i he;subst he;cases h;exact an4
 rw[bx.T.get_nil] at h;cases h
theorem Hd (E:Env) (aa:E.cg=cg) (ae:E.gb=HK):tq Tryz.prog E:=λo=>ajA (by rw[aa];exact UE) (by rw[ae];exact an8) o
def tu (jm:T vC):Env:=⟨cg,HK,aIo,jm⟩
def oF (k i:Nat):Code:=((x_ (o2 k))[i]?).getD .skip
def cl (k i:Nat) {du:aw} {outs:bB} (h:U du->Option (U du⊕bA outs)):Prop:=y6 Tryz.prog (pX k).ntmps (.loop (oF k i)) (oO (oF k i)) du outs (a_ h)
abbrev bC (k:Nat) {du out:aw} (g:U du->Option (U out)):Prop:=tz Tryz.prog k ⟨du,out,g⟩
structure uD (k:Nat) where
  i:Nat
  e:LE
  ok:y6 Tryz.prog (pX k).ntmps (.loop (oF k i)) (oO (oF k i)) e.du e.outs e.g
structure VB where
  k:Nat
  e:n5
  ok:tz Tryz.prog k e
def cr {k i:Nat} {du:aw} {outs:bB} {h:U du->Option (U du⊕bA outs)} (l:cl k i h):uD k:=⟨i,⟨du,outs,a_ h⟩,l⟩
def aR {k:Nat} {du out:aw} {g:U du->Option (U out)} (h:bC k g):VB:=⟨k,⟨du,out,g⟩,h⟩
structure bI where
  jm:T vC
  aIi:List VB
def bI.nx (c:bI):List (Nat×n5):=c.aIi.map λy=>(y.k,y.e)
theorem bI.ok (c:bI):A6 Tryz.prog c.nx:=by
 obtain⟨q,l⟩:=c;show A6 Tryz.prog (l.map λy=>(y.k,y.e));induction l with
 |nil=>exact trivial
 |cons y l b_=>exact⟨y.ok,b_⟩
def aog {k:Nat} (l:List (uD k)):List LE:=l.map (·.e)
def CC {k:Nat} (l:List (uD k)):List A2:=l.map λy=>⟨y.e,oF k y.i⟩
theorem IQ {k:Nat} (l:List (uD k)):tr Tryz.prog (pX k).ntmps (CC l):=by
 induction l with
 |nil=>exact trivial
 |cons y l b_=>exact⟨y.ok,b_⟩
abbrev rC {k:Nat} (c:Code) (ls:List (uD k)) (cs:List uB):m7:=(zX c 0 (aog ls) cs).hU
section
variable{k i:Nat} {du:aw}
theorem ct {outs:bB} {h:U du->Option (U du⊕bA outs)} (c:bI) (ls:List (uD k)) (cs:List uB)
 (he:Uk (tu c.jm) (Bh (AN c.nx)) (pX k).ntmps (rC (oF k i) ls cs) (oF k i) du outs=h:=by kernel_rfl)
 (aJ:pO (tu c.jm) (rC (oF k i) ls cs) (oF k i)=true:=by kernel_rfl)
 (a3:rB (rC (oF k i) ls cs) (oF k i)=CC ls:=by kernel_rfl):cl k i h:=
 Zj mixed (Hd _ rfl rfl) (Hr (GQ c.ok)) (He aJ a3 (IQ ls)) (congrFun he)
theorem Zk {ρ:Type} {outs:bB} {h:ρ->U du->Option (U du⊕bA outs)} (c:ρ->bI) (ls:ρ->List (uD k)) (cs:List uB)
 (he:(λr=>Uk (tu (c r).jm) (Bh (AN (c r).nx)) (pX k).ntmps (rC (oF k i) (ls r) cs) (oF k i) du outs)=h:=by kernel_rfl)
 (aJ:(λr=>pO (tu (c r).jm) (rC (oF k i) (ls r) cs) (oF k i))=(λ_=>true):=by kernel_rfl)
 (a3:(λr=>rB (rC (oF k i) (ls r) cs) (oF k i))=(λr=>CC (ls r)):=by kernel_rfl) (r:ρ):cl k i (h r):=
 Zj mixed (Hd _ rfl rfl) (Hr (GQ (c r).ok)) (He (congrFun aJ r) (congrFun a3 r) (IQ (ls r))) (congrFun (congrFun he r))
variable{out:aw}
theorem bN {g:U du->Option (U out)} (c:bI) (ls:List (uD k)) (cs:List uB)
 (he:PL (tu c.jm) (Bh (AN c.nx)) (pX k) (o2 k) (rC (o2 k) ls cs) du out=g:=by kernel_rfl)
 (bu:Tryz.prog.funcs[k]? =some (pX k):=by kernel_rfl) (aA:((pX k).name== "runtime.NumGoroutine")=false:=by kernel_rfl) (ai:(pX k).body=some (o2 k):=by kernel_rfl)
 (aJ:pO (tu c.jm) (rC (o2 k) ls cs) (o2 k)=true:=by kernel_rfl)
 (a3:rB (rC (o2 k) ls cs) (o2 k)=CC ls:=by kernel_rfl):bC k g:=
 WY (E:=tu c.jm) UE mixed (Hd _ rfl rfl) (Hr (GQ c.ok)) bu aA ai (He aJ a3 (IQ ls)) (congrFun he)
theorem zr {ρ:Type} {g:ρ->U du->Option (U out)} (c:ρ->bI) (ls:ρ->List (uD k)) (cs:List uB)
 (he:(λr=>PL (tu (c r).jm) (Bh (AN (c r).nx)) (pX k) (o2 k) (rC (o2 k) (ls r) cs) du out)=g:=by kernel_rfl)
 (bu:Tryz.prog.funcs[k]? =some (pX k):=by kernel_rfl) (aA:((pX k).name== "runtime.NumGoroutine")=false:=by kernel_rfl) (ai:(pX k).body=some (o2 k):=by kernel_rfl)
 (aJ:(λr=>pO (tu (c r).jm) (rC (o2 k) (ls r) cs) (o2 k))=(λ_=>true):=by kernel_rfl)
 (a3:(λr=>rB (rC (o2 k) (ls r) cs) (o2 k))=(λr=>CC (ls r)):=by kernel_rfl) (r:ρ):bC k (g r):=
 WY (E:=tu (c r).jm) UE mixed (Hd _ rfl rfl) (Hr (GQ (c r).ok)) bu aA ai (He (congrFun aJ r) (congrFun a3 r) (IQ (ls r))) (congrFun (congrFun he r))
end
end cB
end Go.Proofs.YtgmdfchkljaooaaGreat
