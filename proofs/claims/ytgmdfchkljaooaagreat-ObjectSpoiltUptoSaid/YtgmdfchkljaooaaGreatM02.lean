/- Typed values. -/
import Derived.Test.YtgmdfchkljaooaaGreatM01
noncomputable section
namespace Go.Proofs.YtgmdfchkljaooaaGreat
open Go.RowKit
namespace cB
open bx (T cv g2 l1 kJ nw g8 lh nu)
set_option linter.unusedVariables false
def l3 (fz:Nat->List Value):(t:List fy)->D t->List Value->Prop
 |[],_,vs=>vs=[]
 |l::t,x,vs=>∃v r,vs=v::r/\dO fz l x.1 v/\l3 fz t x.2 r
def Cells (fz:Nat->List Value) (b o:Nat) (vs:List Value):Prop:=∀(j:Nat) v,vs[j]? =some v->(fz b)[o+j]? =some v
def iU (fz:Nat->List Value) (t:da):List (D t)->List Value->Prop
 |[],vs=>vs=[]
 |e::l,vs=>∃v r,vs=v++r/\l3 fz t e v/\iU fz t l r
section
variable{fz nM:Nat->List Value}
theorem l3.length:∀{t:List fy} {x:D t} {vs:List Value},l3 fz t x vs->vs.length=t.length
 |[],_,_,h=>by rw[show _=[] from h];rfl
 |l::t,x,_,⟨v,r,aa,_,az⟩=>by rw[aa,gO,l3.length az,gO]
theorem l3.ext (e:ie fz nM):∀{t:List fy} {x:D t} {vs:List Value},l3 fz t x vs->l3 nM t x vs
 |[],_,_,h=>h
 |l::t,x,_,⟨v,r,aa,ae,az⟩=>⟨v,r,aa,ae.ext e,l3.ext e az⟩
theorem iU.ext {t:da} (e:ie fz nM):∀{l:List (D t)} {vs:List Value},iU fz t l vs->iU nM t l vs
 |[],_,h=>h
 |x::l,_,⟨v,r,aa,ae,az⟩=>⟨v,r,aa,ae.ext e,iU.ext e az⟩
theorem iU.length {t:da}:∀{l:List (D t)} {vs:List Value},iU fz t l vs->vs.length=l.length*t.length
 |[],_,h=>by rw[show _=[] from h];simp
 |x::l,_,⟨v,r,aa,ae,az⟩=>by rw[aa,bY,ae.length,iU.length az,gO,iC];omega
theorem iU.append {t:da}:∀{l eu:List (D t)} {vs fO:List Value},iU fz t l vs->iU fz t eu fO->iU fz t (l++eu) (vs++fO)
 |[],_,_,_,h,h'=>by rw[show _=[] from h];exact h'
 |x::l,_,_,_,⟨v,r,aa,ae,az⟩,h'=>⟨v,r++_,by rw[aa,dF],ae,iU.append az h'⟩
theorem ic.GZ {b:Nat}:∀{t:List fy} {x:D t} {o:Nat},ic fz t x b o->∃vs,l3 fz t x vs/\Cells fz b o vs
 |[],x,o,_=>⟨[],rfl,λj v h=>by simp at h⟩
 |l::t,x,o,h=>by
  simp only[ic] at h;obtain⟨⟨v,aa,ae⟩,az⟩:=h;obtain⟨vs,aF,aQ⟩:=ic.GZ az;refine⟨v::vs,⟨v,vs,rfl,ae,aF⟩,λj u hu=> ?_⟩;cases j with
  |zero=>simp at hu;subst hu;exact aa
  |succ j=>rw[show o+(j+1)=o+1+j by omega];exact aQ j u (by simpa using hu)
theorem l3.Bp {b:Nat}:∀{t:List fy} {x:D t} {o:Nat} {vs:List Value},l3 fz t x vs->Cells fz b o vs->ic fz t x b o
 |[],x,o,_,_,_=>by simp only[ic]
 |l::t,x,o,_,⟨v,r,aa,ae,az⟩,aq=>by
  subst aa;simp only[ic];refine⟨⟨v,by simpa using aq 0 v rfl,ae⟩,l3.Bp az λj u hu=> ?_⟩;rw[show o+1+j=o+(j+1) by omega];exact aq (j+1) u (by simpa using hu)
theorem aia {t:da} {b:Nat}:∀{l:List (D t)} {o:Nat},(∀(i:Nat) (e:D t),l[i]? =some e->ic fz t e b (o+i*t.length))->∃vs,iU fz t l vs/\Cells fz b o vs
 |[],o,_=>⟨[],rfl,λj v h=>by simp at h⟩
 |x::l,o,h=>by
  obtain⟨v,aa,ae⟩:=(by simpa using h 0 x rfl:ic fz t x b o).GZ;obtain⟨r,aF,aQ⟩:=aia (l:=l) (o:=o+t.length) λi e aj=>by
   have:=h (i+1) e (by simpa using aj);rw[iC,Nat.one_mul] at this;rw[Nat.add_assoc,Nat.add_comm t.length];exact this
  refine⟨v++r,⟨v,r,rfl,aa,aF⟩,λj u hu=> ?_⟩;by_cases au:j<v.length
  ·rw[lM au] at hu;exact ae j u hu
  ·rw[l8 ab] at hu;have:=aQ _ u hu;rw[aa.length] at this au;rw[<-this];congr 1;omega
theorem iU.at_ {t:da} {b:Nat}:∀{l:List (D t)} {o:Nat} {vs:List Value},iU fz t l vs->Cells fz b o vs->∀(i:Nat) (e:D t),l[i]? =some e->ic fz t e b (o+i*t.length)
 |[],o,_,_,_,i,e,aj=>by simp at aj
 |x::l,o,_,⟨v,r,aa,ae,az⟩,aq,0,e,aj=>by
  simp at aj;subst aj aa;rw[Nat.zero_mul,dH];exact ae.Bp λj u hu=>aq j u (by rw[lM (ed.1 hu).1];exact hu)
 |x::l,o,_,⟨v,r,aa,ae,az⟩,aq,i+1,e,aj=>by
  subst aa;have:=iU.at_ (o:=o+t.length) az (λj u hu=>by
   have:=aq (t.length+j) u (by rw[l8 (by rw[ae.length];omega),ae.length];simpa using hu);rw[Nat.add_assoc];exact this) i e (by simpa using aj)
  rw[iC,Nat.one_mul,Nat.add_comm (i*t.length),<-Nat.add_assoc];exact this
theorem Us {t:da} {x:L (D t)} {v:Value} (h:dO fz (.aH t) x v):∃A c vs,v=.slice A x.1.length c/\x.1.length<=c/\iU fz t x.1 vs/\(vs≠[]->∃b o,A=some ⟨b,o,none⟩/\Cells fz b o vs)/\(x.1≠[]->∃b o,A=some ⟨b,o,none⟩):=by
 simp only[dO] at h;obtain⟨A,c,aa,ae,az⟩:=h;by_cases aA:x.1=[]
 ·exact⟨A,c,[],aa,ae,by rw[aA];rfl,λh=>absurd rfl h,λh=>absurd aA h⟩
 ·obtain⟨b,o,aF,aQ⟩:=az aA;obtain⟨vs,bq,bE⟩:=aia aQ;exact⟨A,c,vs,aa,ae,bq,λ_=>⟨b,o,aF,bE⟩,λ_=>⟨b,o,aF⟩⟩
theorem Hz {t:da} {x:L (D t)} {b o c:Nat} {vs:List Value} (aa:iU fz t x.1 vs) (ae:Cells fz b o vs) (az:x.1.length<=c):dO fz (.aH t) x (.slice (some ⟨b,o,none⟩) x.1.length c):=by
 simp only[dO];exact⟨_,c,rfl,az,λ_=>⟨b,o,rfl,λi e aj=>aa.at_ ae i e aj⟩⟩
theorem l3.px:∀{t:List fy} {x:D t} {vs:List Value},l3 fz t x vs->∀v∈vs,(∀cs,v≠.agg cs)/\∀cs,v≠.tuple cs
 |[],_,vs,h,v,aM=>by rw[show vs=[] from h] at aM;simp at aM
 |l::t,x,_,⟨u,r,aa,ae,az⟩,v,aM=>by
  subst aa;rcases List.mem_cons.1 aM with rfl|aM
  ·exact cT.one (m:=⟨λ_=>none,λ_=>none,λ_ _ _=>none,fz,λ_=>none⟩) (dO.cell ae)
  ·exact l3.px az v aM
theorem iU.px {t:da}:∀{l:List (D t)} {vs:List Value},iU fz t l vs->∀v∈vs,(∀cs,v≠.agg cs)/\∀cs,v≠.tuple cs
 |[],vs,h,v,aM=>by rw[show vs=[] from h] at aM;simp at aM
 |x::l,_,⟨u,r,aa,ae,az⟩,v,aM=>by
  subst aa;rcases List.mem_append.1 aM with aM|aM
  ·exact ae.px v aM
  ·exact iU.px az v aM
theorem Wr {m:M}:∀{t:da} {cs:List C} {vs:List Value} {x:D t},mh t cs=some x->cv (cT m) cs vs->l3 m.fz t x vs
 |[],[],[],x,h,_=>rfl
 |[],[],v::vs,x,h,aq=>aq.elim
 |[],c::cs,vs,x,h,_=>by rw[Hw] at h;cases h
 |l::t,[],vs,x,h,_=>by rw[Bt] at h;cases h
 |l::t,c::cs,[],x,h,aq=>aq.elim
 |l::t,c::cs,v::vs,x,h,aq=>by
  obtain⟨aa,ae⟩:=Bs h;exact⟨v,vs,rfl,Br aa aq.1,Wr ae aq.2⟩
end
def M.ez (m:M) (i:Nat) (r:Option Nat) (v:Value) (fz:Nat->List Value) (dn:Nat->Option (Nat×Option Nat)):M:=⟨λj=>if j=i then r else m.pl j,λj=>if j=i then some v else m.bb j,m.g3,fz,dn⟩
theorem M.BD {m:M} {i:Nat} {r:Option Nat} {v:Value} {fz:Nat->List Value} {dn:Nat->Option (Nat×Option Nat)} (h:m.pl i=none) (h':m.bb i=none) (ax:ie m.fz fz):Ext m (m.ez i r v fz dn):=⟨λj q au=>by
 simp only[M.ez];split
 ·subst_vars;rw[h] at au;cases au
 ·exact au,λj q au=>by
 simp only[M.ez];split
 ·subst_vars;rw[h'] at au;cases au
 ·exact au,λ_ _ _ _ h=>h,ax⟩
section
variable{aS:Program} {w:World} {m:M} {σ:bF}
theorem bt.Rm (h:bt m σ w) (t:da):js σ.next m (m.ez σ.next none (.slice none 0 0) m.fz m.dn)/\bt (m.ez σ.next none (.slice none 0 0) m.fz m.dn) ⟨σ.heap.put σ.next (some (.a6 t)),σ.next+1⟩ w/\
 gX m σ w (m.ez σ.next none (.slice none 0 0) m.fz m.dn) ⟨σ.heap.put σ.next (some (.a6 t)),σ.next+1⟩ w:=by
 obtain⟨f1,f2,f3,f4⟩:=h.fresh σ.next (Nat.le_refl _);have e:Ext m (m.ez σ.next none (.slice none 0 0) m.fz m.dn):=M.BD f1 f2 (ie.refl _);refine⟨⟨e,λi aj=>by show(if i=σ.next then _ else m.pl i)=_;rw[if_neg ab]⟩,h.change (λj=>j=σ.next) e ⟨rfl,rfl,rfl⟩ (Nat.le_refl _) (λj au=> ?_) (λj b au ai=> ?_) (λj au=>⟨bx.T.eB _ _ au,by simp[M.ez,au],rfl⟩)
  (λb ai _=>⟨rfl,rfl,rfl⟩) (λj k _ _ _ au aP _ _ _ _=>au.trans aP.symm) (λj x R au _ e7=> ?_) h.own (λb R k aa ae=>absurd aa ae) h.stay⟩
 ·have au:σ.next+1<=j:=au;obtain⟨aF,aQ,bn,cy⟩:=h.fresh j ab;exact⟨by simp[M.ez,aF],by simp[M.ez,aQ];omega,bn,(bx.T.eB _ _ ab).trans cy⟩
 ·subst au;simp only[bx.T.hN] at ai;cases ai;exact⟨none,0,0,by simp[M.ez],Nat.le_refl _,.inl ⟨rfl,rfl,by simp[M.ez]⟩⟩
 ·subst au;simp[M.ez] at e7
theorem bt.aox (h:bt m σ w) {k r len c:Nat} {t:da} {cur:Array Value} {ty:TypeId} {bQ jh:Nat×Nat} (aP:σ.heap.get k=some (.a6 t)) (fB:m.bb k=some (.slice (some ⟨r,0,none⟩) len c)) (hw:w.heap[r]? =some (.cells cur ty bQ))
 (rQ:n6 cur bQ->n6 cur jh):js σ.next m m/\bt m σ (g2 w r (.cells cur ty jh))/\gX m σ w m σ (g2 w r (.cells cur ty jh)):=by
 obtain⟨A,cj,c',aa,ae,az⟩:=h.live k _ aP;rw[fB] at aa;cases aa;rcases az with⟨az,_⟩|⟨lY,nK,lI,HN,az,a9,cE,dm,er,eS,fR,ke⟩
 ·cases az
 cases az;rw[hw] at cE;cases cE;have bK:r<w.heap.size:=(nJ.1 hw).1;refine⟨js.refl _ m,h.change (m':=m) (a8:=σ) (λj=>j=k) (Ext.refl m) ⟨rfl,rfl,rfl⟩ (by rw[l1];exact Nat.le_refl _) (λj au=>h.fresh j au) (λj b au ai=> ?_) (λj au=>⟨rfl,rfl,rfl⟩)
  (λb ai aV=>⟨kJ _ _ λq=> ?_,rfl,rfl⟩) (λj k _ _ _ au aP _ _ _ _=>au.trans aP.symm) (λj x R au _ e7=>.inr (.inl ⟨k,_,rfl,aP,au▸e7⟩)) (λb R k aa=>by rw[l1];exact h.own b R k aa) (λb R k aa ae=>absurd aa ae) (λb j v aM=> ?_)⟩
 ·subst au;rw[aP] at ai;cases ai;exact⟨_,_,_,fB,ae,.inr ⟨r,cur,ty,jh,rfl,a9,nw _ _ bK,rQ dm,er,eS,fR,ke⟩⟩
 ·subst q;exact aV k _ b none rfl aP a9 fR
 ·obtain⟨ako,GW,ala,aF,aQ⟩:=h.stay b j v aM;by_cases uV:b=r
  ·subst uV;rw[hw] at aF;cases aF;exact⟨cur,ty,jh,nw _ _ bK,aQ⟩
  ·exact⟨ako,GW,ala,(kJ _ _ uV).trans aF,aQ⟩
theorem bt.alq (h:bt m σ w) {k r len c:Nat} {t:da} {vs:List Value} {n:Nat} (aP:σ.heap.get k=some (.a6 t)) (fB:m.bb k=some (.slice (some ⟨r,0,none⟩) len c)) (aA:vs.length=n*t.length) (hle:len+n<=c)
 (bR:∀v∈vs,(∀cs,v≠.agg cs)/\∀cs,v≠.tuple cs):
 ∃m' w',(storeCells ⟨r,len*t.length,none⟩ vs).run aS w=.ok () w'/\js σ.next m m'/\bt m' ⟨(σ.heap.put k none).put σ.next (some (.a6 t)),σ.next+1⟩ w'/\gX m σ w m' ⟨(σ.heap.put k none).put σ.next (some (.a6 t)),σ.next+1⟩ w'/\
  m'.bb σ.next=some (.slice (some ⟨r,0,none⟩) (len+n) c)/\Cells m'.fz r (len*t.length) vs:=by
 obtain⟨f1,f2,f3,f4⟩:=h.fresh σ.next (Nat.le_refl _);obtain⟨A,cj,c',aa,ae,az⟩:=h.live k _ aP;rw[fB] at aa;cases aa;rcases az with⟨az,_⟩|⟨q,cur,ty,bQ,az,a9,cE,dm,er,eS,fR,ke⟩
 ·cases az
 cases az;have bK:=qD cE;have fh:len*t.length+vs.length<=cur.size:=by
  have:(len+n)*t.length<=c*t.length:=mS _ hle;rw[iC] at this;omega
 have rU:k≠σ.next:=λe=>by rw[e,f1] at a9;cases a9
 have e:Ext m (m.ez σ.next (some r) (.slice (some ⟨r,0,none⟩) (len+n) c) (λb=>if b=r then m.fz r++vs else m.fz b) m.dn):=M.BD f1 f2 λb j v aM=>by
  by_cases ai:b=r
  ·subst ai;simp only[if_true];rw[lM (ed.1 aM).1];exact aM
  ·rw[if_neg ai];exact aM
 refine⟨_,g2 w r (.cells (g8 cur (len*t.length) vs) ty bQ),bx.yI vs 0 w cur cE ab dm.1 bR,⟨e,λi aj=>by show(if i=σ.next then _ else m.pl i)=_;rw[if_neg ab]⟩, ?_⟩;have key:=h.change (m':=m.ez σ.next (some r) (.slice (some ⟨r,0,none⟩) (len+n) c) (λb=>if b=r then m.fz r++vs else m.fz b) m.dn)
  (a8:=⟨(σ.heap.put k none).put σ.next (some (.a6 t)),σ.next+1⟩) (w':=g2 w r (.cells (g8 cur (len*t.length) vs) ty bQ)) (λj=>j=σ.next\/j=k) e ⟨rfl,rfl,rfl⟩ (Nat.le_of_eq (l1 ..).symm) (λj au=> ?_) (λj b au ai=> ?_)
  (λj au=>⟨?_,by simp[M.ez,(not_or.1 au).1],rfl⟩) (λb ai aV=> ?_) (λj l _ _ _ au a3 lA uU _ _=> ?_) (λj x R au ai e7=> ?_) (λb R cj o9=>by rw[l1];exact h.own b R cj o9) (λb R k aa ae=>absurd aa ae) (λb j v fS=> ?_)
 ·refine⟨key.1,key.2,by simp[M.ez],λj v aM=> ?_⟩;simp only[M.ez,if_true];rw[l8 (by rw[eS];omega),eS,Nat.add_sub_cancel_left];exact aM
 ·have au:σ.next+1<=j:=au;obtain⟨aF,aQ,bn,cy⟩:=h.fresh j ab;refine⟨by simp[M.ez,aF];omega,by simp[M.ez,aQ];omega,bn, ?_⟩;simp only
  rw[bx.T.eB _ _ ab,bx.T.kF];split
  ·rfl
  ·exact cy
 ·by_cases mC:j=σ.next
  ·subst mC;simp only[bx.T.hN] at ai;cases ai;exact⟨_,_,c,by simp[M.ez],hle,.inr ⟨r,_,ty,bQ,rfl,by simp[M.ez],nw _ _ bK,by unfold n6;rw[lh];exact dm,by rw[lh];exact er,
    by simp[M.ez,eS,aA,iC],fR,ke⟩⟩
  ·have rT:j=k:=au.resolve_left mC;subst rT;simp only at ai;rw[bx.T.eB _ _ mC,bx.T.hN] at ai;cases ai
 ·have:=not_or.1 au;simp only
  rw[bx.T.eB _ _ this.1,bx.T.eB _ _ this.2]
 ·have uV:b≠r:=λe=>aV k _ r none (.inr rfl) aP a9 (e▸fR);exact⟨kJ _ _ uV,by simp[M.ez,uV],rfl⟩
 ·have dead:∀x,((σ.heap.put k none).put σ.next (some (B.a6 t))).get k≠some x:=λx aV=>by
   rw[bx.T.eB _ _ rU,bx.T.hN] at aV;cases aV
  rcases au with au|au
  ·rcases a3 with a3|a3
   ·rw[au,a3]
   ·subst a3;exact absurd uU (dead _)
  ·subst au;exact absurd lA (dead _)
 ·rcases au with au|au
  ·subst au;simp[M.ez] at e7;subst e7;exact .inr (.inl ⟨k,_,.inr rfl,aP,a9⟩)
  ·subst au;simp only at ai;rw[bx.T.eB _ _ rU,bx.T.hN] at ai;cases ai
 ·simp only[M.ez] at fS;split at fS
  ·subst_vars
   refine⟨_,ty,bQ,nw _ _ bK, ?_⟩;rw[nu _ _ _ _ fh];by_cases au:j<len*t.length
   ·rw[if_neg ab];rw[lM ab] at fS;obtain⟨g5,iS,jh,aF,aQ⟩:=h.stay _ j v fS;rw[cE] at aF;cases aF;exact aQ
   ·rw[l8 ab,eS] at fS;have:=(ed.1 fS).1;rw[if_pos ab];exact fS
  ·rename_i ai;rw[kJ _ _ ai];exact h.stay b j v fS
theorem bt.aaN (h:bt m σ w) {t:da} {vs:List Value} {n c:Nat} {cur:Array Value} {ty:TypeId} (aA:vs.length=n*t.length) (hle:n<=c) (aq:c*t.length<=cur.size) (aM:∀(j:Nat) v,vs[j]? =some v->cur[j]? =some v):
 ∃m',js σ.next m m'/\bt m' ⟨σ.heap.put σ.next (some (.a6 t)),σ.next+1⟩ (w.alloc (.cells cur ty))/\gX m σ w m' ⟨σ.heap.put σ.next (some (.a6 t)),σ.next+1⟩ (w.alloc (.cells cur ty))/\
  m'.bb σ.next=some (.slice (some ⟨w.heap.size,0,none⟩) n c)/\Cells m'.fz w.heap.size 0 vs:=by
 obtain⟨f1,f2,f3,f4⟩:=h.fresh σ.next (Nat.le_refl _);have ax:=h.vR (Nat.le_refl w.heap.size);have e:Ext m (m.ez σ.next (some w.heap.size) (.slice (some ⟨w.heap.size,0,none⟩) n c) (λb=>if b=w.heap.size then vs else m.fz b) (λb=>if b=w.heap.size then some (w.heap.size,none) else m.dn b)):=M.BD f1 f2 λb j v ai=>by
  by_cases he:b=w.heap.size
  ·subst he;rw[ax] at ai;simp at ai
  ·rw[if_neg he];exact ai
 have key:=h.change (m':=m.ez σ.next (some w.heap.size) (.slice (some ⟨w.heap.size,0,none⟩) n c) (λb=>if b=w.heap.size then vs else m.fz b) (λb=>if b=w.heap.size then some (w.heap.size,none) else m.dn b))
  (a8:=⟨σ.heap.put σ.next (some (.a6 t)),σ.next+1⟩) (w':=w.alloc (.cells cur ty)) (λj=>j=σ.next) e ⟨rfl,rfl,rfl⟩ (by simp) (λj au=> ?_) (λj b au ai=> ?_) (λj au=>⟨bx.T.eB _ _ au,by simp[M.ez,au],rfl⟩)
  (λb ai _=>⟨Below.heap_alloc _ _ _ ai,by simp[M.ez];omega,by simp[M.ez];omega⟩) (λj k _ _ _ au aP _ _ _ _=>au.trans aP.symm) (λj x R au _ e7=> ?_) (λb R k aP=> ?_) (λb R k aP aA=> ?_) (λb j v fS=> ?_)
 ·exact⟨_,⟨e,λi aj=>by show(if i=σ.next then _ else m.pl i)=_;rw[if_neg ab]⟩,key.1,key.2,by simp[M.ez],λj v au=>by simpa[M.ez] using au⟩
 ·have au:σ.next+1<=j:=au;obtain⟨aF,aQ,bn,cy⟩:=h.fresh j ab;exact⟨by simp[M.ez,aF];omega,by simp[M.ez,aQ];omega,bn,(bx.T.eB _ _ ab).trans cy⟩
 ·subst au;simp only[bx.T.hN] at ai;cases ai;refine⟨_,n,c,by simp[M.ez],hle,.inr ⟨w.heap.size,cur,ty,(0,0),rfl,by simp[M.ez],heap_alloc_new _ _,⟨λ_ _=>by omega,Nat.le_refl _⟩,aq,by simp[M.ez,aA],by simp[M.ez],λb k ai=> ?_⟩⟩;simp only[M.ez] at ai;split at ai
  ·assumption
  ·have:=(h.own b _ k ai).2;have:=(h.own _ _ _ this).1;omega
 ·subst au;simp[M.ez] at e7;exact .inl ab
 ·simp only[M.ez] at aP⊢;split at aP
  ·cases aP;subst_vars;simp
  ·obtain⟨aF,aQ⟩:=h.own b R k aP;have:=(h.own R R none aQ).1;exact⟨by simp;omega,by rw[if_neg ab];exact aQ⟩
 ·simp only[M.ez] at aP;split at aP
  ·cases aP;exact⟨σ.next,.a6 t,rfl,bx.T.hN ..,by simp[M.ez]⟩
  ·exact absurd aP aA
 ·simp only[M.ez] at fS;split at fS
  ·subst_vars
   exact⟨cur,ty,(0,0),heap_alloc_new _ _,aM j v fS⟩
  ·obtain⟨g5,iS,bQ,aF,aQ⟩:=h.stay b j v fS;exact⟨g5,iS,bQ,(Below.heap_alloc _ _ _ (qD aF)).trans aF,aQ⟩
end
theorem Wp {l:fy} (x:nD l):sI l (o4 l x)=some x:=by
 cases l with
 |int k=>simp[sI,o4]
 |bool=>rfl
 |str=>rfl
 |aH t=>
  have:jS t t=true:=by
   have both:(∀l:fy,kE l l=true)/\(∀t:List fy,jS t t=true):=by
    refine⟨λl=> ?_,λt=> ?_⟩
    ·exact fy.rec (motive_1:=λl=>kE l l=true) (motive_2:=λt=>jS t t=true) (λk=>by simp[kE]) (by simp[kE]) (by simp[kE]) (λt b_=>by simp only[kE];exact b_) (by simp[jS]) (λl t aa ae=>by simp only[jS,aa,ae]) l
    ·exact fy.rec_1 (motive_1:=λl=>kE l l=true) (motive_2:=λt=>jS t t=true) (λk=>by simp[kE]) (by simp[kE]) (by simp[kE]) (λt b_=>by simp only[kE];exact b_) (by simp[jS]) (λl t aa ae=>by simp only[jS,aa,ae]) t
   exact both.2 t
  simp[sI,o4,this]
section
variable{m m':M} {h h':Array Obj} {r n:Nat} {bR gd:Option (Nat×Nat)} {cur g5:Array Value} {base:Nat}
theorem oa.Po {hole:Prop} {ap:Bool} {o:Nat} {l:fy} {x:nD l} {v:Value} (a3:oa m h r hole ap o l x v) (aA:¬hole):dO m.fz l x v:=by
 cases l with
 |aH t=>exact(a3 aA).1
 |int k=>exact a3
 |bool=>exact a3
 |str=>exact a3
theorem oa.of {hole:Prop} {o:Nat} {l:fy} {x:nD l} {v:Value} (a3:dO m.fz l x v):oa m h r hole false o l x v:=by
 cases l with
 |aH t=>exactλ_=>⟨a3,λq=>by cases q⟩
 |int k=>exact a3
 |bool=>exact a3
 |str=>exact a3
theorem oa.Ye {hole Yd:Prop} {ap:Bool} {o:Nat} {l:fy} {x:nD l} {v:Value} (a3:oa m h r hole ap o l x v) (fB:hole->Yd):oa m h r Yd ap o l x v:=by
 cases l with
 |aH t=>exactλaA=>a3 λq=>aA (fB q)
 |int k=>exact a3
 |bool=>exact a3
 |str=>exact a3
theorem gH.cell:∀{t:List fy} {a4:List Bool} {x:D t} {f:Nat},gH m h r bR n cur base t a4 x f->∀(j:Nat) c,(k6 t x)[j]? =some c->bR≠some (n,f+j)->∃v,cur[base+(f+j)]? =some v/\cT m c v
 |[],_,_,_,_,j,c,au,_=>by rw[WG] at au;simp at au
 |l::t,a4,x,f,⟨⟨v,aa,ae⟩,_⟩,0,c,au,aA=>by
  rw[uO] at au;simp at au;subst au;exact⟨v,aa,(ae.Po aA).cell⟩
 |l::t,a4,x,f,⟨_,az⟩,j+1,c,au,aA=>by
  rw[uO] at au;obtain⟨v,aF,aQ⟩:=gH.cell az j c (by simpa using au) (by rw[show f+1+j=f+(j+1) by omega];exact aA);exact⟨v,by rw[<-aF];congr 1;omega,aQ⟩
theorem gH.Bn:∀{t:List fy} {a4:List Bool} {x:D t} {f:Nat},gH m h r bR n cur base t a4 x f->(∀j,f<=j->j<f+t.length->g5[base+j]? =cur[base+j]?)->(∀j,bR=some (n,j)->gd=some (n,j))->gH m h r gd n g5 base t a4 x f
 |[],_,_,_,_,_,_=>trivial
 |l::t,a4,x,f,⟨⟨v,aa,ae⟩,az⟩,aq,fB=>⟨⟨v,(aq f (Nat.le_refl _) (by simp)).trans aa,ae.Ye (fB f)⟩,gH.Bn az (λj aa ae=>aq j ab (by simp at ae⊢;omega)) fB⟩
theorem B1 (a4:List Bool):a4.headD false=a4[0]?.getD false:=by cases a4<;>simp
theorem GR (a4:List Bool) (i:Nat):a4.tail[i]?.getD false=a4[i+1]?.getD false:=by cases a4<;>simp
theorem gH.kZ:∀{t:List fy} {a4:List Bool} {x g9:D t} {f:Nat} {UT:List C},gH m h r bR n cur base t a4 x f->mh t UT=some g9->
 (∀i c,UT[i]? =some c->((k6 t x)[i]? =some c/\g5[base+(f+i)]? =cur[base+(f+i)]? /\(bR=some (n,f+i)->gd=some (n,f+i)))\/
  (∃v,g5[base+(f+i)]? =some v/\∀(l:fy) (y:nD l),t[i]? =some l->sI l c=some y->oa m h r (gd=some (n,f+i)) (a4[i]?.getD false) (base+(f+i)) l y v))->gH m h r gd n g5 base t a4 g9 f
 |[],_,_,_,_,_,_,_,_=>trivial
 |l::t,a4,x,g9,f,[],_,bb,_=>by rw[Bt] at bb;cases bb
 |l::t,a4,x,g9,f,c::UT,⟨⟨v,aa,ae⟩,az⟩,bb,ax=>by
  obtain⟨d1,d2⟩:=Bs bb;refine⟨?_,gH.kZ az d2 λi c' jN=> ?_⟩
  ·rcases ax 0 c rfl with⟨bq,bE,c8⟩|⟨u,bq,bE⟩
   ·rw[uO] at bq;simp at bq;subst bq;rw[Wp] at d1;have:g9.1=x.1:=by injection d1 with d1;exact d1.symm
    rw[this];exact⟨v,bE.trans aa,ae.Ye c8⟩
   ·exact⟨u,bq,by rw[B1];exact bE l g9.1 rfl d1⟩
  ·have:=ax (i+1) c' (by simpa using jN);rw[show f+(i+1)=f+1+i by omega] at this;rcases this with⟨bq,bE,c8⟩|⟨u,bq,bE⟩
   ·rw[uO] at bq;exact .inl ⟨by simpa using bq,bE,c8⟩
   ·exact .inr ⟨u,bq,λeu y a3 bT=>by rw[GR];exact bE eu y (by simpa using a3) bT⟩
def oc (fz:Nat->List Value):(t:List fy)->List Bool->D t->List Value->Prop
 |[],_,_,vs=>vs=[]
 |l::t,a4,x,vs=>∃v q,vs=v::q/\dO fz l x.1 v/\(a4.headD false=true->∀t',l=.aH t'->v=.slice none 0 0)/\oc fz t a4.tail x.2 q
def jF (fz:Nat->List Value) (t:da) (a4:List Bool):List (D t)->List Value->Prop
 |[],vs=>vs=[]
 |e::l,vs=>∃v q,vs=v++q/\oc fz t a4 e v/\jF fz t a4 l q
theorem oc.length {fz:Nat->List Value}:∀{t:List fy} {a4:List Bool} {x:D t} {vs:List Value},oc fz t a4 x vs->vs.length=t.length
 |[],_,_,_,h=>by rw[show _=[] from h];rfl
 |l::t,a4,x,_,⟨v,r,aa,_,_,az⟩=>by rw[aa,gO,oc.length az,gO]
theorem oc.px {fz:Nat->List Value}:∀{t:List fy} {a4:List Bool} {x:D t} {vs:List Value},oc fz t a4 x vs->∀v∈vs,(∀cs,v≠.agg cs)/\∀cs,v≠.tuple cs
 |[],_,_,vs,h,v,aM=>by rw[show vs=[] from h] at aM;simp at aM
 |l::t,a4,x,_,⟨u,r,aa,ae,_,az⟩,v,aM=>by
  subst aa;rcases List.mem_cons.1 aM with rfl|aM
  ·exact cT.one (m:=⟨λ_=>none,λ_=>none,λ_ _ _=>none,fz,λ_=>none⟩) (dO.cell ae)
  ·exact oc.px az v aM
theorem jF.length {fz:Nat->List Value} {t:da} {a4:List Bool}:∀{l:List (D t)} {vs:List Value},jF fz t a4 l vs->vs.length=l.length*t.length
 |[],_,h=>by rw[show _=[] from h];simp
 |x::l,_,⟨v,r,aa,ae,az⟩=>by rw[aa,bY,ae.length,jF.length az,gO,iC];omega
theorem jF.px {fz:Nat->List Value} {t:da} {a4:List Bool}:∀{l:List (D t)} {vs:List Value},jF fz t a4 l vs->∀v∈vs,(∀cs,v≠.agg cs)/\∀cs,v≠.tuple cs
 |[],vs,h,v,aM=>by rw[show vs=[] from h] at aM;simp at aM
 |x::l,_,⟨u,r,aa,ae,az⟩,v,aM=>by
  subst aa;rcases List.mem_append.1 aM with aM|aM
  ·exact ae.px v aM
  ·exact jF.px az v aM
theorem oc.ext {fz nM:Nat->List Value} (e:ie fz nM):∀{t:List fy} {a4:List Bool} {x:D t} {vs:List Value},oc fz t a4 x vs->oc nM t a4 x vs
 |[],_,_,_,h=>h
 |l::t,a4,x,_,⟨v,r,aa,ae,az,a9⟩=>⟨v,r,aa,ae.ext e,az,oc.ext e a9⟩
theorem l3.aiG {fz:Nat->List Value}:∀{t:List fy} {a4:List Bool} {x:D t} {vs:List Value},l3 fz t x vs->(∀i:Nat,a4[i]?.getD false=false)->oc fz t a4 x vs
 |[],_,_,_,h,_=>h
 |l::t,a4,x,_,⟨v,r,aa,ae,az⟩,bW=>⟨v,r,aa,ae,(λq=>by rw[B1,bW] at q;cases q),l3.aiG az λi=>by rw[GR];exact bW _⟩
theorem jF.ac6 {fz:Nat->List Value} {t:da} {a4:List Bool} (bW:∀i:Nat,a4[i]?.getD false=false):∀{l:List (D t)} {vs:List Value},iU fz t l vs->jF fz t a4 l vs
 |[],_,h=>h
 |x::l,_,⟨v,r,aa,ae,az⟩=>⟨v,r,aa,ae.aiG bW,jF.ac6 bW az⟩
theorem jF.ext {fz nM:Nat->List Value} {t:da} {a4:List Bool} (e:ie fz nM):∀{l:List (D t)} {vs:List Value},jF fz t a4 l vs->jF nM t a4 l vs
 |[],_,h=>h
 |x::l,_,⟨v,r,aa,ae,az⟩=>⟨v,r,aa,ae.ext e,jF.ext e az⟩
theorem oc.yL:∀{t:List fy} {a4:List Bool} {x:D t} {f:Nat} {vs:List Value},oc m.fz t a4 x vs->(∀(j:Nat) v,vs[j]? =some v->cur[base+(f+j)]? =some v)->gH m h r none n cur base t a4 x f
 |[],_,_,_,_,_,_=>trivial
 |l::t,a4,x,f,_,⟨v,q,aa,ae,az,a9⟩,aq=>by
  subst aa;refine⟨⟨v,by simpa using aq 0 v rfl, ?_⟩,a9.yL λj u hu=> ?_⟩
  ·cases l with
   |aH t'=>exactλ_=>⟨ae,λbW=>⟨none,0,0,az bW t' rfl,Nat.le_refl _,.inl ⟨rfl,rfl⟩⟩⟩
   |int k=>exact ae
   |bool=>exact ae
   |str=>exact ae
  ·rw[show base+(f+1+j)=base+(f+(j+1)) by omega];exact aq (j+1) u (by simpa using hu)
theorem jF.yL {t:da} {a4:List Bool}:∀{l:List (D t)} {vs:List Value} {o:Nat},jF m.fz t a4 l vs->(∀(j:Nat) v,vs[j]? =some v->cur[o+j]? =some v)->∀(i:Nat) (e:D t),l[i]? =some e->∀n,gH m h r none n cur (o+i*t.length) t a4 e 0
 |[],_,_,_,_,i,e,aj,n=>by simp at aj
 |x::l,_,o,⟨v,q,aa,ae,az⟩,aq,0,e,aj,n=>by
  simp at aj;subst aj aa;rw[Nat.zero_mul,dH];refine ae.yL λj u hu=> ?_;rw[fL];exact aq j u (by rw[lM (ed.1 hu).1];exact hu)
 |x::l,_,o,⟨v,q,aa,ae,az⟩,aq,i+1,e,aj,n=>by
  subst aa;have:=jF.yL (o:=o+t.length) az (λj u hu=>by
   have:=aq (t.length+j) u (by rw[l8 (by rw[ae.length];omega),ae.length];simpa using hu);rw[Nat.add_assoc];exact this) i e (by simpa using aj) n
  rw[iC,Nat.one_mul,Nat.add_comm (i*t.length),<-Nat.add_assoc];exact this
end
open bx (T cv g2 l1 kJ nw g8 lh nu qf)
def snap (cur:Array Value) (a4:List Bool) (sz len o:Nat):Option Value:=if a4[o%sz]? =some true/\o/sz<len then cur[o]? else none
theorem Og {cur:Array Value} {a4:List Bool} {sz len o:Nat} {v:Value}:snap cur a4 sz len o=some v↔cur[o]? =some v/\a4[o%sz]? =some true/\o/sz<len:=by
 unfold snap;split
 ·rename_i h;exact⟨λq=>⟨q,h⟩,λq=>q.1⟩
 ·rename_i h;exact⟨(λq=>by cases q),λq=>absurd q.2 h⟩
def M.fK (m:M) (i:Nat) (r:Option Nat) (v:Value) (s:Nat->Option Value) (dn:Nat->Option (Nat×Option Nat)):M:=⟨λj=>if j=i then r else m.pl j,λj=>if j=i then some v else m.bb j,λj k o=>if j=i/\k=0 then s o else m.g3 j k o,m.fz,dn⟩
theorem M.PF {m:M} {i:Nat} {r:Option Nat} {v:Value} {s:Nat->Option Value} {dn:Nat->Option (Nat×Option Nat)} (h:m.pl i=none) (h':m.bb i=none) (alu:∀k o,m.g3 i k o=none):Ext m (m.fK i r v s dn):=
 ⟨λj q au=>by
  simp only[M.fK];split
  ·subst_vars;rw[h] at au;cases au
  ·exact au,λj q au=>by
  simp only[M.fK];split
  ·subst_vars;rw[h'] at au;cases au
  ·exact au,λj k o q au=>by
  simp only[M.fK];split
  ·rename_i he;rw[he.1,alu] at au;cases au
  ·exact au,ie.refl _⟩
theorem T.DJ {α:Type} (t:T α) {k n:Nat} (x:Option α) (h:k≠n):((t.put k none).put n x).get k=none:=by rw[bx.T.eB _ _ h,bx.T.hN]
section
variable{aS:Program} {w:World} {m:M} {σ:bF}
theorem bt.Rj (h:bt m σ w) {t:da} {a4:List Bool} {l:L (D t)} {vs:List Value} {c:Nat} {cur:Array Value} {ty:TypeId} (bQ:Nat×Nat) (rQ:n6 cur bQ) (aM:jF m.fz t a4 l.1 vs) (hle:l.1.length<=c) (aq:c*t.length<=cur.size)
 (P4:∀(j:Nat) v,vs[j]? =some v->cur[j]? =some v):
 ∃m',js σ.next m m'/\bt m' ⟨σ.heap.put σ.next (some (.arr t a4 l none 0)),σ.next+1⟩ (w.alloc (.cells cur ty bQ))/\gX m σ w m' ⟨σ.heap.put σ.next (some (.arr t a4 l none 0)),σ.next+1⟩ (w.alloc (.cells cur ty bQ))/\
  m'.bb σ.next=some (.slice (some ⟨w.heap.size,0,none⟩) l.1.length c):=by
 obtain⟨f1,f2,f3,f4⟩:=h.fresh σ.next (Nat.le_refl _);have e:Ext m (m.fK σ.next (some w.heap.size) (.slice (some ⟨w.heap.size,0,none⟩) l.1.length c) (snap cur a4 t.length l.1.length) (λb=>if b=w.heap.size then some (w.heap.size,none) else m.dn b)):=M.PF f1 f2 f3;have key:=h.change (m':=m.fK σ.next (some w.heap.size) (.slice (some ⟨w.heap.size,0,none⟩) l.1.length c) (snap cur a4 t.length l.1.length) (λb=>if b=w.heap.size then some (w.heap.size,none) else m.dn b))
  (a8:=⟨σ.heap.put σ.next (some (.arr t a4 l none 0)),σ.next+1⟩) (w':=w.alloc (.cells cur ty bQ)) (λj=>j=σ.next) e ⟨rfl,rfl,rfl⟩ (by simp) (λj au=> ?_) (λj b au ai=> ?_) (λj au=>⟨bx.T.eB _ _ au,by simp[M.fK,au],by funext k o;simp[M.fK,au]⟩)
  (λb ai _=>⟨Below.heap_alloc _ _ _ ai,rfl,by simp[M.fK];omega⟩) (λj k _ _ _ au aP _ _ _ _=>au.trans aP.symm) (λj x R au _ e7=> ?_) (λb R k aP=> ?_) (λb R k aP aA=> ?_) (λb j v fS=> ?_)
 ·exact⟨_,⟨e,λi aj=>by show(if i=σ.next then _ else m.pl i)=_;rw[if_neg ab]⟩,key.1,key.2,by simp[M.fK]⟩
 ·have au:σ.next+1<=j:=au;obtain⟨aF,aQ,bn,cy⟩:=h.fresh j ab;exact⟨by simp[M.fK,aF];omega,by simp[M.fK,aQ];omega,λk o=>by simp[M.fK,bn];omega,(bx.T.eB _ _ ab).trans cy⟩
 ·subst au;simp only[bx.T.hN] at ai;cases ai;refine⟨_,c,by simp[M.fK],hle,λk aP o=> ?_,.inr ⟨w.heap.size,cur,ty,bQ,rfl,by simp[M.fK],heap_alloc_new _ _,rQ,aq,by simp[M.fK],h.vR (Nat.le_refl _),λn x aV=> ?_,λo v=> ?_⟩⟩
  ·simp only[M.fK];rw[if_neg ab];exact f3 k o
  ·have:=jF.yL (m:=m.fK σ.next (some w.heap.size) (.slice (some ⟨w.heap.size,0,none⟩) l.1.length c) (snap cur a4 t.length l.1.length) (λb=>if b=w.heap.size then some (w.heap.size,none) else m.dn b))
    (h:=(w.alloc (.cells cur ty bQ)).heap) (r:=w.heap.size) (cur:=cur) (o:=0) aM (λj v au=>by rw[fL];exact P4 j v au) n x aV n
   rwa [fL] at this
  ·simp only[M.fK,if_true,and_self];exact Og
 ·subst au;simp[M.fK] at e7;exact .inl ab
 ·simp only[M.fK] at aP⊢;split at aP
  ·cases aP;subst_vars;simp
  ·obtain⟨aF,aQ⟩:=h.own b R k aP;have:=(h.own R R none aQ).1;exact⟨by simp;omega,by rw[if_neg ab];exact aQ⟩
 ·simp only[M.fK] at aP;split at aP
  ·cases aP;exact⟨σ.next,.arr t a4 l none 0,rfl,bx.T.hN ..,by simp[M.fK]⟩
  ·exact absurd aP aA
 ·obtain⟨g5,iS,jh,aF,aQ⟩:=h.stay b j v fS;exact⟨g5,iS,jh,(Below.heap_alloc _ _ _ (qD aF)).trans aF,aQ⟩
theorem bt.arr {i r:Nat} {t:da} {a4:List Bool} {l:L (D t)} {bR:Option (Nat×Nat)} {cX k c:Nat} (h:bt m σ w) (aj:σ.heap.get i=some (.arr t a4 l bR cX)) (fB:m.bb i=some (.slice (some ⟨r,0,none⟩) k c)):
 k=l.1.length/\k<=c/\(∀k,cX<k->∀o,m.g3 i k o=none)/\∃cur ty bQ,m.pl i=some r/\w.heap[r]? =some (.cells cur ty bQ)/\n6 cur bQ/\c*t.length<=cur.size/\m.dn r=some (r,none)/\m.fz r=[]/\
  (∀(n:Nat) e,l.1[n]? =some e->gH m w.heap r bR n cur (n*t.length) t a4 e 0)/\(∀o v,m.g3 i cX o=some v↔cur[o]? =some v/\a4[o%t.length]? =some true/\o/t.length<l.1.length):=by
 obtain⟨A,c',aa,ae,az,a9⟩:=h.live i _ aj;rw[fB] at aa;cases aa;rcases a9 with⟨a9,_⟩|⟨q,cur,ty,bQ,aF,aQ⟩
 ·cases a9
 ·cases aF;exact⟨rfl,ae,az,cur,ty,bQ,aQ⟩
theorem bt.au7 {i r n f c k:Nat} {t:da} {a4:List Bool} {l:L (D t)} {cX:Nat} {e e':D t} {cs:List C} {vs:List Value} (h:bt m σ w) (aj:σ.heap.get i=some (.arr t a4 l none cX)) (fB:m.bb i=some (.slice (some ⟨r,0,none⟩) k c))
 (aA:l.1[n]? =some e) (he:mh t (rk (k6 t e) f cs)=some e') (bu:f+cs.length<=t.length) (bW:∀j,f<=j->j<f+cs.length->a4[j]?.getD false=false) (aM:cv (cT m) cs vs):
 ∃w',(storeCells ⟨r,n*t.length+f,none⟩ vs).run aS w=.ok () w'/\bt m ⟨σ.heap.put i (some (.arr t a4 (ec l n e') none cX)),σ.next⟩ w'/\gX m σ w m ⟨σ.heap.put i (some (.arr t a4 (ec l n e') none cX)),σ.next⟩ w':=by
 obtain⟨rfl,amn,Cq,cur,ty,bQ,aa,ae,az,a9,cE,dm,er,eS⟩:=h.arr aj fB;have hlen:=aM.length;have bK:=qD ae;have nQ:=(ed.1 aA).1;have hmul:(n+1)*t.length<=c*t.length:=mS _ ab;rw[iC,Nat.one_mul] at hmul;have fh:n*t.length+f+vs.length<=cur.size:=ab;have nO:∀j,(g8 cur (n*t.length+f) vs)[j]? =if n*t.length+f<=j/\j<n*t.length+f+vs.length then vs[j-(n*t.length+f)]? else cur[j]? :=λj=>nu _ _ _ _ fh
 refine⟨_,bx.yI vs 0 w cur ae ab az.1 (px aM), ?_⟩;refine h.change (w':=g2 w r (.cells (g8 cur (n*t.length+f) vs) ty bQ)) (a8:=⟨σ.heap.put i (some (.arr t a4 (ec l n e') none cX)),σ.next⟩) (λj=>j=i) (Ext.refl m) ⟨rfl,rfl,rfl⟩ (Nat.le_of_eq (l1 ..).symm) (λj au=> ?_) (λj b au ai=> ?_) (λj au=>⟨bx.T.eB _ _ au,rfl,rfl⟩)
  (λb ai aV=>⟨kJ _ _ λe=>aV i _ r none rfl aj aa (e▸cE),rfl,rfl⟩) (λj k _ _ _ au aP _ _ _ _=>au.trans aP.symm) (λj x R au _ e7=>.inr (.inl ⟨i,_,rfl,aj,au▸e7⟩))
  (λb R k aP=>by rw[l1];exact h.own b R k aP) (λb R k aa ae=>absurd aa ae) (λb j v fS=> ?_)
 ·obtain⟨aF,aQ,bn,cy⟩:=h.fresh j au;refine⟨aF,aQ,bn, ?_⟩;rw[bx.T.kF];split
  ·subst_vars;rw[aF] at aa;cases aa
  ·exact cy
 ·subst au;simp only[bx.T.hN] at ai;cases ai;refine⟨_,c,by rw[fB];simp[ec],by simpa[ec] using amn,Cq,.inr ⟨r,_,ty,bQ,rfl,aa,nw _ _ bK,by unfold n6;rw[lh];exact az,by rw[lh];exact a9,cE,dm,λn' x aV=> ?_,λo v=> ?_⟩⟩
  ·have zt:∀{n' x},gH m w.heap r none n' cur (n'*t.length) t a4 x 0->gH m (g2 w r (.cells (g8 cur (n*t.length+f) vs) ty bQ)).heap r none n' cur (n'*t.length) t a4 x 0:=λay=>ay.frame (ie.refl _) λb k _ eD=>⟨kJ _ _ eD,rfl,rfl⟩;simp only[ec] at aV;by_cases v8:n'=n
   ·subst v8;rw[List.getElem?_set_self (by exact nQ)] at aV;cases aV;refine(zt (er n' e aA)).kZ he λj c' jN=> ?_;have xF:=Bz t e;rw[RJ (by rw[xF];exact bu)] at jN;rw[fL];by_cases jY:f<=j/\j<f+cs.length
    ·rw[if_pos jY] at jN;obtain⟨u,bq,bE⟩:=aM.get jN;refine .inr ⟨u, ?_,λeu y _ bT=> ?_⟩
     ·rw[nO,if_pos ab,<-bq];congr 1;omega
     ·rw[bW j jY.1 jY.2];exact oa.of (Br bT bE)
    ·rw[if_neg jY] at jN;refine .inl ⟨jN, ?_,λq=>q⟩;rw[nO,if_neg];have:=(ed.1 jN).1;omega
   ·rw[l9 (Ne.symm v8)] at aV;refine(zt (er n' x aV)).Bn (λj _ au=> ?_) λ_ q=>q;rw[fL] at au;rw[nO,if_neg];rcases Nat.lt_or_gt_of_ne v8 with oA|oA
    ·have:(n'+1)*t.length<=n*t.length:=mS _ oA;rw[iC,Nat.one_mul] at this;omega
    ·have:(n+1)*t.length<=n'*t.length:=mS _ oA;rw[iC,Nat.one_mul] at this;omega
  ·have qA:(ec l n e').1.length=l.1.length:=by simp[ec]
   rw[eS o v,qA];refine and_congr_left λ⟨cm,cF⟩=> ?_;rw[nO,if_neg];rintro⟨eL,fw⟩;have bb:=Nat.div_add_mod o t.length;have k_:0<t.length:=by
    rcases Nat.eq_zero_or_pos t.length with bl|bl
    ·rw[bl] at bu;omega
    ·exact bl
   have hm:o%t.length=o-n*t.length:=by
    have:o=n*t.length+(o-n*t.length):=ab;rw[this,Nat.mul_comm n,Nat.mul_add_mod];rw[Nat.mod_eq_of_lt (by rw[Nat.mul_comm];omega)];rw[Nat.mul_comm];omega
   have:=bW (o%t.length) ab ab;rw[cm] at this;cases this
 ·obtain⟨g5,iS,jh,aF,aQ⟩:=h.stay b j v fS;refine⟨g5,iS,jh, ?_,aQ⟩;rw[kJ]
  ·exact aF
  ·intro e;rw[e,dm] at fS;simp at fS
end
theorem w_ {o n f sz:Nat} (bu:f<sz) (bR:o=n*sz+f):o/sz=n/\o%sz=f:=by
 subst bR;have:0<sz:=ab;refine⟨?_, ?_⟩
 ·rw[Nat.mul_comm,Nat.mul_add_div this,Nat.div_eq_of_lt bu,dH]
 ·rw[Nat.mul_comm,Nat.mul_add_mod,Nat.mod_eq_of_lt bu]
section
variable{m m':M} {h h':Array Obj}
theorem oa.move {r lY:Nat} {hole:Prop} {ap:Bool} {o:Nat} {l:fy} {x:nD l} {v:Value} (e:ie m.fz m'.fz)
 (ai:∀b,m.dn b=some (r,some o)->b≠r->h'[b]? =h[b]? /\m'.dn b=some (lY,some o)/\m'.fz b=m.fz b/\b≠lY) (a3:oa m h r hole ap o l x v):oa m' h' lY hole ap o l x v:=by
 cases l with
 |aH t=>
  intro aA;obtain⟨aa,ae⟩:=a3 aA;refine⟨aa.ext e,λbW=> ?_⟩;obtain⟨A,k,c,aF,aQ,bn⟩:=ae bW;refine⟨A,k,c,aF,aQ,bn.imp id λ⟨b,cur,ty,bQ,bq,bE,c8,ei,jj,oD,pj⟩=> ?_⟩;obtain⟨aE,aX,bL,cM⟩:=ai b oD pj;exact⟨b,cur,ty,bQ,bq,aE.trans bE,c8,ei,by rw[bL];exact jj,aX,cM⟩
 |int k=>exact dO.ext (l:=.int k) e a3
 |bool=>exact dO.ext (l:=.bool) e a3
 |str=>exact dO.ext (l:=.str) e a3
theorem gH.move {r lY n:Nat} {bR:Option (Nat×Nat)} {cur:Array Value} {base:Nat} (e:ie m.fz m'.fz)
 (ai:∀b o,m.dn b=some (r,some o)->b≠r->h'[b]? =h[b]? /\m'.dn b=some (lY,some o)/\m'.fz b=m.fz b/\b≠lY):∀{t:List fy} {a4:List Bool} {x:D t} {f:Nat},gH m h r bR n cur base t a4 x f->gH m' h' lY bR n cur base t a4 x f
 |[],_,_,_,_=>trivial
 |l::t,a4,x,f,⟨⟨v,aa,ae⟩,az⟩=>⟨⟨v,aa,ae.move e λb=>ai b _⟩,gH.move e ai az⟩
theorem gH.hole {r n:Nat} {cur:Array Value} {base jJ f0 sz:Nat} (e:ie m.fz m'.fz) (rO:base=n*sz)
 (ai:∀b o,m.dn b=some (r,some o)->b≠r->o≠jJ*sz+f0->h'[b]? =h[b]? /\m'.dn b=m.dn b/\m'.fz b=m.fz b) (bl:f0<sz):
 ∀{t:List fy} {a4:List Bool} {x:D t} {f:Nat},f+t.length<=sz->(∀l,n=jJ->f<=f0->t[f0-f]? =some l->∃t',l=.aH t')->gH m h r none n cur base t a4 x f->gH m' h' r (some (jJ,f0)) n cur base t a4 x f
 |[],_,_,_,_,_,_=>trivial
 |l::t,a4,x,f,bu,aU,⟨⟨v,aa,ae⟩,az⟩=>by
  simp only[gO] at bu;refine⟨⟨v,aa, ?_⟩,gH.hole e rO ai bl ab (λeu aF aQ bn=>aU eu aF ab (by rw[show f0-f=(f0-(f+1))+1 by omega];simpa using bn)) az⟩;by_cases he:n=jJ/\f=f0
  ·obtain⟨rfl,rfl⟩:=he;obtain⟨t',rfl⟩:=aU l rfl (Nat.le_refl _) (by simp);exactλq=>absurd rfl q
  ·have eD:base+f≠jJ*sz+f0:=by
    intro q;have aa:=w_ (n:=n) (f:=f) (sz:=sz) (o:=base+f) ab (by rw[rO]);have ae:=w_ (n:=jJ) (f:=f0) (sz:=sz) (o:=base+f) bl q;exact he ⟨ab,ab⟩
   cases l with
   |aH t'=>
    intro _;obtain⟨bq,bE⟩:=ae (by simp);refine⟨bq.ext e,λbW=> ?_⟩;obtain⟨A,k,c,aF,aQ,bn⟩:=bE bW;refine⟨A,k,c,aF,aQ,bn.imp id λ⟨b,cur,ty,bQ,bo,cO,bD,cz,fY,hM,lT⟩=> ?_⟩;obtain⟨aE,aX,bL⟩:=ai b _ hM lT eD;exact⟨b,cur,ty,bQ,bo,aE.trans cO,bD,cz,by rw[bL];exact fY,aX.trans hM,lT⟩
   |int k=>exact dO.ext (l:=.int k) e ae
   |bool=>exact dO.ext (l:=.bool) e ae
   |str=>exact dO.ext (l:=.str) e ae
theorem gH.leaf {r n:Nat} {bR:Option (Nat×Nat)} {cur:Array Value} {base:Nat}:∀{t:List fy} {a4:List Bool} {x:D t} {f j:Nat} {l:fy} {c:C},gH m h r bR n cur base t a4 x f->t[j]? =some l->(k6 t x)[j]? =some c->
 ∃(y:nD l) (v:Value),c=o4 l y/\cur[base+(f+j)]? =some v/\oa m h r (bR=some (n,f+j)) (a4[j]?.getD false) (base+(f+j)) l y v
 |[],_,_,_,j,l,c,_,au,_=>by simp at au
 |l::t,a4,x,f,0,_,c,⟨⟨v,aa,ae⟩,_⟩,au,aq=>by
  simp at au;subst au;rw[uO] at aq;simp at aq;exact⟨x.1,v,aq.symm,aa,by rw[<-B1];exact ae⟩
 |l::t,a4,x,f,j+1,eu,c,⟨_,az⟩,au,aq=>by
  rw[uO] at aq;obtain⟨y,v,aF,aQ,bn⟩:=gH.leaf az (j:=j) (l:=eu) (c:=c) (by simpa using au) (by simpa using aq);rw[GR,show f+1+j=f+(j+1) by omega] at bn;rw[show f+1+j=f+(j+1) by omega] at aQ;exact⟨y,v,aF,aQ,bn⟩
theorem gH.Bp {r n:Nat} {cur:Array Value} {base b:Nat} {fz:Nat->List Value} (e:ie m.fz fz) (aq:∀(j:Nat) v,cur[j]? =some v->(fz b)[j]? =some v):∀{t:List fy} {a4:List Bool} {x:D t} {f:Nat},gH m h r none n cur base t a4 x f->ic fz t x b (base+f)
 |[],_,_,_,_=>by simp only[ic]
 |l::t,a4,x,f,⟨⟨v,aa,ae⟩,az⟩=>by
  simp only[ic];exact⟨⟨v,aq _ _ aa,(ae.Po (by simp)).ext e⟩,by have:=gH.Bp (b:=b) e aq az;rwa [<-Nat.add_assoc] at this⟩
end
section
variable{aS:Program} {w:World} {m:M} {σ:bF}
theorem bt.W1 {i:Nat} {t:da} {a4:List Bool} {l:L (D t)} {cX:Nat} {v:Value} (h:bt m σ w) (aj:σ.heap.get i=some (.arr t a4 l none cX)) (fB:m.bb i=some v):
 ∃m',js σ.next m m'/\dO m'.fz (.aH t) l v/\bt m' ⟨σ.heap.put i none,σ.next⟩ w/\gX m σ w m' ⟨σ.heap.put i none,σ.next⟩ w:=by
 obtain⟨A,c,aa,ae,_,az⟩:=h.live i _ aj;rw[fB] at aa;cases aa;rcases az with⟨rfl,rfl,bn⟩|⟨r,cur,ty,bQ,rfl,aQ,bn,cy,fj,fX,gU,iO,jU⟩
 ·obtain⟨bq,bE⟩:=h.drop i;refine⟨m,js.refl _ m, ?_,bq,bE⟩;simp only[dO];exact⟨none,0,rfl,ae,λaA=>by
   have:=List.length_pos_iff.2 aA
   omega⟩
 ·have e:Ext m (m.k3 r cur.toList):=⟨λ_ _ h=>h,λ_ _ h=>h,λ_ _ _ _ h=>h,λb j v ai=>by
   simp only[M.k3];split
   ·subst_vars;rw[gU] at ai;simp at ai
   ·exact ai⟩
  refine⟨m.k3 r cur.toList,⟨e,λ_ _=>rfl⟩, ?_, ?_⟩
  ·simp only[dO];refine⟨_,c,rfl,ae,λ_=>⟨r,0,rfl,λn x aV=> ?_⟩⟩;rw[fL];exact(iO n x aV).Bp e.fz λj v au=>by simpa[M.k3] using au
  ·refine h.change (λj=>j=i) e ⟨rfl,rfl,rfl⟩ (Nat.le_refl _) (λj au=> ?_) (λj b au ai=> ?_) (λj au=>⟨bx.T.eB _ _ au,rfl,rfl⟩)
    (λb ai aA=>⟨rfl,by simp only[M.k3];rw[if_neg];intro e;exact aA i _ r none rfl aj aQ (e▸fX),rfl⟩) (λj k _ _ _ au aP _ _ _ _=>au.trans aP.symm) (λj x R au ai=> ?_) h.own (λb R k aa ae=>absurd aa ae) (λb j v fS=> ?_)
   ·obtain⟨bq,bE,c8,ei⟩:=h.fresh j au;refine⟨bq,bE,c8, ?_⟩;rw[bx.T.kF];split
    ·rfl
    ·exact ei
   ·subst au;simp only[bx.T.hN] at ai;cases ai
   ·subst au;simp only[bx.T.hN] at ai;cases ai
   ·simp only[M.k3] at fS;split at fS
    ·subst_vars;exact⟨cur,ty,bQ,bn,by simpa using fS⟩
    ·exact h.stay b j v fS
theorem bt.take {i n f cX:Nat} {t t':da} {a4:List Bool} {l:L (D t)} {v:Value} (h:bt m σ w) (aj:σ.heap.get i=some (.arr t a4 l none cX)) (bH:t[f]? =some (.aH t')) (aU:m.g3 i cX (n*t.length+f)=some v):
 ∃m',js σ.next m m'/\bt m' ⟨(σ.heap.put i (some (.arr t a4 l (some (n,f)) cX))).put σ.next (some (.a6 t')),σ.next+1⟩ w/\gX m σ w m' ⟨(σ.heap.put i (some (.arr t a4 l (some (n,f)) cX))).put σ.next (some (.a6 t')),σ.next+1⟩ w/\m'.bb σ.next=some v:=by
 obtain⟨f1,f2,f3,f4⟩:=h.fresh σ.next (Nat.le_refl _);obtain⟨A,c,aa,ae,bl,az⟩:=h.live i _ aj;have jY:i≠σ.next:=λe=>by rw[e,f4] at aj;cases aj
 have qw:=(ed.1 bH).1;rcases az with⟨rfl,rfl,bn,cy⟩|⟨r,cur,ty,bQ,rfl,aQ,bn,cy,fj,fX,gU,iO,jU⟩
 ·rw[cy] at aU;cases aU
 ·obtain⟨s1,s2,tf⟩:=(jU _ _).1 aU;obtain⟨d1,d2⟩:=w_ (o:=n*t.length+f) qw rfl;rw[d2] at s2;rw[d1] at tf;have anj:=iO n _ (e_ tf);have amb:(k6 t l.1[n])[f]? =some ((k6 t l.1[n])[f]'(by rw[Bz];exact qw)):=e_ _
  obtain⟨y,u,aB,aG,a1⟩:=anj.leaf bH amb;rw[fL] at aG;rw[s1] at aG;cases aG;obtain⟨a2,bf⟩:=a1 (by simp);rw[s2] at bf;obtain⟨A,k,c',ey,fq,gC⟩:=bf rfl;have ai:∃(ml:Option Nat),(A=none/\c'=0/\ml=none)\/(∃b g5 iS jh,A=some ⟨b,0,none⟩/\ml=some b/\w.heap[b]? =some (.cells g5 iS jh)/\n6 g5 jh/\c'*t'.length<=g5.size/\(m.fz b).length=k*t'.length/\
   m.dn b=some (r,some (n*t.length+f))/\b≠r):=by
   rcases gC with⟨gC,gi⟩|⟨b,g5,iS,jh,gC,gi,mM,kB,qi,iB,j4⟩
   ·exact⟨none,.inl ⟨gC,gi,rfl⟩⟩
   ·exact⟨some b,.inr ⟨b,g5,iS,jh,gC,rfl,gi,mM,kB,qi,by rw[iB,fL],j4⟩⟩
  obtain⟨ml,ai⟩:=ai;have u1:∀b,ml=some b->m.dn b=some (r,some (n*t.length+f))/\b≠r:=by
   intro b uT;rcases ai with⟨_,_,q⟩|⟨fG,_,_,_,_,q,_,_,_,_,cm,cF⟩
   ·rw[q] at uT;cases uT
   ·rw[q] at uT;cases uT;exact⟨cm,cF⟩
  have e:Ext m (m.ez σ.next ml v m.fz (λb=>if ml=some b then some (b,none) else m.dn b)):=M.BD f1 f2 (ie.refl _);refine⟨_,⟨e,λi aj=>by show(if i=σ.next then _ else m.pl i)=_;rw[if_neg ab]⟩, ?_⟩;have key:=h.change (m':=m.ez σ.next ml v m.fz (λb=>if ml=some b then some (b,none) else m.dn b)) (a8:=⟨(σ.heap.put i (some (.arr t a4 l (some (n,f)) cX))).put σ.next (some (.a6 t')),σ.next+1⟩) (w':=w)
   (λj=>j=i\/j=σ.next) e ⟨rfl,rfl,rfl⟩ (Nat.le_refl _) (λj au=> ?_) (λj b au lA=> ?_) (λj au=>⟨?_,by simp[M.ez,(not_or.1 au).2],rfl⟩) (λb bK aV=>⟨rfl,rfl, ?_⟩) (λj iY iM ajO q au lE _ _ ay zK=> ?_) (λj x R au lA e7=> ?_) (λb R k aP=> ?_) (λb R k aP aA=> ?_) h.stay
  ·exact⟨key.1,key.2,by simp[M.ez]⟩
  ·have au:σ.next+1<=j:=au;obtain⟨bq,bE,c8,ei⟩:=h.fresh j ab;have tQ:i≠j:=λe=>by rw[e,ei] at aj;cases aj
   refine⟨by simp[M.ez,bq];omega,by simp[M.ez,bE];omega,c8, ?_⟩;simp only
   rw[bx.T.eB _ _ ab,bx.T.eB _ _ tQ.symm];exact ei
  ·by_cases mC:j=σ.next
   ·subst mC;simp only[bx.T.hN] at lA;cases lA;refine⟨A,k,c',by simp[M.ez,ey],fq, ?_⟩;rcases ai with⟨cm,cF,dy⟩|⟨b,g5,iS,jh,cm,cF,dy,e8,ki,lX,Ag,gx⟩
    ·exact .inl ⟨cm,cF,by simp[M.ez,dy]⟩
    ·refine .inr ⟨b,g5,iS,jh,cm,by simp[M.ez,cF],dy,e8,ki,lX,by simp[M.ez,cF],λfG cj o9=> ?_⟩;simp only[M.ez,cF,Option.some.injEq] at o9;split at o9
     ·rename_i he;exact he.symm
     ·have:=(h.own fG b cj o9).2;rw[Ag] at this;cases this
   ·have iE:j=i:=au.resolve_right mC;subst iE;simp only at lA;rw[bx.T.eB _ _ mC,bx.T.hN] at lA;cases lA;refine⟨some ⟨r,0,none⟩,c,e.bb _ _ aa,ae,bl,.inr ⟨r,cur,ty,bQ,rfl,e.pl _ _ aQ,bn,cy,fj, ?_,gU,λn' x aV=> ?_,jU⟩⟩
    ·simp only[M.ez];rw[if_neg]
     ·exact fX
     ·intro q;exact(u1 r q).2 rfl
    ·refine gH.hole e.fz rfl (λb o o6 eD bR=>⟨rfl, ?_,rfl⟩) qw ab (λeu _ _ k8=> ?_) (iO n' x aV)
     ·simp only[M.ez];rw[if_neg];intro q;rw[(u1 b q).1] at o6;cases o6;exact bR rfl
     ·rw[Nat.sub_zero,bH] at k8;cases k8;exact⟨t',rfl⟩
  ·have:=not_or.1 au;simp only
   rw[bx.T.eB _ _ this.2,bx.T.eB _ _ this.1]
  ·simp only[M.ez];rw[if_neg];intro q;exact aV i _ r _ (.inl rfl) aj aQ (u1 b q).1
  ·have we:(m.ez σ.next ml v m.fz (λb=>if ml=some b then some (b,none) else m.dn b)).pl i=some r:=e.pl _ _ aQ;have Io:(m.ez σ.next ml v m.fz (λb=>if ml=some b then some (b,none) else m.dn b)).pl σ.next=ml:=by simp[M.ez]
   rcases au with rfl|rfl
   ·rcases lE with rfl|rfl
    ·rfl
    ·rw[we] at ay;rw[Io] at zK;cases ay;exact absurd rfl (u1 r zK).2
   ·rcases lE with rfl|rfl
    ·rw[we] at zK;rw[Io] at ay;cases zK;exact absurd rfl (u1 r ay).2
    ·rfl
  ·rcases au with rfl|rfl
   ·have we:(m.ez σ.next ml v m.fz (λb=>if ml=some b then some (b,none) else m.dn b)).pl j=some r:=e.pl _ _ aQ;rw[we] at e7;cases e7;exact .inr (.inl ⟨j,_,.inl rfl,aj,aQ⟩)
   ·have Io:(m.ez σ.next ml v m.fz (λb=>if ml=some b then some (b,none) else m.dn b)).pl σ.next=ml:=by simp[M.ez]
    rw[Io] at e7;exact .inr (.inr ⟨i,_,r,_,.inl rfl,aj,aQ,(u1 R e7).1,(u1 R e7).2⟩)
  ·simp only[M.ez] at aP⊢;split at aP
   ·rename_i ay;cases aP;refine⟨(h.own _ _ _ (u1 b ay).1).1,by rw[if_pos ay]⟩
   ·obtain⟨bq,bE⟩:=h.own b R k aP;refine⟨bq, ?_⟩;rw[if_neg]
    ·exact bE
    ·intro q;rw[(u1 R q).1] at bE;cases bE
  ·simp only[M.ez] at aP;split at aP
   ·rename_i ay;cases aP;exact⟨σ.next,.a6 t',.inr rfl,bx.T.hN ..,by simp[M.ez,ay]⟩
   ·exact absurd aP aA
end
def M.pW (m:M) (i cX:Nat) (s:Nat->Option Value) (sE:Option Nat) (o:Nat×Option Nat):M:=⟨m.pl,m.bb,λj k q=>if j=i/\k=cX then s q else m.g3 j k q,m.fz,λb=>if sE=some b then some o else m.dn b⟩
section
variable{aS:Program} {w:World} {m:M} {σ:bF}
theorem bt.fill {i k n f cX r len c:Nat} {t t':da} {a4:List Bool} {l:L (D t)} {bR:Option (Nat×Nat)} {v:Value} {e e':D t} {y:L (D t')} (h:bt m σ w) (aj:σ.heap.get i=some (.arr t a4 l bR cX)) (rR:bR=none\/bR=some (n,f))
 (fB:m.bb i=some (.slice (some ⟨r,0,none⟩) len c)) (aP:σ.heap.get k=some (.a6 t')) (amq:m.bb k=some v) (bH:t[f]? =some (.aH t')) (aA:l.1[n]? =some e) (bT:dO m.fz (.aH t') y v)
 (he:mh t ((k6 t e).set f (.row t' y .no))=some e'):
 ∃m' w',(storeCells ⟨r,n*t.length+f,none⟩ [v]).run aS w=.ok () w'/\js σ.next m m'/\bt m' ⟨(σ.heap.put k none).put i (some (.arr t a4 (ec l n e') none (cX+1))),σ.next⟩ w'/\
  gX m σ w m' ⟨(σ.heap.put k none).put i (some (.arr t a4 (ec l n e') none (cX+1))),σ.next⟩ w':=by
 obtain⟨rfl,Ig,Cq,cur,ty,bQ,aa,ae,az,a9,cE,dm,er,eS⟩:=h.arr aj fB;obtain⟨A,QK,x7,bq,bE,c8⟩:=h.live k _ aP;rw[amq] at bq;have anl:v=.slice A QK x7:=hP bq;have P_:i≠k:=λq=>by rw[q,aP] at aj;cases aj
 have qw:=(ed.1 bH).1;have nQ:=(ed.1 aA).1;have bK:=qD ae;have hmul:(n+1)*t.length<=c*t.length:=mS _ ab;rw[iC,Nat.one_mul] at hmul;have fh:n*t.length+f<cur.size:=ab;have ai:∃sE:Option Nat,m.pl k=sE/\((A=none/\x7=0/\sE=none)\/∃b g5 iS jh,A=some ⟨b,0,none⟩/\sE=some b/\w.heap[b]? =some (.cells g5 iS jh)/\n6 g5 jh/\x7*t'.length<=g5.size/\(m.fz b).length=QK*t'.length/\m.dn b=some (b,none)/\
  ∀fG cj,m.dn fG=some (b,cj)->fG=b):=by
  rcases c8 with⟨c8,ei,jj⟩|⟨b,g5,iS,jh,c8,ei,jj,oD,pj,Cx,sX,YV⟩
  ·exact⟨none,jj,.inl ⟨c8,ei,rfl⟩⟩
  ·exact⟨some b,ei,.inr ⟨b,g5,iS,jh,c8,rfl,jj,oD,pj,Cx,sX,YV⟩⟩
 obtain⟨sE,Yg,ai⟩:=ai;have xy:∀b,sE=some b->m.dn b=some (b,none)/\b≠r/\∀fG cj,m.dn fG=some (b,cj)->fG=b:=by
  intro b uT;rcases ai with⟨_,_,q⟩|⟨fG,_,_,_,_,q,_,_,_,_,cm,cF⟩
  ·rw[q] at uT;cases uT
  ·rw[q] at uT;cases uT;refine⟨cm,λhe=> ?_,cF⟩;exact P_ (h.inj i k _ _ r aj aP aa (by rw[Yg,q,he]))
 generalize aU:snap (cur.setIfInBounds (n*t.length+f) v) a4 t.length l.1.length=s;have fQ:Ext m (m.pW i (cX+1) s sE (r,some (n*t.length+f))):=⟨λ_ _ h=>h,λ_ _ h=>h,λj cj o q au=>by
  simp only[M.pW];split
  ·rename_i aq;rw[aq.1,aq.2,Cq _ (Nat.lt_succ_self _)] at au;cases au
  ·exact au,ie.refl _⟩
 have Ci:(∀cs,v≠.agg cs)/\∀cs,v≠.tuple cs:=cT.one (m:=m) (bT.cell);refine⟨_,_,bx.yI [v] 0 w cur ae (by simp;omega) az.1 (by simpa using Ci),⟨fQ,λ_ _=>rfl⟩, ?_⟩;have amW:g8 cur (n*t.length+f+0) [v]=cur.setIfInBounds (n*t.length+f) v:=rfl;rw[amW];have nO:∀j,(cur.setIfInBounds (n*t.length+f) v)[j]? =if j=n*t.length+f then some v else cur[j]? :=λj=>by
  by_cases au:j=n*t.length+f
  ·subst au;simp[fh]
  ·rw[if_neg au,Array.getElem?_setIfInBounds_ne (Ne.symm au)]
 refine h.change (m':=m.pW i (cX+1) s sE (r,some (n*t.length+f))) (a8:=⟨(σ.heap.put k none).put i (some (.arr t a4 (ec l n e') none (cX+1))),σ.next⟩) (w':=g2 w r (.cells (cur.setIfInBounds (n*t.length+f) v) ty bQ)) (λj=>j=i\/j=k) fQ ⟨rfl,rfl,rfl⟩ (Nat.le_of_eq (l1 ..).symm)
  (λj au=> ?_) (λj b au lA=> ?_) (λj au=>⟨?_,rfl, ?_⟩) (λb oA aV=> ?_) (λj iY iM ajO q au lE lA al0 _ _=> ?_) (λj x R au lA e7=> ?_) (λb R uy j0=> ?_) (λb R uy j0 eD=> ?_) (λb j u fS=> ?_)
 ·obtain⟨aF,aQ,bn,cy⟩:=h.fresh j au;have iE:j≠i:=λq=>by rw[q,aj] at cy;cases cy
  have rT:j≠k:=λq=>by rw[q,aP] at cy;cases cy
  exact⟨aF,aQ,λcj o=>by simp[M.pW,iE,bn],by simp only;rw[bx.T.eB _ _ iE,bx.T.eB _ _ rT];exact cy⟩
 ·by_cases iE:j=i
  ·subst iE;simp only[bx.T.hN] at lA;cases lA
   refine⟨_,c,by have q:(ec l n e').1.length=l.1.length:=by simp[ec]
                 rw[q];exact fB,by simpa[ec] using Ig,λcj o9 o=> ?_,.inr ⟨r,_,ty,bQ,rfl,aa,nw _ _ bK,⟨λq ay=>az.1 q (by simpa using ay),az.2⟩,by simpa using a9, ?_,dm,λn' x aV=> ?_,λo u=> ?_⟩⟩
   ·simp only[M.pW];rw[if_neg ab];exact Cq cj ab o
   ·simp only[M.pW];rw[if_neg]
    ·exact cE
    ·intro q;exact(xy r q).2.1 rfl
   ·have zt:∀{n' x},gH m w.heap r bR n' cur (n'*t.length) t a4 x 0->gH (m.pW j (cX+1) s sE (r,some (n*t.length+f))) (g2 w r (.cells (cur.setIfInBounds (n*t.length+f) v) ty bQ)).heap r bR n' cur (n'*t.length) t a4 x 0:=
     λay=>gH.frame (m:=m) (m':=m.pW j (cX+1) s sE (r,some (n*t.length+f))) (h:=w.heap) (h':=(g2 w r (.cells (cur.setIfInBounds (n*t.length+f) v) ty bQ)).heap) (ie.refl m.fz) (λb uy j0 eD=>⟨kJ _ _ eD,by
      simp only[M.pW];rw[if_neg];intro q;obtain⟨cm,cF,dy⟩:=xy b q;rw[cm] at j0;cases j0;exact eD rfl,rfl⟩) ay
    simp only[ec] at aV;by_cases v8:n'=n
    ·subst v8;rw[List.getElem?_set_self (by exact nQ)] at aV;cases aV;refine(zt (er n' e aA)).kZ he λiY c' jN=> ?_;rw[fL];by_cases zG:iY=f
     ·subst zG;rw[List.getElem?_set_self (by rw[Bz];exact qw)] at jN;cases jN;refine .inr ⟨v,by rw[nO,if_pos rfl],λeu l2 k8 anr=> ?_⟩;rw[bH] at k8;cases k8;have:l2=y:=by
       have ay:=Wp (l:=.aH t') y;exact hP (anr.symm.trans ay)
      subst this;intro _;refine⟨bT,λ_=>⟨A,QK,x7,anl,bE, ?_⟩⟩;rcases ai with⟨cm,cF,_⟩|⟨b,g5,iS,jh,cm,cF,dy,e8,ki,lX,Ag,gx⟩
      ·exact .inl ⟨cm,cF⟩
      ·obtain⟨ey,fq,gC⟩:=xy b cF;exact .inr ⟨b,g5,iS,jh,cm,(kJ _ _ fq).trans dy,e8,ki,lX,by simp[M.pW,cF],fq⟩
     ·rw[l9 (Ne.symm zG)] at jN;refine .inl ⟨jN,by rw[nO,if_neg ab],λq=> ?_⟩;rcases rR with rR|rR
      ·rw[rR] at q;cases q
      ·rw[rR] at q;cases q;exact absurd rfl zG
    ·rw[l9 (Ne.symm v8)] at aV;refine(zt (er n' x aV)).Bn (λiY _ lE=> ?_) λiY q=> ?_
     ·rw[fL] at lE;rw[nO,if_neg];intro q;have aa:=w_ (n:=n') (f:=iY) (sz:=t.length) (o:=n'*t.length+iY) lE rfl;have ae:=w_ (n:=n) (f:=f) (sz:=t.length) (o:=n'*t.length+iY) qw q;omega
     ·rcases rR with rR|rR
      ·rw[rR] at q;cases q
      ·rw[rR] at q;cases q;exact absurd rfl v8
   ·have qA:(ec l n e').1.length=l.1.length:=by simp[ec]
    rw[qA];simp only[M.pW,and_self,if_true,<-aU];exact Og
  ·have rT:j=k:=au.resolve_left iE;subst rT;simp only at lA;rw[bx.T.eB _ _ iE,bx.T.hN] at lA;cases lA
 ·have:=not_or.1 au;simp only
  rw[bx.T.eB _ _ this.1,bx.T.eB _ _ this.2]
 ·funext cj o;simp[M.pW,(not_or.1 au).1]
 ·have uV:b≠r:=λq=>aV i _ r none (.inl rfl) aj aa (q▸cE);refine⟨kJ _ _ uV,rfl, ?_⟩;simp only[M.pW];rw[if_neg];intro q;exact aV k _ b none (.inr rfl) aP (by rw[Yg,q]) (xy b q).1
 ·have dead:∀x,((σ.heap.put k none).put i (some (B.arr t a4 (ec l n e') none (cX+1)))).get k≠some x:=λx aV=>by
   rw[bx.T.eB _ _ P_.symm,bx.T.hN] at aV;cases aV
  rcases au with rfl|rfl
  ·rcases lE with rfl|rfl
   ·rfl
   ·exact absurd al0 (dead _)
  ·exact absurd lA (dead _)
 ·rcases au with rfl|rfl
  ·have e7:m.pl j=some R:=e7;rw[aa] at e7;cases e7;exact .inr (.inl ⟨j,_,.inl rfl,aj,aa⟩)
  ·simp only at lA;rw[bx.T.eB _ _ P_.symm,bx.T.hN] at lA;cases lA
 ·rw[l1];simp only[M.pW] at j0⊢;split at j0
  ·rename_i ay;cases j0;obtain⟨ey,fq,gC⟩:=xy b ay;refine⟨(h.own _ _ _ ey).1, ?_⟩;rw[if_neg]
   ·exact cE
   ·intro q;exact(xy _ q).2.1 rfl
  ·rename_i ay;obtain⟨aF,aQ⟩:=h.own b R uy j0;refine⟨aF, ?_⟩;rw[if_neg]
   ·exact aQ
   ·intro q;exact ay ((xy R q).2.2 b uy j0▸q)
 ·simp only[M.pW] at j0;split at j0
  ·cases j0;exact⟨i,_,.inl rfl,bx.T.hN ..,aa⟩
  ·exact absurd j0 eD
 ·obtain⟨g5,iS,jh,aF,aQ⟩:=h.stay b j u fS;refine⟨g5,iS,jh, ?_,aQ⟩;rw[kJ]
  ·exact aF
  ·intro q;have fS:(m.fz b)[j]? =some u:=fS;rw[q,dm] at fS;simp at fS
end
section
variable{aS:Program} {w:World} {m:M} {σ:bF}
theorem bt.Rk (h:bt m σ w) (t:da) (a4:List Bool):∃m',js σ.next m m'/\bt m' ⟨σ.heap.put σ.next (some (.arr t a4 L.nil none 0)),σ.next+1⟩ w/\gX m σ w m' ⟨σ.heap.put σ.next (some (.arr t a4 L.nil none 0)),σ.next+1⟩ w/\
 m'.bb σ.next=some (.slice none 0 0):=by
 obtain⟨f1,f2,f3,f4⟩:=h.fresh σ.next (Nat.le_refl _);have e:Ext m (m.ez σ.next none (.slice none 0 0) m.fz m.dn):=M.BD f1 f2 (ie.refl _);have key:=h.change (m':=m.ez σ.next none (.slice none 0 0) m.fz m.dn) (a8:=⟨σ.heap.put σ.next (some (.arr t a4 L.nil none 0)),σ.next+1⟩) (w':=w) (λj=>j=σ.next) e ⟨rfl,rfl,rfl⟩ (Nat.le_refl _) (λj au=> ?_) (λj b au ai=> ?_) (λj au=>⟨bx.T.eB _ _ au,by simp[M.ez,au],rfl⟩)
  (λb ai _=>⟨rfl,rfl,rfl⟩) (λj k _ _ _ au aP _ _ _ _=>au.trans aP.symm) (λj x R au _ e7=> ?_) h.own (λb R k aa ae=>absurd aa ae) h.stay
 ·exact⟨_,⟨e,λi aj=>by show(if i=σ.next then _ else m.pl i)=_;rw[if_neg ab]⟩,key.1,key.2,by simp[M.ez]⟩
 ·have au:σ.next+1<=j:=au;obtain⟨aF,aQ,bn,cy⟩:=h.fresh j ab;exact⟨by simp[M.ez,aF],by simp[M.ez,aQ];omega,bn,(bx.T.eB _ _ ab).trans cy⟩
 ·subst au;simp only[bx.T.hN] at ai;cases ai;exact⟨none,0,by simp[M.ez,L.nil],Nat.le_refl _,λk _ o=>f3 k o,.inl ⟨rfl,rfl,by simp[M.ez],f3⟩⟩
 ·subst au;simp[M.ez] at e7
theorem bt.alp {k r len c cX:Nat} {t:da} {a4:List Bool} {l fN:L (D t)} {eo:List (D t)} {vs:List Value} (h:bt m σ w) (aP:σ.heap.get k=some (.arr t a4 l none cX)) (fB:m.bb k=some (.slice (some ⟨r,0,none⟩) len c))
 (aM:jF m.fz t a4 eo vs) (hle:len+eo.length<=c) (qA:fN.1=l.1++eo):
 ∃m' w',(storeCells ⟨r,len*t.length,none⟩ vs).run aS w=.ok () w'/\js σ.next m m'/\bt m' ⟨(σ.heap.put k none).put σ.next (some (.arr t a4 fN none 0)),σ.next+1⟩ w'/\gX m σ w m' ⟨(σ.heap.put k none).put σ.next (some (.arr t a4 fN none 0)),σ.next+1⟩ w'/\
  m'.bb σ.next=some (.slice (some ⟨r,0,none⟩) fN.1.length c):=by
 obtain⟨f1,f2,f3,f4⟩:=h.fresh σ.next (Nat.le_refl _);obtain⟨rfl,Ig,Cq,cur,ty,bQ,aa,ae,az,a9,cE,dm,er,eS⟩:=h.arr aP fB;have bK:=qD ae;have Qy:=aM.length;have rU:k≠σ.next:=λe=>by rw[e,f1] at aa;cases aa
 have aJ1:fN.1.length=l.1.length+eo.length:=by rw[qA];simp
 have fh:l.1.length*t.length+vs.length<=cur.size:=by
  have:(l.1.length+eo.length)*t.length<=c*t.length:=mS _ hle;rw[iC] at this;omega
 have nO:∀j,(g8 cur (l.1.length*t.length) vs)[j]? =if l.1.length*t.length<=j/\j<l.1.length*t.length+vs.length then vs[j-l.1.length*t.length]? else cur[j]? :=λj=>nu _ _ _ _ fh
 have e:Ext m (m.fK σ.next (some r) (.slice (some ⟨r,0,none⟩) fN.1.length c) (snap (g8 cur (l.1.length*t.length) vs) a4 t.length fN.1.length) m.dn):=M.PF f1 f2 f3;refine⟨_,g2 w r (.cells (g8 cur (l.1.length*t.length) vs) ty bQ),bx.yI vs 0 w cur ae ab az.1 aM.px,⟨e,λi aj=>by show(if i=σ.next then _ else m.pl i)=_;rw[if_neg ab]⟩, ?_⟩;have key:=h.change (m':=m.fK σ.next (some r) (.slice (some ⟨r,0,none⟩) fN.1.length c) (snap (g8 cur (l.1.length*t.length) vs) a4 t.length fN.1.length) m.dn)
  (a8:=⟨(σ.heap.put k none).put σ.next (some (.arr t a4 fN none 0)),σ.next+1⟩) (w':=g2 w r (.cells (g8 cur (l.1.length*t.length) vs) ty bQ)) (λj=>j=σ.next\/j=k) e ⟨rfl,rfl,rfl⟩ (Nat.le_of_eq (l1 ..).symm) (λj au=> ?_) (λj b au ai=> ?_)
  (λj au=>⟨?_,by simp[M.fK,(not_or.1 au).1],by funext k o;simp[M.fK,(not_or.1 au).1]⟩) (λb ai aV=> ?_) (λj l _ _ _ au a3 lA uU _ _=> ?_) (λj x R au ai e7=> ?_) (λb R cj o9=>by rw[l1];exact h.own b R cj o9) (λb R k aa ae=>absurd aa ae) (λb j v fS=> ?_)
 ·exact⟨key.1,key.2,by simp[M.fK]⟩
 ·have au:σ.next+1<=j:=au;obtain⟨aF,aQ,bn,cy⟩:=h.fresh j ab;refine⟨by simp[M.fK,aF];omega,by simp[M.fK,aQ];omega,λk o=>by simp[M.fK,bn];omega, ?_⟩;simp only
  rw[bx.T.eB _ _ ab,bx.T.kF];split
  ·rfl
  ·exact cy
 ·by_cases mC:j=σ.next
  ·subst mC;simp only[bx.T.hN] at ai;cases ai;refine⟨_,c,by simp[M.fK],ab,λcj o9 o=> ?_,.inr ⟨r,_,ty,bQ,rfl,by simp[M.fK],nw _ _ bK,by unfold n6;rw[lh];exact az,by rw[lh];exact a9,cE,dm,λn x aV=> ?_,λo v=> ?_⟩⟩
   ·simp only[M.fK];rw[if_neg ab];exact f3 cj o
   ·rw[qA] at aV;by_cases aA:n<l.1.length
    ·rw[lM aA] at aV;refine(gH.frame (m:=m) (m':=m.fK σ.next (some r) (.slice (some ⟨r,0,none⟩) fN.1.length c) (snap (g8 cur (l.1.length*t.length) vs) a4 t.length fN.1.length) m.dn) (h:=w.heap) (h':=(g2 w r (.cells (g8 cur (l.1.length*t.length) vs) ty bQ)).heap) (ie.refl m.fz) (λb uy j0 eD=>⟨kJ _ _ eD,rfl,rfl⟩) (er n x aV)).Bn (λiY _ lE=> ?_) λ_ q=>q;rw[nO,if_neg];have:(n+1)*t.length<=l.1.length*t.length:=mS _ aA;rw[iC,Nat.one_mul] at this;omega
    ·rw[l8 ab] at aV;have:=jF.yL (m:=m.fK σ.next (some r) (.slice (some ⟨r,0,none⟩) fN.1.length c) (snap (g8 cur (l.1.length*t.length) vs) a4 t.length fN.1.length) m.dn)
      (h:=(g2 w r (.cells (g8 cur (l.1.length*t.length) vs) ty bQ)).heap) (r:=r) (cur:=g8 cur (l.1.length*t.length) vs) (o:=l.1.length*t.length) aM (λj v au=>by
       have:=(ed.1 au).1;rw[nO,if_pos ab,<-au];congr 1;omega) _ x aV n
     rwa [<-iC,Nat.add_sub_cancel' ab] at this
   ·simp only[M.fK,and_self,if_true];exact Og
  ·have rT:j=k:=au.resolve_left mC;subst rT;simp only at ai;rw[bx.T.eB _ _ mC,bx.T.hN] at ai;cases ai
 ·have:=not_or.1 au;simp only
  rw[bx.T.eB _ _ this.1,bx.T.eB _ _ this.2]
 ·have uV:b≠r:=λe=>aV k _ r none (.inr rfl) aP aa (e▸cE);exact⟨kJ _ _ uV,rfl,rfl⟩
 ·have dead:∀x,((σ.heap.put k none).put σ.next (some (B.arr t a4 fN none 0))).get k≠some x:=λx aV=>by
   rw[T.DJ _ _ rU] at aV;cases aV
  rcases au with au|au
  ·rcases a3 with a3|a3
   ·rw[au,a3]
   ·subst a3;exact absurd uU (dead _)
  ·subst au;exact absurd lA (dead _)
 ·rcases au with au|au
  ·subst au;simp[M.fK] at e7;subst e7;exact .inr (.inl ⟨k,_,.inr rfl,aP,aa⟩)
  ·subst au;simp only at ai;rw[T.DJ _ _ rU] at ai;cases ai
 ·obtain⟨g5,iS,jh,aF,aQ⟩:=h.stay b j v fS;refine⟨g5,iS,jh, ?_,aQ⟩;rw[kJ]
  ·exact aF
  ·intro q;have fS:(m.fz b)[j]? =some v:=fS;rw[q,dm] at fS;simp at fS
def sg (dn:Nat->Option (Nat×Option Nat)) (r n:Nat) (b:Nat):Option (Nat×Option Nat):=if b=n then some (n,none) else match dn b with
 |some (R,some o)=>if R=r then some (n,some o) else some (R,some o)
 |q=>q
theorem Uf {dn:Nat->Option (Nat×Option Nat)} {r n b o:Nat} (h:dn b=some (r,some o)) (aA:b≠n):sg dn r n b=some (n,some o):=by simp[sg,aA,h]
theorem N6 {dn:Nat->Option (Nat×Option Nat)} {r n b:Nat} (h:∀o,dn b≠some (r,some o)) (aA:b≠n):sg dn r n b=dn b:=by
 unfold sg;rw[if_neg aA];split
 ·rename_i R o ai;rw[if_neg]
  ·exact ai.symm
  ·intro q;exact h o (by rw[ai,q])
 ·rfl
theorem bt.aHy {k len c c' cX:Nat} {A:Option Addr} {t:da} {a4:List Bool} {l fN:L (D t)} {eo:List (D t)} {vs:List Value} {cur:Array Value} {ty:TypeId} (h:bt m σ w) (aP:σ.heap.get k=some (.arr t a4 l none cX)) (fB:m.bb k=some (.slice A len c))
 (aM:jF m.fz t a4 eo vs) (qA:fN.1=l.1++eo) (aq:fN.1.length<=c') (kH:c'*t.length<=cur.size)
 (hold:∀r nK ty bQ,A=some ⟨r,0,none⟩->w.heap[r]? =some (.cells nK ty bQ)->∀j,j<len*t.length->cur[j]? =nK[j]?) (amO:∀(j:Nat) v,vs[j]? =some v->cur[len*t.length+j]? =some v):
 ∃m',js σ.next m m'/\bt m' ⟨(σ.heap.put k none).put σ.next (some (.arr t a4 fN none 0)),σ.next+1⟩ (w.alloc (.cells cur ty))/\gX m σ w m' ⟨(σ.heap.put k none).put σ.next (some (.arr t a4 fN none 0)),σ.next+1⟩ (w.alloc (.cells cur ty))/\
  m'.bb σ.next=some (.slice (some ⟨w.heap.size,0,none⟩) fN.1.length c'):=by
 obtain⟨f1,f2,f3,f4⟩:=h.fresh σ.next (Nat.le_refl _);have rU:k≠σ.next:=λe=>by rw[e,f4] at aP;cases aP
 have Cd:=h.live k _ aP;obtain⟨eO,oY,dE,dc,a0,gT⟩:=Cd;rw[fB] at dE;cases dE;have aJ:∃r,(∀b o,m.dn b=some (r,some o)->∃q,m.pl k=some q/\q=r)/\(m.pl k=none\/m.pl k=some r)/\(∀n x,l.1[n]? =some x->∃nK ty bQ,A=some ⟨r,0,none⟩/\w.heap[r]? =some (.cells nK ty bQ)/\m.pl k=some r/\gH m w.heap r none n nK (n*t.length) t a4 x 0):=by
  rcases gT with⟨rfl,rfl,bn,_⟩|⟨r,nK,lI,HN,rfl,aQ,bn,cy,fj,fX,gU,iO,jU⟩
  ·refine⟨w.heap.size,λb o ai=> ?_,.inl bn,λn x aV=> ?_⟩
   ·have:=(h.own b _ _ ai).2;have:=(h.own _ _ _ this).1;omega
   ·have:=(ed.1 aV).1;omega
  ·exact⟨r,λb o ai=>⟨r,aQ,rfl⟩,.inr aQ,λn x aV=>⟨nK,lI,HN,rfl,bn,aQ,iO n x aV⟩⟩
 obtain⟨r,xP,xQ,am5⟩:=aJ;have ana:∀b o,m.dn b=some (r,some o)->m.pl k=some r:=λb o ai=>by
  obtain⟨q,cm,cF⟩:=xP b o ai;rw[cm,cF]
 have e:Ext m (m.fK σ.next (some w.heap.size) (.slice (some ⟨w.heap.size,0,none⟩) fN.1.length c') (snap cur a4 t.length fN.1.length) (sg m.dn r w.heap.size)):=M.PF f1 f2 f3;have key:=h.change (m':=m.fK σ.next (some w.heap.size) (.slice (some ⟨w.heap.size,0,none⟩) fN.1.length c') (snap cur a4 t.length fN.1.length) (sg m.dn r w.heap.size))
  (a8:=⟨(σ.heap.put k none).put σ.next (some (.arr t a4 fN none 0)),σ.next+1⟩) (w':=w.alloc (.cells cur ty)) (λj=>j=σ.next\/j=k) e ⟨rfl,rfl,rfl⟩ (by simp) (λj au=> ?_) (λj b au ai=> ?_)
  (λj au=>⟨?_,by simp[M.fK,(not_or.1 au).1],by funext k o;simp[M.fK,(not_or.1 au).1]⟩) (λb ai aV=>⟨Below.heap_alloc _ _ _ ai,rfl, ?_⟩) (λj l _ _ _ au a3 lA uU _ _=> ?_) (λj x R au ai e7=> ?_) (λb R uy j0=> ?_) (λb R uy j0 eD=> ?_) (λb j v fS=> ?_)
 ·exact⟨_,⟨e,λi aj=>by show(if i=σ.next then _ else m.pl i)=_;rw[if_neg ab]⟩,key.1,key.2,by simp[M.fK]⟩
 ·have au:σ.next+1<=j:=au;obtain⟨aF,aQ,bn,cy⟩:=h.fresh j ab;refine⟨by simp[M.fK,aF];omega,by simp[M.fK,aQ];omega,λk o=>by simp[M.fK,bn];omega, ?_⟩;simp only
  rw[bx.T.eB _ _ ab,bx.T.kF];split
  ·rfl
  ·exact cy
 ·by_cases mC:j=σ.next
  ·subst mC;simp only[bx.T.hN] at ai;cases ai;refine⟨_,c',by simp[M.fK],aq,λcj o9 o=> ?_,.inr ⟨w.heap.size,cur,ty,(0,0),rfl,by simp[M.fK],heap_alloc_new _ _,⟨λ_ _=>by omega,Nat.le_refl _⟩,kH,by simp[M.fK,sg],h.vR (Nat.le_refl _),λn x aV=> ?_,λo v=> ?_⟩⟩
   ·simp only[M.fK];rw[if_neg ab];exact f3 cj o
   ·rw[qA] at aV;by_cases aA:n<l.1.length
    ·rw[lM aA] at aV;obtain⟨nK,lI,HN,ey,fq,gC,gi⟩:=am5 n x aV;refine gH.Bn (cur:=nK) (gH.move (m:=m) (h:=w.heap) (r:=r) e.fz (λb o o6 eD=> ?_) gi) (λiY _ lE=> ?_) λ_ q=>q
     ·have al2:=(h.own b _ _ o6).1;exact⟨Below.heap_alloc _ _ _ al2,Uf o6 ab,rfl,ab⟩
     ·refine hold r nK lI HN ey fq _ ?_;have:(n+1)*t.length<=l.1.length*t.length:=mS _ aA;rw[iC,Nat.one_mul] at this;omega
    ·rw[l8 ab] at aV;have:=jF.yL (m:=m.fK σ.next (some w.heap.size) (.slice (some ⟨w.heap.size,0,none⟩) fN.1.length c') (snap cur a4 t.length fN.1.length) (sg m.dn r w.heap.size))
      (h:=(w.alloc (.cells cur ty)).heap) (r:=w.heap.size) (cur:=cur) (o:=l.1.length*t.length) aM amO _ x aV n
     rwa [<-iC,Nat.add_sub_cancel' ab] at this
   ·simp only[M.fK,and_self,if_true];exact Og
  ·have rT:j=k:=au.resolve_left mC;subst rT;simp only at ai;rw[T.DJ _ _ rU] at ai;cases ai
 ·have:=not_or.1 au;simp only
  rw[bx.T.eB _ _ this.1,bx.T.eB _ _ this.2]
 ·exact N6 (λo bR=>aV k _ r _ (.inr rfl) aP (ana b o bR) bR) ab
 ·have dead:∀x,((σ.heap.put k none).put σ.next (some (B.arr t a4 fN none 0))).get k≠some x:=λx aV=>by
   rw[T.DJ _ _ rU] at aV;cases aV
  rcases au with au|au
  ·rcases a3 with a3|a3
   ·rw[au,a3]
   ·subst a3;exact absurd uU (dead _)
  ·subst au;exact absurd lA (dead _)
 ·rcases au with au|au
  ·subst au;simp[M.fK] at e7;exact .inl ab
  ·subst au;simp only at ai;rw[T.DJ _ _ rU] at ai;cases ai
 ·simp only[M.fK] at j0⊢;by_cases xx:b=w.heap.size
  ·subst xx;simp[sg] at j0;obtain⟨rfl,rfl⟩:=j0;exact⟨by simp,by simp[sg]⟩
  ·by_cases o6:∃o,m.dn b=some (r,some o)
   ·obtain⟨o,o6⟩:=o6;rw[Uf o6 xx] at j0;cases j0;have:=(h.own b _ _ o6).1;exact⟨by simp;omega,by simp[sg]⟩
   ·rw[N6 (λo bR=>o6 ⟨o,bR⟩) xx] at j0;obtain⟨aF,aQ⟩:=h.own b R uy j0;have bn:=(h.own R R none aQ).1;refine⟨by simp;omega, ?_⟩;rw[N6 (λo bR=>by rw[aQ] at bR;cases bR) ab];exact aQ
 ·simp only[M.fK] at j0;by_cases xx:b=w.heap.size
  ·subst xx;simp[sg] at j0;obtain⟨rfl,rfl⟩:=j0;exact⟨σ.next,_,.inl rfl,bx.T.hN ..,by simp[M.fK]⟩
  ·by_cases o6:∃o,m.dn b=some (r,some o)
   ·obtain⟨o,o6⟩:=o6;rw[Uf o6 xx] at j0;cases j0;exact⟨σ.next,_,.inl rfl,bx.T.hN ..,by simp[M.fK]⟩
   ·rw[N6 (λo bR=>o6 ⟨o,bR⟩) xx] at j0;exact absurd j0 eD
 ·obtain⟨g5,iS,bQ,aF,aQ⟩:=h.stay b j v fS;exact⟨g5,iS,bQ,(Below.heap_alloc _ _ _ (qD aF)).trans aF,aQ⟩
end
open bx (T cv under size j3)
inductive Q (ρ:Type):Type 1
  |ret (x:ρ)
  |fail
  |bind {α:Type} (o:Option α) (f:α->Q ρ)
  |ite (b:Bool) (x y:Q ρ)
  |alt {α β:Type} (s:α⊕β) (f:α->Q ρ) (g:β->Q ρ)
section
variable{ρ fJ β:Type}
def Q.kY (q:Q ρ) (f:ρ->Q fJ):Q fJ:=Q.rec (motive:=λ_=>Q fJ) f .fail (λo _ b_=>.bind o b_) (λb _ _ x y=>.ite b x y) (λs _ _ b_ Cv=>.alt s b_ Cv) q
def Q.opt (q:Q (Option β)):Option β:=Q.rec (motive:=λ_=>Option β) (λx=>x) none (λo _ b_=>Option.bind o b_) (λb _ _ x y=>cond b x y) (λs _ _ b_ Cv=>Sum.elim b_ Cv s) q
inductive cI:Q ρ->ρ->Prop
  |ret (x:ρ):cI (.ret x) x
  |bind {α:Type} {o:Option α} {f:α->Q ρ} {a:α} {x:ρ}:o=some a->cI (f a) x->cI (.bind o f) x
  |cg {b:Bool} {p q:Q ρ} {x:ρ}:b=true->cI p x->cI (.ite b p q) x
  |PI {b:Bool} {p q:Q ρ} {x:ρ}:b=false->cI q x->cI (.ite b p q) x
  |inl {α β:Type} {s:α⊕β} {f:α->Q ρ} {g:β->Q ρ} {a:α} {x:ρ}:s=.inl a->cI (f a) x->cI (.alt s f g) x
  |inr {α β:Type} {s:α⊕β} {f:α->Q ρ} {g:β->Q ρ} {b:β} {x:ρ}:s=.inr b->cI (g b) x->cI (.alt s f g) x
theorem cI.eA {x y:ρ} (h:cI (.ret x) y):y=x:=by cases h;rfl
theorem cI.b7 {y:ρ} (h:cI .fail y):False:=by cases h
theorem cI.mG {α:Type} {o:Option α} {f:α->Q ρ} {x:ρ} (h:cI (.bind o f) x):∃a,o=some a/\cI (f a) x:=by
 cases h with
 |bind aa ae=>exact⟨_,aa,ae⟩
theorem cI.vg {b:Bool} {p q:Q ρ} {x:ρ} (h:cI (.ite b p q) x):(b=true/\cI p x)\/(b=false/\cI q x):=by
 cases h with
 |cg aa ae=>exact .inl ⟨aa,ae⟩
 |PI aa ae=>exact .inr ⟨aa,ae⟩
theorem cI.ac4 {α β:Type} {s:α⊕β} {f:α->Q ρ} {g:β->Q ρ} {x:ρ} (h:cI (.alt s f g) x):(∃a,s=.inl a/\cI (f a) x)\/∃b,s=.inr b/\cI (g b) x:=by
 cases h with
 |inl aa ae=>exact .inl ⟨_,aa,ae⟩
 |inr aa ae=>exact .inr ⟨_,aa,ae⟩
theorem cI.lf {q:Q ρ} {f:ρ->Q fJ} {y:fJ} (h:cI (q.kY f) y):∃x,cI q x/\cI (f x) y:=by
 induction q with
 |ret x=>exact⟨x,.ret x,h⟩
 |fail=>exact h.b7.elim
 |bind o g b_=>
  obtain⟨a,aa,ae⟩:=cI.mG h;obtain⟨x,az,a9⟩:=b_ a ae;exact⟨x,.bind aa az,a9⟩
 |ite b p q xY xZ=>
  rcases cI.vg h with⟨aa,ae⟩|⟨aa,ae⟩
  ·obtain⟨x,az,a9⟩:=xY ae;exact⟨x,.cg aa az,a9⟩
  ·obtain⟨x,az,a9⟩:=xZ ae;exact⟨x,.PI aa az,a9⟩
 |alt s p q xY xZ=>
  rcases cI.ac4 h with⟨a,aa,ae⟩|⟨b,aa,ae⟩
  ·obtain⟨x,az,a9⟩:=xY a ae;exact⟨x,.inl aa az,a9⟩
  ·obtain⟨x,az,a9⟩:=xZ b ae;exact⟨x,.inr aa az,a9⟩
theorem cI.Ke {q:Q (Option β)} {r:β} (h:q.opt=some r):cI q (some r):=by
 induction q with
 |ret x=>
  have h:x=some r:=h;rw[h];exact .ret _
 |fail=>cases h
 |bind o g b_=>
  have h:Option.bind o (λa=>(g a).opt)=some r:=h;cases bR:o with
  |none=>rw[bR] at h;cases h
  |some a=>rw[bR] at h;exact .bind rfl (b_ a h)
 |ite b p q xY xZ=>
  have h:cond b p.opt q.opt=some r:=h;cases b with
  |true=>exact .cg rfl (xY h)
  |false=>exact .PI rfl (xZ h)
 |alt s p q xY xZ=>
  have h:Sum.elim (λa=>(p a).opt) (λb=>(q b).opt) s=some r:=h;cases s with
  |inl a=>exact .inl rfl (xY a h)
  |inr b=>exact .inr rfl (xZ b h)
end
def Q.of {α ρ:Type} (o:Option α) (f:α->Q ρ):Q ρ:=.bind o f
def iH (c:C):Q V:=.ret (.p (.c c))
def yD {α:Type} (o:Option α) (f:α->C):Q V:=.bind o λa=>.ret (.p (.c (f a)))
def Q.lift {α ρ:Type} (o:Option α) (f:α->Q ρ):Q ρ:=match o with
 |some a=>f a
 |none=>.fail
def Q.O' {ρ:Type} (b:Bool) (q:Q ρ):Q ρ:=.ite b q .fail
abbrev Fr:=List (Nat×V)
def gE (F:Fr) (t:Nat):V:=List.rec (motive:=λ_=>V) .any (λx _ b_=>cond (Nat.beq t x.1) x.2 b_) F
def qL (F:Fr) (t:Nat) (v:V):Fr:=(t,v)::F
theorem uQ (F:Fr) (t k:Nat) (v:V):gE (qL F t v) k=if k=t then v else gE F k:=by
 show cond (Nat.beq k t) v (gE F k)=_;by_cases h:k=t
 ·subst h;rw[Nat.beq_refl,if_pos rfl];rfl
 ·have:Nat.beq k t=false:=by
   cases ai:Nat.beq k t with
   |false=>rfl
   |true=>exact absurd (gq ai) h
  rw[this,if_neg h];rfl
def i_ (x:Operand) (F:Fr):V:=match x with
 |.tmp t=>gE F t
 |.const v=>match uh v with
  |some x=>.p x
  |none=>.any
 |.global g=>.any
 |.func f=>.c (.fn f [] [])
def k4 (v:V):Option C:=match v with
 |.p (.c c)=>some c
 |_=>none
def vI (v:V):Option P:=match v with
 |.p x=>some x
 |_=>none
inductive R
  |val (v:V) (σ:bF)
  |skip (σ:bF)
  |qb (t:Nat) (v:V) (σ:bF)
  |call (f:Nat) (args:List V) (σ:bF)
inductive mN
  |pure (f:Fr->Q V)
  |made (f:Fr->Q V)
  |read (f:Fr->bF->Q V)
  |alloc (z:List C)
  |iZ (f:Fr->bF->Q R)
  |bad
section
variable{α:Type}
def mH (g:Operand) (k:C->Q α) (F:Fr):Q α:=Q.lift (k4 (i_ g F)) k
def iG (g h:Operand) (k:C->C->Q α) (F:Fr):Q α:=Q.lift (k4 (i_ g F)) λc=>Q.lift (k4 (i_ h F)) λd=>k c d
def uk (g:Operand) (k:P->Q α) (F:Fr):Q α:=Q.lift (vI (i_ g F)) k
def RG (g h:Operand) (k:P->P->Q α) (F:Fr):Q α:=Q.lift (vI (i_ g F)) λc=>Q.lift (vI (i_ h F)) λd=>k c d
def lV (g:Operand) (k:C->bF->Q α) (F:Fr) (σ:bF):Q α:=Q.lift (k4 (i_ g F)) λc=>k c σ
def yz (g h:Operand) (k:C->C->bF->Q α) (F:Fr) (σ:bF):Q α:=Q.lift (k4 (i_ g F)) λc=>Q.lift (k4 (i_ h F)) λd=>k c d σ
def z_ (g h:Operand) (k:C->P->bF->Q α) (F:Fr) (σ:bF):Q α:=Q.lift (k4 (i_ g F)) λc=>Q.lift (vI (i_ h F)) λd=>k c d σ
end
def nS (f:(k:IntKind)->aO k->aO k->C) (c d:C):Q V:=match c,d with
 |.int k a,.int cj b=>if h:cj=k then iH (f k a (h▸b)) else .fail
 |_,_=>.fail
def IC (f:(k:IntKind)->aO k->aO k->Option (aO k)) (c d:C):Q V:=match c,d with
 |.int k a,.int cj b=>if h:cj=k then yD (f k a (h▸b)) (.int k) else .fail
 |_,_=>.fail
def Od (f:(k cj:IntKind)->aO k->aO cj->Option (aO k)) (c d:C):Q V:=match c,d with
 |.int k a,.int cj b=>yD (f k cj a b) (.int k)
 |_,_=>.fail
def mkInt (op:BinOp) (x y:Operand):mN:=match op with
 |.add=>.pure (iG x y (nS λk a b=>.int k (bg a b)))
 |.sub=>.pure (iG x y (nS λk a b=>.int k (gf a b)))
 |.mul=>.pure (iG x y (nS λk a b=>.int k (tT a b)))
 |.quo=>.pure (iG x y (IC λk a b=>x3 a b))
 |.rem=>.pure (iG x y (IC λk a b=>tV a b))
 |.and=>.pure (iG x y (nS λk a b=>.int k (q8 a b)))
 |.or=>.pure (iG x y (nS λk a b=>.int k (q9 a b)))
 |.xor=>.pure (iG x y (nS λk a b=>.int k (ph a b)))
 |.shl=>.pure (iG x y (Od λk cj a b=>zT a b))
 |.shr=>.pure (iG x y (Od λk cj a b=>tW a b))
 |.eql=>.pure (iG x y (nS λk a b=>.bool (bd a b)))
 |.neq=>.pure (iG x y (nS λk a b=>.bool (!bd a b)))
 |.lss=>.pure (iG x y (nS λk a b=>.bool (bh a b)))
 |.leq=>.pure (iG x y (nS λk a b=>.bool (fM a b)))
 |.gtr=>.pure (iG x y (nS λk a b=>.bool (bh b a)))
 |.geq=>.pure (iG x y (nS λk a b=>.bool (fM b a)))
 |_=>.bad
def wH (f:ew->ew->C) (c d:C):Q V:=match c,d with
 |.str s,.str t=>iH (f s t)
 |_,_=>.fail
def ail (c d:C):Q V:=match c,d with
 |.str s,.str t=>yD (mg s t) .str
 |_,_=>.fail
def mkStr (op:BinOp) (x y:Operand):mN:=match op with
 |.add=>.pure (iG x y ail)
 |.eql=>.pure (iG x y (wH λs t=>.bool (cC s t)))
 |.neq=>.pure (iG x y (wH λs t=>.bool (!cC s t)))
 |.lss=>.pure (iG x y (wH λs t=>.bool (nV s t)))
 |.leq=>.pure (iG x y (wH λs t=>.bool (nV s t||cC s t)))
 |.gtr=>.pure (iG x y (wH λs t=>.bool (!(nV s t||cC s t))))
 |.geq=>.pure (iG x y (wH λs t=>.bool (!nV s t)))
 |_=>.bad
def fits (d:TypeDesc) (a b:C):Option Bool:=match d,a,b with
 |.int _,.int k x,.int cj y=>if h:cj=k then some (bd x (h▸y)) else none
 |.string,.str s,.str t=>some (cC s t)
 |.bool,.bool x,.bool y=>some (x==y)
 |_,_,_=>none
def uP:List TypeDesc->List C->List C->Option Bool
 |[],[],[]=>some true
 |d::ds,a::l,b::r=>match fits d a b with
  |some x=>match uP ds l r with
   |some y=>some (x&&y)
   |none=>none
  |none=>none
 |_,_,_=>none
inductive sq
  |leaf (d:TypeDesc)
  |flat (ds:List TypeDesc)
def IE (k:sq) (x y:P):Option Bool:=match k,x,y with
 |.leaf d,.c a,.c b=>fits d a b
 |.flat ds,.agg l,.agg r=>uP ds l r
 |_,_,_=>none
def zY (k:sq) (op:BinOp) (x y:Operand):mN:=match op with
 |.eql=>.pure (RG x y λp q=>Q.lift (IE k p q) λb=>iH (.bool b))
 |.neq=>.pure (RG x y λp q=>Q.lift (IE k p q) λb=>iH (.bool (!b)))
 |_=>.bad
def HG (c d:C):Option Bool:=match c,d with
 |.ptr none,.ptr none=>some true
 |.ptr none,.ptr (some _)=>some false
 |.ptr (some _),.ptr none=>some false
 |.cW _ _ _,.ptr none=>some false
 |.ptr none,.cW _ _ _=>some false
 |_,_=>none
def CG (op:BinOp) (x y:Operand):mN:=match op with
 |.eql=>.pure (iG x y λp q=>Q.lift (HG p q) λb=>iH (.bool b))
 |.neq=>.pure (iG x y λp q=>Q.lift (HG p q) λb=>iH (.bool (!b)))
 |_=>.bad
def mkBin (cg:T TypeInfo) (gb:T (List TypeDesc)) (op:BinOp) (t:Nat) (x y:Operand):mN:=match under cg t with
 |some d=>match d with
  |.int _=>mkInt op x y
  |.string=>mkStr op x y
  |.bool=>zY (.leaf .bool) op x y
  |.pointer _=>CG op x y
  |_=>match gb.get t with
   |some ds=>zY (.flat ds) op x y
   |none=>.bad
 |none=>.bad
def QC {k:IntKind} (n:aO k):aO k:=aO.w k (BitVec.ofInt k.bits (if k.signed then-1 else k.max)^^^BitVec.ofInt k.bits n.1).toNat
def aiJ (c:C):Q V:=match c with
 |.int k n=>iH (.int k (tU n))
 |_=>.fail
def aiK (c:C):Q V:=match c with
 |.bool b=>iH (.bool (!b))
 |_=>.fail
def aiL (c:C):Q V:=match c with
 |.int k n=>iH (.int k (QC n))
 |_=>.fail
def aoM (op:UnOp) (x:Operand):mN:=match op with
 |.neg=>.pure (mH x aiJ)
 |.not=>.pure (mH x aiK)
 |.xor=>.pure (mH x aiL)
 |_=>.bad
def nN {α:Type} (σ:bF) (i:Nat) (k:B->Q α):Q α:=match σ.heap.get i with
 |some b=>k b
 |none=>.fail
def yw {α:Type} (l:List C) (o:Nat) (k:C->Q α):Q α:=match l[o]? with
 |some c=>k c
 |none=>.fail
def UN (ap:Bool) (c:C) (id cX n sz f:Nat):C:=match ap,c with
 |true,.row t l _=>.row t l (.at_ id cX n sz f)
 |_,c=>c
def zb {α:Type} (σ:bF) (id n sz:Nat) (k:(t:da)->List Bool->L (D t)->Nat->D t->Q α):Q α:=nN σ id λb=>match b with
 |.arr t a4 l none cX=>match Nat.beq t.length sz with
  |true=>.bind (e3 l n) λe=>k t a4 l cX e
  |false=>.fail
 |_=>.fail
def u9 (c:C) (σ:bF):Q V:=match c with
 |.cW t x o=>yw (k6 t x) o iH
 |.ptr (some x)=>nN σ x.1 λb=>match b with
  |.box cs=>yw cs x.2 iH
  |_=>.fail
 |.jy id n sz f=>zb σ id n sz λt a4 l cX e=>yw (k6 t e) f λc=>iH (UN (a4[f]?.getD false) c id cX n sz f)
 |_=>.fail
def x9 (k:Nat) (c:C) (σ:bF):Q V:=match c with
 |.cW t x o=>match k with
  |0=>.fail
  |_=>Q.lift (cut (k6 t x) o k) λl=>.ret (.p (.agg l))
 |.ptr (some x)=>nN σ x.1 λb=>match b with
  |.box cs=>Q.lift (cut cs x.2 k) λl=>.ret (.p (.agg l))
  |_=>.fail
 |.jy id n sz f=>match k with
  |0=>.fail
  |_=>zb σ id n sz λt a4 l cX e=>Q.lift (cut (k6 t e) f k) λl=>.ret (.p (.agg l))
 |_=>.fail
def Jo (a4:List Bool) (f:Nat):Nat->Bool
 |0=>true
 |n+1=>match a4[f]?.getD false with
  |true=>false
  |false=>Jo a4 (f+1) n
inductive vC
  |bX
  |tok
  |arr (a4:List Bool)
def wG (k:Nat) (bX:Option (Nat×da)) (c:C) (x:P) (σ:bF):Q R:=match Nat.beq x.cells.length k with
 |false=>.fail
 |true=>match c with
  |.ptr (some a)=>nN σ a.1 λb=>match b with
   |.box cs=>match Nat.ble (a.2+x.cells.length) cs.length with
    |true=>match bX with
     |none=>.ret (.skip ⟨σ.heap.put a.1 (some (.box (rk cs a.2 x.cells))),σ.next⟩)
     |some q=>match a.2 with
      |0=>Q.lift (mh q.2 (rk cs a.2 x.cells)) λy=>.ret (.qb q.1 (.c (.cW q.2 y 0)) ⟨σ.heap.put a.1 none,σ.next⟩)
      |_=>.fail
    |false=>.fail
   |_=>.fail
  |.jy id n sz f=>nN σ id λb=>match b with
   |.arr t a4 l bR cX=>match Nat.beq t.length sz with
    |false=>.fail
    |true=>match Nat.ble (f+x.cells.length) t.length with
     |false=>.fail
     |true=>match Jo a4 f x.cells.length with
      |true=>match bR with
       |none=>.bind (e3 l n) λe=>Q.lift (mh t (rk (k6 t e) f x.cells)) λe'=>.ret (.skip ⟨σ.heap.put id (some (.arr t a4 (ec l n e') none cX)),σ.next⟩)
       |some _=>.fail
      |false=>match x with
       |.c (.row t' y (.ny cj _ _))=>match σ.heap.get cj,t[f]?,a4[f]? with
        |some (.a6 aIh),some (.aH t3),some true=>match jS aIh t3&&jS t' t3 with
         |true=>.bind (e3 l n) λe=>Q.lift (mh t ((k6 t e).set f (.row t' y .no))) λe'=>
          (match bR with
           |none=>.ret (.skip ⟨(σ.heap.put cj none).put id (some (.arr t a4 (ec l n e') none (cX+1))),σ.next⟩)
           |some q=>match Nat.beq q.2 f with
            |true=>.ite (decide (q.1=n)) (.ret (.skip ⟨(σ.heap.put cj none).put id (some (.arr t a4 (ec l n e') none (cX+1))),σ.next⟩)) .fail
            |false=>.fail)
         |false=>.fail
        |_,_,_=>.fail
       |_=>.fail
   |_=>.fail
  |_=>.fail
def CT {α:Type} (c:C) (k:Int->Q α):Q α:=match c with
 |.int _ n=>k n.1
 |_=>.fail
def A9 (off:Nat) (c:C):Q V:=match c with
 |.ptr (some x)=>iH (.ptr (some (x.1,x.2+off)))
 |.cW t x o=>iH (.cW t x (o+off))
 |.jy id n sz f=>iH (.jy id n sz (f+off))
 |_=>.fail
def RU (off:Nat) (x:P):Q V:=match x with
 |.agg l=>yw l off iH
 |.c _=>.fail
def RT (n off:Nat) (x:P):Q V:=match x with
 |.agg l=>Q.lift (cut l off n) λr=>.ret (.p (.agg r))
 |.c _=>.fail
def a7 {α:Type} (l:L α) (i:Int):Option α:=bif decide (0<=i) then l.1[i.toNat]? else none
def YR (sz:Nat) (c i:C):Q V:=CT i λn=>match c with
 |.row t l _=>match Nat.beq t.length sz with
  |true=>.bind (a7 l n) λe=>iH (.cW t e 0)
  |false=>.fail
 |.aH id len=>.ite (decide (0<=n)&&decide (n<len)) (iH (.jy id n.toNat sz 0)) .fail
 |_=>.fail
def u6 (s:ew) (i:Int):Option (aO .u8):=bif decide (0<=i) then(s.1.data[i.toNat]?).map λu=>⟨u.toNat,by have:=u.toNat_lt;simp[IntKind.min,IntKind.max,IntKind.bits,IntKind.signed];omega⟩ else none
def YS (c i:C):Q V:=CT i λn=>match c with
 |.str s=>yD (u6 s n) (.int .u8)
 |_=>.fail
def Zd (c:C):Q V:=match c with
 |.str s=>iH (.int .i64 (mF s))
 |_=>.fail
def Zc (c:C):Q V:=match c with
 |.cP=>iH (.int .i64 (aO.w .i64 0))
 |.row t l _=>iH (.int .i64 (bj l))
 |.aH id n=>iH (.int .i64 (aO.w .i64 n))
 |.ux id di n sz=>iH (.int .i64 (aO.w .i64 n))
 |_=>.fail
def x2 {α:Type} (g:Option Operand) (d:Int) (F:Fr) (k:Int->Q α):Q α:=match g with
 |none=>k d
 |some g=>Q.lift (k4 (i_ g F)) λc=>CT c k
def Pf (x:Operand) (di aj:Option Operand) (F:Fr):Q V:=match k4 (i_ x F) with
 |some (.str s)=>x2 aj s.1.size F λh=>x2 di 0 F λl=>yD (oo s l h) .str
 |_=>.fail
def Pe (sz:Nat) (x:Operand) (di aj:Option Operand) (F:Fr):Q V:=match k4 (i_ x F) with
 |some (.row t s _)=>Q.lift (match Nat.beq t.length sz with|true=>some ()|false=>none) λ_=>x2 aj s.1.length F λh=>x2 di 0 F λl=>yD (nf s l h) λr=>.row t r .no
 |some (.aH id n)=>x2 aj n F λh=>x2 di 0 F λl=>.ite (decide (0<=l)&&decide (l<=h)&&decide (h<=n)) (iH (.ux id l.toNat (h-l).toNat sz)) .fail
 |_=>.fail
def xg (place:Nat->Option (Nat×Nat)) (F:Fr):List (Nat×Operand)->List C->Option (List C)
 |[],cells=>some cells
 |x::rest,cells=>match vI (i_ x.2 F) with
  |none=>none
  |some v=>match place x.1 with
   |none=>none
   |some y=>match Nat.beq v.cells.length y.2 with
    |true=>match Nat.ble (y.1+y.2) cells.length with
     |true=>xg place F rest (rk cells y.1 v.cells)
     |false=>none
    |false=>none
def DI (cg:T TypeInfo):List Field->Option (List (Nat×Nat))
 |[]=>some []
 |f::l=>match size cg f.type with
  |some n=>match DI cg l with
   |some r=>some ((f.offset,n)::r)
   |none=>none
  |none=>none
def Kq (n i:Nat):Option (Nat×Nat):=some (i*n,n)
def qM (z:List C):Nat->List C
 |0=>[]
 |n+1=>z++qM z n
def zh (place:Nat->Option (Nat×Nat)) (z:List C) (l:List (Nat×Operand)) (F:Fr):Q V:=match xg place F l z with
 |some cs=>.ret (.p (.agg cs))
 |none=>.fail
def w8 (t:da):Nat->List C->Option (List (D t))
 |0,_=>some []
 |k+1,l=>match mh t (l.take t.length) with
  |some x=>match w8 t k (l.drop t.length) with
   |some r=>some (x::r)
   |none=>none
  |none=>none
def We (k:IntKind) (c:C):Q V:=match c with
 |.int _ n=>iH (.int k (fk k n))
 |_=>.fail
def Wf (c:C):Q V:=match c with
 |.str s=>iH (.str s)
 |_=>.fail
def og (l:L (D [.int .u8])):ew:=⟨⟨(l.1.map λx=>UInt8.ofNat x.1.1.toNat).toArray⟩,by
 have:=l.2;show((l.1.map λx=>UInt8.ofNat x.1.1.toNat).toArray).size<=_;simp;omega⟩
def w7 (c:C) (σ:bF):Q V:=match c with
 |.cP=>iH (.str (og L.nil))
 |.row t l _=>if h:jS t [.int .u8]=true then iH (.str (og (cast (congrArg (λt=>L (D t)) (jT h)) l))) else .fail
 |.aH id n=>nN σ id λb=>match b with
  |.arr t a4 l none cX=>if h:jS t [.int .u8]=true then iH (.str (og (cast (congrArg (λt=>L (D t)) (jT h)) l))) else .fail
  |_=>.fail
 |_=>.fail
open bx (T cv under size j3 ff jr gZ lH qd)
set_option linter.unusedSimpArgs false
structure dr (m:M) (n:Nat) (F:Fr) (a:Go.Act):Prop where
  size:n<=a.tmps.size
  defers:a.defers=[]
  slot:∀t,dW m (gE F t) (a.tmps.getD t undef)
def jf (aS:Program) (m:M) (w:World) (s:Sem Value) (q:Q V):Prop:=∀v,cI q v->∃d_,s.run aS w=.ok d_ w/\dW m v d_
section
variable{aS:Program} {w:World} {m m':M} {σ a8:bF} {F:Fr} {a:Go.Act} {n:Nat} {v:V} {α:Type} {z:α}
theorem dr.ext (a5:dr m n F a) (e:Ext m m'):dr m' n F a:=⟨a5.size,a5.defers,λt=>(a5.slot t).ext e⟩
theorem pP {v:V} {c:C} {x:Value} (h:k4 v=some c) (aM:dW m v x):cT m c x:=by
 unfold k4 at h;split at h
 ·cases h;exact aM
 ·cases h
theorem Bb {v:V} {c:P} {x:Value} (h:vI v=some c) (aM:dW m v x):iT m c x:=by
 unfold vI at h;split at h
 ·cases h;exact aM
 ·cases h
theorem lg (a5:dr m n F a) (x:Operand):dW m (i_ x F) (a.eval x):=by
 cases x with
 |tmp t=>exact a5.slot t
 |const v=>
  show dW m (match uh v with|some x=>V.p x|none=>.any) v;cases h:uh v with
  |none=>trivial
  |some x=>exact Dz m h
 |global g=>trivial
 |func f=>exact⟨#[],#[],rfl,trivial,trivial⟩
theorem gK {β:Type} {o:Option β} {k:β->Q α} (h:cI (Q.lift o k) z):∃x,o=some x/\cI (k x) z:=by
 cases o with
 |none=>exact h.b7.elim
 |some x=>exact⟨x,rfl,h⟩
theorem ui {x:Operand} {k:C->Q α} (a5:dr m n F a) (h:cI (mH x k F) z):∃c,cT m c (a.eval x)/\cI (k c) z:=by
 obtain⟨c,aq,h⟩:=gK h;exact⟨c,pP aq (lg a5 x),h⟩
theorem uj {x y:Operand} {k:C->C->Q α} (a5:dr m n F a) (h:cI (iG x y k F) z):∃c d,cT m c (a.eval x)/\cT m d (a.eval y)/\cI (k c d) z:=by
 obtain⟨c,aq,h⟩:=gK h;obtain⟨d,bb,h⟩:=gK h;exact⟨c,d,pP aq (lg a5 x),pP bb (lg a5 y),h⟩
theorem Kg {x:Operand} {k:P->Q α} (a5:dr m n F a) (h:cI (uk x k F) z):∃c,iT m c (a.eval x)/\cI (k c) z:=by
 obtain⟨c,aq,h⟩:=gK h;exact⟨c,Bb aq (lg a5 x),h⟩
theorem ac8 {x y:Operand} {k:P->P->Q α} (a5:dr m n F a) (h:cI (RG x y k F) z):∃c d,iT m c (a.eval x)/\iT m d (a.eval y)/\cI (k c d) z:=by
 obtain⟨c,aq,h⟩:=gK h;obtain⟨d,bb,h⟩:=gK h;exact⟨c,d,Bb aq (lg a5 x),Bb bb (lg a5 y),h⟩
theorem z9 {x:Operand} {k:C->bF->Q α} (a5:dr m n F a) (h:cI (lV x k F σ) z):∃c,cT m c (a.eval x)/\cI (k c σ) z:=by
 obtain⟨c,aq,h⟩:=gK h;exact⟨c,pP aq (lg a5 x),h⟩
theorem auB {x y:Operand} {k:C->P->bF->Q α} (a5:dr m n F a) (h:cI (z_ x y k F σ) z):∃c d,cT m c (a.eval x)/\iT m d (a.eval y)/\cI (k c d σ) z:=by
 obtain⟨c,aq,h⟩:=gK h;obtain⟨d,bb,h⟩:=gK h;exact⟨c,d,pP aq (lg a5 x),Bb bb (lg a5 y),h⟩
theorem iI {c:C} (h:cI (iH c) v):v=.p (.c c):=h.eA
theorem Ah {β:Type} {o:Option β} {f:β->C} (h:cI (yD o f) v):∃x,o=some x/\v=.p (.c (f x)):=by
 obtain⟨x,aa,ae⟩:=h.mG;exact⟨x,aa,ae.eA⟩
variable{op:BinOp} {t:TypeId} {x y:Operand}
theorem PU (k cj:IntKind) (i j:Int):(eqGuard op t x y (.int k i) (.int cj j)).run aS w=.ok () w:=by
 unfold eqGuard;cases op<;>simp
theorem Xd (s ep:ByteArray):(eqGuard op t x y (.string s) (.string ep)).run aS w=.ok () w:=by
 unfold eqGuard;cases op<;>simp
theorem r3 {f:(k:IntKind)->aO k->aO k->C} (a5:dr m n F a)
 (bu:∀k (i j:aO k),∃v,(Go.binOp op t (.int k i.1) (.int k j.1)).run aS w=.ok v w/\cT m (f k i j) v):
 jf aS m w (do eqGuard op t x y (a.eval x) (a.eval y);Go.binOp op t (a.eval x) (a.eval y)) (iG x y (nS f) F):=by
 intro v h;obtain⟨c,d,aq,bb,h⟩:=uj a5 h;unfold nS at h;split at h
 ·split at h
  ·rename_i k i cj j aP;subst aP;have aq:a.eval x=.int cj i.1:=aq;have bb:a.eval y=.int cj j.1:=bb;obtain rfl:=iI h;obtain⟨u,aa,ae⟩:=bu cj i j;exact⟨u,by rw[aq,bb,iv,PU];exact aa,ae⟩
  ·exact h.b7.elim
 ·exact h.b7.elim
theorem YJ {f:(k:IntKind)->aO k->aO k->Option (aO k)} (a5:dr m n F a)
 (bu:∀k (i j:aO k) z,f k i j=some z->(Go.binOp op t (.int k i.1) (.int k j.1)).run aS w=.ok (.int k z.1) w):
 jf aS m w (do eqGuard op t x y (a.eval x) (a.eval y);Go.binOp op t (a.eval x) (a.eval y)) (iG x y (IC f) F):=by
 intro v h;obtain⟨c,d,aq,bb,h⟩:=uj a5 h;unfold IC at h;split at h
 ·split at h
  ·rename_i k i cj j aP;subst aP;have aq:a.eval x=.int cj i.1:=aq;have bb:a.eval y=.int cj j.1:=bb;obtain⟨z,aa,rfl⟩:=Ah h;exact⟨.int cj z.1,by rw[aq,bb,iv,PU];exact bu cj i j z aa,rfl⟩
  ·exact h.b7.elim
 ·exact h.b7.elim
theorem aiq {f:(k cj:IntKind)->aO k->aO cj->Option (aO k)} (a5:dr m n F a)
 (bu:∀k cj (i:aO k) (j:aO cj) z,f k cj i j=some z->(Go.binOp op t (.int k i.1) (.int cj j.1)).run aS w=.ok (.int k z.1) w):
 jf aS m w (do eqGuard op t x y (a.eval x) (a.eval y);Go.binOp op t (a.eval x) (a.eval y)) (iG x y (Od f) F):=by
 intro v h;obtain⟨c,d,aq,bb,h⟩:=uj a5 h;unfold Od at h;split at h
 ·rename_i k i cj j;have aq:a.eval x=.int k i.1:=aq;have bb:a.eval y=.int cj j.1:=bb;obtain⟨z,aa,rfl⟩:=Ah h;exact⟨.int k z.1,by rw[aq,bb,iv,PU];exact bu k cj i j z aa,rfl⟩
 ·exact h.b7.elim
theorem Wg {β:Type} {b:Bool} {o:Option β} {z:β} (h:cond b none o=some z):b=false/\o=some z:=by
 cases b with
 |true=>cases h
 |false=>exact⟨rfl,h⟩
theorem Bm {β:Type} {b:Bool} {o:Option β} {z:β} (h:cond b o none=some z):b=true/\o=some z:=by
 cases b with
 |true=>exact⟨rfl,h⟩
 |false=>cases h
theorem aoF (a5:dr m n F a):match mkInt op x y with
 |.pure f=>jf aS m w (do eqGuard op t x y (a.eval x) (a.eval y);Go.binOp op t (a.eval x) (a.eval y)) (f F)
 |.bad=>True
 |_=>False:=by
 cases op with
 |add=>exact r3 a5 λk i j=>⟨_,by simp[Go.binOp,Op.intArith];rfl,rfl⟩
 |sub=>exact r3 a5 λk i j=>⟨_,by simp[Go.binOp,Op.intArith];rfl,rfl⟩
 |mul=>exact r3 a5 λk i j=>⟨_,by simp[Go.binOp,Op.intArith];rfl,rfl⟩
 |quo=>
  refine YJ a5 λk i j z h=> ?_;obtain⟨aa,ae⟩:=Wg h;cases ae;have:j.1≠0:=of_decide_eq_false aa;simp[Go.binOp,Op.intDiv,this,aO.w]
 |rem=>
  refine YJ a5 λk i j z h=> ?_;obtain⟨aa,ae⟩:=Wg h;cases ae;have au:j.1≠0:=of_decide_eq_false aa;have hw:k.wrap (i.1.tmod j.1)=i.1.tmod j.1:=by
   refine AT ?_;have ae:=i.2;have XZ:k.min<=0/\0<=k.max:=by cases k<;>decide
   have az:=Int.natAbs_tmod i.1 j.1;have a9:i.1.natAbs%j.1.natAbs<=i.1.natAbs:=Nat.mod_le _ _;rcases Int.le_total 0 i.1 with h|h
   ·have:=Int.tmod_nonneg j.1 h;omega
   ·have cE:i.1.tmod j.1<=0:=by
     have:=Int.tmod_nonneg j.1 (a:=-i.1) ab;rw[Int.neg_tmod] at this;omega
    omega
  simp[Go.binOp,Op.intDiv,au,aO.w,hw]
 |and=>exact r3 a5 λk i j=>⟨_,by simp[Go.binOp,Op.intBits];rfl,by simp[q8,aO.w,cT]⟩
 |or=>exact r3 a5 λk i j=>⟨_,by simp[Go.binOp,Op.intBits];rfl,by simp[q9,aO.w,cT]⟩
 |xor=>exact r3 a5 λk i j=>⟨_,by simp[Go.binOp,Op.intBits];rfl,by simp[ph,aO.w,cT]⟩
 |shl=>
  refine aiq a5 λk cj i j z h=> ?_;obtain⟨aa,ae⟩:=Bm h;cases ae;have:¬(j.1<0):=by have:=of_decide_eq_true aa;omega
  simp[Go.binOp,Op.shift,this,aO.w,Int.natCast_pow]
 |shr=>
  refine aiq a5 λk cj i j z h=> ?_;obtain⟨aa,ae⟩:=Bm h;cases ae;have aA:¬(j.1<0):=by have:=of_decide_eq_true aa;omega
  have hw:k.wrap (i.1.fdiv (2^(min j.1.toNat k.bits):Nat))=i.1.fdiv (2^(min j.1.toNat k.bits):Nat):=by
   refine AT ?_;have ae:=i.2;have XZ:k.min<=0/\0<=k.max:=by cases k<;>decide
   have bw:(0:Int)<(2^(min j.1.toNat k.bits):Nat):=by
    have:0<2^(min j.1.toNat k.bits):=Nat.pow_pos bp;omega
   have v9:(1:Int)<=(2^(min j.1.toNat k.bits):Nat):=ab;rw[Int.fdiv_eq_ediv_of_nonneg _ ab];generalize((2^(min j.1.toNat k.bits):Nat):Int)=p at bw v9⊢;rcases Int.le_total 0 i.1 with h|h
   ·have dE:=Int.ediv_nonneg h (by omega:0<=p);have dc:=Int.ediv_le_self p h;omega
   ·have dE:i.1/p<=0:=by
     have:=Int.ediv_le_ediv bw h;simpa using this
    have dc:i.1<=i.1/p:=by
     rw[Int.le_ediv_iff_mul_le bw];have:i.1*p<=i.1*1:=Int.mul_le_mul_of_nonpos_left h v9;omega
    omega
  simp only[aO.w,hw];simp[Go.binOp,Op.shift,aA,Int.natCast_pow]
 |eql=>exact r3 a5 λk i j=>⟨.bool (i.1==j.1),by simp[Go.binOp,Op.intCmp],rfl⟩
 |neq=>exact r3 a5 λk i j=>⟨.bool (i.1!=j.1),by simp[Go.binOp,Op.intCmp],rfl⟩
 |lss=>exact r3 a5 λk i j=>⟨.bool (decide (i.1<j.1)),by simp[Go.binOp,Op.intCmp],rfl⟩
 |leq=>exact r3 a5 λk i j=>⟨.bool (decide (i.1<=j.1)),by simp[Go.binOp,Op.intCmp],rfl⟩
 |gtr=>exact r3 a5 λk i j=>⟨.bool (decide (i.1>j.1)),by simp[Go.binOp,Op.intCmp],rfl⟩
 |geq=>exact r3 a5 λk i j=>⟨.bool (decide (i.1>=j.1)),by simp[Go.binOp,Op.intCmp],rfl⟩
 |andNot=>trivial
theorem Ho (s ep:ew):(s.1.toList==ep.1.toList)=cC s ep:=by
 unfold cC;rw[aiE,Bool.eq_iff_iff,decide_eq_true_iff,decide_eq_true_iff];exact Subtype.ext_iff.symm
theorem AM {f:ew->ew->C} (a5:dr m n F a)
 (bu:∀s ep:ew,∃v,(Go.binOp op t (.string s.1) (.string ep.1)).run aS w=.ok v w/\cT m (f s ep) v):
 jf aS m w (do eqGuard op t x y (a.eval x) (a.eval y);Go.binOp op t (a.eval x) (a.eval y)) (iG x y (wH f) F):=by
 intro v h;obtain⟨c,d,aq,bb,h⟩:=uj a5 h;unfold wH at h;split at h
 ·rename_i s ep;have aq:a.eval x=.string s.1:=aq;have bb:a.eval y=.string ep.1:=bb;obtain rfl:=iI h;obtain⟨u,aa,ae⟩:=bu s ep;exact⟨u,by rw[aq,bb,iv,Xd];exact aa,ae⟩
 ·exact h.b7.elim
theorem aoL (a5:dr m n F a):match mkStr op x y with
 |.pure f=>jf aS m w (do eqGuard op t x y (a.eval x) (a.eval y);Go.binOp op t (a.eval x) (a.eval y)) (f F)
 |.bad=>True
 |_=>False:=by
 cases op with
 |add=>
  intro v h;obtain⟨c,d,aq,bb,h⟩:=uj a5 h;unfold ail at h;split at h
  ·rename_i s ep;have aq:a.eval x=.string s.1:=aq;have bb:a.eval y=.string ep.1:=bb;obtain⟨z,aa,rfl⟩:=Ah h;unfold mg at aa;split at aa
   ·rename_i hle;cases aa;refine⟨.string (s.1++ep.1), ?_,rfl⟩;have aa:¬(((s.1.size+ep.1.size:Nat):Int)>IntKind.i64.max):=by
     have:IntKind.i64.max=9223372036854775807:=by decide
     omega
    rw[aq,bb,iv,Xd];simp only[Go.binOp,Op.stringOp,if_neg aa,ju,iV]
   ·cases aa
  ·exact h.b7.elim
 |eql=>exact AM a5 λs ep=>⟨.bool (cC s ep),by simp only[Go.binOp,Op.stringOp,Ho,ju],rfl⟩
 |neq=>exact AM a5 λs ep=>⟨.bool (!cC s ep),by simp only[Go.binOp,Op.stringOp,Ho,ju],rfl⟩
 |lss=>exact AM a5 λs ep=>⟨.bool (nV s ep),by simp only[Go.binOp,Op.stringOp,nV,ju],rfl⟩
 |leq=>exact AM a5 λs ep=>⟨.bool (nV s ep||cC s ep),by simp only[Go.binOp,Op.stringOp,nV,Ho,ju],rfl⟩
 |gtr=>exact AM a5 λs ep=>⟨.bool (!(nV s ep||cC s ep)),by simp only[Go.binOp,Op.stringOp,nV,Ho,ju],rfl⟩
 |geq=>exact AM a5 λs ep=>⟨.bool (!nV s ep),by simp only[Go.binOp,Op.stringOp,nV,ju],rfl⟩
 |_=>trivial
end
end cB
end Go.Proofs.YtgmdfchkljaooaaGreat
