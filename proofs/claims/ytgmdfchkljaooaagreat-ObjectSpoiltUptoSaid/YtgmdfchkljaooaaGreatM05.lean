/- Typed values. -/
import Derived.Test.YtgmdfchkljaooaaGreatM04
noncomputable section
namespace Go.Proofs.YtgmdfchkljaooaaGreat
open Go.RowKit
namespace cB
open bx (T cv under size j3 ff jr)
set_option linter.unusedVariables false
set_option linter.unusedSimpArgs false
section
variable{w w':World} {m m':M} {σ a8:bF}
theorem bt.lay (h:bt m σ w) (z:List C):bt m ⟨σ.heap.put σ.next (some (.box z)),σ.next+1⟩ w/\Step m σ w m ⟨σ.heap.put σ.next (some (.box z)),σ.next+1⟩ w:=by
 obtain⟨f1,f2,f3,f4⟩:=h.fresh σ.next (Nat.le_refl _);have key:=h.change (m':=m) (a8:=⟨σ.heap.put σ.next (some (.box z)),σ.next+1⟩) (w':=w) (λj=>j=σ.next) (Ext.refl m) ⟨rfl,rfl,rfl⟩ (Nat.le_refl _) (λj au=> ?_) (λj b au ai=> ?_) (λj au=>⟨bx.T.eB _ _ au,rfl,rfl⟩)
  (λb ai _=>⟨rfl,rfl,rfl⟩) (λj k _ _ _ au aP _ _ _ _=>au.trans aP.symm) (λj x R au _ e7=> ?_) (λb R k aP=>h.own b R k aP) (λb R k aP aA=>absurd aP aA) h.stay
 ·exact⟨key.1,⟨js.refl _ m,key.2,Nat.le_succ _,λi cs aj _=>(bx.T.eB _ _ λe=>by rw[e] at aj;rw[f4] at aj;cases aj).trans aj⟩⟩
 ·have au:σ.next+1<=j:=au;obtain⟨aF,aQ,bn,cy⟩:=h.fresh j ab;exact⟨aF,aQ,bn,(bx.T.eB _ _ ab).trans cy⟩
 ·subst au;simp only[bx.T.hN] at ai;cases ai;exact .inl f1
 ·subst au;rw[f1] at e7;cases e7
theorem bt.born (h:bt m σ w) {i:Nat} {cs:List C} {vs:Array Value} {ty:TypeId} (aj:σ.heap.get i=some (.box cs)) (bw:m.pl i=none) (aM:cv (cT m) cs vs.toList):
 bt (m.jg i w.heap.size) σ (w.alloc (.cells vs ty))/\gX m σ w (m.jg i w.heap.size) σ (w.alloc (.cells vs ty)):=by
 have e:Ext m (m.jg i w.heap.size):=M.PG bw;refine h.change (λj=>j=i) e ⟨rfl,rfl,rfl⟩ (by simp) (λj au=> ?_) (λj b au ai=> ?_) (λj au=>⟨rfl,by simp[M.jg,au],rfl⟩)
  (λb ai _=>⟨Below.heap_alloc _ _ _ ai,rfl,by simp[M.jg];omega⟩) (λj k _ _ _ au aP _ _ _ _=>au.trans aP.symm) (λj x R au _ e7=>.inl ?_) (λb R k aP=> ?_) (λb R k aP aA=> ?_) (λb j v fS=> ?_)
 ·obtain⟨aF,aQ,bn,cy⟩:=h.fresh j au;have:j≠i:=λe=>by rw[e] at cy;rw[aj] at cy;cases cy
  exact⟨by simp[M.jg,aF,this],aQ,bn,cy⟩
 ·subst au;rw[aj] at ai;cases ai;refine .inr ⟨w.heap.size,vs,ty,(0,0),by simp[M.jg],heap_alloc_new _ _,⟨λ_ _=>by omega,Nat.le_refl _⟩,aM.length.symm▸(by simp),λj c aq=> ?_,by simp[M.jg],h.vR (Nat.le_refl _)⟩;obtain⟨v,aa,ae⟩:=aM.get aq;exact⟨v,by simpa using aa,ae.ext e⟩
 ·subst au;simp[M.jg] at e7;omega
 ·simp only[M.jg] at aP⊢;split at aP
  ·cases aP;subst_vars;simp
  ·obtain⟨aF,aQ⟩:=h.own b R k aP;have:=(h.own R R none aQ).1;exact⟨by simp;omega,by rw[if_neg ab];exact aQ⟩
 ·simp only[M.jg] at aP;split at aP
  ·cases aP;exact⟨i,.box cs,rfl,aj,by simp[M.jg]⟩
  ·exact absurd aP aA
 ·obtain⟨cur,iS,bQ,aF,aQ⟩:=h.stay b j v fS;exact⟨cur,iS,bQ,(Below.heap_alloc _ _ _ (qD aF)).trans aF,aQ⟩
theorem QS {E:Env}:∀{l:List Oper} {σ:bF},bt m σ w->bt m (lay E l σ) w/\Step m σ w m (lay E l σ) w
 |[],σ,h=>⟨h,Step.refl ..⟩
 |o::l,σ,h=>by
  unfold lay;split
  ·rename_i z ax;obtain⟨aa,ae⟩:=h.lay z;obtain⟨az,a9⟩:=QS (E:=E) (l:=l) aa;exact⟨az,ae.trans h a9⟩
  ·exact QS h
end
def kN (ops:Array Oper) (e:Nat->qj) (L:Nat->Bool):Nat->Nat->V
 |0=>(e 0).g
 |p+1=>match L p with
  |true=>kZ ((ops[p]?).bind (·.dst)) (e p).v (e p).il (kN ops e L p)
  |false=>kN ops e L p
def rr (E:Env) (ops:Array Oper) (i:Nat) (z:List C):Prop:=∃o,ops[i]? =some o/\act E o.dst o.op=.alloc z
structure nE (E:Env) (n:Nat) (ops:Array Oper) (call:kM) (e:Nat->qj) (M:Nat->Nat) (j2:List n9) (jb:List qT) (σ:bF):Prop where
  step:∀i o,ops[i]? =some o->yS E n ops call j2 jb ⟨i,o,M i⟩ (e i) (e (i+1))
  mask:∀i o,ops[i]? =some o->Vl M i o
  pair:∀i j a b,i<j->ops[i]? =some a->ops[j]? =some b->sH E ops a b=true->bit (M j) i=true
  O':∀r∈j2,∀b∈jb,N4 r b=true
  box:∀i z,rr E ops i z->σ.next<=(e i).x/\(e i).x<(e 0).s.next/\(e 0).s.heap.get (e i).x=some (.box z)
def wP (ops:Array Oper) (L:Nat->Bool):Prop:=∀j o,L j=true->ops[j]? =some o->∀e∈o.after.toList,Region.binds .any e=true->L e.on=true
def qo (ops:Array Oper) (L:Nat->Bool) (i:Nat) (o:Oper):Prop:=ops[i]? =some o/\L i=false/\∀e∈o.after.toList,Region.binds .any e=true->L e.on=true
def oL (L:Nat->Bool) (i:Nat):Nat->Bool:=λj=>if j=i then true else L j
theorem Ob (L:Nat->Bool) (i:Nat):oL L i i=true:=by simp[oL]
theorem vv (L:Nat->Bool) {i j:Nat} (h:j≠i):oL L i j=L j:=by simp[oL,h]
section
variable{E:Env} {n:Nat} {ops:Array Oper} {call:kM} {e:Nat->qj} {M:Nat->Nat} {j2:List n9} {jb:List qT} {je:bF}
  (bu:nE E n ops call e M j2 jb je)
include bu
theorem nE.waits {L:Nat->Bool} (aq:wP ops L):∀(i:Nat) (o:Oper),ops[i]? =some o->(∀e∈o.after.toList,Region.binds .any e=true->L e.on=true)->∀p,bit (M i) p=true->L p=true:=by
 intro i;induction i using Nat.strongRecOn with
 |_ i b_=>
  intro o bR he p bw;obtain⟨aa,ae⟩:=bu.mask i o bR;obtain⟨e,aF,aQ,bn⟩:=ae p bw;have a3:=he e aF aQ;rcases bn with rfl|bn
  ·exact a3
  ·have bK:=aa e aF aQ;have aj:i<ops.size:=(nJ.1 bR).1;obtain⟨fl,gd⟩:∃fl,ops[e.on]? =some fl:=⟨ops[e.on],Array.getElem?_eq_getElem ab⟩;exact b_ e.on bK fl gd (aq e.on fl a3 gd) p bn
theorem nE.before {L:Nat->Bool} (aq:wP ops L) {i p:Nat} {o fl:Oper} (aJ:qo ops L i o) (bw:ops[p]? =some fl) (bK:p<i) (zA:sH E ops fl o=true):L p=true:=bu.waits aq i o aJ.1 aJ.2.2 p (bu.pair p i fl o bK bw aJ.1 zA)
theorem nE.behind {L:Nat->Bool} (aq:wP ops L) {i p:Nat} {o fl:Oper} (aJ:qo ops L i o) (bw:ops[p]? =some fl) (bK:i<p) (zA:sH E ops o fl=true):L p=false:=by
 cases h:L p with
 |false=>rfl
 |true=>
  have:=bu.waits aq p fl bw (aq p fl h bw) i (bu.pair i p o fl bK aJ.1 bw zA);rw[aJ.2.1] at this;cases this
omit bu in
theorem Wh {a b:Oper} {t:Nat} (h:t∈sa a) (aA:t∈yo ops b):sH E ops a b=true:=by
 have:zF (sa a) (yo ops b)=true:=(XV _ _).2 ⟨t,h,aA⟩;simp[sH,this]
omit bu in
theorem akl {a b:Oper} {t:Nat} (h:t∈sa b) (aA:t∈yo ops a):sH E ops a b=true:=by
 have:zF (sa b) (yo ops a)=true:=(XV _ _).2 ⟨t,h,aA⟩;simp[sH,this]
omit bu in
theorem akk {a b:Oper} (aa:(act E a.dst a.op).nT=true) (ae:(act E b.dst b.op).nT=true):sH E ops a b=true:=by
 simp[sH,aa,ae]
theorem nE.outs {i:Nat} {o:Oper} (bR:ops[i]? =some o) {t:Nat} (bH:t∉sa o) (g:Nat->V):kZ o.dst (e i).v (e i).il g t=g t:=by
 have bb:o.dst≠some t:=λh=>bH (List.mem_append_left _ (by rw[h];simp));unfold kZ;rw[if_neg bb];cases aV:(e i).il with
 |none=>rfl
 |some y=>
  simp only
  rw[if_neg];intro Qv;refine bH (List.mem_append_right _ ?_);obtain⟨_,_,_,h|⟨_,h⟩⟩:=bu.step i o bR
  ·rw[h.2.2.1] at aV;cases aV
  ·have vY:=OW (E:=E) o.dst o.op;cases dx:act E o.dst o.op with
   |iZ f=>
    simp only[dx] at h vY;obtain⟨r,aa,ae⟩:=h;have az:=vY _ _ r aa;cases r with
    |qb t' u a8=>
     obtain⟨aF,aQ,bn⟩:=ae;rw[aV] at aQ;cases aQ;obtain⟨_,ty,x,kV⟩:=az;rw[kV];simpa using Qv
    |val v a8=>rw[ae.2.1] at aV;cases aV
    |skip a8=>rw[ae.2.1] at aV;cases aV
    |call f args a8=>rw[ae.2.1] at aV;cases aV
   |bad=>simp only[dx] at h;exact h.elim
   |pure f=>simp only[dx] at h;rw[h.2.1] at aV;cases aV
   |made f=>simp only[dx] at h;rw[h.2.1] at aV;cases aV
   |read f=>simp only[dx] at h;rw[h.2.1] at aV;cases aV
   |alloc z=>simp only[dx] at h;rw[h.2.1] at aV;cases aV
omit bu in
theorem UI {d:Option Nat} {v:V} {il:Option (Nat×V)} {g BH:Nat->V} {t:Nat} (h:g t=BH t):kZ d v il g t=kZ d v il BH t:=by
 unfold kZ;split
 ·rfl
 ·split
  ·split
   ·rfl
   ·exact h
  ·exact h
theorem nE.frame {i:Nat} {o:Oper} (bR:ops[i]? =some o):(e (i+1)).g=kZ o.dst (e i).v (e i).il (e i).g:=(bu.step i o bR).2.1
theorem nE.looked {L:Nat->Bool} (aq:wP ops L) {i:Nat} {o:Oper} (aJ:qo ops L i o) {t:Nat} (bH:t∈looks ops o):kN ops e L ops.size t=(e i).g t:=by
 have aj:i<ops.size:=(nJ.1 aJ.1).1;have aA:t∈yo ops o:=List.mem_append_right _ bH;have aa:∀p,p<=i->kN ops e L p t=(e p).g t:=by
  intro p;induction p with
  |zero=>intro _;rfl
  |succ p b_=>
   intro bw;have b_:=b_ ab;obtain⟨fl,gd⟩:∃fl,ops[p]? =some fl:=⟨ops[p],Array.getElem?_eq_getElem ab⟩;rw[bu.frame gd];rw[kN];by_cases bb:t∈sa fl
   ·rw[bu.before aq aJ gd ab (Wh bb aA)];simp only
    rw[gd];exact UI b_
   ·rw[bu.outs gd bb,<-b_];cases L p with
    |true=>simp only;rw[gd];exact bu.outs gd bb _
    |false=>rfl
 have ae:∀p,i<=p->p<=ops.size->kN ops e L p t=kN ops e L i t:=by
  intro p;induction p with
  |zero=>intro h _;have:i=0:=ab
         subst this;rfl
  |succ p b_=>
   intro amj Cl;by_cases we:i=p+1
   ·subst we;rfl
   ·have b_:=b_ ab ab;rw[kN,<-b_];obtain⟨fl,gd⟩:∃fl,ops[p]? =some fl:=⟨ops[p],Array.getElem?_eq_getElem ab⟩;by_cases v_:p=i
    ·subst v_;rw[aJ.2.1]
    ·by_cases bb:t∈sa fl
     ·rw[bu.behind aq aJ gd ab (akl bb aA)]
     ·cases L p with
      |true=>simp only;rw[gd];exact bu.outs gd bb _
      |false=>rfl
 rw[ae _ ab (Nat.le_refl _),aa _ (Nat.le_refl _)]
theorem nE.kg {L:Nat->Bool} (aq:wP ops L) {i:Nat} {o:Oper} (aJ:qo ops L i o) (t:Nat):kN ops e (oL L i) ops.size t=kZ o.dst (e i).v (e i).il (kN ops e L ops.size) t:=by
 have aj:i<ops.size:=(nJ.1 aJ.1).1;have aa:∀p,p<=i->kN ops e (oL L i) p=kN ops e L p:=by
  intro p;induction p with
  |zero=>intro _;rfl
  |succ p b_=>
   intro bw;rw[kN,kN,b_ ab,vv _ (show p≠i by omega)]
 have ae:∀p,i+1<=p->p<=ops.size->kN ops e (oL L i) p t=kZ o.dst (e i).v (e i).il (kN ops e L p) t:=by
  intro p;induction p with
  |zero=>intro h _;omega
  |succ p b_=>
   intro amj Cl;by_cases v_:p=i
   ·subst v_;rw[kN,kN,aa _ (Nat.le_refl _),aJ.2.1,Ob];simp only
    rw[aJ.1];rfl
   ·have b_:=b_ ab ab;obtain⟨fl,gd⟩:∃fl,ops[p]? =some fl:=⟨ops[p],Array.getElem?_eq_getElem ab⟩;rw[kN,kN,vv _ v_];cases gr:L p with
    |false=>exact b_
    |true=>
     simp only
     rw[gd];simp only[Option.bind_some];by_cases bb:t∈sa fl
     ·by_cases P5:t∈sa o
      ·have:=bu.behind aq aJ gd ab (Wh P5 (List.mem_append_left _ bb));rw[gr] at this;cases this
      ·rw[bu.outs aJ.1 P5];rw[bu.outs aJ.1 P5] at b_;exact UI b_
     ·rw[bu.outs gd bb,b_];exact UI (bu.outs gd bb _).symm
 exact ae _ aj (Nat.le_refl _)
theorem nE.all {L:Nat->Bool} (h:∀i,i<ops.size->L i=true):∀p,p<=ops.size->kN ops e L p=(e p).g
 |0,_=>rfl
 |p+1,bw=>by
  obtain⟨fl,gd⟩:∃fl,ops[p]? =some fl:=⟨ops[p],Array.getElem?_eq_getElem ab⟩;rw[kN,h p ab,bu.frame gd,nE.all h p ab,gd];rfl
omit bu in
theorem U9:∀p,kN ops e (λ_=>false) p=(e 0).g
 |0=>rfl
 |p+1=>by rw[kN];exact U9 p
theorem nE.adt {i:Nat} {o:Oper} (bR:ops[i]? =some o) (a3:(act E o.dst o.op).nT=false):(e (i+1)).s=(e i).s:=by
 obtain⟨_,_,_,h|⟨_,h⟩⟩:=bu.step i o bR
 ·exact h.2.2.2
 ·cases dx:act E o.dst o.op with
  |iZ f=>rw[dx] at a3;cases a3
  |bad=>simp only[dx] at h;exact h.elim
  |pure f=>simp only[dx] at h;exact h.2.2
  |made f=>simp only[dx] at h;exact h.2.2
  |read f=>simp only[dx] at h;exact h.2.2.1
  |alloc z=>simp only[dx] at h;exact h.2.2
theorem nE.aiW {i j:Nat} {z gB:List C} (aj:rr E ops i z) (au:rr E ops j gB) (eD:i≠j):(e i).x≠(e j).x:=by
 have mono:∀p k,p+k<=ops.size->(e p).x<=(e (p+k)).x:=by
  intro p k;induction k with
  |zero=>intro _;exact Nat.le_refl _
  |succ k b_=>
   intro h;have b_:=b_ ab;obtain⟨fl,gd⟩:∃fl,ops[p+k]? =some fl:=⟨ops[p+k],Array.getElem?_eq_getElem ab⟩;have:=(bu.step _ fl gd).2.2.1;rw[<-Nat.add_assoc,this];simp only[wz];split
   ·exact Nat.le_succ_of_le b_
   ·exact b_
 have lt:∀{i j:Nat} {z:List C},rr E ops i z->i<j->j<=ops.size->(e i).x<(e j).x:=λ{i j z} ⟨o,bR,dx⟩ bK hle=>by
  have aa:=(bu.step _ o bR).2.2.1;simp only[wz,dx,mN.YL] at aa;have:=mono (i+1) (j-(i+1)) ab;rw[show i+1+(j-(i+1))=j by omega,aa] at this;exact this
 obtain⟨o,bR,dx⟩:=id aj;obtain⟨fl,gd,PW⟩:=id au;have aa:=(nJ.1 bR).1;have ae:=(nJ.1 gd).1;rcases jL i j with h|h
 ·have:=lt aj h ab;omega
 ·have:=lt au (show j<i by omega) ab;omega
end
structure Inv (E:Env) (n:Nat) (ops:Array Oper) (e:Nat->qj) (dI:M) (je:bF) (ws:World) (a0:Go.Act) (ds:List Nat) (L:Nat->Bool) (q:Nat) (m:M) (a:Go.Act) (w:World):Prop where
  ay:q<=ops.size
  pre:∀i o,ops[i]? =some o->(act E o.dst o.op).nT=true->(L i=true↔i<q)
  rel:bt m (e q).s w
  st:Step dI je ws m (e q).s w
  top:(e 0).s.next<=(e q).s.next
  bQ:yY m n (kN ops e L ops.size) a
  DH:∀i z,rr E ops i z->L i=false->m.pl (e i).x=none
  vN:∀i z,rr E ops i z->m.pl (e i).x=none->(e q).s.heap.get (e i).x=some (.box z)
  vO:wP ops L
  Uv:iq ds a0 a
section
variable{aS:Program} {E:Env} {n:Nat} {ops:Array Oper} {call:kM} {e:Nat->qj} {qQ:Nat->Nat} {j2:List n9} {jb:List qT} {je:bF} {ws:World} {dI m:M} {a0 a:Go.Act} {ds:List Nat} {L:Nat->Bool} {q:Nat} {w:World}
  {K:Go.Act->World->Prop} {Q:Exit->Go.Act->World->Prop}
  (bu:nE E n ops call e qQ j2 jb je) (iz:∀(i:Nat) (o:Oper) (t:Nat),ops[i]? =some o->o.dst=some t->t∈ds) (bl:bt dI je ws)
  (h:Inv E n ops e dI je ws a0 ds L q m a w)
include bu iz bl h
omit iz bl in
theorem Inv.next {o:Oper} (bR:ops[q]? =some o) (a3:(act E o.dst o.op).nT=false):Inv E n ops e dI je ws a0 ds L (q+1) m a w:=by
 have Qr:q<ops.size:=(nJ.1 bR).1;have dz:=bu.adt bR a3;refine⟨Qr,λi fl gd k8=> ?_,by rw[dz];exact h.rel,by rw[dz];exact h.st,by rw[dz];exact h.top,h.bQ,h.DH,by rw[dz];exact h.vN,h.vO,h.Uv⟩;rw[h.pre i fl gd k8];have:i≠q:=λe=>by subst e;rw[bR] at gd;cases gd;rw[a3] at k8;cases k8
 omega
omit iz bl in
theorem Inv.bound:∃f_,q<=f_/\Inv E n ops e dI je ws a0 ds L f_ m a w/\(f_=ops.size\/∃o,ops[f_]? =some o/\(act E o.dst o.op).nT=true):=by
 obtain⟨d,bb⟩:∃d,d=ops.size-q:=⟨_,rfl⟩;induction d generalizing q with
 |zero=>exact⟨q,Nat.le_refl _,h,.inl (by have:=h.ay;omega)⟩
 |succ d b_=>
  have bK:q<ops.size:=ab;have bR:ops[q]? =some ops[q]:=Array.getElem?_eq_getElem bK;cases a3:(act E (ops[q]).dst (ops[q]).op).nT with
  |true=>exact⟨q,Nat.le_refl _,h,.inr ⟨_,bR,a3⟩⟩
  |false=>
   obtain⟨f_,aa,ae,az⟩:=b_ (Inv.next bu h bR a3) ab;exact⟨f_,ab,ae,az⟩
omit iz bl in
theorem Inv.looked {i:Nat} {o:Oper} (aJ:qo ops L i o) {t:Nat} (bH:t∈looks ops o):dW m ((e i).g t) (a.tmps.getD t undef):=by
 rw[<-bu.looked h.vO aJ bH];exact h.bQ.2.2 t
omit iz bl in
theorem Inv.only {i:Nat} {o:Oper} (aJ:qo ops L i o):dr m n (jl (looks ops o) (e i).g) a:=⟨h.bQ.1,h.bQ.2.1,λt=>by
 rw[auE];split
 ·exact Inv.looked bu h aJ (by assumption)
 ·trivial⟩
omit bu iz bl in
theorem Inv.closed {i:Nat} {o:Oper} (aJ:qo ops L i o):wP ops (oL L i):=by
 intro j fl au gd e he ai;unfold oL at au⊢;by_cases iE:j=i
 ·subst iE;rw[aJ.1] at gd;cases gd;have:=aJ.2.2 e he ai;simp[this]
 ·rw[if_neg iE] at au;have:=h.vO j fl au gd e he ai;simp[this]
omit iz bl in
theorem Inv.put {i:Nat} {o:Oper} (aJ:qo ops L i o) {m':M} (x:Ext m m') {u:Value} (hu:dW m' (e i).v u) (aV:∀y,(e i).il=some y->dW m' y.2 (a.tmps.getD y.1 undef)):yY m' n (kN ops e (oL L i) ops.size) (a.put o.dst u):=by
 have fh:=h.bQ.1;have bb:=(bu.step i o aJ.1).1;refine⟨?_, ?_,λt=> ?_⟩
 ·cases o.dst<;>simpa[Go.Act.put] using fh
 ·cases o.dst<;>exact h.bQ.2.1
 ·rw[bu.kg h.vO aJ t];unfold kZ;cases bR:o.dst with
  |none=>
   rw[if_neg (by simp)];show dW m' _ (a.tmps.getD t undef);cases bT:(e i).il with
   |none=>exact(h.bQ.2.2 t).ext x
   |some y=>
    simp only
    split
    ·rename_i bH;subst bH;exact aV y bT
    ·exact(h.bQ.2.2 t).ext x
  |some k=>
   simp only[bR] at bb;have aP:=Nat.le_of_ble_eq_true bb;by_cases Qc:k=t
   ·subst Qc;rw[if_pos rfl];have:(k:Nat)<a.tmps.size:=Nat.lt_of_lt_of_le aP fh;simpa[Go.Act.put,this] using hu
   ·rw[if_neg (by simpa using Qc)];have aa:(a.put (some k) u).tmps.getD t undef=a.tmps.getD t undef:=by
     simp[Go.Act.put,Array.getElem?_setIfInBounds_ne Qc]
    rw[aa];cases bT:(e i).il with
    |none=>exact(h.bQ.2.2 t).ext x
    |some y=>
     simp only
     split
     ·rename_i bH;subst bH;exact aV y bT
     ·exact(h.bQ.2.2 t).ext x
omit bu bl in
theorem Inv.same {i:Nat} {o:Oper} (aJ:qo ops L i o) (u:Value):iq ds a0 (a.put o.dst u):=h.Uv.trans ((iq.put a o.dst u).mono λt bH=>by
 cases bb:o.dst with
 |none=>rw[bb] at bH;simp at bH
 |some k=>rw[bb] at bH;simp at bH;subst bH;exact iz i o t aJ.1 bb)
theorem Inv.quiet {i:Nat} {o:Oper} {u:Value} {m':M} {w':World} (aJ:qo ops L i o) (a3:(act E o.dst o.op).nT=false) (aA:∀z,rr E ops i z->(e i).v=.undef) (gM:Step m (e q).s w m' (e q).s w') (bc:bt m' (e q).s w') (hu:dW m' (e i).v u) (aV:(e i).il=none):
 Inv E n ops e dI je ws a0 ds (oL L i) q m' (a.put o.dst u) w':=by
 have lt:∀j z,rr E ops j z->(e j).x<(e q).s.next:=λj z ax=>Nat.lt_of_lt_of_le (bu.box j z ax).2.1 h.top;refine⟨h.ay,λj fl gd k8=> ?_,bc,h.st.trans bl gM,h.top,Inv.put bu h aJ gM.ix.ext hu (λy bT=>by rw[aV] at bT;cases bT),λj z ax gr=> ?_,λj z ax bw=> ?_,Inv.closed h aJ,Inv.same iz h aJ u⟩
 ·have:j≠i:=λe=>by subst e;rw[aJ.1] at gd;cases gd;rw[a3] at k8;cases k8
  rw[vv L this];exact h.pre j fl gd k8
 ·rw[gM.ix.pl _ (lt j z ax)];refine h.DH j z ax ?_;by_cases he:j=i
  ·subst he;exact aJ.2.1
  ·rwa [vv L he] at gr
 ·rw[gM.ix.pl _ (lt j z ax)] at bw;exact h.vN j z ax bw
omit bl in
theorem Inv.alloc {i:Nat} {o:Oper} {z:List C} {vs:Array Value} {ty:TypeId} (aJ:qo ops L i o) (ax:rr E ops i z) (aM:cv (cT m) z vs.toList) (amc:(e i).v=.c (.ptr (some ((e i).x,0)))) (aV:(e i).il=none):
 Inv E n ops e dI je ws a0 ds (oL L i) q (m.jg (e i).x w.heap.size) (a.put o.dst (.pointer (some ⟨w.heap.size,0,none⟩))) (w.alloc (.cells vs ty)):=by
 obtain⟨cR,fg,hJ⟩:=bu.box i z ax;have bw:=h.DH i z ax aJ.2.1;have ai:=h.vN i z ax bw;obtain⟨aF,aQ⟩:=h.rel.born (ty:=ty) ai bw aM;have ex:=M.PE (r:=w.heap.size) bw;have a3:(act E o.dst o.op).nT=false:=by
  obtain⟨fl,aa,ae⟩:=ax;rw[aJ.1] at aa;cases aa;rw[ae];rfl
 refine⟨h.ay,λj fl gd k8=> ?_,aF,⟨h.st.ix.trans (n':=je.next) ⟨ex.ext,λj au=>ex.pl j ab⟩ (Nat.le_refl _),h.st.gu.trans aQ,h.st.next,h.st.Bg⟩,h.top,
  Inv.put bu h aJ ex.ext (by rw[amc];exact⟨w.heap.size,by simp[M.jg],rfl⟩) (λy bT=>by rw[aV] at bT;cases bT),λj gB xU gr=> ?_,λj gB xU xN=> ?_,Inv.closed h aJ,Inv.same iz h aJ _⟩
 ·have:j≠i:=λe=>by subst e;rw[aJ.1] at gd;cases gd;rw[a3] at k8;cases k8
  rw[vv L this];exact h.pre j fl gd k8
 ·have eD:j≠i:=λe=>by subst e;rw[Ob] at gr;cases gr
  rw[vv L eD] at gr;show(if(e j).x=(e i).x then _ else m.pl (e j).x)=none;rw[if_neg (bu.aiW xU ax eD)];exact h.DH j gB xU gr
 ·by_cases eD:j=i
  ·subst eD;have:(m.jg (e j).x w.heap.size).pl (e j).x=some w.heap.size:=by simp[M.jg]
   rw[this] at xN;cases xN
  ·have:(m.jg (e i).x w.heap.size).pl (e j).x=m.pl (e j).x:=by
    show(if(e j).x=(e i).x then _ else m.pl (e j).x)=_;rw[if_neg (bu.aiW xU ax eD)]
   rw[this] at xN;exact h.vN j gB xU xN
theorem Inv.iZ {o:Oper} {u:Value} {m':M} {w':World} (aJ:qo ops L q o) (a3:(act E o.dst o.op).nT=true) (gM:Step m (e q).s w m' (e (q+1)).s w') (bc:bt m' (e (q+1)).s w') (hu:dW m' (e q).v u) (aV:∀y,(e q).il=some y->dW m' y.2 (a.tmps.getD y.1 undef)):
 Inv E n ops e dI je ws a0 ds (oL L q) (q+1) m' (a.put o.dst u) w':=by
 have Qr:q<ops.size:=(nJ.1 aJ.1).1;have lt:∀j z,rr E ops j z->(e j).x<(e q).s.next:=λj z ax=>Nat.lt_of_lt_of_le (bu.box j z ax).2.1 h.top;have eD:∀j z,rr E ops j z->j≠q:=λj z ⟨fl,aF,aQ⟩ e=>by
  subst e;rw[aJ.1] at aF;cases aF;rw[aQ] at a3;cases a3
 refine⟨Qr,λj fl gd k8=> ?_,bc,h.st.trans bl gM,ij h.top gM.next,Inv.put bu h aJ gM.ix.ext hu aV,λj z ax gr=> ?_,λj z ax bw=> ?_,Inv.closed h aJ,Inv.same iz h aJ u⟩
 ·by_cases he:j=q
  ·subst he;simp[Ob]
  ·rw[vv L he,h.pre j fl gd k8];omega
 ·rw[vv L (eD j z ax)] at gr;rw[gM.ix.pl _ (lt j z ax)];exact h.DH j z ax gr
 ·rw[gM.ix.pl _ (lt j z ax)] at bw;exact gM.Bg _ _ (h.vN j z ax bw) bw
end
section
variable{aS:Program} {E:Env} {n:Nat} {ops:Array Oper} {call:kM} {e:Nat->qj} {qQ:Nat->Nat} {j2:List n9} {jb:List qT} {je:bF} {ws:World} {dI m:M} {a0 a:Go.Act} {ds:List Nat} {L:Nat->Bool} {q:Nat} {w:World}
  {K:Go.Act->World->Prop} {Q:Exit->Go.Act->World->Prop}
def tD (r:n9) (σ a8:bF):Prop:=(∀i∈r.ids,a8.heap.get i=σ.heap.get i)\/∃y x,r.cell=some y/\yV σ y x/\yV a8 y x
theorem tD.trans {r:n9} {σ a8 tk:bF} (aq:∀y,r.cell=some y->y.1∈r.ids) (h:tD r σ a8) (h':tD r a8 tk):tD r σ tk:=by
 rcases h with h|⟨y,x,aa,ae,az⟩
 ·rcases h' with h'|⟨y,x,aa,⟨cs,ae,az⟩,a9⟩
  ·exact .inl λi aj=>(h' i aj).trans (h i aj)
  ·exact .inr ⟨y,x,aa,⟨cs,by rw[<-h _ (aq y aa)];exact ae,az⟩,a9⟩
 ·rcases h' with h'|⟨l2,g9,vS,⟨k5,BN,Xe⟩,alB⟩
  ·obtain⟨cs,aF,aQ⟩:=az;exact .inr ⟨y,x,aa,ae,cs,by rw[h' _ (aq y aa)];exact aF,aQ⟩
  ·rw[aa] at vS;cases vS;obtain⟨cs,aF,aQ⟩:=az;rw[aF] at BN;cases BN;rw[aQ] at Xe;cases Xe;exact .inr ⟨y,x,aa,ae,alB⟩
theorem tD.symm {r:n9} {σ a8:bF} (h:tD r σ a8):tD r a8 σ:=by
 rcases h with h|⟨y,x,aa,ae,az⟩
 ·exact .inl λi aj=>(h i aj).symm
 ·exact .inr ⟨y,x,aa,az,ae⟩
theorem nE.VJ (bu:nE E n ops call e qQ j2 jb je) (iP:ru aS call) {rd:n9} (aq:∀y,rd.cell=some y->y.1∈rd.ids):∀(k p:Nat),p+k<=ops.size->(∀j nr,ops[j]? =some nr->(act E nr.dst nr.op).nT=true->p<=j->j<p+k->∀b∈jb,b.i=j->b.mask=qQ j->N3 rd b=true)->
 tD rd (e p).s (e (p+k)).s:=by
 intro k;induction k with
 |zero=>intro p _ _;exact .inl λi _=>rfl
 |succ k b_=>
  intro p hle ai;refine(b_ p ab (λj nr au a3 aa ae=>ai j nr au a3 aa ab)).trans aq ?_;obtain⟨o,bR⟩:∃o,ops[p+k]? =some o:=⟨ops[p+k],Array.getElem?_eq_getElem ab⟩;cases a3:(act E o.dst o.op).nT with
  |false=>rw[<-Nat.add_assoc,bu.adt bR a3];exact .inl λi _=>rfl
  |true=>
   have Ip:=bu.step _ o bR;rw[<-Nat.add_assoc];obtain⟨_,_,_,h|⟨_,h⟩⟩:=Ip
   ·rw[h.2.2.2];exact .inl λi _=>rfl
   ·have vY:=OW (E:=E) o.dst o.op;cases dx:act E o.dst o.op with
    |iZ f=>
     simp only[dx] at h vY;obtain⟨r,aa,ae⟩:=h;have az:=vY _ _ r aa;have off:∀{b:qT} {a8:bF},b∈jb->b.i=p+k->b.mask=qQ (p+k)->b.gu=tX (e (p+k)).s a8 b.ids->(∀i,i<b.dY->i∉b.ids->a8.heap.get i=(e (p+k)).s.heap.get i)->tD rd (e (p+k)).s a8:=λ{b a8} a9 cE dm er eS=>by
      have:=ai (p+k) o bR a3 ab ab b a9 cE dm;unfold N3 at this;rw[Bool.or_eq_true] at this;rcases this with this|this
      ·refine .inl λi aj=> ?_;unfold ac7 at this;have:=List.all_eq_true.1 this i aj;simp only[gJ,Bool.not_eq_true'] at this;exact eS i (Nat.le_of_ble_eq_true this.2) λh=>by rw[(xu _ _).2 h] at this;cases this.1
      ·split at this
       ·rename_i y bT;rw[er] at this;obtain⟨x,aF,aQ⟩:=an3 this;exact .inr ⟨y,x,bT,aF,aQ⟩
       ·cases this
     cases r with
     |val v a8=>
      obtain⟨_,_,aF,aQ⟩:=ae;rw[aF];exact off aQ rfl rfl rfl λi mj lG=>az i mj lG
     |skip a8=>
      obtain⟨_,_,aF,aQ⟩:=ae;rw[aF];exact off aQ rfl rfl rfl λi mj lG=>az i mj lG
     |qb t u a8=>
      obtain⟨_,_,aF,aQ⟩:=ae;rw[aF];exact off aQ rfl rfl rfl λi mj lG=>az.1 i mj lG
     |call f args a8=>
      obtain⟨jz,_,aQ⟩:=ae;have az:a8=(e (p+k)).s:=az;subst az;exact off aQ rfl rfl rfl λi mj lG=>iP.wr f args _ _ _ jz i mj lG
    |_=>rw[dx] at a3;cases a3
variable(bu:nE E n ops call e qQ j2 jb je) (iz:∀(i:Nat) (o:Oper) (t:Nat),ops[i]? =some o->o.dst=some t->t∈ds) (bl:bt dI je ws)
  (jV:tq aS E) (iP:ru aS call)
include bu iz bl jV iP
theorem auF (h:Inv E n ops e dI je ws a0 ds L q m a w) (ai:q=ops.size\/∃o,ops[q]? =some o/\(act E o.dst o.op).nT=true) {i:Nat} {o:Oper} (aJ:qo ops L i o) (aJd:L ops.size=false)
 (ef:∀f_ m' cY w',Inv E n ops e dI je ws a0 ds (oL L i) f_ m' cY w'->K cY w'):wpOp aS ops Q i K a w:=by
 have aJp:i<ops.size:=(nJ.1 aJ.1).1;have Ij:∀t∈looks ops o,dW m ((e i).g t) (a.tmps.getD t undef):=λt bH=>Inv.looked bu h aJ bH;have rQ:=Inv.only bu h aJ;have X6:(act E o.dst o.op).nT=true->i=q:=λa3=>by
  have lQ:¬i<q:=λbK=>by
   have:=(h.pre i o aJ.1 a3).2 bK;rw[aJ.2.1] at this;cases this
  rcases ai with ai|⟨auG,ay,xO⟩
  ·omega
  ·by_cases he:i=q
   ·exact he
   ·have:=bu.before h.vO aJ ay ab (akk xO a3);have:=(h.pre q auG ay xO).1 this;omega
 obtain⟨_,_,_,dm⟩:=bu.step i o aJ.1;unfold wpOp;simp only[aJ.1];rcases dm with⟨hw,aM,aV,dz⟩|⟨hw,bb⟩
 ·rw[aiS Ij hw];simp only[Bool.false_eq_true,if_false];cases a3:(act E o.dst o.op).nT with
  |false=>exact ef q m _ w (Inv.quiet bu iz bl h aJ a3 (λ_ _=>aM) (Step.refl ..) h.rel (by rw[aM];rfl) aV)
  |true=>
   obtain rfl:=X6 a3;exact ef (i+1) m _ w (Inv.iZ bu iz bl h aJ a3 (by rw[dz];exact Step.refl ..) (by rw[dz];exact h.rel) (by rw[aM];rfl) (λy bT=>by rw[aV] at bT;cases bT))
 ·rw[aiS Ij hw];simp only[if_true];refine .inl ?_;have tL:=jV o;cases kV:act E o.dst o.op with
  |bad=>simp only[kV] at bb;exact bb.elim
  |pure f=>
   simp only[kV] at bb;rw[kV] at tL;obtain⟨aF,aQ,bn⟩:=bb;obtain⟨d_,aa,ae⟩:=tL n _ a m w rQ _ aF;unfold Oper.wp;rw[aa];exact ef q m _ w (Inv.quiet bu iz bl h aJ (by rw[kV];rfl) (λz ⟨fl,bq,bE⟩=>by rw[aJ.1] at bq;cases bq;rw[kV] at bE;cases bE) (Step.refl ..) h.rel ae aQ)
  |made f=>
   simp only[kV] at bb;rw[kV] at tL;obtain⟨aF,aQ,bn⟩:=bb;obtain⟨m',d_,w',aU,aa,ae,az⟩:=tL n _ a m (e q).s w rQ h.rel _ aF;unfold Oper.wp;rw[aa];exact ef q m' _ w' (Inv.quiet bu iz bl h aJ (by rw[kV];rfl) (λz ⟨fl,bq,bE⟩=>by rw[aJ.1] at bq;cases bq;rw[kV] at bE;cases bE) aU ae az aQ)
  |read f=>
   simp only[kV] at bb;rw[kV] at tL;obtain⟨aF,aQ,bn,cy⟩:=bb;have vY:=OW (E:=E) o.dst o.op;rw[kV] at vY;have zA:∀y,(⟨i,qQ i,k7 (jl (looks ops o) (e i).g) o.op.operands.toList,cellOf E (jl (looks ops o) (e i).g) o.op⟩:n9).cell=some y->y.1∈k7 (jl (looks ops o) (e i).g) o.op.operands.toList:=λy bT=>aj7 bT;have anb:tD ⟨i,qQ i,k7 (jl (looks ops o) (e i).g) o.op.operands.toList,cellOf E (jl (looks ops o) (e i).g) o.op⟩ (e i).s (e q).s:=by
    rcases jL i q with bK|lQ
    ·have:=bu.VJ (aS:=aS) iP zA (q-i) i (by have:=h.ay;omega) λj nr u2 Qf aa ae b xv Xt Xu=>by
      have nP:=bu.O' _ cy b xv;unfold N4 at nP;split at nP
      ·rename_i oA;have:=Nat.le_of_ble_eq_true oA;simp only at this;omega
      ·rw[Bool.or_eq_true] at nP;refine nP.resolve_left λBX=> ?_;rw[Xu] at BX;have gr:=(h.pre j nr u2 Qf).2 ab;have:=bu.waits h.vO j nr u2 (h.vO j nr gr u2) i BX;rw[aJ.2.1] at this;cases this
     rw[show i+(q-i)=q by omega] at this;exact this
    ·have:=bu.VJ (aS:=aS) iP zA (i-q) q ab λj nr u2 Qf aa ae b xv Xt Xu=>by
      have nP:=bu.O' _ cy b xv;unfold N4 at nP;split at nP
      ·rw[Bool.or_eq_true] at nP;refine nP.resolve_left λBX=> ?_;simp only[Xt] at BX;have gr:=bu.waits h.vO i o aJ.1 aJ.2.2 j BX;have:=(h.pre j nr u2 Qf).1 gr;omega
      ·rename_i oA;have:Nat.ble (Nat.succ b.i) i=true:=Nat.ble_eq_true_of_le ab;simp only[this] at oA;cases oA
     rw[show q+(i-q)=i by omega] at this;exact this.symm
   have vX:f (jl (looks ops o) (e i).g) (e i).s=f (jl (looks ops o) (e i).g) (e q).s:=by
    rcases anb with aU|⟨y,x,cN,dq,eJ⟩
    ·exact vY _ _ _ λj au=>(aU j au).symm
    ·exact aj8 kV cN dq eJ
   rw[vX] at aF;obtain⟨d_,aa,ae⟩:=tL n _ a m (e q).s w rQ h.rel _ aF;unfold Oper.wp;rw[aa];exact ef q m _ w (Inv.quiet bu iz bl h aJ (by rw[kV];rfl) (λz ⟨fl,bq,bE⟩=>by rw[aJ.1] at bq;cases bq;rw[kV] at bE;cases bE) (Step.refl ..) h.rel ae aQ)
  |alloc z=>
   simp only[kV] at bb;rw[kV] at tL;obtain⟨aF,aQ,bn⟩:=bb;obtain⟨vs,t,aa,ae⟩:=tL a w;unfold Oper.wp;rw[aa];exact ef q _ _ _ (Inv.alloc bu iz h aJ ⟨o,aJ.1,kV⟩ (ae m) aF aQ)
  |iZ f=>
   have a3:(act E o.dst o.op).nT=true:=by rw[kV];rfl
   obtain rfl:=X6 a3;simp only[kV] at bb;rw[kV] at tL;obtain⟨r,aa,ae⟩:=bb;have bZ:=tL n _ a m (e i).s w rQ h.rel r aa;clear aa;unfold Oper.wp;cases r with
   |val v a8=>
    obtain⟨aF,aQ,bn,_⟩:=ae;obtain⟨m',d_,w',bq,bE,c8,ei⟩:=bZ;rw[bE];exact ef (i+1) m' _ w' (Inv.iZ bu iz bl h aJ a3 (by rw[bn];exact bq) (by rw[bn];exact c8) (by rw[aF];exact ei) (λy bT=>by rw[aQ] at bT;cases bT))
   |skip a8=>
    obtain⟨aF,aQ,bn,_⟩:=ae;obtain⟨m',w',bq,bE,c8⟩:=bZ;rw[bE];exact ef (i+1) m' _ w' (Inv.iZ bu iz bl h aJ a3 (by rw[bn];exact bq) (by rw[bn];exact c8) (by rw[aF];rfl) (λy bT=>by rw[aQ] at bT;cases bT))
   |qb t u a8=>
    obtain⟨aF,aQ,bn,_⟩:=ae;obtain⟨m',w',bq,bE,c8,ei⟩:=bZ;rw[bE];exact ef (i+1) m' _ w' (Inv.iZ bu iz bl h aJ a3 (by rw[bn];exact bq) (by rw[bn];exact c8) (by rw[aF];rfl) (λy bT=>by rw[aQ] at bT;cases bT;exact ei))
   |call f args a8=>
    obtain⟨aF,aQ,_⟩:=ae;obtain⟨rfl,vs,bq,bE⟩:=bZ;rw[bE];obtain⟨c8,ei⟩:=iP.run f args _ _ _ m w vs aF h.rel bq;rw[c8];refine ei.mono ?_;rintro _ w' ⟨m',d_,rfl,bo,cO,bD⟩;exact ef (i+1) m' _ w' (Inv.iZ bu iz bl h aJ a3 bo cO bD (λy bT=>by rw[aQ] at bT;cases bT))
end
def l4 (kg:Array Bool):Nat->Bool:=λj=>kg.getD j false
def sF (L:Nat->Bool):Nat->Nat
 |0=>0
 |p+1=>sF L p+(match L p with|true=>0|false=>1)
theorem Wc (L:Nat->Bool) {i:Nat} (aj:L i=false):∀p,sF (oL L i) p+(if i<p then 1 else 0)=sF L p
 |0=>by simp[sF]
 |p+1=>by
  have b_:=Wc L aj p;rw[sF,sF];by_cases he:p=i
  ·subst he;rw[Ob,aj];simp only[Nat.lt_irrefl,if_false,dH] at b_;simp[b_]
  ·rw[vv L he];by_cases bK:i<p
   ·rw[if_pos bK] at b_;rw[if_pos ab,<-b_];omega
   ·rw[if_neg bK] at b_;rw[if_neg ab,<-b_];omega
theorem Wd (L:Nat->Bool):∀p,sF L p=0->∀i,i<p->L i=true
 |0,_,i,aj=>by omega
 |p+1,h,i,aj=>by
  rw[sF] at h;by_cases he:i=p
  ·subst he;cases gr:L i with
   |true=>rfl
   |false=>rw[gr] at h;simp at h
  ·exact Wd L p ab i ab
theorem Vk {kg:Array Bool} {i:Nat} (aj:i<kg.size):l4 (kg.setIfInBounds i true)=oL (l4 kg) i:=by
 funext j;unfold l4 oL;by_cases h:j=i
 ·subst h;simp[aj]
 ·rw[if_neg h];simp[Array.getElem?_setIfInBounds_ne (Ne.symm h)]
section
variable{aS:Program} {E:Env} {n:Nat} {ops:Array Oper} {call:kM} {e:Nat->qj} {qQ:Nat->Nat} {j2:List n9} {jb:List qT} {je:bF} {ws:World} {dI:M} {a0:Go.Act} {ds:List Nat} {Q:Exit->Go.Act->World->Prop}
  (bu:nE E n ops call e qQ j2 jb je) (iz:∀(i:Nat) (o:Oper) (t:Nat),ops[i]? =some o->o.dst=some t->t∈ds) (bl:bt dI je ws)
  (jV:tq aS E) (iP:ru aS call)
  (fc:∀m' cY w',Step dI je ws m' (e ops.size).s w'->yY m' n (e ops.size).g cY->bt m' (e ops.size).s w'->iq ds a0 cY->Q .normal cY w')
include bu iz bl jV iP fc
omit jV iP iz bl in
theorem VL {L:Nat->Bool} {q:Nat} {m:M} {a:Go.Act} {w:World} (h:Inv E n ops e dI je ws a0 ds L q m a w) (nk:∀i,i<ops.size->L i=true):Q .normal a w:=by
 obtain⟨f_,_,h',ai⟩:=Inv.bound bu h;have ay:f_=ops.size:=by
  rcases ai with ai|⟨o,bR,a3⟩
  ·exact ai
  ·have bK:f_<ops.size:=(nJ.1 bR).1;have:=(h'.pre f_ o bR a3).1 (nk f_ bK);omega
 subst ay;refine fc m a w h'.st ?_ h'.rel h'.Uv;have:=h'.bQ
 rwa [bu.all nk _ (Nat.le_refl _)] at this
omit iz bl jV iP fc in
theorem ajD {kg:Array Bool} (aU:kg.size=ops.size) (aJ:Region.ready .any ops kg=[]):∀i,i<ops.size->l4 kg i=true:=by
 intro i;induction i using Nat.strongRecOn with
 |_ i b_=>
  intro aj;cases gr:l4 kg i with
  |true=>rfl
  |false=>
   have:i∈Region.ready .any ops kg:=by
    rw[mem_ready];refine⟨?_,ops[i],Array.getElem?_eq_getElem aj,λe he ai=> ?_⟩
    ·unfold l4 at gr;have:i<kg.size:=ab;simp[this] at gr⊢;exact gr
    ·have bK:=(bu.mask i ops[i] (Array.getElem?_eq_getElem aj)).1 e (by simpa using he) ai;exact b_ e.on bK ab
   rw[aJ] at this;cases this
theorem VM:∀(fuel:Nat) {kg:Array Bool} {q:Nat} {m:M} {a:Go.Act} {w:World},kg.size=ops.size->sF (l4 kg) ops.size<=fuel->Inv E n ops e dI je ws a0 ds (l4 kg) q m a w->
 wpAny aS .any ops Q fuel kg a w
 |0,kg,q,m,a,w,aU,aq,h=>by
  have nk:=Wd (l4 kg) ops.size ab;refine⟨?_,VL bu fc h nk⟩;cases aJ:Region.ready .any ops kg with
  |nil=>rfl
  |cons i l=>
   have aj:i∈Region.ready .any ops kg:=by rw[aJ];simp
   obtain⟨aa,o,ae,_⟩:=mem_ready.1 aj;have bK:i<ops.size:=(nJ.1 ae).1;have:=nk i bK;unfold l4 at this;have oA:i<kg.size:=ab;simp[oA] at this aa;rw[this] at aa;cases aa
 |fuel+1,kg,q,m,a,w,aU,aq,h=>by
  refine⟨λaJ=>VL bu fc h (ajD bu aU aJ),λi aj=> ?_⟩;obtain⟨aa,o,ae,az⟩:=mem_ready.1 aj;have bK:i<ops.size:=(nJ.1 ae).1;have oA:i<kg.size:=ab;have gr:l4 kg i=false:=by
   unfold l4;simp[oA] at aa⊢;exact aa
  have aJ:qo ops (l4 kg) i o:=⟨ae,gr,λe he ai=>az e (by simpa using he) ai⟩;obtain⟨f_,_,h',ai⟩:=Inv.bound bu h;refine auF bu iz bl jV iP h' ai aJ (by unfold l4;simp[aU]) λcF dg dc eM g=> ?_;refine VM fuel (by simpa using aU) ?_ (q:=cF) (m:=dg) (by rw[Vk oA];exact g);rw[Vk oA];have:=Wc (l4 kg) gr ops.size;rw[if_pos bK] at this;omega
end
theorem akt {aS:Program} {E:Env} {n:Nat} {call:kM} (pb:aS.follows .mixedOrders=true) (jV:tq aS E) (iP:ru aS call) {id:Nat} {ops:Array Oper} (zL:GH E ops=true) {l:List pI} (a3:Ac .nil 0 ops.toList=some l) {ds:List Nat}
 (iz:∀(i:Nat) (o:Oper) (t:Nat),ops[i]? =some o->o.dst=some t->t∈ds)
 {m:M} {σ:bF} {F:Fr} {a:Go.Act} {w:World} {y:Fr×bF} {Q:Exit->Go.Act->World->Prop} (a5:dr m n F a) (bc:bt m σ w) (h:cI (drawn E call n ops l F σ) y)
 (fc:∀m' cY w',Step m σ w m' y.2 w'->dr m' n y.1 cY->bt m' y.2 w'->iq ds a cY->Q .normal cY w'):(Code.region id ops true).wp aS Q a w:=by
 obtain⟨t,bH,h⟩:=cI.lf h;split at h
 ·rename_i al';obtain rfl:=h.eA;unfold GH at zL;rw[a3] at zL;simp only at zL;obtain⟨qQ,_,hlen,rM⟩:=adq (uE:=λ_=>0) a3 (λi a bW=>by rw[bx.T.get_nil] at bW;cases bW);obtain⟨es,aF,⟨fQ,aQ,bn,cy,fj⟩,⟨aE,fX,gU,iO⟩,jU⟩:=Pq bH;have fh:l.length=ops.size:=by rw[hlen];simp
  have Ip:∀i o,ops[i]? =some o->yS E n ops call t.j2 t.jb ⟨i,o,qQ i⟩ (es[i]?.getD default) (es[i+1]?.getD default):=λi o bR=>by
   have bb:=(rM i o (by simpa using bR)).1;have aj:=(nJ.1 bR).1;have bq:es[i]? =some (es[i]'ab):=e_ _
   have bE:es[i+1]? =some (es[i+1]'ab):=e_ _
   have:=jU i _ _ _ bb bq bE;rw[bq,bE];simpa using this
  have BM:(es[0]?.getD default)=fQ:=by rw[aQ];rfl
  have P0:∀i z,rr E ops i z->σ.next<=(es[i]?.getD default).x/\(es[i]?.getD default).x<(es[0]?.getD default).s.next/\(es[0]?.getD default).s.heap.get (es[i]?.getD default).x=some (.box z):=λi z ⟨o,bR,dx⟩=>by
   rw[BM,cy];exact QQ (E:=E) (l:=ops.toList) (σ:=σ) (x:=λi=>(es[i]?.getD default).x) (by rw[BM,fj]) (λidx o bR=>(Ip idx o (by simpa using bR)).2.2.1) i o z (by simpa using bR) dx
  have bu:nE E n ops call (λi=>es[i]?.getD default) qQ t.j2 t.jb σ:=⟨Ip,λi o bR=>by
   have:=(rM i o (by simpa using bR)).2;simpa using this,λi j p q tQ bw ay aq=>by
   have d1:=(rM i p (by simpa using bw)).1;have d2:=(rM j q (by simpa using ay)).1;have:=adj zL tQ d1 d2 aq;simpa using this,λr aJ b ai=>List.all_eq_true.1 (List.all_eq_true.1 al' r aJ) b ai,P0⟩
  have gr:l4 (Array.replicate ops.size false)=λ_=>false:=by
   funext j;unfold l4;by_cases au:j<ops.size<;>simp[au]
  have amy:(es[ops.size]?.getD default)=aE:=by rw[<-fh,fX];rfl
  have qu:=bc.tc (zf w);have ang:Step m σ w m σ w.drew:=⟨js.refl _ m,gX.tc bc (zf w),Nat.le_refl _,λ_ _ h _=>h⟩;obtain⟨bq,bE⟩:=QS (E:=E) (l:=ops.toList) qu;refine wp_region_any pb ?_;refine VM (dI:=m) (ws:=w) (a0:=a) (ds:=ds) bu iz bc jV iP (λm' cY w' cm cF dy e8=> ?_) ops.size (q:=0) (m:=m) (by simp) ?_ ?_
  ·simp only[amy] at cm cF dy;rw[iO] at cm dy;rw[gU] at cF;exact fc m' cY w' cm cF.bQ dy e8
  ·rw[gr];have:∀p,sF (λ_=>false) p=p:=λp=>by
    induction p with
    |zero=>rfl
    |succ p b_=>rw[sF,b_]
   rw[this];exact Nat.le_refl _
  ·rw[gr];refine⟨Nat.zero_le _,λi o bR k8=>by simp, ?_, ?_,Nat.le_refl _, ?_,λi z ax _=> ?_,λi z ax bw=> ?_,λj o au=>(by cases au),iq.refl _ _⟩
   ·simp only[BM,cy];exact bq
   ·simp only[BM,cy];exact ang.trans bc bE
   ·rw[U9];simp only[BM,bn];exact a5.akW
   ·have:=(P0 i z ax).1;exact(bc.fresh _ this).1
   ·exact(P0 i z ax).2.2
 ·exact h.b7.elim
inductive tt (m m':M):B->B->Prop
  |box {cs k5:List C}:k5.length=cs.length->(∀(j:Nat) c',k5[j]? =some c'->∃c,cs[j]? =some c/\∀v,cT m c v->cT m' c' v)->tt m m' (.box cs) (.box k5)
  |arr {t:da} {a4:List Bool} {l:L (D t)} (cX jE:Nat):tt m m' (.arr t a4 l none cX) (.arr t a4 l none jE)
  |a6 (t:da):tt m m' (.a6 t) (.a6 t)
def B.cX:B->Nat
 |.arr _ _ _ _ v=>v
 |_=>0
def wL (σ:bF) (i:Nat):Nat:=match σ.heap.get i with
 |some b=>b.cX
 |none=>0
theorem mo.aiF {m m':M} {h:Array Obj} {s i:Nat} {b fG:B} (ai:mo m h s b) (bH:tt m m' b fG) (bw:m'.pl i=m.pl s) (fB:m'.bb i=m.bb s) (ax:m'.fz=m.fz) (bR:m'.dn=m.dn)
 (aa:∀t a4 l k jE,fG=.arr t a4 l k jE->∀o,m'.g3 i jE o=m.g3 s b.cX o) (ae:∀t a4 l k jE,fG=.arr t a4 l k jE->∀k,jE<k->∀o,m'.g3 i k o=none)
 (az:∀t a4 l k jE,fG=.arr t a4 l k jE->m.pl s=none->(∀k o,m.g3 s k o=none)->∀k o,m'.g3 i k o=none):mo m' h i fG:=by
 cases bH with
 |box a3 aq=>
  rcases ai with g|⟨r,cur,ty,bQ,aF,aQ,bn,cy,fj,fX,gU⟩
  ·exact .inl (bw.trans g)
  ·refine .inr ⟨r,cur,ty,bQ,bw.trans aF,aQ,bn,cy.trans a3.symm,λj c' au=> ?_,by rw[bR];exact fX,by rw[ax];exact gU⟩;obtain⟨c,bq,bE⟩:=aq j c' au;obtain⟨v,c8,ei⟩:=fj j c bq;exact⟨v,c8,bE v ei⟩
 |a6 t=>
  obtain⟨A,k,c,aF,aQ,bn⟩:=ai;refine⟨A,k,c,fB.trans aF,aQ,bn.imp (λ⟨bq,bE,c8⟩=>⟨bq,bE,bw.trans c8⟩) λ⟨r,cur,ty,bQ,bq,bE,c8,ei,jj,oD,pj,Cx⟩=>⟨r,cur,ty,bQ,bq,bw.trans bE,c8,ei,jj,by rw[ax];exact oD,by rw[bR];exact pj,by rw[bR];exact Cx⟩⟩
 |@arr t a4 l cX jE=>
  obtain⟨A,c,aF,aQ,jz,bn⟩:=ai;refine⟨A,c,fB.trans aF,aQ,ae _ _ _ _ _ rfl,bn.imp (λ⟨bq,bE,c8,ei⟩=>⟨bq,bE,bw.trans c8,az _ _ _ _ _ rfl c8 ei⟩) λ⟨r,cur,ty,bQ,bq,bE,c8,ei,jj,oD,pj,Cx,sX⟩=>
   ⟨r,cur,ty,bQ,bq,bw.trans bE,c8,ei,jj,by rw[bR];exact oD,by rw[ax];exact pj,λn x aV=> ?_,λo v=> ?_⟩⟩
  ·exact(Cx n x aV).frame (by rw[ax];exact ie.refl _) λb k aP _=>⟨rfl,by rw[bR],by rw[ax]⟩
  ·rw[aa _ _ _ _ _ rfl o];exact sX o v
def M.sub (m:M) (σ:bF) (ids:List Nat):M:=⟨λj=>(ids[j]?).bind m.pl,λj=>(ids[j]?).bind m.bb,λj v o=>match ids[j]? with
 |some i=>if v=0 then m.g3 i (wL σ i) o else none
 |none=>none,m.fz,m.dn⟩
section
variable{w eM:World} {m dg:M} {σ j5 e5 ll:bF} {ids:List Nat}
theorem idx_eq (bb:ids.Nodup) {j k i:Nat} (au:ids[j]? =some i) (aP:ids[k]? =some i):j=k:=by
 have aa:=(ed.1 au);have ae:=(ed.1 aP);obtain⟨aa,aE⟩:=aa;obtain⟨ae,aX⟩:=ae;rcases jL j k with g|g
 ·exact absurd (aE.trans aX.symm) (List.pairwise_iff_getElem.1 bb j k aa ae g)
 ·rcases jL k j with BH|BH
  ·exact absurd (aX.trans aE.symm) (List.pairwise_iff_getElem.1 bb k j ae aa BH)
  ·omega
theorem bt.sub (h:bt m σ w) (bb:ids.Nodup) (aA:j5.next=ids.length) (ai:∀j cR,j5.heap.get j=some cR->∃i b,ids[j]? =some i/\σ.heap.get i=some b/\tt m (m.sub σ ids) b cR/\cR.cX=0):bt (m.sub σ ids) j5 w where
 fresh j au:=by
  have Im:ids[j]? =none:=List.getElem?_eq_none ab;refine⟨by simp[M.sub,Im],by simp[M.sub,Im],λk o=>by simp[M.sub,Im], ?_⟩;cases bZ:j5.heap.get j with
  |none=>rfl
  |some cR=>
   obtain⟨i,b,aa,_⟩:=ai j cR bZ;rw[Im] at aa;cases aa
 live j cR au:=by
  obtain⟨i,b,aa,ae,az,a9⟩:=ai j cR au;refine(h.live i b ae).aiF az (by simp[M.sub,aa]) (by simp[M.sub,aa]) rfl rfl (λt a4 l k jE aM o=> ?_) (λt a4 l k jE aM cj aP o=> ?_) (λt a4 l k jE aM bw aU cj o=> ?_)
  ·subst aM;have a9:jE=0:=a9;subst a9;simp[M.sub,aa,wL,ae]
  ·have:cj≠0:=ab;simp[M.sub,aa,this]
  ·simp[M.sub,aa,aU]
 inj j k iM mT r au aP aJ ay:=by
  obtain⟨i,b,aa,ae,_⟩:=ai j iM au;obtain⟨dL,fG,vS,BN,_⟩:=ai k mT aP;have aE:m.pl i=some r:=by simpa[M.sub,aa] using aJ
  have aX:m.pl dL=some r:=by simpa[M.sub,vS] using ay
  have:=h.inj i dL b fG r ae BN aE aX;subst this;exact idx_eq bb aa vS
 own:=h.own
 stay:=h.stay
def s5 (σ:bF) (i:Nat):Option Nat:=if σ.next<=i then some 0 else match σ.heap.get i with
 |some (.arr _ _ _ _ v)=>some (v+1)
 |_=>none
def M.glue (m:M) (σ:bF) (dg:M) (e5:bF) (ex:Nat->Option Nat):M:=⟨λi=>if i<σ.next then m.pl i else(ex i).bind dg.pl,λi=>match ex i with
 |some s=>dg.bb s
 |none=>m.bb i,λi v o=>match ex i with
 |some s=>if s5 σ i=some v then dg.g3 s (wL e5 s) o else m.g3 i v o
 |none=>m.g3 i v o,dg.fz,dg.dn⟩
structure U7 (σ:bF) (ids:List Nat) (ex:Nat->Option Nat) (N:Nat):Prop where
  r_:∀i s,ex i=some s->i<σ.next->ids[s]? =some i
  new:∀i s,ex i=some s->σ.next<=i->i<N
  inj:∀i dL s,ex i=some s->ex dL=some s->i=dL
theorem bt.glue (h:bt m σ w) (XT:∀i∈ids,i<σ.next) (sS:j5.next=ids.length) (aC:∀j cR,j5.heap.get j=some cR->∃i b,ids[j]? =some i/\σ.heap.get i=some b)
 (P1:∀i∈ids,∀cs,σ.heap.get i=some (.box cs)->m.pl i≠none) (ae:bt dg e5 eM) (st:Step (m.sub σ ids) j5 w dg e5 eM) {ex:Nat->Option Nat} (hex:U7 σ ids ex ll.next) (sO:σ.next<=ll.next)
 (aP:∀i,i∉ids->i<σ.next->ll.heap.get i=σ.heap.get i)
 (aV:∀i hJ,ll.heap.get i=some hJ->(i∈ids\/σ.next<=i)->∃s fg,ex i=some s/\e5.heap.get s=some fg/\tt dg (m.glue σ dg e5 ex) fg hJ/\∀t a4 l k jE,hJ=.arr t a4 l k jE->s5 σ i=some jE):
 bt (m.glue σ dg e5 ex) ll eM/\Step m σ w (m.glue σ dg e5 ex) ll eM:=by
 have low:∀{s i:Nat},ids[s]? =some i->s<j5.next:=λ{s i} aU=>by rw[sS];exact(ed.1 aU).1
 have mem:∀{s i:Nat},ids[s]? =some i->i∈ids:=λaU=>List.mem_of_getElem? aU;have yA:∀{i s:Nat},ex i=some s->(m.glue σ dg e5 ex).pl i=dg.pl s:=λ{i s} he=>by
  show(if i<σ.next then _ else _)=_;split
  ·rename_i bK;have aU:=hex.r_ i s he bK;rw[st.ix.pl s (low aU)];simp[M.sub,aU]
  ·rw[he];rfl
 have lz:∀{i:Nat},σ.next<=i->m.pl i=none/\m.bb i=none/\(∀k o,m.g3 i k o=none):=λ{i} aj=>by
  obtain⟨aF,aQ,bn,_⟩:=h.fresh i aj;exact⟨aF,aQ,bn⟩
 have O2:∀{i v:Nat},i<σ.next->s5 σ i=some v->∃t a4 l bR,σ.heap.get i=some (.arr t a4 l bR (v-1))/\1<=v:=λ{i v} aj aM=>by
  unfold s5 at aM;rw[if_neg ab] at aM;split at aM
  ·rename_i t a4 l bR v0 bZ;cases aM;exact⟨t,a4,l,bR,by simpa using bZ,ab⟩
  ·cases aM
 have ext:Ext m (m.glue σ dg e5 ex):=by
  refine⟨λi r aj=> ?_,λi v aj=> ?_,λi k o v aj=> ?_,st.ix.ext.fz⟩
  ·have bK:i<σ.next:=by
    rcases jL i σ.next with g|g
    ·exact g
    ·rw[(lz g).1] at aj;cases aj
   show(if i<σ.next then _ else _)=_;rw[if_pos bK];exact aj
  ·have bK:i<σ.next:=by
    rcases jL i σ.next with g|g
    ·exact g
    ·rw[(lz g).2.1] at aj;cases aj
   show(match ex i with|some s=>dg.bb s|none=>m.bb i)=_;cases he:ex i with
   |none=>exact aj
   |some s=>
    have aU:=hex.r_ i s he bK;exact st.ix.ext.bb s v (by simpa[M.sub,aU] using aj)
  ·have bK:i<σ.next:=by
    rcases jL i σ.next with g|g
    ·exact g
    ·rw[(lz g).2.2] at aj;cases aj
   show(match ex i with|some s=>(if s5 σ i=some k then _ else _)|none=>_)=_;cases he:ex i with
   |none=>exact aj
   |some s=>
    simp only
    rw[if_neg]
    ·exact aj
    ·intro aM;obtain⟨t,a4,l,bR,aF,aQ⟩:=O2 bK aM;obtain⟨A,c,bq,bE,c8,_⟩:=h.live i _ aF;rw[c8 k ab o] at aj;cases aj
 have RL:∀{R:Nat},A4 (m.sub σ ids) j5 R->∃j y q k,(j∈ids\/σ.next<=j)/\σ.heap.get j=some y/\m.pl j=some q/\m.dn R=some (q,k):=λ{R} ⟨q,k,j,x,mj,lG,Jw⟩=>by
  obtain⟨i,b,aF,aQ⟩:=aC j x lG;exact⟨i,b,q,k,.inl (mem aF),aQ,by simpa[M.sub,aF] using Jw,mj⟩
 have key:=h.V_ (m':=m.glue σ dg e5 ex) (a8:=ll) (w':=eM) (λi=>i∈ids\/σ.next<=i) ext ⟨st.gu.os,st.gu.tape,st.gu.output⟩ st.gu.size (λi aj=> ?_) (λi hJ p0 aj=> ?_) (λi p0=> ?_) (λb ai p0=> ?_)
  (λi j bi iM r alR alS aj au aJ ay=> ?_) (λi x R p0 aj e7=> ?_) (λb R k ai=>ae.own b R k ai) (λb R k ai aA=> ?_) ae.stay
 ·refine⟨key.1,⟨ext,λi aj=>if_pos aj⟩,key.2,sO,λi cs aj bw=> ?_⟩;have bK:i<σ.next:=by
   rcases jL i σ.next with g|g
   ·exact g
   ·rw[(h.fresh i g).2.2.2] at aj;cases aj
  rw[aP i (λhm=>P1 i hm cs aj bw) bK];exact aj
 ·have tR:ex i=none:=by
   cases he:ex i with
   |none=>rfl
   |some s=>have:=hex.new i s he ab;omega
  obtain⟨f1,f2,f3⟩:=lz (i:=i) ab;refine⟨?_, ?_,λk o=> ?_, ?_⟩
  ·show(if i<σ.next then _ else _)=_;rw[if_neg ab,tR];rfl
  ·show(match ex i with|some s=>dg.bb s|none=>m.bb i)=_;rw[tR];exact f2
  ·show(match ex i with|some s=>(if s5 σ i=some k then _ else _)|none=>_)=_;rw[tR];exact f3 k o
  ·cases bZ:ll.heap.get i with
   |none=>rfl
   |some hJ=>
    obtain⟨s,fg,aF,_⟩:=aV i hJ bZ (.inr ab);rw[tR] at aF;cases aF
 ·obtain⟨s,fg,aF,aQ,bn,cy⟩:=aV i hJ aj p0;have Uw:∀k o,(m.glue σ dg e5 ex).g3 i k o=if s5 σ i=some k then dg.g3 s (wL e5 s) o else m.g3 i k o:=λk o=>by
   show(match ex i with|some s=>(if s5 σ i=some k then _ else _)|none=>_)=_;rw[aF]
  have Qx:wL e5 s=fg.cX:=by simp[wL,aQ]
  have auA:∀{k jE:Nat},s5 σ i=some jE->jE<k->∀o,m.g3 i k o=none:=λ{k jE} aM bK o=>by
   rcases jL i σ.next with g|g
   ·obtain⟨t,a4,l,bR,bq,bE⟩:=O2 g aM;obtain⟨A,c,bo,cO,bD,_⟩:=h.live i _ bq;exact bD k ab o
   ·exact(lz g).2.2 k o
  refine(ae.live s fg aQ).aiF bn (yA aF) (by show(match ex i with|some s=>dg.bb s|none=>m.bb i)=_;rw[aF]) rfl rfl (λt a4 l k jE aM o=> ?_) (λt a4 l k jE aM cj o9 o=> ?_) (λt a4 l k jE aM bw aU cj o=> ?_)
  ·rw[Uw,if_pos (cy _ _ _ _ _ aM),Qx]
  ·have rX:=cy _ _ _ _ _ aM;rw[Uw,if_neg (by rw[rX];simp;omega)];exact auA rX o9 o
  ·have rX:=cy _ _ _ _ _ aM;rw[Uw];split
   ·exact aU _ _
   ·rcases jL i σ.next with g|g
    ·obtain⟨t,a4,l,bR,bq,bE⟩:=O2 g rX;obtain⟨A,c,bo,cO,bD,cz⟩:=h.live i _ bq;have we:m.pl i=none:=by
      have cE:=yA aF;rw[bw] at cE;have dm:(m.glue σ dg e5 ex).pl i=m.pl i:=if_pos g;rw[<-dm];exact cE
     rcases cz with⟨_,_,_,fY⟩|⟨r,cur,ty,bQ,_,hM,_⟩
     ·exact fY cj o
     ·rw[we] at hM;cases hM
    ·exact(lz g).2.2 cj o
 ·rw[not_or] at p0;have bK:i<σ.next:=ab;have tR:ex i=none:=by
   cases he:ex i with
   |none=>rfl
   |some s=>exact absurd (mem (hex.r_ i s he bK)) p0.1
  refine⟨aP i p0.1 bK,if_pos bK, ?_⟩;funext k o;show(match ex i with|some s=>(if s5 σ i=some k then _ else _)|none=>_)=_;rw[tR]
 ·have:=st.gu.kept b ai λbR=>by
   obtain⟨j,y,q,k,aF,aQ,bn,cy⟩:=RL bR;exact p0 j y q k aF aQ bn cy
  exact⟨this.1,this.2.1,this.2.2.1⟩
 ·obtain⟨s,fg,aF,aQ,_⟩:=aV i bi aj alR;obtain⟨ep,ajL,BI,HQ,_⟩:=aV j iM au alS;rw[yA aF] at aJ;rw[yA BI] at ay;have:=ae.inj s ep fg ajL r aQ HQ aJ ay;subst this;exact hex.inj i j s aF BI
 ·obtain⟨s,fg,aF,aQ,_⟩:=aV i x aj p0;rw[yA aF] at e7;rcases jL R w.heap.size with bK|lQ
  ·refine .inr (RL (Classical.byContradiction λaA=> ?_));exact(st.gu.kept R bK aA).2.2.2 ⟨R,none,s,fg,ae.root aQ e7,aQ,e7⟩
  ·exact .inl lQ
 ·rcases st.gu.own b R k ai with g|g|g
  ·exact absurd g aA
  ·exact .inl g
  ·exact .inr (RL g)
end
inductive fa
  |leaf (l:fy)
  |agg (t:da)
  |cW (t:da) (o:Nat)
  |Jn
  |ptr (k o:Nat)
  |tok (t:da) (k:Nat) (nl:List Bool)
  |arr (k:Nat) (t:da) (a4:List Bool)
  |jy (k sz f:Nat)
  |fn (f:Nat) (first cap:List (Nat×Nat))
  |s6
  |rf
  |cP
  |r8 (t:da) (nl:List Bool)
inductive fC
  |box (cs:List fa)
  |arr (t:da) (a4:List Bool)
  |a6 (t:da)
  |gone
@[reducible] def vD (s:fa):Type:=fa.rec (motive:=λ_=>Type) (λl=>nD l) (λt=>D t) (λt _=>D t) Unit (λ_ _=>Unit) (λt _ _=>L (D t)) (λ_ _ _=>Unit) (λ_ _ _=>Nat) (λ_ _ _=>Unit) Unit Unit Unit (λt _=>D t) s
@[reducible] def rz (l:List fa):Type:=List.rec (motive:=λ_=>Type) Unit (λs _ b_=>vD s×b_) l
@[reducible] def kk (b:fC):Type:=fC.rec (motive:=λ_=>Type) (λcs=>rz cs) (λt _=>L (D t)) (λ_=>Unit) Unit b
@[reducible] def nC (l:List fC):Type:=List.rec (motive:=λ_=>Type) Unit (λs _ b_=>kk s×b_) l
structure aw where
  pz:List (Nat×fa)
  blocks:List fC
@[reducible] def aw.kinds (p:aw):List fa:=List.rec (motive:=λ_=>List fa) [] (λs _ b_=>s.2::b_) p.pz
@[reducible] def U (p:aw):Type:=rz p.kinds×nC p.blocks
def vw (v:V):C:=match v with
 |.p (.c c)=>c
 |_=>.rf
def yq:List Bool->List C->List C
 |b::sD,c::cs=>(match b with
  |true=>.cP
  |false=>c)::yq sD cs
 |_,cs=>cs
def CW:List Bool->List C->Bool
 |b::sD,c::cs=>(match b with
  |true=>zS c
  |false=>true)&&CW sD cs
 |_,_=>true
def w9 (ρ len:Nat->Nat) (s:fa):vD s->V:=fa.rec (motive:=λs=>vD s->V) (λl x=>.c (o4 l x)) (λt x=>.agg (k6 t x)) (λt o x=>.c (.cW t x o)) (λ_=>.c (.ptr none)) (λk o _=>.c (.ptr (some (ρ k,o)))) (λt k nl x=>.c (.row t x (.ny (ρ k) nl t.length))) (λk _ _ _=>.c (.aH (ρ k) (len k))) (λk sz f n=>.c (.jy (ρ k) n sz f)) (λf us vs _=>.c (.fn f (us.map λy=>(ρ y.1,y.2)) (vs.map λy=>(ρ y.1,y.2)))) (λ_=>.c .s6) (λ_=>.c .rf) (λ_=>.c .cP) (λt nl x=>.agg (yq nl (k6 t x))) s
def nL (ρ len:Nat->Nat) (l:List fa):rz l->List V:=List.rec (motive:=λl=>rz l->List V) (λ_=>[]) (λs _ b_ x=>w9 ρ len s x.1::b_ x.2) l
def Bq (ρ len:Nat->Nat) (cX:Nat) (b:fC):kk b->Option B:=fC.rec (motive:=λb=>kk b->Option B) (λcs x=>some (.box ((nL ρ len cs x).map vw))) (λt a4 x=>some (.arr t a4 x none cX)) (λt _=>some (.a6 t)) (λ_=>none) b
def QV (b:fC):kk b->Nat:=fC.rec (motive:=λb=>kk b->Nat) (λ_ _=>0) (λ_ _ x=>x.1.length) (λ_ _=>0) (λ_=>0) b
def Zb (l:List fC):nC l->List Nat:=List.rec (motive:=λl=>nC l->List Nat) (λ_=>[]) (λb _ b_ x=>QV b x.1::b_ x.2) l
def lenOf {l:List fC} (x:nC l) (k:Nat):Nat:=(Zb l x)[k]?.getD 0
structure fu where
  k:Nat
  id:Nat
  tag:Nat
def jQ (ρ:List fu) (k:Nat):Option Nat:=match ρ with
 |[]=>none
 |e::l=>match Nat.beq e.k k with
  |true=>some e.id
  |false=>jQ l k
def uL (ρ:List fu) (k id tag:Nat):Option (List fu):=match jQ ρ k with
 |none=>some (⟨k,id,tag⟩::ρ)
 |some xW=>match Nat.beq xW id with
  |true=>some (⟨k,id,tag⟩::ρ)
  |false=>none
def Bf (ρ:List fu):List (Nat×Nat)->List (Nat×Nat)->Option (List fu)
 |[],[]=>some ρ
 |y::l,z::r=>match Nat.beq y.2 z.2 with
  |true=>match uL ρ y.1 z.1 1 with
   |some fJ=>Bf fJ l r
   |none=>none
  |false=>none
 |_,_=>none
def nh (ρ:List fu) (s:fa) (v:V):Option (vD s×List fu):=match s with
 |.leaf l=>match v with
  |.p (.c c)=>match sI l c with
   |some x=>some (x,ρ)
   |none=>none
  |_=>none
 |.agg t=>match v with
  |.p (.agg cs)=>match mh t cs with
   |some x=>some (x,ρ)
   |none=>none
  |_=>none
 |.cW t o=>match v with
  |.p (.c (.cW t' x fl))=>if h:jS t' t=true then(match Nat.beq fl o with
   |true=>some (cast (congrArg D (jT h)) x,ρ)
   |false=>none) else none
  |_=>none
 |.Jn=>match v with
  |.p (.c (.ptr none))=>some ((),ρ)
  |_=>none
 |.ptr k o=>match v with
  |.p (.c (.ptr (some y)))=>match Nat.beq y.2 o with
   |true=>match uL ρ k y.1 1 with
    |some fJ=>some ((),fJ)
    |none=>none
   |false=>none
  |_=>none
 |.tok t k nl=>match v with
  |.p (.c (.row t' l (.ny id Rn sz)))=>if h:jS t' t=true then(match w3 nl Rn&&Nat.beq sz t'.length with
   |true=>match uL ρ k id 0 with
    |some fJ=>some (cast (congrArg (λt=>L (D t)) (jT h)) l,fJ)
    |none=>none
   |false=>match nl with
    |[]=>match uL ρ k id 0 with
     |some fJ=>some (cast (congrArg (λt=>L (D t)) (jT h)) l,fJ)
     |none=>none
    |_=>none) else none
  |_=>none
 |.arr k _ _=>match v with
  |.p (.c (.aH id n))=>match uL ρ k id 2 with
   |some fJ=>some ((),fJ)
   |none=>none
  |_=>none
 |.jy k sz f=>match v with
  |.p (.c (.jy id n wI f'))=>match Nat.beq wI sz&&Nat.beq f' f with
   |true=>match uL ρ k id 0 with
    |some fJ=>some (n,fJ)
    |none=>none
   |false=>none
  |_=>none
 |.fn f us vs=>match v with
  |.p (.c (.fn f' mJ fO))=>match Nat.beq f' f with
   |true=>match Bf ρ us mJ with
    |some fJ=>match Bf fJ vs fO with
     |some aIO=>some ((),aIO)
     |none=>none
    |none=>none
   |false=>none
  |_=>none
 |.s6=>match v with
  |.p (.c .s6)=>some ((),ρ)
  |_=>none
 |.rf=>match v with
  |.p (.c .rf)=>some ((),ρ)
  |_=>none
 |.cP=>match v with
  |.p (.c .cP)=>some ((),ρ)
  |_=>none
 |.r8 t nl=>match v with
  |.p (.agg cs)=>match CW nl cs with
   |true=>match mh t cs with
    |some x=>some (x,ρ)
    |none=>none
   |false=>none
  |_=>none
def xd (l:List fa):List fu->List V->Option (rz l×List fu):=List.rec (motive:=λl=>List fu->List V->Option (rz l×List fu)) (λρ vs=>match vs with
 |[]=>some ((),ρ)
 |_=>none)
 (λs _ b_ ρ vs=>match vs with
  |[]=>none
  |v::vs=>match nh ρ s v with
   |some y=>match b_ y.2 vs with
    |some z=>some ((y.1,z.1),z.2)
    |none=>none
   |none=>none) l
def kR (ρ:List fu) (b:fC) (x:B):Option (kk b×List fu):=match b with
 |.box cs=>match x with
  |.box l=>xd cs ρ (l.map λc=>.p (.c c))
  |_=>none
 |.arr t a4=>match x with
  |.arr t' vH l none _=>if h:jS t' t=true then(match decide (vH=a4) with
   |true=>some (cast (congrArg (λt=>L (D t)) (jT h)) l,ρ)
   |false=>none) else none
  |_=>none
 |.a6 t=>match x with
  |.a6 t'=>match jS t' t with
   |true=>some ((),ρ)
   |false=>none
  |_=>none
 |.gone=>none
def hasTag (ρ:List fu) (k tag:Nat):Bool:=ρ.any λe=>Nat.beq e.k k&&Nat.beq e.tag tag
def Q0 (mX:Bool) (ρ:List fu) (j:Nat) (b:fC):Bool:=match mX with
 |false=>true
 |true=>match b with
  |.box _=>hasTag ρ j 1
  |_=>true
def sL (mX:Bool) (σ:bF) (l:List fC):Nat->List fu->Option (nC l×List fu):=List.rec (motive:=λl=>Nat->List fu->Option (nC l×List fu)) (λ_ ρ=>some ((),ρ))
 (λb _ b_ j ρ=>match b with
  |.gone=>match b_ (Nat.succ j) ρ with
   |some z=>some (((),z.1),z.2)
   |none=>none
  |b=>match jQ ρ j with
   |none=>none
   |some id=>match σ.heap.get id with
    |none=>none
    |some x=>match Q0 mX ρ j b with
     |false=>none
     |true=>match kR ρ b x with
      |some y=>match b_ (Nat.succ j) y.2 with
       |some z=>some ((y.1,z.1),z.2)
       |none=>none
      |none=>none) l
section
variable{w:World} {m m':M} {σ:bF} {ρ fJ:List fu}
theorem Hx (f len:Nat->Nat) (s:fa) (l:List fa) (x:rz (s::l)):nL f len (s::l) x=w9 f len s x.1::nL f len l x.2:=rfl
theorem WI (s:fa) (l:List fa) (ρ:List fu) (v:V) (vs:List V):xd (s::l) ρ (v::vs)=(match nh ρ s v with
 |some y=>match xd l y.2 vs with
  |some z=>some ((y.1,z.1),z.2)
  |none=>none
 |none=>none):=rfl
def nF (ρ:List fu):Prop:=∀e∈ρ,jQ ρ e.k=some e.id
theorem Zf:∀{ρ:List fu} {k id:Nat},jQ ρ k=some id->∃tag,(⟨k,id,tag⟩:fu)∈ρ
 |e::ρ,k,id,h=>by
  rw[jQ] at h;split at h
  ·rename_i aP;have:=gq aP;cases h;exact⟨e.tag,by rw[<-this];exact mw⟩
  ·obtain⟨tag,bH⟩:=Zf h;exact⟨tag,List.mem_cons_of_mem _ bH⟩
theorem Be {k id tag:Nat} (h:uL ρ k id tag=some fJ):fJ=⟨k,id,tag⟩::ρ/\(nF ρ->nF fJ):=by
 have key:fJ=⟨k,id,tag⟩::ρ/\(jQ ρ k=none\/jQ ρ k=some id):=by
  unfold uL at h;split at h
  ·rename_i aA;cases h;exact⟨rfl,.inl aA⟩
  ·rename_i xW aU;split at h
   ·rename_i he;cases h;exact⟨rfl,.inr (by rw[aU,gq he])⟩
   ·cases h
 refine⟨key.1,λbu e he=> ?_⟩;obtain⟨rfl,aP⟩:=key;rw[jQ];split
 ·rename_i ay;have ay:=gq ay;rcases List.mem_cons.1 he with rfl|he
  ·rfl
  ·have aa:=bu e he;have ay:k=e.k:=ay;subst ay;rcases aP with aP|aP
   ·rw[aP] at aa;cases aa
   ·rw[aP] at aa;exact aa
 ·rename_i ay;rcases List.mem_cons.1 he with rfl|he
  ·rw[Nat.beq_refl] at ay;cases ay
  ·exact bu e he
structure tE (m:M) (ρ:List fu) (f len:Nat->Nat):Prop where
  id:∀e∈ρ,f e.k=e.id
  len:∀e∈ρ,e.tag=2->∀A n c,m.bb e.id=some (.slice A n c)->len e.k=n
theorem tE.of {f len:Nat->Nat} (h:tE m fJ f len) (aU:∀e∈ρ,e∈fJ):tE m ρ f len:=⟨λe he=>h.id e (aU e he),λe he=>h.len e (aU e he)⟩
def Met (m:M) (ρ fJ:List fu):Prop:=∀e∈fJ,e.tag=1->e∈ρ\/m.pl e.id≠none
theorem O5:∀{us mJ:List (Nat×Nat)} {ρ fJ:List fu},Bf ρ us mJ=some fJ->(∀e∈ρ,e∈fJ)/\(nF ρ->nF fJ)/\(∀f len,tE m fJ f len->mJ=us.map λy=>(f y.1,y.2))/\∀vs,cv (l5 m) mJ vs->Met m ρ fJ
 |[],[],ρ,fJ,h=>by cases h;exact⟨λ_ h=>h,λh=>h,λ_ _ _=>rfl,λ_ _ e he _=>.inl he⟩
 |y::us,z::mJ,ρ,fJ,h=>by
  rw[Bf] at h;split at h
  ·rename_i he;have he:=gq he;split at h
   ·rename_i sk aa;obtain⟨rfl,aQ⟩:=Be aa;obtain⟨bq,bE,c8,ei⟩:=O5 h;refine⟨λe h=>bq e (List.mem_cons_of_mem _ h),λh=>bE (aQ h),λf len aJ=> ?_,λvs u4=> ?_⟩
    ·rw[List.map_cons,<-c8 f len aJ];have:=aJ.id _ (bq _ mw);simp only at this;rw[this,he]
    ·match vs,u4 with
     |v::vs,⟨⟨r,eL,fw⟩,gS⟩=>
      intro e fe bH;rcases ei vs gS e fe bH with g|g
      ·rcases List.mem_cons.1 g with rfl|g
       ·exact .inr (by simp only;rw[eL];simp)
       ·exact .inl g
      ·exact .inr g
   ·cases h
  ·cases h
theorem akn {l:fy} {x:nD l} {u:Value} (h:dO m.fz l x u):cT m (o4 l x) u:=by
 cases l with
 |int k=>simp only[dO] at h;exact h
 |bool=>simp only[dO] at h;exact h
 |str=>simp only[dO] at h;exact h
 |aH t=>exact⟨h,trivial⟩
theorem Wo {l:fy} {c:C} {x:nD l} {u:Value} (h:sI l c=some x) (aq:cT m c u):cT m (o4 l x) u:=akn (Br h aq)
theorem Ph:∀{t:da} {cs:List C} {x:D t} {vs:List Value},mh t cs=some x->cv (cT m) cs vs->cv (cT m) (k6 t x) vs
 |[],[],x,vs,h,aM=>aM
 |[],c::cs,x,vs,h,aM=>by rw[Hw] at h;cases h
 |l::t,[],x,vs,h,aM=>by rw[Bt] at h;cases h
 |l::t,c::cs,x,v::vs,h,aM=>by
  obtain⟨aa,ae⟩:=Bs h;exact⟨Wo aa aM.1,Ph ae aM.2⟩
theorem Rl:∀{nl:List Bool} {cs ds:List C} {vs:List Value},CW nl cs=true->cv (cT m) cs vs->cv (cT m) ds vs->cv (cT m) (yq nl ds) vs
 |[],cs,ds,vs,_,_,h=>by
  have:yq [] ds=ds:=by cases ds<;>rfl
  rw[this];exact h
 |b::nl,cs,[],vs,_,_,h=>h
 |b::nl,[],d::ds,[],_,_,h=>h.elim
 |true::nl,c::cs,d::ds,v::vs,aA,aq,bb=>by
  have aA:(zS c&&CW nl cs)=true:=aA;rw[gJ] at aA;refine⟨?_,Rl aA.2 aq.2 bb.2⟩;have ae:=aq.1;have aa:=aA.1;show cT m .cP v;cases c<;>first|exact ae|cases aa
 |false::nl,c::cs,d::ds,v::vs,aA,aq,bb=>by
  have aA:(true&&CW nl cs)=true:=aA;rw[gJ] at aA;exact⟨bb.1,Rl aA.2 aq.2 bb.2⟩
theorem WH {s:fa} {v:V} {x:vD s} (h:nh ρ s v=some (x,fJ)):(∀e∈ρ,e∈fJ)/\(nF ρ->nF fJ)/\(∀f len,tE m fJ f len->∀u,dW m v u->dW m (w9 f len s x) u)/\((∃u,dW m v u)->Met m ρ fJ):=by
 have wK:∀{ρ:List fu},Met m ρ ρ:=λe he _=>.inl he;cases s with
 |leaf l=>
  simp only[nh] at h;split at h
  ·split at h
   ·rename_i c y bT;cases h;exact⟨λ_ h=>h,λh=>h,λf len _ u hu=>Wo bT hu,λ_=>wK⟩
   ·cases h
  ·cases h
 |agg t=>
  simp only[nh] at h;split at h
  ·split at h
   ·rename_i cs y bT;cases h;refine⟨λ_ h=>h,λh=>h,λf len _ u hu=> ?_,λ_=>wK⟩;obtain⟨vs,rfl,ae⟩:=hu;exact⟨vs,rfl,Ph bT ae⟩
   ·cases h
  ·cases h
 |cW t o=>
  simp only[nh] at h;split at h
  ·split at h
   ·rename_i t' g9 fl he;split at h
    ·rename_i bR;obtain rfl:=jT he;obtain rfl:=gq bR;cases h;exact⟨λ_ h=>h,λh=>h,λf len _ u hu=>hu,λ_=>wK⟩
    ·cases h
   ·cases h
  ·cases h
 |Jn=>
  simp only[nh] at h;split at h
  ·cases h;exact⟨λ_ h=>h,λh=>h,λf len _ u hu=>hu,λ_=>wK⟩
  ·cases h
 |ptr k o=>
  simp only[nh] at h;split at h
  ·rename_i y;split at h
   ·rename_i bR;have bR:=gq bR;split at h
    ·rename_i sk aa;obtain⟨rfl,aQ⟩:=Be aa;cases h;refine⟨λe h=>List.mem_cons_of_mem _ h,aQ,λf len aJ u hu=> ?_,λ⟨u,hu⟩ e he bH=> ?_⟩
     ·have:=aJ.id _ mw;simp only at this;show cT m (.ptr (some (f k,o))) u;rw[this,<-bR];exact hu
     ·rcases List.mem_cons.1 he with rfl|he
      ·obtain⟨r,eL,_⟩:=hu;exact .inr (by simp only;rw[eL];simp)
      ·exact .inl he
    ·cases h
   ·cases h
  ·cases h
 |tok t k nl=>
  simp only[nh] at h;split at h
  ·split at h
   ·rename_i t' l id Rn sz he;obtain rfl:=jT he;have alV:(match uL ρ k id 0 with
     |some fJ=>some (l,fJ)
     |none=>none)=some (x,fJ)/\∀u,nG m.fz Rn sz u->nG m.fz nl t'.length u:=by
     split at h
     ·rename_i ai;rw[gJ] at ai;obtain rfl:=gq ai.2;exact⟨h,λu hu b o len c aM i f aa ae az=>hu b o len c aM i f aa ae (OZ ai.1 f az)⟩
     ·split at h
      ·exact⟨h,λu hu=>nG.none⟩
      ·cases h
    clear h;obtain⟨h,nQ⟩:=alV;split at h
    ·rename_i sk aa;obtain⟨rfl,aQ⟩:=Be aa;cases h;refine⟨λe h=>List.mem_cons_of_mem _ h,aQ,λf len aJ u hu=> ?_,λ_ e he bH=> ?_⟩
     ·have:=aJ.id _ mw;simp only at this;show cT m (.row t' l (.ny (f k) nl t'.length)) u;rw[this];exact⟨hu.1,hu.2.1,nQ u hu.2.2⟩
     ·rcases List.mem_cons.1 he with rfl|he
      ·cases bH
      ·exact .inl he
    ·cases h
   ·cases h
  ·cases h
 |arr k t a4=>
  simp only[nh] at h;split at h
  ·rename_i id n;split at h
   ·rename_i sk aa;obtain⟨rfl,aQ⟩:=Be aa;cases h;refine⟨λe h=>List.mem_cons_of_mem _ h,aQ,λf len aJ u hu=> ?_,λ_ e he bH=> ?_⟩
    ·have az:=aJ.id _ mw;obtain⟨A,c,eL,fw,gS⟩:=hu;have a9:=aJ.len _ mw rfl A n c (by rw[<-eL];exact fw);simp only at az a9;show cT m (.aH (f k) (len k)) u;rw[az,a9];exact⟨A,c,eL,fw,gS⟩
    ·rcases List.mem_cons.1 he with rfl|he
     ·cases bH
     ·exact .inl he
   ·cases h
  ·cases h
 |jy k sz f0=>
  simp only[nh] at h;split at h
  ·rename_i id n wI f';split at h
   ·rename_i ai;rw[gJ] at ai;obtain rfl:=gq ai.1;obtain rfl:=gq ai.2;split at h
    ·rename_i sk aa;obtain⟨rfl,aQ⟩:=Be aa;cases h;refine⟨λe h=>List.mem_cons_of_mem _ h,aQ,λf len aJ u hu=> ?_,λ_ e he bH=> ?_⟩
     ·have:=aJ.id _ mw;simp only at this;show cT m (.jy (f k) _ _ _) u;rw[this];exact hu
     ·rcases List.mem_cons.1 he with rfl|he
      ·cases bH
      ·exact .inl he
    ·cases h
   ·cases h
  ·cases h
 |fn f0 us vs=>
  simp only[nh] at h;split at h
  ·rename_i f' mJ fO;split at h
   ·rename_i ai;obtain rfl:=gq ai;split at h
    ·rename_i sk aa;split at h
     ·rename_i aKU ae;cases h;obtain⟨dE,dc,gT,kD⟩:=O5 (m:=m) aa;obtain⟨cR,fg,hJ,oe⟩:=O5 (m:=m) ae;refine⟨λe h=>cR e (dE e h),λh=>fg (dc h),λf len aJ u hu=> ?_,λ⟨u,hu⟩ e he bH=> ?_⟩
      ·show cT m (.fn _ _ _) u;rw[<-gT f len (aJ.of cR),<-hJ f len aJ];exact hu
      ·obtain⟨xs,jd,_,fw,gS⟩:=hu;rcases oe _ gS e he bH with g|g
       ·exact kD _ fw e g bH
       ·exact .inr g
     ·cases h
    ·cases h
   ·cases h
  ·cases h
 |s6=>
  simp only[nh] at h;split at h
  ·cases h;exact⟨λ_ h=>h,λh=>h,λf len _ u hu=>hu,λ_=>wK⟩
  ·cases h
 |rf=>
  simp only[nh] at h;split at h
  ·cases h;exact⟨λ_ h=>h,λh=>h,λf len _ u hu=>hu,λ_=>wK⟩
  ·cases h
 |cP=>
  simp only[nh] at h;split at h
  ·cases h;exact⟨λ_ h=>h,λh=>h,λf len _ u hu=>hu,λ_=>wK⟩
  ·cases h
 |r8 t nl=>
  simp only[nh] at h;split at h
  ·split at h
   ·rename_i aA;split at h
    ·rename_i cs y bT;cases h;refine⟨λ_ h=>h,λh=>h,λf len _ u hu=> ?_,λ_=>wK⟩;obtain⟨vs,rfl,ae⟩:=hu;exact⟨vs,rfl,Rl aA ae (Ph bT ae)⟩
    ·cases h
   ·cases h
  ·cases h
theorem zq:∀{l:List fa} {vs:List V} {x:rz l} {ρ fJ:List fu},xd l ρ vs=some (x,fJ)->(∀e∈ρ,e∈fJ)/\(nF ρ->nF fJ)/\
 (∀f len,tE m fJ f len->cv (λv d_=>∀u,dW m v u->dW m d_ u) vs (nL f len l x))/\((∀v∈vs,∃u,dW m v u)->Met m ρ fJ)
 |[],[],x,ρ,fJ,h=>by cases h;exact⟨λ_ h=>h,λh=>h,λ_ _ _=>trivial,λ_ e he _=>.inl he⟩
 |[],v::vs,x,ρ,fJ,h=>by cases h
 |s::l,[],x,ρ,fJ,h=>by cases h
 |s::l,v::vs,x,ρ,fJ,h=>by
  rw[WI] at h;split at h
  ·rename_i y bT;split at h
   ·rename_i z ax;cases h;obtain⟨dE,dc,gT,kD⟩:=WH (m:=m) bT;obtain⟨cR,fg,hJ,oe⟩:=zq (vs:=vs) ax;refine⟨λe h=>cR e (dE e h),λh=>fg (dc h),λf len aJ=>⟨gT f len (aJ.of cR),hJ f len aJ⟩,λaM e he bH=> ?_⟩;rcases oe (λd_ h'=>aM d_ (List.mem_cons_of_mem _ h')) e he bH with g|g
    ·exact kD (aM v mw) e g bH
    ·exact .inr g
   ·cases h
  ·cases h
def tG (m m':M) (f f':Nat->Nat) (P:Nat->Bool):Prop:=ie m.fz m'.fz/\∀k,P k=true->(∀r,m.pl (f k)=some r->m'.pl (f' k)=some r)/\∀v,m.bb (f k)=some v->m'.bb (f' k)=some v
def fa.tg (P:Nat->Bool):fa->Bool
 |.ptr k _=>P k
 |.tok _ k _=>P k
 |.arr k _ _=>P k
 |.jy k _ _=>P k
 |.fn _ us vs=>(us.all λy=>P y.1)&&vs.all λy=>P y.1
 |_=>true
theorem RS {f f':Nat->Nat} {P:Nat->Bool} (bH:tG m m' f f' P):∀{us:List (Nat×Nat)} {vs:List Value},(us.all λy=>P y.1)=true->cv (l5 m) (us.map λy=>(f y.1,y.2)) vs->cv (l5 m') (us.map λy=>(f' y.1,y.2)) vs
 |[],[],_,h=>h
 |y::us,v::vs,ai,⟨⟨r,aa,ae⟩,az⟩=>by
  rw[List.all_cons,gJ] at ai;exact⟨⟨r,(bH.2 y.1 ai.1).1 r aa,ae⟩,RS bH ai.2 az⟩
theorem Pk {f f' len:Nat->Nat} {P:Nat->Bool} {s:fa} {x:vD s} {u:Value} (bH:tG m m' f f' P) (aU:s.tg P=true) (h:dW m (w9 f len s x) u):dW m' (w9 f' len s x) u:=by
 cases s with
 |leaf l=>
  have h:cT m (o4 l x) u:=h;show cT m' (o4 l x) u;cases l with
  |aH t=>exact⟨h.1.ext bH.1,trivial⟩
  |int k=>exact h
  |bool=>exact h
  |str=>exact h
 |agg t=>
  obtain⟨vs,rfl,ae⟩:=h;refine⟨vs,rfl, ?_⟩;have key:∀{t:da} {x:D t} {vs:List Value},cv (cT m) (k6 t x) vs->cv (cT m') (k6 t x) vs:=by
   intro t;induction t with
   |nil=>intro x vs h;match vs,h with|[],h=>exact h
   |cons l t b_=>
    intro x vs h
    match vs,h with
    |v::vs,⟨aa,ae⟩=>
     refine⟨?_,b_ ae⟩;have aa:cT m (o4 l x.1) v:=aa;show cT m' (o4 l x.1) v;cases l with
     |aH t=>exact⟨aa.1.ext bH.1,trivial⟩
     |int k=>exact aa
     |bool=>exact aa
     |str=>exact aa
  exact key ae
 |cW t o=>
  obtain⟨b,a,aa,ae⟩:=h;exact⟨b,a,aa,ae.ext bH.1⟩
 |Jn=>exact h
 |ptr k o=>
  obtain⟨r,aa,ae⟩:=h;exact⟨r,(bH.2 k aU).1 r aa,ae⟩
 |tok t k nl=>exact⟨h.1.ext bH.1,(bH.2 k aU).2 _ h.2.1,h.2.2.ext bH.1⟩
 |arr k t a4=>
  obtain⟨A,c,aa,ae,az⟩:=h;exact⟨A,c,aa,(bH.2 k aU).2 _ ae,az⟩
 |jy k sz f0=>
  obtain⟨b,j,c,aa,ae⟩:=h;exact⟨b,j,c,(bH.2 k aU).2 _ aa,ae⟩
 |fn f0 us vs=>
  have aU:((us.all λy=>P y.1)&&vs.all λy=>P y.1)=true:=aU;rw[gJ] at aU;obtain⟨xs,jd,aa,ae,az⟩:=h;exact⟨xs,jd,aa,RS bH aU.1 ae,RS bH aU.2 az⟩
 |s6=>exact h
 |rf=>exact h
 |cP=>exact h
 |r8 t nl=>
  obtain⟨vs,rfl,ae⟩:=h;refine⟨vs,rfl, ?_⟩;have key:∀{t:da} {nl:List Bool} {x:D t} {vs:List Value},cv (cT m) (yq nl (k6 t x)) vs->cv (cT m') (yq nl (k6 t x)) vs:=by
   intro t;induction t with
   |nil=>intro nl x vs h;cases nl<;>(match vs,h with|[],h=>exact h)
   |cons l t b_=>
    intro nl x vs h;have base:∀{v:Value},cT m (o4 l x.1) v->cT m' (o4 l x.1) v:=λ{v} aa=>by
     cases l with
     |aH t=>exact⟨aa.1.ext bH.1,trivial⟩
     |int k=>exact aa
     |bool=>exact aa
     |str=>exact aa
    cases nl with
    |nil=>
     match vs,h with
     |v::vs,⟨aa,ae⟩=>
      have e:∀ds:List C,yq [] ds=ds:=λds=>by cases ds<;>rfl
      have:=b_ (nl:=[]) (x:=x.2) (vs:=vs) (by rw[e];exact ae);rw[e] at this⊢;exact⟨base aa,this⟩
    |cons b nl=>
     match vs,h with
     |v::vs,⟨aa,ae⟩=>
      refine⟨?_,b_ ae⟩;cases b with
      |true=>exact aa
      |false=>exact base aa
  exact key ae
end
def tK (ρ len cX:Nat->Nat) (l:List fC):Nat->nC l->List (Option B):=List.rec (motive:=λl=>Nat->nC l->List (Option B)) (λ_ _=>[]) (λb _ b_ j x=>Bq ρ len (cX j) b x.1::b_ (Nat.succ j) x.2) l
def B.len:B->Nat
 |.arr _ _ l _ _=>l.1.length
 |_=>0
def fC.oC:fC->Bool
 |.gone=>true
 |_=>false
def fC.tg (P:Nat->Bool):fC->Bool
 |.box cs=>cs.all (fa.tg P)
 |_=>true
section
variable{w:World} {m m':M} {σ:bF} {ρ fJ:List fu} {mX:Bool}
theorem akF {t:da} {a4:List Bool} {x:B} {y:kk (.arr t a4)×List fu} (h:kR ρ (.arr t a4) x=some y):∃t' vH l v,x=.arr t' vH l none v:=by
 simp only[kR] at h;split at h
 ·exact⟨_,_,_,_,rfl⟩
 ·cases h
theorem akH {b:fC} {cs:List C} {y:kk b×List fu} (h:kR ρ b (.box cs)=some y):∃ia,b=.box ia:=by
 cases b with
 |box ia=>exact⟨ia,rfl⟩
 |arr t a4=>simp only[kR] at h;cases h
 |a6 t=>simp only[kR] at h;cases h
 |gone=>simp only[kR] at h;cases h
theorem akG {b:fC} {x:B} {y:kk b×List fu} (h:kR ρ b x=some y) (aV:∃t a4 l v,x=.arr t a4 l none v):∃t a4,b=.arr t a4:=by
 obtain⟨t,a4,l,v,rfl⟩:=aV;cases b with
 |arr t a4=>exact⟨t,a4,rfl⟩
 |box cs=>simp only[kR] at h;cases h
 |a6 t=>simp only[kR] at h;cases h
 |gone=>simp only[kR] at h;cases h
theorem Pw (l:List fC) (j:Nat) (ρ:List fu):sL mX σ (.gone::l) j ρ=(match sL mX σ l (Nat.succ j) ρ with
 |some z=>some (((),z.1),z.2)
 |none=>none):=rfl
theorem Pv {b:fC} (ai:b.oC=false) (l:List fC) (j:Nat) (ρ:List fu) {z:nC (b::l)×List fu} (h:sL mX σ (b::l) j ρ=some z):
 ∃id x y gB,jQ ρ j=some id/\σ.heap.get id=some x/\Q0 mX ρ j b=true/\kR ρ b x=some y/\sL mX σ l (Nat.succ j) y.2=some gB/\z=((y.1,gB.1),gB.2):=by
 have key:(match jQ ρ j with
  |none=>none
  |some id=>match σ.heap.get id with
   |none=>none
   |some x=>match Q0 mX ρ j b with
    |false=>none
    |true=>match kR ρ b x with
     |some y=>match sL mX σ l (Nat.succ j) y.2 with
      |some z=>some ((y.1,z.1),z.2)
      |none=>none
     |none=>none:Option (nC (b::l)×List fu))=some z:=by
  cases b with
  |gone=>cases ai
  |box cs=>exact h
  |arr t a4=>exact h
  |a6 t=>exact h
 split at key
 ·cases key
 ·rename_i id hid;split at key
  ·cases key
  ·rename_i x aV;split at key
   ·cases key
   ·rename_i hm;split at key
    ·rename_i y bT;split at key
     ·rename_i gB ax;cases key;exact⟨id,x,y,gB,hid,aV,hm,bT,ax,rfl⟩
     ·cases key
    ·cases key
theorem Pu {b:fC} {x:B} {y:kk b×List fu} (h:kR ρ b x=some y):(∀e∈ρ,e∈y.2)/\(nF ρ->nF y.2)/\QV b y.1=x.len:=by
 cases b with
 |box cs=>
  simp only[kR] at h;split at h
  ·obtain⟨aa,ae,_⟩:=zq (m:=⟨λ_=>none,λ_=>none,λ_ _ _=>none,λ_=>[],λ_=>none⟩) h;exact⟨aa,ae,rfl⟩
  ·cases h
 |arr t a4=>
  simp only[kR] at h;split at h
  ·split at h
   ·rename_i t' vH l cX he;split at h
    ·obtain rfl:=jT he;cases h;exact⟨λ_ h=>h,λh=>h,rfl⟩
    ·cases h
   ·cases h
  ·cases h
 |a6 t=>
  simp only[kR] at h;split at h
  ·split at h
   ·cases h;exact⟨λ_ h=>h,λh=>h,rfl⟩
   ·cases h
  ·cases h
 |gone=>simp only[kR] at h;cases h
theorem Zg (bu:nF fJ) (aU:∀e∈ρ,e∈fJ) {k id:Nat} (h:jQ ρ k=some id):jQ fJ k=some id:=by
 obtain⟨tag,bH⟩:=Zf h;exact bu _ (aU _ bH)
theorem xc:∀{l:List fC} {j:Nat} {ρ:List fu} {z:nC l×List fu},sL mX σ l j ρ=some z->nF ρ->(∀e∈ρ,e∈z.2)/\nF z.2/\
 ∀idx b,l[idx]? =some b->b.oC=false->∃id x,jQ z.2 (j+idx)=some id/\σ.heap.get id=some x/\(Zb l z.1)[idx]? =some x.len/\((∃t a4,b=.arr t a4)->∃t' vH l v,x=.arr t' vH l none v)/\((∃cs,x=.box cs)->∃ia,b=.box ia)/\((∃t a4 l v,x=.arr t a4 l none v)->∃t a4,b=.arr t a4)
 |[],j,ρ,z,h,bu=>by cases h;exact⟨λ_ h=>h,bu,λidx b ai=>by simp at ai⟩
 |b::l,j,ρ,z,h,bu=>by
  cases bZ:b.oC with
  |true=>
   cases b with
   |gone=>
    rw[Pw] at h;split at h
    ·rename_i gB ax;cases h;obtain⟨aa,ae,az⟩:=xc ax bu;refine⟨aa,ae,λidx b ai zy=> ?_⟩;cases idx with
     |zero=>simp at ai;subst ai;cases zy
     |succ idx=>
      obtain⟨id,x,aF,aQ,bn⟩:=az idx b (by simpa using ai) zy;exact⟨id,x,by rw[show j+(idx+1)=Nat.succ j+idx by omega];exact aF,aQ,bn⟩
    ·cases h
   |box cs=>cases bZ
   |arr t a4=>cases bZ
   |a6 t=>cases bZ
  |false=>
   obtain⟨id,x,y,gB,bq,bE,c8,ei,jj,rfl⟩:=Pv bZ l j ρ h;obtain⟨dE,dc,gT⟩:=Pu ei;obtain⟨aa,ae,az⟩:=xc jj (dc bu);refine⟨λe he=>aa e (dE e he),ae,λidx fG ai zy=> ?_⟩;cases idx with
   |zero=>
    simp at ai;subst ai;exact⟨id,x,Zg ae (λe he=>aa e (dE e he)) bq,bE,by show some (QV b y.1)=_;rw[gT],λ⟨t,a4,he⟩=>(by subst he;exact akF ei),λ⟨cs,he⟩=>(by subst he;exact akH ei),akG ei⟩
   |succ idx=>
    obtain⟨id,x,aF,aQ,bn⟩:=az idx fG (by simpa using ai) zy;exact⟨id,x,by rw[show j+(idx+1)=Nat.succ j+idx by omega];exact aF,aQ,bn⟩
theorem Px (bc:bt m σ w):∀{l:List fC} {j:Nat} {ρ:List fu} {z:nC l×List fu},sL true σ l j ρ=some z->nF ρ->(∀e∈ρ,e.tag=1->m.pl e.id≠none)->(∀e∈z.2,e.tag=1->m.pl e.id≠none)/\
 ∀idx cs,l[idx]? =some (.box cs)->∀id,jQ z.2 (j+idx)=some id->m.pl id≠none
 |[],j,ρ,z,h,bu,hm=>by cases h;exact⟨hm,λidx b ai=>by simp at ai⟩
 |b::l,j,ρ,z,h,bu,hm=>by
  cases bZ:b.oC with
  |true=>
   cases b with
   |gone=>
    rw[Pw] at h;split at h
    ·rename_i gB ax;cases h;obtain⟨aa,ae⟩:=Px bc ax bu hm;refine⟨aa,λidx cs ai id hid=> ?_⟩;cases idx with
     |zero=>simp at ai
     |succ idx=>exact ae idx cs (by simpa using ai) id (by rw[show Nat.succ j+idx=j+(idx+1) by omega];exact hid)
    ·cases h
   |box cs=>cases bZ
   |arr t a4=>cases bZ
   |a6 t=>cases bZ
  |false=>
   obtain⟨id,x,y,gB,bq,bE,c8,ei,jj,rfl⟩:=Pv bZ l j ρ h;obtain⟨dE,dc,a0⟩:=Pu ei;have amJ:∀e∈y.2,e.tag=1->m.pl e.id≠none:=by
    cases b with
    |gone=>cases bZ
    |arr t a4=>
     simp only[kR] at ei;split at ei
     ·split at ei
      ·split at ei
       ·cases ei;exact hm
       ·cases ei
      ·cases ei
     ·cases ei
    |a6 t=>
     simp only[kR] at ei;split at ei
     ·split at ei
      ·cases ei;exact hm
      ·cases ei
     ·cases ei
    |box cs=>
     simp only[kR] at ei;split at ei
     ·rename_i wj;obtain⟨_,_,_,oe⟩:=zq (m:=m) ei;have Ck:m.pl id≠none:=by
       have c8:hasTag ρ j 1=true:=c8;unfold hasTag at c8;obtain⟨e,he,df⟩:=List.any_eq_true.1 c8;rw[gJ] at df;have aE:=gq df.1;have aX:=gq df.2;have:=bu e he;rw[aE,bq] at this;cases this;exact hm e he aX
      have nk:∀v∈wj.map (λc=>V.p (.c c)),∃u,dW m v u:=λv aM=>by
       obtain⟨c,aq,rfl⟩:=List.mem_map.1 aM;rcases bc.live id _ bE with g|⟨r,cur,ty,bQ,aF,aQ,bn,cy,fj,_⟩
       ·exact absurd g Ck
       ·obtain⟨i,aj⟩:=List.mem_iff_getElem?.1 aq;obtain⟨u,_,hu⟩:=fj i c aj;exact⟨u,hu⟩
      intro e he bH;rcases oe nk e he bH with g|g
      ·exact hm e g bH
      ·exact g
     ·cases ei
   obtain⟨aa,ae⟩:=Px bc jj (dc bu) amJ;obtain⟨cN,dq,_⟩:=xc jj (dc bu);refine⟨aa,λidx cs ai xW hid=> ?_⟩;cases idx with
   |zero=>
    simp at ai;subst ai;have c8:hasTag ρ j 1=true:=c8;unfold hasTag at c8;obtain⟨e,he,df⟩:=List.any_eq_true.1 c8;rw[gJ] at df;have aE:=gq df.1;have aX:=gq df.2;have az:=dq e (cN e (dE e he));rw[aE] at az;have hid:jQ gB.2 j=some xW:=hid;rw[hid] at az;cases az;exact hm e he aX
   |succ idx=>exact ae idx cs (by simpa using ai) xW (by rw[show Nat.succ j+idx=j+(idx+1) by omega];exact hid)
theorem akJ {s:fa} {c:C} {y:vD s×List fu} (h:nh ρ s (.p (.c c))=some y) (f len:Nat->Nat):∃c',w9 f len s y.1=.p (.c c'):=by
 cases s with
 |agg t=>simp only[nh] at h;cases h
 |r8 t nl=>simp only[nh] at h;cases h
 |_=>exact⟨_,rfl⟩
theorem V9 {f f' len:Nat->Nat} {P:Nat->Bool} (bH:tG m m' f f' P):∀{l:List fa} {cs:List C} {ρ:List fu} {y:rz l×List fu},xd l ρ (cs.map λc=>.p (.c c))=some y->l.all (fa.tg P)=true->tE m y.2 f len->
 ((nL f' len l y.1).map vw).length=cs.length/\∀(j:Nat) c',((nL f' len l y.1).map vw)[j]? =some c'->∃c,cs[j]? =some c/\∀v,cT m c v->cT m' c' v
 |[],cs,ρ,y,h,hu,aJ=>by
  match cs,h with
  |[],h=>cases h;exact⟨rfl,λj c' au=>by simp[nL] at au⟩
  |c::cs,h=>cases h
 |s::l,cs,ρ,y,h,hu,aJ=>by
  match cs,h with
  |[],h=>cases h
  |c::cs,h=>
   rw[List.map_cons,WI] at h;rw[List.all_cons,gJ] at hu;split at h
   ·rename_i aB aa;split at h
    ·rename_i z ax;cases h;obtain⟨cR,_,_,_⟩:=zq (m:=m) ax;obtain⟨_,_,gT,_⟩:=WH (m:=m) aa;obtain⟨aF,aQ⟩:=V9 bH ax hu.2 aJ;rw[Hx,List.map_cons];refine⟨by simp[aF],λj c' au=> ?_⟩;cases j with
     |zero=>
      simp at au;subst au;refine⟨c,rfl,λv aM=> ?_⟩;have:=Pk (len:=len) bH hu.1 (gT f len (aJ.of cR) v aM);obtain⟨c',jN⟩:=akJ aa f' len;rw[jN] at this⊢;exact this
     |succ j=>
      obtain⟨oY,bq,bE⟩:=aQ j c' (by simpa using au);exact⟨oY,by simpa using bq,bE⟩
    ·cases h
   ·cases h
theorem akI {f f' len:Nat->Nat} {P:Nat->Bool} (bH:tG m m' f f' P) {b:fC} {x:B} {y:kk b×List fu} (h:kR ρ b x=some y) (hu:b.tg P=true) (aJ:tE m y.2 f len) (cX:Nat):
 ∃fG,Bq f' len cX b y.1=some fG/\tt m m' x fG/\(∀t a4 l k v,fG=.arr t a4 l k v->v=cX)/\((∀t a4,b≠.arr t a4)->fG.cX=0):=by
 cases b with
 |box cs=>
  simp only[kR] at h;split at h
  ·obtain⟨aF,aQ⟩:=V9 bH h hu aJ;exact⟨_,rfl,.box aF aQ,(λt a4 l k v aM=>by cases aM),λ_=>rfl⟩
  ·cases h
 |arr t a4=>
  simp only[kR] at h;split at h
  ·split at h
   ·rename_i t' vH l jE he;split at h
    ·rename_i bW;obtain rfl:=jT he;obtain rfl:=of_decide_eq_true bW;cases h;exact⟨_,rfl,.arr jE cX,(λt a4 l k v aM=>by cases aM;rfl),λaA=>absurd rfl (aA _ _)⟩
    ·cases h
   ·cases h
  ·cases h
 |a6 t=>
  simp only[kR] at h;split at h
  ·split at h
   ·rename_i he;obtain rfl:=jT he;cases h;exact⟨_,rfl,.a6 _,(λt a4 l k v aM=>by cases aM),λ_=>rfl⟩
   ·cases h
  ·cases h
 |gone=>simp only[kR] at h;cases h
theorem HC {f f' len cX:Nat->Nat} {P:Nat->Bool} (bH:tG m m' f f' P):∀{l:List fC} {j:Nat} {ρ:List fu} {z:nC l×List fu},sL mX σ l j ρ=some z->nF ρ->l.all (fC.tg P)=true->tE m z.2 f len->
 ∀idx b,l[idx]? =some b->((b.oC=true/\(tK f' len cX l j z.1)[idx]? =some none)\/(b.oC=false/\∃id x fG,jQ z.2 (j+idx)=some id/\σ.heap.get id=some x/\(tK f' len cX l j z.1)[idx]? =some (some fG)/\tt m m' x fG/\
  (∀t a4 l k v,fG=.arr t a4 l k v->v=cX (j+idx))))
 |[],j,ρ,z,h,bu,hu,aJ=>λidx b ai=>by simp at ai
 |b::l,j,ρ,z,h,bu,hu,aJ=>by
  rw[List.all_cons,gJ] at hu;cases bZ:b.oC with
  |true=>
   cases b with
   |gone=>
    rw[Pw] at h;split at h
    ·rename_i gB ax;cases h;intro idx fG ai;cases idx with
     |zero=>simp at ai;subst ai;exact .inl ⟨rfl,rfl⟩
     |succ idx=>
      have:=HC (cX:=cX) bH ax bu hu.2 aJ idx fG (by simpa using ai);rw[show j+(idx+1)=Nat.succ j+idx by omega];exact this
    ·cases h
   |box cs=>cases bZ
   |arr t a4=>cases bZ
   |a6 t=>cases bZ
  |false=>
   obtain⟨id,x,y,gB,bq,bE,c8,ei,jj,rfl⟩:=Pv bZ l j ρ h;obtain⟨dE,dc,gT⟩:=Pu ei;obtain⟨cN,dq,_⟩:=xc jj (dc bu);intro idx fG ai;cases idx with
   |zero=>
    simp at ai;subst ai;obtain⟨fG,aF,aQ,bn,_⟩:=akI bH ei hu.1 (aJ.of cN) (cX j);exact .inr ⟨bZ,id,x,fG,Zg dq (λe he=>cN e (dE e he)) bq,bE,by show some (Bq f' len (cX j) b y.1)=_;rw[aF],aQ,bn⟩
   |succ idx=>
    have:=HC (cX:=cX) bH jj (dc bu) hu.2 aJ idx fG (by simpa using ai);rw[show j+(idx+1)=Nat.succ j+idx by omega];exact this
end
def live (l:List fC) (k:Nat):Bool:=match l[k]? with
 |some b=> !b.oC
 |none=>false
def wh (l:List fC) (k:Nat):Bool:=match l[k]? with
 |some (.arr _ _)=>true
 |_=>false
def UF (ρ:List fu) (l:List fC):Bool:=ρ.all λe=>match Nat.beq e.tag 2 with
 |true=>wh l e.k
 |false=>true
def aw.ok (p:aw):Bool:=p.kinds.all (fa.tg (live p.blocks))&&p.blocks.all (fC.tg (live p.blocks))
def HD (mX:Bool) (p:aw) (OA:List fu) (vs:List V) (σ:bF):Option (U p×List fu):=match xd p.kinds OA vs with
 |some y=>match sL mX σ p.blocks 0 y.2 with
  |some z=>match UF z.2 p.blocks with
   |true=>some ((y.1,z.1),z.2)
   |false=>none
  |none=>none
 |none=>none
def Jq:List Nat->Bool
 |[]=>true
 |x::l=> !uR x l&&Jq l
theorem aaR:∀{l:List Nat},Jq l=true->l.Nodup
 |[],_=>List.nodup_nil
 |x::l,h=>by
  rw[Jq,gJ,Bool.not_eq_true'] at h;rw[List.nodup_cons];exact⟨λhm=>(by rw[(xu _ _).2 hm] at h;cases h.1),aaR h.2⟩
def Ix (ρ:List fu) (j:Nat):Nat->Option (List Nat)
 |0=>some []
 |n+1=>match jQ ρ j with
  |some id=>match Ix ρ (Nat.succ j) n with
   |some l=>some (id::l)
   |none=>none
  |none=>none
theorem YG {ρ:List fu}:∀{n j:Nat} {l:List Nat},Ix ρ j n=some l->l.length=n/\∀k,k<n->l[k]? =jQ ρ (j+k)
 |0,j,l,h=>by cases h;exact⟨rfl,λk aP=>by omega⟩
 |n+1,j,l,h=>by
  rw[Ix] at h;split at h
  ·rename_i id hid;split at h
   ·rename_i r aJ;cases h;obtain⟨aa,ae⟩:=YG aJ;refine⟨by simp[aa],λk aP=> ?_⟩;cases k with
    |zero=>simp[hid]
    |succ k=>rw[show j+(k+1)=Nat.succ j+k by omega,<-ae k ab];simp
   ·cases h
  ·cases h
def putAt:List Nat->List (Option B)->T B->T B
 |i::l,b::r,t=>putAt l r (t.put i b)
 |_,_,t=>t
theorem Ae:∀{l:List Nat} {sD:List (Option B)} {t:T B} {i:Nat},i∉l->(putAt l sD t).get i=t.get i
 |[],sD,t,i,_=>by cases sD<;>rfl
 |k::l,[],t,i,_=>rfl
 |k::l,b::r,t,i,h=>by
  rw[List.mem_cons,not_or] at h;rw[putAt,Ae h.2,bx.T.eB _ _ h.1]
theorem Ad:∀{l:List Nat} {sD:List (Option B)} {t:T B} {i j:Nat} {b:Option B},l.Nodup->l[j]? =some i->sD[j]? =some b->(putAt l sD t).get i=b
 |[],sD,t,i,j,b,_,h,_=>by simp at h
 |k::l,[],t,i,j,b,_,_,h=>by simp at h
 |k::l,cH::r,t,i,j,b,bb,aa,ae=>by
  rw[List.nodup_cons] at bb;cases j with
  |zero=>
   simp at aa ae;subst aa ae;rw[putAt,Ae bb.1,bx.T.hN]
  |succ j=>
   show(putAt l r (t.put k cH)).get i=b;exact Ad (j:=j) bb.2 (by simpa using aa) (by simpa using ae)
def nz (i:Nat):Nat->List Nat
 |0=>[]
 |n+1=>i::nz (Nat.succ i) n
theorem AO:∀{n i k:Nat},k<n->(nz i n)[k]? =some (i+k)
 |n+1,i,0,_=>rfl
 |n+1,i,k+1,h=>by
  rw[nz,List.getElem?_cons_succ,AO ab];congr 1;omega
theorem UH:∀{n i:Nat},(nz i n).length=n
 |0,_=>rfl
 |n+1,i=>by rw[nz,gO,UH]
theorem GX {n i x:Nat} (h:x∈nz i n):i<=x/\x<i+n:=by
 obtain⟨k,aP⟩:=List.mem_iff_getElem?.1 h;have bK:k<n:=by
  have:=(ed.1 aP).1
  rwa [UH] at this
 rw[AO bK] at aP;cases aP;omega
theorem Ot:∀{n i:Nat},(nz i n).Nodup
 |0,_=>List.nodup_nil
 |n+1,i=>by
  rw[nz,List.nodup_cons];exact⟨λh=>by have:=(GX h).1;omega,Ot⟩
def xe (p:aw) (vs:List V) (σ:bF):Option (U p×List Nat):=match HD true p [] vs σ with
 |some y=>match Ix y.2 0 p.blocks.length with
  |some ids=>match Jq ids&&p.ok&&p.blocks.all (λb=> !b.oC) with
   |true=>some (y.1,ids)
   |false=>none
  |none=>none
 |none=>none
def pg (p:aw) (x:U p):bF:=⟨putAt (nz 0 p.blocks.length) (tK (λk=>k) (lenOf x.2) (λ_=>0) p.blocks 0 x.2) .nil,p.blocks.length⟩
def IA (p:aw) (x:U p):List V:=nL (λk=>k) (lenOf x.2) p.kinds x.1
section
variable{w eM:World} {m dg:M} {σ e5:bF} {p:aw} {vs:List V} {us:List Value}
theorem OY:∀(vs fO:List V) (us:List Value),cv (λv d_=>∀u,dW m v u->dW m d_ u) vs fO->cv (dW m) vs us->cv (dW m) fO us
 |[],[],[]=>λ_ _=>trivial
 |[],[],_::_=>λ_ h=>h.elim
 |[],_::_,_=>λh _=>h.elim
 |_::_,[],_=>λh _=>h.elim
 |_::_,_::_,[]=>λ_ h=>h.elim
 |v::vs,d_::fO,u::us=>λh k=>⟨h.1 u k.1,OY vs fO us h.2 k.2⟩
theorem Pm {f f' len:Nat->Nat} {P:Nat->Bool} (bH:tG m dg f f' P):∀{l:List fa} {x:rz l} {us:List Value},l.all (fa.tg P)=true->cv (dW m) (nL f len l x) us->cv (dW dg) (nL f' len l x) us
 |[],x,us,_,h=>by
  match us,h with
  |[],_=>trivial
 |s::l,x,us,hu,h=>by
  rw[List.all_cons,gJ] at hu
  match us,h with
  |u::us,⟨aa,ae⟩=>exact⟨Pk bH hu.1 aa,Pm bH hu.2 ae⟩
theorem ah1 (bc:bt m σ w) {mX:Bool} {l:List fC} {ρ:List fu} {z:nC l×List fu} (h:sL mX σ l 0 ρ=some z) (bu:nF ρ) (bH:UF z.2 l=true):tE m z.2 (λk=>(jQ z.2 k).getD 0) (lenOf z.1):=by
 obtain⟨aa,ae,az⟩:=xc h bu;refine⟨λe he=>(by show(jQ z.2 e.k).getD 0=e.id;rw[ae e he];rfl),λe he df A n c o8=> ?_⟩;have:=List.all_eq_true.1 bH e he;rw[df] at this;have this:wh l e.k=true:=this;unfold wh at this;split at this
 ·rename_i t a4 aP;obtain⟨id,x,aF,aQ,bn,cy,_⟩:=az e.k _ aP rfl;obtain⟨t',vH,aKs,v,rfl⟩:=cy ⟨t,a4,rfl⟩;rw[fL,ae e he] at aF;cases aF;obtain⟨eO,c',bq,_⟩:=bc.live _ _ aQ;rw[bq] at o8;cases o8;unfold lenOf;rw[bn];rfl
 ·cases this
theorem WE {mX:Bool} {OA:List fu} {z:U p×List fu} (h:HD mX p OA vs σ=some z):∃sk,xd p.kinds OA vs=some (z.1.1,sk)/\sL mX σ p.blocks 0 sk=some (z.1.2,z.2)/\UF z.2 p.blocks=true:=by
 unfold HD at h;split at h
 ·rename_i y bT;split at h
  ·rename_i gB ax;split at h
   ·rename_i bH;cases h;exact⟨y.2,bT,ax,bH⟩
   ·cases h
  ·cases h
 ·cases h
def ry (iw:List fC) (m:M):Prop:=∀j ia,iw[j]? =some (.box ia)->m.pl j≠none
theorem HE {x:U p} {ids:List Nat} (h:xe p vs σ=some (x,ids)) (bc:bt m σ w) (aM:cv (dW m) vs us):ids.length=p.blocks.length/\ids.Nodup/\(∀i∈ids,i<σ.next)/\(∀i∈ids,∀cs,σ.heap.get i=some (.box cs)->m.pl i≠none)/\
 (∀j cR,(pg p x).heap.get j=some cR->∃i b,ids[j]? =some i/\σ.heap.get i=some b)/\bt (m.sub σ ids) (pg p x) w/\cv (dW (m.sub σ ids)) (IA p x) us/\ry p.blocks (m.sub σ ids):=by
 unfold xe at h;split at h
 ·rename_i y bT;split at h
  ·rename_i aKm XT;split at h
   ·rename_i nP;cases h;rw[gJ,gJ] at nP;obtain⟨nP,Ya⟩:=nP;obtain⟨sk,aE,aX,bL⟩:=WE bT;obtain⟨i1,i2⟩:=YG XT;have zJ:=aaR nP.1;have iQ:=nP.2;unfold aw.ok at iQ;rw[gJ] at iQ;obtain⟨dE,dc,gT,kD⟩:=zq (m:=m) aE;have qv:nF sk:=dc λe he=>by cases he
    have nk:∀v∈vs,∃u,dW m v u:=λv ank=>by
     obtain⟨i,aj⟩:=List.mem_iff_getElem?.1 ank;obtain⟨u,_,hu⟩:=aM.get aj;exact⟨u,hu⟩
    have amI:∀e∈sk,e.tag=1->m.pl e.id≠none:=λe he bH=>by
     rcases kD nk e he bH with g|g
     ·cases g
     ·exact g
    obtain⟨cR,fg,hJ⟩:=xc aX qv;obtain⟨cN,dq⟩:=Px bc aX qv amI;have Cm:=ah1 bc aX qv bL;have Cr:tG m (m.sub σ ids) (λk=>(jQ y.2 k).getD 0) (λk=>k) (live p.blocks):=by
     refine⟨ie.refl _,λk aP=> ?_⟩;have bK:k<p.blocks.length:=by
      unfold live at aP;split at aP
      ·rename_i b ai;exact(ed.1 ai).1
      ·cases aP
     have aa:=i2 k bK;rw[fL] at aa;have ae:ids[k]? =some (ids[k]'ab):=e_ ab
     rw[ae] at aa;simp only[<-aa,Option.getD_some];exact⟨λr aJ=>by simp[M.sub,ae,aJ],λv aM=>by simp[M.sub,ae,aM]⟩
    have al1:=HC (f':=λk=>k) (cX:=λ_=>0) Cr aX qv iQ.2 Cm;have zD:∀j cR,(pg p y.1).heap.get j=some cR->∃i b,ids[j]? =some i/\σ.heap.get i=some b/\tt m (m.sub σ ids) b cR/\cR.cX=0:=λj cR au=>by
     rcases jL j p.blocks.length with bK|lQ
     ·have bw:=AO (i:=0) bK;rw[fL] at bw;have rP:p.blocks[j]? =some (p.blocks[j]'bK):=e_ bK
      rcases al1 j _ rP with⟨_,aF⟩|⟨_,id,b,fG,aF,aQ,bn,cy,fj⟩
      ·have:=Ad (t:=.nil) Ot bw aF;have au:(putAt _ _ T.nil).get j=some cR:=au;rw[this] at au;cases au
      ·have:=Ad (t:=.nil) Ot bw bn;have au:(putAt _ _ T.nil).get j=some cR:=au;rw[this] at au;cases au;rw[fL] at aF;have aa:=i2 j bK;rw[fL,aF] at aa;refine⟨id,b,aa,aQ,cy, ?_⟩;cases cR with
       |arr t a4 l k v=>exact fj _ _ _ _ _ rfl
       |box cs=>rfl
       |a6 t=>rfl
     ·have au:(putAt _ _ T.nil).get j=some cR:=au;rw[Ae (λhm=>by have:=(GX hm).2;omega),bx.T.get_nil] at au;cases au
    have jY:∀i∈ids,∃k,k<p.blocks.length/\jQ y.2 k=some i:=λi aj=>by
     obtain⟨k,aP⟩:=List.mem_iff_getElem?.1 aj;have bK:k<p.blocks.length:=by have:=(ed.1 aP).1;omega
     have aa:=i2 k bK;rw[fL] at aa;exact⟨k,bK,by rw[<-aa];exact aP⟩
    have al3:∀i∈ids,∀b,σ.heap.get i=some b->i<σ.next:=λi aj b ai=>by
     rcases jL i σ.next with g|g
     ·exact g
     ·rw[(bc.fresh i g).2.2.2] at ai;cases ai
    refine⟨i1,zJ,λi aj=> ?_,λi aj cs ai=> ?_,λj cR au=> ?_,bc.sub zJ (by rw[i1];rfl) zD,Pm Cr iQ.1 (OY _ _ _ (gT _ (lenOf y.1.2) (Cm.of cR)) aM),λj ia au=> ?_⟩
    ·obtain⟨k,aP,a3⟩:=jY i aj;have rP:p.blocks[k]? =some (p.blocks[k]'aP):=e_ aP
     have bZ:(p.blocks[k]'aP).oC=false:=by simpa using List.all_eq_true.1 Ya _ (List.mem_of_getElem? rP)
     obtain⟨id,x,aF,aQ,_⟩:=hJ k _ rP bZ;rw[fL,a3] at aF;cases aF;exact al3 i aj x aQ
    ·obtain⟨k,aP,a3⟩:=jY i aj;have rP:p.blocks[k]? =some (p.blocks[k]'aP):=e_ aP
     have bZ:(p.blocks[k]'aP).oC=false:=by simpa using List.all_eq_true.1 Ya _ (List.mem_of_getElem? rP)
     obtain⟨id,x,aF,aQ,_,_,bn,_⟩:=hJ k _ rP bZ;rw[fL,a3] at aF;cases aF;rw[ai] at aQ;cases aQ;obtain⟨ia,uZ⟩:=bn ⟨cs,rfl⟩;exact dq k ia (by rw[rP,uZ]) i (by rw[fL];exact a3)
    ·obtain⟨i,b,aF,aQ,_⟩:=zD j cR au;exact⟨i,b,aF,aQ⟩
    ·have bK:j<p.blocks.length:=(ed.1 au).1;obtain⟨id,x,aF,_⟩:=hJ j _ au rfl;have aa:=i2 j bK;rw[aF] at aa;have ae:=dq j ia au id aF;show(ids[j]?).bind m.pl≠none;rw[aa];exact ae
   ·cases h
  ·cases h
 ·cases h
end
end cB
end Go.Proofs.YtgmdfchkljaooaaGreat
