/- Typed values. -/
import Derived.Orders
import Derived.Test.YtgmdfchkljaooaaGreatM02
noncomputable section
namespace Go.Proofs.YtgmdfchkljaooaaGreat
open Go.RowKit
namespace cF
open bI (T cO under size kM fC jP hN mh qM)
set_option linter.unusedVariables false
set_option linter.unusedSimpArgs false
structure Env where
  cC:T TypeInfo
  gr:T (List TypeDesc)
  ty:T dk
  jN:T wz
def Zs (f:Nat)(args:List Operand)(F:Fr)(σ:bU):Q R:=.ret (.call f (args.map λx=>jw x F) σ)
def UJ (l:List (Nat×Nat)):List V:=l.map λa=>.c (.ptr (some a))
def JA (f:Operand)(args:List Operand)(F:Fr)(σ:bU):Q R:=match lI (jw f F) with
 |some (.fn g first cap)=>.ret (.call g (UJ first++args.map (λx=>jw x F)++UJ cap) σ)
 |_=>.fail
def QZ (k:C->C->bU->Q R)(c d:C)(σ:bU):Q R:=match d with
 |.str _=>k c d σ
 |_=>.fail
def Lv (k:C->C->bU->Q R)(c d:C)(σ:bU):Q R:=match d with
 |.str _=>.fail
 |_=>k c d σ
def Eh (E:Env)(dst:Option Nat)(b:Builtin)(eK:List TypeId)(xs:List Operand):np:=match b,eK,xs with
 |.len,[t],[x]=>match under E.cC t with
  |some .string=>.pure (ni x acT)
  |some (.slice _)=>.pure (ni x acS)
  |_=>.bad
 |.append,[t,t'],[x,y]=>match under E.cC t with
  |some (.slice e)=>match elemOf E.cC e with
   |some q=>match under E.cC t' with
    |some .string=>.jt (zu x y (QZ (app q.2.1 q.1 (E.ty.get e) (dst.bind E.jN.get))))
    |some (.slice _)=>.jt (zu x y (Lv (app q.2.1 q.1 (E.ty.get e) (dst.bind E.jN.get))))
    |_=>.bad
   |none=>.bad
  |_=>.bad
 |.min,_,[x,y]=>.pure (iX x y (ow λk a b=>.int k (AL a b)))
 |.max,_,[x,y]=>.pure (iX x y (ow λk a b=>.int k (imax a b)))
 |_,_,_=>.bad
def act (E:Env)(dst:Option Nat)(o:Op):np:=match o with
 |.move x=>.pure (T4 x)
 |.assign x=>.pure (T4 x)
 |.pick c a b=>.pure (pick c a b)
 |.alloc e=>match zero E.cC e with
  |some z=>.alloc z.cells
  |none=>.bad
 |.box e x=>match dst.bind E.jN.get with
  |some .bY=>match E.ty.get e with
   |some t=>.made (uX x (Zn t))
   |none=>.bad
  |_=>.jt λF σ=>uX x (λy=>Zo y σ) F
 |.build t ct=>match zero E.cC t,under E.cC t with
  |some z,some (.struct j8)=>match Fq E.cC j8.toList with
   |some pl=>.pure (Ab (λi=>pl[i]?) z.cells ct.toList)
   |none=>.bad
  |some z,some (.array _ e)=>match size E.cC e with
   |some n=>.pure (Ab (MB n) z.cells ct.toList)
   |none=>.bad
  |_,_=>.bad
 |.buildSlice t n ct=>match under E.cC t with
  |some (.slice e)=>match elemOf E.cC e with
   |some q=>match E.ty.get e with
    |some ty=>match dst.bind E.jN.get with
     |some (.arr a3)=>.jt λF σ=>XU a3 ty n q.1 q.2.2 ct.toList F σ
     |some .tok=>.jt λF σ=>XV ty n q.1 q.2.2 ct.toList F σ
     |_=>.made (am6 ty n q.1 q.2.2 ct.toList)
    |none=>.bad
   |none=>.bad
  |_=>.bad
 |.load t a=>match bI.isAgg E.cC t,size E.cC t with
  |some true,some n=>.read (mD a (y7 n))
  |some false,_=>.read (mD a vQ)
  |_,_=>.bad
 |.store t a x=>match size E.cC t with
  |some n=>match a with
   |.tmp Q0=>match E.jN.get Q0 with
    |some .bY=>match E.ty.get t with
     |some ty=>.jt (A5 a x (xC n (some (Q0,ty))))
     |none=>.bad
    |_=>.jt (A5 a x (xC n none))
   |_=>.jt (A5 a x (xC n none))
  |none=>.bad
 |.nilCheck x=>.pure (ni x aex)
 |.binOp op t x y _=>mkBin E.cC E.gr op t x y
 |.unOp op _ x=>atD op x
 |.convert s d x=>match under E.cC s,under E.cC d with
  |some _,some (.int k)=>.pure (ni x (ZD k))
  |some .string,some .string=>.pure (ni x ZE)
  |some (.slice e),some .string=>match under E.cC e with
   |some (.int .u8)=>.read (mD x x9)
   |_=>.bad
  |some .string,some (.slice e)=>match under E.cC e with
   |some (.int .u8)=>.jt (mD x QY)
   |_=>.bad
  |some (.slice e),some (.slice e')=>match Nat.beq s d,under E.cC e' with
   |true,some (.int .u8)=>.jt (mD x CW)
   |_,_=>.bad
  |_,_=>.bad
 |.makeFunc fn first cap=>match fn with
  |.func f=>.pure (ac5 f first.toList cap.toList)
  |_=>.bad
 |.makeSlice t l c=>match under E.cC t with
  |some (.slice e)=>match elemOf E.cC e with
   |some q=>match E.ty.get e with
    |some ty=>match dst.bind E.jN.get with
     |some (.arr a3)=>match l,c with
      |.tmp i,.tmp j=>match Nat.beq i j with
       |true=>.jt (mD l (y_ a3 ty q.1 q.2.1 q.2.2))
       |false=>.bad
      |.const u,.const e_=>match u,e_ with
       |.int k i,.int cB j=>match decide (k=cB)&&decide (i=j) with
        |true=>.jt (mD l (y_ a3 ty q.1 q.2.1 q.2.2))
        |false=>.bad
       |_,_=>.bad
      |_,_=>.bad
     |_=>.bad
    |none=>.bad
   |none=>.bad
  |_=>.bad
 |.slice t x dA aj xm=>match under E.cC t with
  |some .string=>match xm with
   |none=>.pure (R4 x dA aj)
   |some _=>.bad
  |some (.slice e)=>match size E.cC e with
   |some sz=>match xm with
    |none=>.pure (R3 sz x dA aj)
    |some m=>.bad
   |none=>.bad
  |_=>.bad
 |.fieldAddr t x f=>match wS E.cC t f with
  |some y=>match size E.cC y.1 with
   |some (_+1)=>.pure (ni x (CK y.2))
   |_=>.bad
  |none=>.bad
 |.field t x f=>match wS E.cC t f with
  |some y=>match bI.isAgg E.cC y.1,size E.cC y.1 with
   |some true,some n=>.pure (uX x (UC n y.2))
   |some false,_=>.pure (uX x (UD y.2))
   |_,_=>.bad
  |none=>.bad
 |.indexAddr t x i=>match under E.cC t with
  |some (.slice e)=>match size E.cC e with
   |some sz=>.pure (iX x i (acw sz))
   |none=>.bad
  |some (.array k e)=>match i with
   |.const v=>match v with
    |.int qF j=>match decide (0<=j)&&decide (j<k),size E.cC e with
     |true,some sz=>.pure (ni x (CK (j.toNat*sz)))
     |_,_=>.bad
    |_=>.bad
   |_=>.bad
  |_=>.bad
 |.index t x i=>match under E.cC t with
  |some .string=>.pure (iX x i acx)
  |_=>.bad
 |.extract t i=>.pure (St t i)
 |.call c=>match c.callee with
  |.builtin b=>Eh E dst b c.argTypes.toList c.args.toList
  |.value f=>match f with
   |.func g=>.jt (Zs g c.args.toList)
   |.tmp t=>.jt (JA f c.args.toList)
   |_=>.bad
  |_=>.bad
 |_=>.bad
def tX (aV:Program)(o:Oper):np->Prop
 |.pure f=>∀(n:Nat) F (a:Go.Act) m w,dC m n F a->∀v,cV (f F) v->∃en,(execOp a.eval o).run aV w=.ok (.value en) w/\eo m v en
 |.made f=>∀(n:Nat) F (a:Go.Act) m σ w,dC m n F a->bQ m σ w->∀v,cV (f F) v->∃m' en w',Step m σ w m' σ w'/\(execOp a.eval o).run aV w=.ok (.value en) w'/\bQ m' σ w'/\eo m' v en
 |.read f=>∀(n:Nat) F (a:Go.Act) m σ w,dC m n F a->bQ m σ w->∀v,cV (f F σ) v->∃en,(execOp a.eval o).run aV w=.ok (.value en) w/\eo m v en
 |.alloc z=>∀(a:Go.Act) w,∃vs t,(execOp a.eval o).run aV w=.ok (.value (.pointer (some ⟨w.heap.size,0,none⟩))) (w.alloc (.cells vs t))/\∀m,cO (dz m) z vs.toList
 |.jt f=>∀(n:Nat) F (a:Go.Act) m σ w,dC m n F a->bQ m σ w->∀r,cV (f F σ) r->Good aV m σ w (λt=>a.tmps.getD t undef) (execOp a.eval o) r
 |.bad=>True
section
variable{aV:Program}{o:Oper}{E:Env}
theorem mK {f:Fr->Q V}(s:Go.Act->Sem Value)(aM:∀a,execOp a.eval o=(do pure (.value (<-s a))))(h:∀(n:Nat) F (a:Go.Act) m w,dC m n F a->jC aV m w (s a) (f F)):tX aV o (.pure f):=by
 intro n F a m w a5 v bE;obtain⟨en,aa,af⟩:=h n F a m w a5 v bE;exact⟨en,by rw[aM];simp[aa],af⟩
theorem Y1 {f:Fr->Q V}(s:Go.Act->Sem Value)(aM:∀a,execOp a.eval o=(do pure (.value (<-s a))))(h:∀(n:Nat) F (a:Go.Act) m σ w,dC m n F a->bQ m σ w->Rk aV m σ w (s a) (f F)):tX aV o (.made f):=by
 intro n F a m σ w a5 bh v bE;obtain⟨m',en,w',aa,af,ax,a8⟩:=h n F a m σ w a5 bh v bE;exact⟨m',en,w',aa,by rw[aM];simp[af],ax,a8⟩
theorem Ry {f:Fr->bU->Q V}(s:Go.Act->Sem Value)(aM:∀a,execOp a.eval o=(do pure (.value (<-s a))))(h:∀(n:Nat) F (a:Go.Act) m σ w,dC m n F a->bQ m σ w->jC aV m w (s a) (f F σ)):tX aV o (.read f):=by
 intro n F a m σ w a5 bh v bE;obtain⟨en,aa,af⟩:=h n F a m σ w a5 bh v bE;exact⟨en,by rw[aM];simp[aa],af⟩
theorem vn {f:Fr->bU->Q R}(s:Go.Act->Sem Value)(aM:∀a,execOp a.eval o=(do pure (.value (<-s a))))(h:∀(n:Nat) F (a:Go.Act) m σ w r,dC m n F a->bQ m σ w->cV (f F σ) r->mX aV m σ w (s a) r):tX aV o (.jt f):=by
 intro n F a m σ w a5 bh r bE;rw[aM];exact(h n F a m σ w r a5 bh bE).SD
theorem CJ {A:np}{op:BinOp}{t sS:TypeId}{x y:Operand}(b6:∀a:Go.Act,execOp a.eval o=(do pure (.value (<-(do eqGuard op t x y (a.eval x) (a.eval y);Go.binOp op t (a.eval x) (a.eval y))))))(h:∀(n:Nat) F (a:Go.Act) m w,dC m n F a->∀f,A=.pure f->jC aV m w (do eqGuard op t x y (a.eval x) (a.eval y);Go.binOp op t (a.eval x) (a.eval y)) (f F))(dH:(∃f,A=.pure f)\/A=.bad):tX aV o A:=by
 rcases dH with⟨f,rfl⟩|rfl
 ·exact mK _ b6 λn F a m w a5=>h n F a m w a5 f rfl
 ·trivial
theorem atu {op:BinOp}{x y:Operand}:(∃f,mkInt op x y=.pure f)\/mkInt op x y=.bad:=by cases op<;>first|exact .inl ⟨_,rfl⟩|exact .inr rfl
theorem atA {op:BinOp}{x y:Operand}:(∃f,mkStr op x y=.pure f)\/mkStr op x y=.bad:=by cases op<;>first|exact .inl ⟨_,rfl⟩|exact .inr rfl
theorem ac6 {k:sY}{op:BinOp}{x y:Operand}:(∃f,AT k op x y=.pure f)\/AT k op x y=.bad:=by cases op<;>first|exact .inl ⟨_,rfl⟩|exact .inr rfl
theorem atx {op:BinOp}{x y:Operand}:(∃f,Ei op x y=.pure f)\/Ei op x y=.bad:=by cases op<;>first|exact .inl ⟨_,rfl⟩|exact .inr rfl
theorem builtin_len {c:Call}{b:Builtin}(an:c.callee=.builtin b){t ty:TypeId}(pX:c.argTypes.toList=[t]){a:Go.Act}{x:Operand}(bZ:c.args.toList=[x])(ah:b=.len):
 (do let d<-resolve a.eval c ty;invoke d.target d.args:Sem Next)=(do pure (.value (<-Builtin.len_ #[t] ty #[a.eval x]))):=by
 subst ah;have aa:c.argTypes=#[t]:=Array.toList_inj.1 pX;have af:c.args=#[x]:=Array.toList_inj.1 bZ;unfold resolve;simp only[an,aa,af];rw[pure_bind];simp only[invoke,builtin,List.map_toArray,List.map_cons,List.map_nil]
theorem Zp {c:Call}{b:Builtin}(an:c.callee=.builtin b){t t' ty:TypeId}(pX:c.argTypes.toList=[t,t']){a:Go.Act}{x y:Operand}(bZ:c.args.toList=[x,y])(ah:b=.append):
 (do let d<-resolve a.eval c ty;invoke d.target d.args:Sem Next)=(do pure (.value (<-Builtin.append_ #[t,t'] ty #[a.eval x,a.eval y]))):=by
 subst ah;have aa:c.argTypes=#[t,t']:=Array.toList_inj.1 pX;have af:c.args=#[x,y]:=Array.toList_inj.1 bZ;unfold resolve;simp only[an,aa,af];rw[pure_bind];simp only[invoke,builtin,List.map_toArray,List.map_cons,List.map_nil]
theorem Zq {c:Call}{b:Builtin}(an:c.callee=.builtin b){ty:TypeId}{a:Go.Act}{x y:Operand}(bZ:c.args.toList=[x,y]){g:Value->Value->Sem Value}(ah:∀eK:Array TypeId,∀cs:Array Bool,builtin b eK ty cs #[a.eval x,a.eval y]=(do pure (.value (<-g (a.eval x) (a.eval y))))):
 (do let d<-resolve a.eval c ty;invoke d.target d.args:Sem Next)=(do pure (.value (<-g (a.eval x) (a.eval y)))):=by
 have af:c.args=#[x,y]:=Array.toList_inj.1 bZ;rw[<-ah c.argTypes (c.args.map λ|.const _=>true|_=>false)];unfold resolve;simp only[an,af];rw[pure_bind];simp only[invoke,List.map_toArray,List.map_cons,List.map_nil];rfl
theorem ann {w:World}{m:M}{F:Fr}{a:Go.Act}{n:Nat}{x y:Operand}{f:(k:IntKind)->a_ k->a_ k->C}{g:Value->Value->Sem Value}(a5:dC m n F a)(bE:∀k (i j:a_ k),∃v,(g (.int k i.1) (.int k j.1)).run aV w=.ok v w/\dz m (f k i j) v):jC aV m w (g (a.eval x) (a.eval y)) (iX x y (ow f) F):=by
 intro v h;obtain⟨c,d,an,bj,h⟩:=uW a5 h;unfold ow at h;split at h
 ·split at h
  ·rename_i k i cB j aX;subst aX;have an:a.eval x=.int cB i.1:=an;have bj:a.eval y=.int cB j.1:=bj;obtain rfl:=iZ h;obtain⟨u,aa,af⟩:=bE cB i j;exact⟨u,by rw[an,bj];exact aa,af⟩
  ·exact h.cq.elim
 ·exact h.cq.elim
theorem aoI (b9:fC aV E.cC){dst:Option Nat}{c:Call}{b:Builtin}(an:c.callee=.builtin b){ty:TypeId}(b6:∀a:Go.Act,execOp a.eval o=(do let d<-resolve a.eval c ty;invoke d.target d.args)):
 tX aV o (Eh E dst b c.argTypes.toList c.args.toList):=by
 unfold Eh;split
 ·rename_i t x pX aW;split
  ·rename_i hu;exact mK _ (λa=>(b6 a).trans (builtin_len an pX aW rfl)) λn F a m w a5=>as9 b9 a5 hu
  ·rename_i e hu;exact mK _ (λa=>(b6 a).trans (builtin_len an pX aW rfl)) λn F a m w a5=>as8 b9 a5 hu
  ·trivial
 ·rename_i t t' x y pX aW;split
  ·rename_i e hu;split
   ·rename_i q aA;split
    ·rename_i w8;refine vn (λa=>Builtin.append_ #[t,t'] ty #[a.eval x,a.eval y]) (λa=>(b6 a).trans (Zp an pX aW rfl)) λn F a m σ w r a5 bh h=>?_;obtain⟨c',kp,dH⟩:=gR h;obtain⟨d',vC,dH⟩:=gR dH;unfold QZ at dH;split at dH
     ·rename_i s;refine Za (ty:=E.ty.get e) (jN:=dst.bind E.jN.get) b9 a5 bh hu w8 (.inr rfl) (yd b9 aA) (λ_ d bj=>⟨s,by rw[vC] at bj;cases bj;rfl⟩) (λ⟨_,h⟩=>by cases h) ?_;unfold zu;rw[kp,vC];exact dH
     ·exact dH.cq.elim
    ·rename_i e' w8;refine vn (λa=>Builtin.append_ #[t,t'] ty #[a.eval x,a.eval y]) (λa=>(b6 a).trans (Zp an pX aW rfl)) λn F a m σ w r a5 bh h=>?_;obtain⟨c',kp,dH⟩:=gR h;obtain⟨d',vC,dH⟩:=gR dH;unfold Lv at dH;split at dH
     ·exact dH.cq.elim
     ·rename_i az;refine Za (ty:=E.ty.get e) (jN:=dst.bind E.jN.get) b9 a5 bh hu w8 (.inl ⟨_,rfl⟩) (yd b9 aA) (λh=>by cases h) (λ_ d bj s aM=>by rw[vC] at bj;cases bj;exact az s aM) ?_;unfold zu;rw[kp,vC];exact dH
    ·trivial
   ·trivial
  ·trivial
 ·rename_i x y aW;refine mK (λa=>Builtin.min2 (a.eval x) (a.eval y)) (λa=>(b6 a).trans (Zq an aW λeK cs=>by simp[builtin,Builtin.min_])) λn F a m w a5=>ann a5 λk i j=>⟨.int k (AL i j).1,?_,rfl⟩;simp only[Builtin.min2,AL];by_cases uE:i.1<=j.1<;>simp[uE]<;>omega
 ·rename_i x y aW;refine mK (λa=>Builtin.max2 (a.eval x) (a.eval y)) (λa=>(b6 a).trans (Zq an aW λeK cs=>by simp[builtin,Builtin.max_])) λn F a m w a5=>ann a5 λk i j=>⟨.int k (imax i j).1,?_,rfl⟩;simp only[Builtin.max2,imax];by_cases uE:j.1<=i.1<;>simp[uE]<;>omega
 ·trivial
theorem Ur {m:M}{n:Nat}{F:Fr}{a:Go.Act}(a5:dC m n F a):∀(l:List Operand),cO (eo m) (l.map λx=>jw x F) (l.map a.eval)
 |[]=>trivial
 |x::l=>⟨lU a5 x,Ur a5 l⟩
theorem UK {m:M}:∀{l:List (Nat×Nat)}{vs:List Value},cO (qT m) l vs->cO (eo m) (UJ l) vs
 |[],[],_=>trivial
 |p::l,v::vs,⟨aa,af⟩=>⟨aa,UK af⟩
theorem aoL {m:M}{σ:bU}{w:World}{F:Fr}{a:Go.Act}{n:Nat}{r:R}{a4:Nat->Value}{f:Nat}{c:Call}(a5:dC m n F a)(h:cV (Zs f c.args.toList F σ) r)(an:c.callee=.value (.func f)){type:TypeId}:
 Good aV m σ w a4 (do let d<-resolve a.eval c type;invoke d.target d.args) r:=by
 obtain rfl:=h.eJ;refine⟨rfl,c.args.map a.eval,by rw[Array.toList_map];exact Ur a5 _,?_⟩;simp[resolve,an,Act.eval,Deferred.ofValue,invoke]
theorem aoM {m:M}{σ:bU}{w:World}{F:Fr}{a:Go.Act}{n:Nat}{r:R}{a4:Nat->Value}{f:Operand}{c:Call}(a5:dC m n F a)(h:cV (JA f c.args.toList F σ) r)(an:c.callee=.value f){type:TypeId}:
 Good aV m σ w a4 (do let d<-resolve a.eval c type;invoke d.target d.args) r:=by
 unfold JA at h;split at h
 ·rename_i g first cap cj
  obtain⟨us,vs,aO,hu,aT⟩:=ql cj (lU a5 f);obtain rfl:=h.eJ;refine⟨rfl,us++c.args.map a.eval++vs,?_,?_⟩
  ·rw[Array.toList_append,Array.toList_append,Array.toList_map];exact cO.append (cO.append (UK hu) (Ur a5 _)) (UK aT)
  ·simp[resolve,an,aO,Deferred.ofValue,invoke]
 ·exact h.cq.elim
theorem aoj (b9:fC aV E.cC)(q5:∀t ds,E.gr.get t=some ds->ue aV t (.flat ds))(o:Oper):tX aV o (act E o.dst o.op):=by
 obtain⟨dst,op,type,pos,after,guard⟩:=o;show tX aV _ (act E dst op);cases op with
 |move x=>exactλn F a m w a5 v h=>⟨a.eval x,rfl,ael a5 h⟩
 |assign x=>exactλn F a m w a5 v h=>⟨a.eval x,rfl,ael a5 h⟩
 |pick c x y=>exactλn F a m w a5 v h=>ayK a5 h
 |alloc e=>
  simp only[act];split
  ·rename_i z ai;intro a w;obtain⟨v,aa,-⟩:=QM b9 (w:=w) ⟨λ_=>none,λ_=>none,λ_ _ _=>none,λ_=>[],λ_=>none⟩ ai;refine⟨v.cells,e,by simp[execOp,Instr.alloc,aa,newVar,Go.newRow,newObj,Sem.run],λm=>?_⟩;obtain⟨en,wV,af⟩:=QM b9 (w:=w) m ai;rw[aa] at wV;cases wV;exact af.cells
  ·trivial
 |box e x=>
  simp only[act];split
  ·split
   ·exact Y1 _ (λa=>rfl) λn F a m σ w a5 bh=>aoD a5 bh
   ·trivial
  ·exact vn _ (λa=>rfl) λn F a m σ w r a5 bh h=>aoE a5 bh h
 |build t ct=>
  simp only[act];split
  ·rename_i z j8 ai hu;split
   ·rename_i pl DY;exact mK _ (λa=>rfl) λn F a m w a5=>aoG b9 a5 ai hu DY
   ·trivial
  ·rename_i z k e ai hu;split
   ·rename_i sz fD;exact mK _ (λa=>rfl) λn F a m w a5=>aoF b9 a5 ai hu fD
   ·trivial
  ·trivial
 |buildSlice t k ct=>
  simp only[act];split
  ·rename_i e hu;split
   ·rename_i q aA;split
    ·rename_i ty Tk;split
     ·exact vn _ (λa=>rfl) λn F a m σ w r a5 bh h=>aOm b9 a5 bh hu (yd b9 aA) h
     ·exact vn _ (λa=>rfl) λn F a m σ w r a5 bh h=>aOp b9 a5 bh hu (yd b9 aA) h
     ·exact Y1 _ (λa=>rfl) λn F a m σ w a5 bh=>aOn b9 a5 bh hu (yd b9 aA)
    ·trivial
   ·trivial
  ·trivial
 |load t x=>
  simp only[act];split
  ·rename_i k cj aM;exact Ry _ (λa=>rfl) λn F a m σ w a5 bh=>acX b9 a5 bh cj aM
  ·rename_i _ cj;exact Ry _ (λa=>rfl) λn F a m σ w a5 bh=>acY b9 a5 bh cj
  ·trivial
 |store t x y=>
  simp only[act];split
  ·rename_i k aM;split
   ·rename_i Q0;split
    ·split
     ·exactλn F a m σ w a5 bh r h=>XY b9 a5 bh aM (λq aA=>by cases aA;rfl) h
     ·trivial
    ·exactλn F a m σ w a5 bh r h=>XY b9 a5 bh aM (λq aA=>by cases aA) h
   ·exactλn F a m σ w a5 bh r h=>XY b9 a5 bh aM (λq aA=>by cases aA) h
  ·trivial
 |nilCheck x=>exactλn F a m w a5 v h=>avl a5 rfl h
 |binOp op t x y sS=>
  simp only[act,mkBin];split
  ·rename_i d bj;split
   ·exact CJ (sS:=sS) (op:=op) (t:=t) (x:=x) (y:=y) (λa=>rfl) (λn F a m w a5 f bE=>by have:=atw (aV:=aV) (w:=w) (op:=op) (t:=t) (x:=x) (y:=y) a5;rw[bE] at this;exact this) atu
   ·exact CJ (sS:=sS) (op:=op) (t:=t) (x:=x) (y:=y) (λa=>rfl) (λn F a m w a5 f bE=>by have:=atC (aV:=aV) (w:=w) (op:=op) (t:=t) (x:=x) (y:=y) a5;rw[bE] at this;exact this) atA
   ·exact CJ (sS:=sS) (op:=op) (t:=t) (x:=x) (y:=y) (λa=>rfl) (λn F a m w a5 f bE=>by have:=ac8 (w:=w) (op:=op) (x:=x) (y:=y) (k:=.leaf .bool) a5 (jP b9 bj) ⟨(λq h=>by cases h),(λh=>by cases h)⟩;rw[bE] at this;exact this) ac6
   ·exact CJ (sS:=sS) (op:=op) (t:=t) (x:=x) (y:=y) (λa=>rfl) (λn F a m w a5 f bE=>by have:=atz (w:=w) (op:=op) (x:=x) (y:=y) a5 (jP b9 bj);rw[bE] at this;exact this) atx
   ·split
    ·rename_i ds iL;exact CJ (sS:=sS) (op:=op) (t:=t) (x:=x) (y:=y) (λa=>rfl) (λn F a m w a5 f bE=>by have:=ac8 (w:=w) (op:=op) (x:=x) (y:=y) a5 (q5 _ _ iL) ⟨(λq h=>by cases h),(λh=>by cases h)⟩;rw[bE] at this;exact this) ac6
    ·trivial
  ·trivial
 |unOp op t x=>
  cases op<;>first
   |exact mK _ (λa=>rfl) λn F a m w a5=>aOF a5
   |exact mK _ (λa=>rfl) λn F a m w a5=>aOG a5
   |exact mK _ (λa=>rfl) λn F a m w a5=>aOH a5
   |exact trivial
 |convert s d x=>
  simp only[act];split
  ·rename_i ds k aM bj;exact mK _ (λa=>rfl) λn F a m w a5=>aoZ b9 a5 aM bj
  ·rename_i aM bj;exact mK _ (λa=>rfl) λn F a m w a5=>ao2 b9 a5 aM bj
  ·rename_i e aM bj;split
   ·rename_i he;exact Ry _ (λa=>rfl) λn F a m σ w a5 bh=>aoX b9 a5 bh aM bj he
   ·trivial
  ·rename_i e aM bj;split
   ·rename_i he;exact vn _ (λa=>rfl) λn F a m σ w r a5 bh h=>aOv b9 a5 bh aM bj he h
   ·trivial
  ·rename_i e e' aM bj;split
   ·rename_i Ti he;exact vn _ (λa=>rfl) λn F a m σ w r a5 bh h=>ao1 b9 a5 bh aM bj (gB Ti) he h
   ·trivial
  ·trivial
 |makeFunc fn first cap=>
  simp only[act];split
  ·exact mK _ (λa=>rfl) λn F a m w a5=>atq a5
  ·trivial
 |makeSlice t l c=>
  simp only[act];split
  ·rename_i e hu;split
   ·rename_i q aA;split
    ·rename_i ty Tk;split
     ·split
      ·split
       ·rename_i aa;obtain rfl:=gB aa;exact vn _ (λa=>rfl) λn F a m σ w r a5 bh h=>ac2 b9 a5 bh hu (yd b9 aA) h
       ·trivial
      ·split
       ·split
        ·rename_i aa;simp only[gQ,decide_eq_true_iff] at aa;obtain⟨rfl,rfl⟩:=aa;exact vn _ (λa=>rfl) λn F a m σ w r a5 bh h=>ac2 b9 a5 bh hu (yd b9 aA) h
        ·trivial
       ·trivial
      ·trivial
     ·trivial
    ·trivial
   ·trivial
  ·trivial
 |slice t x dA aj xm=>
  simp only[act];split
  ·rename_i hu;split
   ·exact mK _ (λa=>rfl) λn F a m w a5=>ao9 b9 a5 hu
   ·trivial
  ·rename_i e hu;split
   ·rename_i sz aM;split
    ·exact mK _ (λa=>rfl) λn F a m w a5=>ao8 b9 a5 hu aM
    ·trivial
   ·trivial
  ·trivial
 |fieldAddr t x f=>
  simp only[act];split
  ·rename_i y cf;split
   ·rename_i k aM;exact mK _ (λa=>rfl) λn F a m w a5=>aol b9 a5 cf aM
   ·trivial
  ·trivial
 |field t x f=>
  simp only[act];split
  ·rename_i y cf;split
   ·rename_i k cj aM;exact mK _ (λa=>rfl) λn F a m w a5=>apE b9 a5 cf cj aM
   ·rename_i cj;exact mK _ (λa=>rfl) λn F a m w a5=>apF b9 a5 cf cj
   ·trivial
  ·trivial
 |indexAddr t x i=>
  simp only[act];split
  ·rename_i e hu;split
   ·rename_i sz aM;exact mK _ (λa=>rfl) λn F a m w a5=>asF b9 a5 hu aM
   ·trivial
  ·rename_i k e hu;split
   ·split
    ·rename_i qF j;split
     ·rename_i sz aw aM;simp only[gQ,decide_eq_true_eq] at aw;exact mK _ (λa=>rfl) λn F a m w a5=>asD b9 a5 hu aM aw.1 aw.2
     ·trivial
    ·trivial
   ·trivial
  ·trivial
 |index t x i=>
  simp only[act];split
  ·rename_i hu;exact mK _ (λa=>rfl) λn F a m w a5=>asG b9 a5 hu
  ·trivial
 |extract t i=>exact mK _ (λa=>rfl) λn F a m w a5=>apw a5
 |call c=>
  simp only[act];split
  ·rename_i b an;exact aoI b9 an λa=>rfl
  ·rename_i f an;split
   ·exactλn F a m σ w a5 bh r h=>aoL a5 h an
   ·exactλn F a m σ w a5 bh r h=>aoM a5 h an
   ·trivial
  ·trivial
 |_=>exact trivial
end
open bI (T cO under size kM fC jP)
structure lk where
  run:Nat->List V->bU->Q (V×bU)
  wr:Nat->List V->bU->List Nat
def C5 (n:Nat)(d:Option Nat):Bool:=match d with
 |some t=>Nat.ble (Nat.succ t) n
 |none=>true
def sL (d:Option Nat)(v:V)(F:Fr):Fr:=match d with
 |some t=>rp F t v
 |none=>F
def aep (z:List C)(σ:bU):Q R:=zl (.box z) (.ptr (some (σ.next,0))) σ
def amS (a:np)(F:Fr)(σ:bU):Q R:=match a with
 |.pure f=>(f F).lB λv=>.ret (.val v σ)
 |.made f=>(f F).lB λv=>.ret (.val v σ)
 |.read f=>(f F σ).lB λv=>.ret (.val v σ)
 |.alloc z=>aep z σ
 |.jt f=>f F σ
 |.bad=>.fail
def fin (call:lk)(d:Option Nat)(F:Fr)(r:Q R):Q (Fr×bU):=r.lB λr=>match r with
 |.val v σ=>.ret (sL d v F,σ)
 |.skip σ=>.ret (sL d .undef F,σ)
 |.qL t v σ=>.ret (sL d .undef (rp F t v),σ)
 |.call f args σ=>(call.run f args σ).lB λy=>.ret (sL d y.1 F,y.2)
def Ap {α:Type}(g:Option (Nat×Bool))(ops:Array Oper)(F:Fr)(yes no:Fr->Q α):Q α:=match g with
 |none=>yes F
 |some y=>match ops[y.1]? with
  |some q=>match q.dst with
   |some d=>match gN F d with
    |.p x=>match x with
     |.c c=>match c with
      |.bool x=>.ite x (match y.2 with
       |true=>yes (rp F d (.c (.bool true)))
       |false=>no (rp F d (.c (.bool true))))
       (match y.2 with
        |true=>no (rp F d (.c (.bool false)))
        |false=>yes (rp F d (.c (.bool false))))
      |_=>.fail
     |_=>.fail
    |.undef=>no F
    |_=>.fail
   |none=>.fail
  |none=>.fail
def step (E:Env)(call:lk)(n:Nat)(ops:Array Oper)(o:Oper)(F:Fr)(σ:bU):Q (Fr×bU):=match C5 n o.dst with
 |false=>.fail
 |true=>Ap o.guard ops F (λF=>fin call o.dst F (amS (act E o.dst o.op) F σ)) λF=>.ret (sL o.dst .undef F,σ)
def steps (E:Env)(call:lk)(n:Nat)(ops:Array Oper)(l:List Oper):Fr->bU->Q (Fr×bU):=List.rec (motive:=λ_=>Fr->bU->Q (Fr×bU)) (λF σ=>.ret (F,σ)) (λo _ cu F σ=>(step E call n ops o F σ).lB λy=>cu y.1 y.2) l
structure r0 (aV:Program)(call:lk):Prop where
  run:∀f args σ v bd m w (vs:Array Value),cV (call.run f args σ) (v,bd)->bQ m σ w->cO (eo m) args vs.toList->
    (callFunc f vs).run aV w=.ok (.enter f vs) w/\Calls aV f vs w λe w'=>∃m' en,e=.returned en/\Step m σ w m' bd w'/\bQ m' bd w'/\eo m' v en
  wr:∀f args σ v bd,cV (call.run f args σ) (v,bd)->∀i,i<σ.next->i∉call.wr f args σ->bd.heap.get i=σ.heap.get i
def tY (aV:Program)(E:Env):Prop:=∀o:Oper,tX aV o (act E o.dst o.op)
def zU (m:M)(n:Nat)(g:Nat->V)(a:Go.Act):Prop:=n<=a.tmps.size/\a.defers=[]/\∀t,eo m (g t) (a.tmps.getD t undef)
def iF (l:List Nat)(a c9:Go.Act):Prop:=∀t,t∉l->c9.tmps.getD t undef=a.tmps.getD t undef
section
variable{aV:Program}{w:World}{m m':M}{σ bd:bU}{F rz:Fr}{a:Go.Act}{n:Nat}{call:lk}{E:Env}
theorem iF.refl (l:List Nat)(a:Go.Act):iF l a a:=λ_ _=>rfl
theorem iF.trans {l:List Nat}{a c9 z1:Go.Act}(h:iF l a c9)(k:iF l c9 z1):iF l a z1:=λt bR=>(k t bR).trans (h t bR)
theorem iF.mono {l eG:List Nat}{a c9:Go.Act}(h:iF l a c9)(aW:∀t,t∈l->t∈eG):iF eG a c9:=λt bR=>h t λq=>bR (aW t q)
theorem iF.put (a:Go.Act)(d:Option Nat)(v:Value):iF d.toList a (a.put d v):=by
 intro t bR;cases d with
 |none=>rfl
 |some k=>
  have:k≠t:=λe=>bR (by simp[e]);simp[Go.Act.put,Array.getElem?_setIfInBounds_ne this]
theorem dC.apB (a5:dC m n F a):zU m n (gN F) a:=⟨a5.size,a5.defers,a5.slot⟩
theorem zU.cm (a5:zU m n (gN F) a):dC m n F a:=⟨a5.1,a5.2.1,a5.2.2⟩
theorem dC.congr (a5:dC m n F a)(h:∀t,gN rz t=gN F t):dC m n rz a:=⟨a5.size,a5.defers,λt=>by rw[h];exact a5.slot t⟩
theorem dC.put (a5:dC m n F a)(e:Ext m m'){d:Option Nat}{v:V}{en:Value}(bj:C5 n d=true)(aT:eo m' v en):dC m' n (sL d v F) (a.put d en):=by
 cases d with
 |none=>exact⟨a5.size,a5.defers,λt=>(a5.slot t).ext e⟩
 |some k=>
  have aX:=Nat.le_of_ble_eq_true bj;have fD:=a5.size;refine⟨by simpa[Go.Act.put] using a5.size,a5.defers,λt=>?_⟩;show eo m' (gN (rp F k v) t) _;rw[vu];by_cases h:t=k
  ·subst h;have:t<a.tmps.size:=ab;simpa[Go.Act.put,this] using aT
  ·have aa:(a.put (some k) en).tmps.getD t undef=a.tmps.getD t undef:=by
    simp[Go.Act.put,Array.getElem?_setIfInBounds_ne (Ne.symm h)]
   rw[if_neg h,aa];exact(a5.slot t).ext e
theorem dC.qL (a5:dC m n F a){t:Nat}{v:V}(aT:eo m v (a.tmps.getD t undef)):dC m n (rp F t v) a:=⟨a5.size,a5.defers,λk=>by
 rw[vu];by_cases h:k=t
 ·subst h;rw[if_pos rfl];exact aT
 ·rw[if_neg h];exact a5.slot k⟩
theorem JX {d:Nat}{x b:Bool}(h:gN F d=.p (.c (.bool x)))(aO:x=b):∀t,gN (rp F d (.c (.bool b))) t=gN F t:=λt=>by
 rw[vu];by_cases he:t=d
 ·subst he;rw[if_pos rfl,h,aO]
 ·rw[if_neg he]
theorem ave (bh:bQ m σ w){z:List C}{vs:Array Value}{t:TypeId}(h:cO (dz m) z vs.toList){r:R}(aU:cV (aep z σ) r):
 ∃m' v bd,r=.val v bd/\Step m σ w m' bd (w.alloc (.cells vs t))/\bQ m' bd (w.alloc (.cells vs t))/\eo m' v (.pointer (some ⟨w.heap.size,0,none⟩)):=by
 obtain rfl:=aU.eJ;obtain⟨ax,a8⟩:=bh.aeo (ty:=t) h;have e:=M.Sq (m:=m) (r:=w.heap.size) (bh.fresh σ.next (Nat.le_refl _)).1;exact⟨_,_,_,rfl,.put bh e a8,ax,w.heap.size,by simp[M.jE],rfl⟩
theorem aN_ {o:Oper}{ac:np}{r:R}(dH:tX aV o ac)(a5:dC m n F a)(bh:bQ m σ w)(h:cV (amS ac F σ) r):Good aV m σ w (λt=>a.tmps.getD t undef) (execOp a.eval o) r:=by
 cases ac with
 |pure f=>
  obtain⟨v,aT,h⟩:=h.lT;obtain rfl:=h.eJ;obtain⟨en,aa,af⟩:=dH n F a m w a5 v aT;exact⟨m,en,w,Step.refl ..,aa,bh,af⟩
 |made f=>
  obtain⟨v,aT,h⟩:=h.lT;obtain rfl:=h.eJ;obtain⟨m',en,w',ba,aa,af,ax⟩:=dH n F a m σ w a5 bh v aT;exact⟨m',en,w',ba,aa,af,ax⟩
 |read f=>
  obtain⟨v,aT,h⟩:=h.lT;obtain rfl:=h.eJ;obtain⟨en,aa,af⟩:=dH n F a m σ w a5 bh v aT;exact⟨m,en,w,Step.refl ..,aa,bh,af⟩
 |alloc z=>
  obtain⟨vs,t,aa,af⟩:=dH a w;obtain⟨m',v,bd,rfl,ax,a8,cn⟩:=ave (t:=t) bh (af m) h;exact⟨m',_,_,ax,aa,a8,cn⟩
 |jt f=>exact dH n F a m σ w a5 bh r h
 |bad=>exact h.cq.elim
theorem apG {o:Oper}{r:Q R}{K:Go.Act->World->Prop}{Q:Exit->Go.Act->World->Prop}{y:Fr×bU}(jg:r0 aV call)(a5:dC m n F a)(bh:bQ m σ w)(bj:C5 n o.dst=true)(cj:∀x,cV r x->Good aV m σ w (λt=>a.tmps.getD t undef) (execOp a.eval o) x)(h:cV (fin call o.dst F r) y)(ev:∀m' c9 w',Step m σ w m' y.2 w'->dC m' n y.1 c9->bQ m' y.2 w'->iF o.dst.toList a c9->K c9 w'):o.wp aV a w K Q:=by
 obtain⟨x,aO,h⟩:=h.lT;have cj:=cj x aO;clear aO;unfold Oper.wp;cases x with
 |val v Yf=>
  obtain⟨m',en,w',e,af,ax,a8⟩:=cj;obtain rfl:=h.eJ;rw[af];exact ev m' _ w' e (a5.put e.iK.ext bj a8) ax (iF.put _ _ _)
 |skip Yf=>
  obtain⟨m',w',e,af,ax⟩:=cj;obtain rfl:=h.eJ;rw[af];exact ev m' _ w' e (a5.put e.iK.ext bj rfl) ax (iF.put _ _ _)
 |qL t v Yf=>
  obtain⟨m',w',e,af,ax,a8⟩:=cj;obtain rfl:=h.eJ;rw[af];exact ev m' _ w' e (((a5.ext e.iK.ext).qL a8).put (Ext.refl m') bj rfl) ax (iF.put _ _ _)
 |call f args Yf=>
  obtain⟨rfl,vs,ax,a8⟩:=cj;obtain⟨mI,cf,h⟩:=h.lT;obtain rfl:=h.eJ;rw[a8];obtain⟨cn,da⟩:=jg.run f args _ mI.1 mI.2 m w vs cf bh ax;rw[cn];refine da.mono ?_;rintro _ w' ⟨m',en,rfl,e,dS,ez⟩;exact ev m' _ w' e (a5.put e.iK.ext bj ez) dS (iF.put _ _ _)
theorem aOQ {o q:Oper}{ops:Array Oper}{j d:Nat}{b:Bool}(a5:dC m n F a)(cj:o.guard=some (j,b))(aw:ops[j]?=some q)(aA:q.dst=some d):
 (∀x,gN F d=.p (.c (.bool x))->Region.wanted o (yielded ops a.tmps)=(x==b))/\(gN F d=.undef->Region.wanted o (yielded ops a.tmps)=false):=by
 have aM:=a5.slot d;constructor
 ·intro x aO;rw[aO] at aM;have aM:a.tmps.getD d undef=.bool x:=aM;have aa:a.tmps[d]?=some (.bool x):=by
   rw[Array.getD_eq_getD_getElem?] at aM;cases af:a.tmps[d]? with
   |none=>rw[af] at aM;cases aM
   |some v=>rw[af] at aM;exact congrArg some aM
  simp[Region.wanted,cj,yielded,aw,aA,aa]
 ·intro aO;rw[aO] at aM;have aM:a.tmps.getD d undef=undef:=aM;have aa:a.tmps[d]?=some undef\/a.tmps[d]?=none:=by
   rw[Array.getD_eq_getD_getElem?] at aM;cases af:a.tmps[d]? with
   |none=>exact .inr rfl
   |some v=>rw[af] at aM;exact .inl (congrArg some aM)
  rcases aa with aa|aa<;>simp[Region.wanted,cj,yielded,aw,aA,aa,undef]
theorem aqb {α:Type}{o:Oper}{ops:Array Oper}{yes no:Fr->Q α}{y:α}(a5:dC m n F a)(h:cV (Ap o.guard ops F yes no) y):
 ∃rz,(∀t,gN rz t=gN F t)/\((Region.wanted o (yielded ops a.tmps)=true/\cV (yes rz) y)\/(Region.wanted o (yielded ops a.tmps)=false/\cV (no rz) y)):=by
 unfold Ap at h;split at h
 ·rename_i cj;exact⟨F,λ_=>rfl,.inl ⟨by simp[Region.wanted,cj],h⟩⟩
 ·rename_i z cj;obtain⟨j,b⟩:=z;split at h
  ·rename_i q aw;split at h
   ·rename_i d aA;obtain⟨aa,af⟩:=aOQ a5 cj aw aA;split at h
    ·split at h
     ·split at h
      ·rename_i x aO;have aa:=aa x aO;rcases h.vU with⟨nf,ax⟩|⟨nf,ax⟩
       ·refine⟨_,JX aO nf,?_⟩;subst nf;cases b with
        |true=>exact .inl ⟨aa,ax⟩
        |false=>exact .inr ⟨aa,ax⟩
       ·refine⟨_,JX aO nf,?_⟩;subst nf;cases b with
        |true=>exact .inr ⟨aa,ax⟩
        |false=>exact .inl ⟨aa,ax⟩
      ·exact h.cq.elim
     ·exact h.cq.elim
    ·rename_i aO;exact⟨F,λ_=>rfl,.inr ⟨af aO,h⟩⟩
    ·exact h.cq.elim
   ·exact h.cq.elim
  ·exact h.cq.elim
theorem aOs {ops:Array Oper}{o:Oper}{K:Go.Act->World->Prop}{Q:Exit->Go.Act->World->Prop}{y:Fr×bU}(kE:tY aV E)(jg:r0 aV call)(a5:dC m n F a)(bh:bQ m σ w)(h:cV (step E call n ops o F σ) y)(ev:∀m' c9 w',Step m σ w m' y.2 w'->dC m' n y.1 c9->bQ m' y.2 w'->iF o.dst.toList a c9->K c9 w'):
 if Region.wanted o (yielded ops a.tmps) then o.wp aV a w K Q\/(o.asks aV a w/\LetsOut Q) else K (a.put o.dst undef) w:=by
 unfold step at h;split at h
 ·exact h.cq.elim
 ·rename_i bj;obtain⟨rz,qv,aa|aa⟩:=aqb a5 h
  ·rw[if_pos aa.1];have aaQ:=a5.congr qv;exact .inl (apG jg aaQ bh bj (λx aO=>aN_ (kE o) aaQ bh aO) aa.2 ev)
  ·rw[aa.1];obtain rfl:=aa.2.eJ;exact ev m _ w (Step.refl ..) ((a5.congr qv).put (Ext.refl m) bj rfl) bh (iF.put _ _ _)
theorem am7 {ops:Array Oper}{ds:List Nat}{Q:Exit->Go.Act->World->Prop}(kE:tY aV E)(jg:r0 aV call):
 ∀(l:List Oper)(k:Nat){m:M}{σ:bU}{F:Fr}{a:Go.Act}{w:World}{y:Fr×bU},(∀i,l[i]?=ops[k+i]?)->(∀o∈l,∀t,o.dst=some t->t∈ds)->dC m n F a->bQ m σ w->
 cV (steps E call n ops l F σ) y->(∀m' c9 w',Step m σ w m' y.2 w'->dC m' n y.1 c9->bQ m' y.2 w'->iF ds a c9->Q .normal c9 w')->
 wpOps aV ops Q (List.range' k l.length) a w
 |[],k,m,σ,F,a,w,y,aW,iL,a5,bh,h,fo=>by
  obtain rfl:=h.eJ;exact fo m a w (Step.refl ..) a5 bh (iF.refl _ _)
 |o::l,k,m,σ,F,a,w,y,aW,iL,a5,bh,h,fo=>by
  have b6:ops[k]?=some o:=by simpa using(aW 0).symm
  rw[gX,List.range'_succ,wpOps_cons];unfold wpOp;simp only[b6];obtain⟨aq,aa,af⟩:=cV.lT h;refine aOs kE jg a5 bh aa λm' c9 w' e qv rF aM=>?_;refine am7 kE jg l (k+1) (λi=>?_) (λfF gu=>iL fF (List.mem_cons_of_mem _ gu)) qv rF af λqG z1 u9 e' aql aqn pW=>fo qG z1 u9 (e.trans bh e') aql aqn ((aM.mono λt bR=>?_).trans pW)
  ·have:=aW (i+1);rw[List.getElem?_cons_succ] at this;rw[this];congr 1;omega
  ·cases bj:o.dst with
   |none=>rw[bj] at bR;simp at bR
   |some k=>rw[bj] at bR;simp at bR;subst bR;exact iL o m2 _ bj
end
def j' (c:C):List Nat:=match c with
 |.ptr (some x)=>[x.1]
 |.row _ _ (.dV k _ _)=>[k]
 |.row _ _ (.at_ id _ _ _ _)=>[id]
 |.a4 id _=>[id]
 |.u7 id _ _ _=>[id]
 |.jZ id _ _ _=>[id]
 |_=>[]
def aci (v:V):List Nat:=match v with
 |.p (.c c)=>j' c
 |_=>[]
def lO (F:Fr)(l:List Operand):List Nat:=l.flatMap λx=>aci (jw x F)
def sK (o:Oper):List Nat:=o.dst.toList++(match o.op with
 |.store _ (.tmp t) _=>[t]
 |_=>[])
def Kept (σ bd:bU)(ws:List Nat):Prop:=∀i,i<σ.next->i∉ws->bd.heap.get i=σ.heap.get i
def qQ (o:Op)(σ:bU)(ws:List Nat):R->Prop
 |.val _ bd=>Kept σ bd ws
 |.skip bd=>Kept σ bd ws
 |.qL t _ bd=>Kept σ bd ws/\∃ty x,o=.store ty (.tmp t) x
 |.call _ _ bd=>bd=σ
def xL (o:Op):np->Prop
 |.read f=>∀F σ bd,(∀i∈lO F o.operands.toList,σ.heap.get i=bd.heap.get i)->f F σ=f F bd
 |.jt f=>∀F σ r,cV (f F σ) r->qQ o σ (lO F o.operands.toList) r
 |_=>True
section
variable{σ bd:bU}{F:Fr}{α:Type}{x y:Operand}{r:R}{E:Env}{o:Op}
theorem Eg {l:List Operand}{x:Operand}(aO:x∈l){c:C}(an:lI (jw x F)=some c){i:Nat}(aj:i∈j' c):i∈lO F l:=by
 refine List.mem_flatMap.2 ⟨x,aO,?_⟩;unfold lI at an;split at an
 ·rename_i c' aT;cases an;rw[aT];exact aj
 ·cases an
theorem Ds {i:Nat}(h:σ.heap.get i=bd.heap.get i)(k:B->Q α):oq σ i k=oq bd i k:=by unfold oq;rw[h]
theorem Uo {k:C->bU->Q α}{l:List Operand}(aO:x∈l)(h:∀i∈lO F l,σ.heap.get i=bd.heap.get i)(aX:∀c,(∀i∈j' c,σ.heap.get i=bd.heap.get i)->k c σ=k c bd):mD x k F σ=mD x k F bd:=by
 unfold mD;cases an:lI (jw x F) with
 |none=>rfl
 |some c=>exact aX c λi aj=>h i (Eg aO an aj)
theorem ata {c:C}(h:∀i∈j' c,σ.heap.get i=bd.heap.get i):vQ c σ=vQ c bd:=by
 unfold vQ z5;split
 ·rfl
 ·exact Ds (h _ (by simp[j'])) _
 ·exact Ds (h _ (by simp[j'])) _
 ·rfl
theorem as_ {k:Nat}{c:C}(h:∀i∈j' c,σ.heap.get i=bd.heap.get i):y7 k c σ=y7 k c bd:=by
 unfold y7 z5;split
 ·rfl
 ·exact Ds (h _ (by simp[j'])) _
 ·split
  ·rfl
  ·exact Ds (h _ (by simp[j'])) _
 ·rfl
theorem aoY {c:C}(h:∀i∈j' c,σ.heap.get i=bd.heap.get i):x9 c σ=x9 c bd:=by
 unfold x9;split
 ·rfl
 ·rfl
 ·exact Ds (h _ (by simp[j'])) _
 ·rfl
theorem Tz {ws:List Nat}{b:B}{n:Nat}:Kept σ ⟨σ.heap.put σ.next (some b),n⟩ ws:=λi aj _=>bI.T.eQ _ _ ab
theorem Ey {ws:List Nat}{b:B}{c:C}(h:cV (zl b c σ) r):qQ o σ ws r:=by
 obtain rfl:=h.eJ;exact Tz
theorem IM {t:dk}{d:C}{k:L (D t)->List Bool->Q R}(h:cV (rX t d σ k) r):∃l gr,cV (k l gr) r:=by
 unfold rX at h;split at h
 ·exact⟨_,_,h⟩
 ·obtain⟨_,_,h⟩:=nx h
  ·split at h
   ·split at h
    ·split at h
     ·exact⟨_,_,h⟩
     ·exact h.cq.elim
    ·exact h.cq.elim
   ·exact h.cq.elim
 ·split at h
  ·exact⟨_,_,h⟩
  ·exact h.cq.elim
 ·obtain⟨_,_,h⟩:=nx h
  ·split at h
   ·split at h
    ·exact⟨_,_,h⟩
    ·exact h.cq.elim
   ·exact h.cq.elim
 ·split at h
  ·obtain⟨l,_,h⟩:=h.nh;exact⟨_,_,h⟩
  ·exact h.cq.elim
 ·exact h.cq.elim
theorem RD {t:dk}{e5 k:Nat}{l eG:L (D t)}{nl gr:List Bool}{ws:List Nat}{jB:bU}(h:cV (z3 t e5 k l nl eG gr σ) r)(ba:jB.next<=σ.next)(aX:k∈ws\/jB.next<=k)(aM:Kept jB σ ws):qQ o jB ws r:=by
 obtain⟨gh,_,h⟩:=h.nh;obtain rfl:=h.eJ;intro i aj az;show((σ.heap.put k none).put σ.next _).get i=_;rw[bI.T.eQ _ _ ab,bI.T.eQ _ _ (by rcases aX with aX|aX;(exactλe=>az (e▸aX));omega)];exact aM i aj az
theorem Y8 {t:dk}{a3:List Bool}{e5 k:Nat}{l eG:L (D t)}{ws:List Nat}{jB:bU}(h:cV (Jk t a3 e5 k l eG σ) r)(ba:jB.next<=σ.next)(aX:k∈ws\/jB.next<=k)(aM:Kept jB σ ws):qQ o jB ws r:=by
 obtain⟨gh,_,h⟩:=h.nh;obtain rfl:=h.eJ;intro i aj az;show((σ.heap.put k none).put σ.next _).get i=_;rw[bI.T.eQ _ _ ab,bI.T.eQ _ _ (by rcases aX with aX|aX;(exactλe=>az (e▸aX));omega)];exact aM i aj az
theorem Y' {e5 sz:Nat}{ty:Option dk}{jN:Option wz}{c d:C}{ws:List Nat}(hw:∀i∈j' c,i∈ws)(h:cV (app e5 sz ty jN c d σ) r):qQ o σ ws r:=by
 unfold app at h;split at h
 ·split at h
  ·split at h
   ·split at h
    ·obtain⟨l,gr,h⟩:=IM h;split at h
     ·exact Y8 h (by simp) (.inr (Nat.le_refl _)) Tz
     ·exact h.cq.elim
    ·obtain⟨l,gr,h⟩:=IM h;exact RD h (by simp) (.inr (Nat.le_refl _)) Tz
   ·exact h.cq.elim
  ·exact h.cq.elim
 ·obtain⟨_,_,h⟩:=nx h
  ·split at h
   ·split at h
    ·obtain⟨l,gr,h⟩:=IM h;exact RD h (Nat.le_refl _) (.inl (hw _ (by simp[j']))) λi _ _=>rfl
    ·exact h.cq.elim
   ·exact h.cq.elim
 ·rename_i id c_ n xE f;obtain⟨_,_,h⟩:=nx h
  ·split at h
   ·split at h
    ·split at h
     ·split at h
      ·obtain⟨l,gr,h⟩:=IM h;refine RD h (by simp) (.inr (Nat.le_refl _)) λi aj az=>?_;show((σ.heap.put id _).put σ.next _).get i=_;rw[bI.T.eQ _ _ ab,bI.T.eQ _ _ (λe=>az (hw _ (by simp[j',e])))]
      ·exact h.cq.elim
     ·exact h.cq.elim
    ·exact h.cq.elim
   ·exact h.cq.elim
 ·obtain⟨_,_,h⟩:=nx h
  ·split at h
   ·split at h
    ·obtain⟨l,gr,h⟩:=IM h;split at h
     ·exact Y8 h (Nat.le_refl _) (.inl (hw _ (by simp[j']))) λi _ _=>rfl
     ·exact h.cq.elim
    ·exact h.cq.elim
   ·exact h.cq.elim
 ·exact h.cq.elim
theorem TA {ws:List Nat}{k n:Nat}{b:Option B}(aX:k∈ws):Kept σ ⟨σ.heap.put k b,n⟩ ws:=λi _ az=>bI.T.eQ _ _ λe=>az (e▸aX)
theorem acC {ws:List Nat}{k i n:Nat}{b c:Option B}(aX:k∈ws)(aj:i∈ws):Kept σ ⟨(σ.heap.put k b).put i c,n⟩ ws:=λj _ az=>by
 show((σ.heap.put k b).put i c).get j=_;have aa:j≠i:=λe=>az (by rw[e];exact aj);have af:j≠k:=λe=>az (by rw[e];exact aX);rw[bI.T.eQ _ _ aa,bI.T.eQ _ _ af]
theorem aOt {sz:Nat}{bY:Option (Nat×dk)}{c:C}{v:P}{ws:List Nat}(hw:∀i∈j' c,i∈ws)(aT:∀d,v=.c d->∀i∈j' d,i∈ws)(ai:∀q,bY=some q->∃ty x,o=.store ty (.tmp q.1) x)(h:cV (xC sz bY c v σ) r):qQ o σ ws r:=by
 unfold xC at h;split at h
 ·exact h.cq.elim
 split at h
 ·obtain⟨_,_,h⟩:=nx h
  ·split at h
   ·split at h
    ·split at h
     ·obtain rfl:=h.eJ;exact TA (hw _ (by simp[j']))
     ·split at h
      ·obtain⟨y,_,h⟩:=gR h;obtain rfl:=h.eJ;exact⟨TA (hw _ (by simp[j'])),ai _ rfl⟩
      ·exact h.cq.elim
    ·exact h.cq.elim
   ·exact h.cq.elim
 ·obtain⟨_,_,h⟩:=nx h
  ·split at h
   ·split at h
    ·exact h.cq.elim
    ·split at h
     ·exact h.cq.elim
     ·split at h
      ·split at h
       ·obtain⟨e,_,h⟩:=h.nh;obtain⟨e',_,h⟩:=gR h;obtain rfl:=h.eJ;exact TA (hw _ (by simp[j']))
       ·exact h.cq.elim
      ·split at h
       ·split at h
        ·split at h
         ·obtain⟨e,_,h⟩:=h.nh;obtain⟨e',_,h⟩:=gR h;split at h
          ·obtain rfl:=h.eJ;exact acC (aT _ rfl _ (by simp[j'])) (hw _ (by simp[j']))
          ·split at h
           ·rcases h.vU with⟨_,h⟩|⟨_,h⟩
            ·obtain rfl:=h.eJ;exact acC (aT _ rfl _ (by simp[j'])) (hw _ (by simp[j']))
            ·exact h.cq.elim
           ·exact h.cq.elim
         ·exact h.cq.elim
        ·exact h.cq.elim
       ·exact h.cq.elim
   ·exact h.cq.elim
 ·exact h.cq.elim
theorem ayy {k:P->Q α}{z:α}(h:cV (uX x k F) z):∃c,cV (k c) z:=by
 obtain⟨c,_,h⟩:=gR h;exact⟨c,h⟩
theorem aOo {t:dk}{len sz:Nat}{z:List C}{l:List (Nat×Operand)}{ws:List Nat}(h:cV (XV t len sz z l F σ) r):qQ o σ ws r:=by
 obtain⟨y,_,h⟩:=gR h;exact Ey h
theorem aOl {a3:List Bool}{t:dk}{len sz:Nat}{z:List C}{l:List (Nat×Operand)}{ws:List Nat}(h:cV (XU a3 t len sz z l F σ) r):qQ o σ ws r:=by
 obtain⟨y,_,h⟩:=gR h;split at h
 ·exact Ey h
 ·exact h.cq.elim
theorem atm {a3:List Bool}{t:dk}{sz e5:Nat}{z:List C}{c:C}{ws:List Nat}(h:cV (y_ a3 t sz e5 z c σ) r):qQ o σ ws r:=by
 unfold y_ at h;split at h
 ·split at h
  ·split at h
   ·obtain⟨l,_,h⟩:=h.nh;exact Ey h
   ·exact h.cq.elim
  ·exact h.cq.elim
 ·exact h.cq.elim
theorem ao0 {c:C}{ws:List Nat}(h:cV (CW c σ) r):qQ o σ ws r:=by
 unfold CW at h;split at h
 ·obtain⟨_,_,h⟩:=nx h
  ·split at h
   ·split at h
    ·split at h
     ·exact h.cq.elim
     ·obtain rfl:=h.eJ;exactλi _ _=>rfl
    ·exact h.cq.elim
   ·exact h.cq.elim
 ·exact h.cq.elim
theorem aOu {c:C}{ws:List Nat}(h:cV (QY c σ) r):qQ o σ ws r:=by
 unfold QY at h;split at h
 ·obtain⟨l,_,h⟩:=h.nh;exact Ey h
 ·exact h.cq.elim
theorem Un {k:C->bU->Q α}{z:α}(h:cV (mD x k F σ) z):∃c,lI (jw x F)=some c/\cV (k c σ) z:=gR h
theorem aos {e5 sz:Nat}{ty:Option dk}{jN:Option wz}{l:List Operand}(aO:x∈l)(h:cV (zu x y (QZ (app e5 sz ty jN)) F σ) r):qQ o σ (lO F l) r:=by
 obtain⟨c,an,h⟩:=gR h;obtain⟨d,bj,h⟩:=gR h;unfold QZ at h;split at h
 ·exact Y' (λi aj=>Eg aO an aj) h
 ·exact h.cq.elim
theorem aor {e5 sz:Nat}{ty:Option dk}{jN:Option wz}{l:List Operand}(aO:x∈l)(h:cV (zu x y (Lv (app e5 sz ty jN)) F σ) r):qQ o σ (lO F l) r:=by
 obtain⟨c,an,h⟩:=gR h;obtain⟨d,bj,h⟩:=gR h;unfold Lv at h;split at h
 ·exact h.cq.elim
 ·exact Y' (λi aj=>Eg aO an aj) h
theorem XZ {sz:Nat}{bY:Option (Nat×dk)}{l:List Operand}(aO:x∈l)(cf:y∈l)(ai:∀q,bY=some q->∃ty x,o=.store ty (.tmp q.1) x)(h:cV (A5 x y (xC sz bY) F σ) r):qQ o σ (lO F l) r:=by
 obtain⟨c,an,h⟩:=gR h;obtain⟨d,bj,h⟩:=gR h;refine aOt (λi aj=>Eg aO an aj) (λd' vC i aj=>?_) ai h;refine Eg (c:=d') cf ?_ aj;unfold wG at bj;split at bj
 ·rename_i jn ase;cases bj;rw[ase,vC];rfl
 ·cases bj
theorem aoH {c:Call}{b:Builtin}(an:c.callee=.builtin b){dst:Option Nat}:xL (.call c) (Eh E dst b c.argTypes.toList c.args.toList):=by
 have b6:(Op.call c).operands.toList=c.args.toList:=by simp[Op.operands,Call.operands,an]
 unfold Eh;split
 ·split<;>trivial
 ·rename_i t t' x y pX aW;split
  ·split
   ·split
    ·intro F σ r h;rw[b6,aW];exact aos m2 h
    ·intro F σ r h;rw[b6,aW];exact aor m2 h
    ·trivial
   ·trivial
  ·trivial
 ·trivial
 ·trivial
 ·trivial
theorem atv {op:BinOp}:xL o (mkInt op x y):=by cases op<;>trivial
theorem atB {op:BinOp}:xL o (mkStr op x y):=by cases op<;>trivial
theorem ac7 {k:sY}{op:BinOp}:xL o (AT k op x y):=by cases op<;>trivial
theorem aty {op:BinOp}:xL o (Ei op x y):=by cases op<;>trivial
theorem Rz (dst:Option Nat)(o:Op):xL o (act E dst o):=by
 cases o with
 |alloc e=>simp only[act];split<;>trivial
 |box e x=>
  simp only[act];split
  ·split<;>trivial
  ·intro F σ r h;obtain⟨c,h⟩:=ayy h;exact Ey h
 |build t ct=>simp only[act];split<;>(try split)<;>trivial
 |buildSlice t k ct=>
  simp only[act];split
  ·split
   ·split
    ·split
     ·exactλF σ r h=>aOl h
     ·exactλF σ r h=>aOo h
     ·trivial
    ·trivial
   ·trivial
  ·trivial
 |load t x=>
  simp only[act];split
  ·exactλF σ bd h=>Uo (l:=(Op.load t x).operands.toList) (by simp[Op.operands]) h λc an=>as_ an
  ·exactλF σ bd h=>Uo (l:=(Op.load t x).operands.toList) (by simp[Op.operands]) h λc an=>ata an
  ·trivial
 |store t x y=>
  simp only[act];have aO:x∈(Op.store t x y).operands.toList:=by simp[Op.operands]
  have cf:y∈(Op.store t x y).operands.toList:=by simp[Op.operands]
  split
  ·split
   ·rename_i Q0;split
    ·split
     ·exactλF σ r h=>XZ aO cf (λq aA=>by cases aA;exact⟨t,y,rfl⟩) h
     ·trivial
    ·exactλF σ r h=>XZ aO cf (λq aA=>by cases aA) h
   ·exactλF σ r h=>XZ aO cf (λq aA=>by cases aA) h
  ·trivial
 |binOp op t x y sS=>
  simp only[act,mkBin];split
  ·split
   ·exact atv
   ·exact atB
   ·exact ac7
   ·exact aty
   ·split
    ·exact ac7
    ·trivial
  ·trivial
 |unOp op t x=>cases op<;>trivial
 |convert s d x=>
  simp only[act];split
  ·trivial
  ·trivial
  ·split
   ·exactλF σ bd h=>Uo (l:=(Op.convert s d x).operands.toList) (by simp[Op.operands]) h λc an=>aoY an
   ·trivial
  ·split
   ·intro F σ r h;obtain⟨c,_,h⟩:=Un h;exact aOu h
   ·trivial
  ·split
   ·intro F σ r h;obtain⟨c,_,h⟩:=Un h;exact ao0 h
   ·trivial
  ·trivial
 |makeFunc fn first cap=>simp only[act];split<;>trivial
 |makeSlice t l c=>
  have key:∀{a3:List Bool}{ty:dk}{sz e5:Nat}{z:List C},xL (.makeSlice t l c) (.jt (mD l (y_ a3 ty sz e5 z))):=λ{a3 ty sz e5 z} F σ r h=>by
   obtain⟨c,_,h⟩:=Un h;exact atm h
  simp only[act];split
  ·split
   ·split
    ·split
     ·split
      ·split
       ·exact key
       ·trivial
      ·split
       ·split
        ·exact key
        ·trivial
       ·trivial
      ·trivial
     ·trivial
    ·trivial
   ·trivial
  ·trivial
 |slice t x dA aj xm=>simp only[act];split<;>(try split)<;>(try split)<;>trivial
 |fieldAddr t x f=>simp only[act];split<;>(try split)<;>trivial
 |field t x f=>simp only[act];split<;>(try split)<;>trivial
 |indexAddr t x i=>simp only[act];split<;>(try split)<;>(try split)<;>(try split)<;>trivial
 |index t x i=>simp only[act];split<;>trivial
 |call c=>
  simp only[act];split
  ·rename_i b an;exact aoH an
  ·split
   ·intro F σ r h;obtain rfl:=h.eJ;rfl
   ·intro F σ r h;unfold JA at h;split at h
    ·obtain rfl:=h.eJ;rfl
    ·exact h.cq.elim
   ·trivial
  ·trivial
 |_=>trivial
end
structure qf where
  i:Nat
  o:Oper
  mask:Nat
def KX (acc:T Nat)(j:Nat):List Edge->Option Nat
 |[]=>some 0
 |e::l=>match KX acc j l with
  |none=>none
  |some s=>match Region.binds .any e with
   |false=>some s
   |true=>match Nat.ble (Nat.succ e.on) j with
    |false=>none
    |true=>match acc.get e.on with
     |some a=>some (Nat.lor s (Nat.lor (Nat.pow 2 e.on) a))
     |none=>none
def A_ (acc:T Nat)(j:Nat):List Oper->Option (List qf)
 |[]=>some []
 |o::l=>match KX acc j o.after.toList with
  |none=>none
  |some s=>match A_ (acc.put j (some s)) (Nat.succ j) l with
   |none=>none
   |some r=>some (⟨j,o,s⟩::r)
def np.oy (a:np):Bool:=match a with
 |.jt _=>true
 |_=>false
def np.aco (a:np):Bool:=match a with
 |.alloc _=>true
 |_=>false
def vv (x:Nat):List Nat->Bool
 |[]=>false
 |y::l=>match Nat.beq x y with
  |true=>true
  |false=>vv x l
def AA (l r:List Nat):Bool:=l.any λx=>vv x r
def looks (ops:Array Oper)(o:Oper):List Nat:=o.looksAt ops
def zk (ops:Array Oper)(o:Oper):List Nat:=sK o++looks ops o
def tf (E:Env)(ops:Array Oper)(a b:Oper):Bool:=
 ((act E a.dst a.op).oy&&(act E b.dst b.op).oy)||AA (sK a) (zk ops b)||AA (sK b) (zk ops a)
def bit (s i:Nat):Bool:=Nat.testBit s i
def Fo (E:Env)(ops:Array Oper):List qf->Bool
 |[]=>true
 |a::l=>(l.all λb=> !tf E ops a.o b.o||bit b.mask a.i)&&Fo E ops l
def IG (E:Env)(ops:Array Oper):Bool:=match A_ .nil 0 ops.toList with
 |some l=>Fo E ops l
 |none=>false
def YG (M:Nat->Nat)(i:Nat)(o:Oper):Prop:=(∀e∈o.after.toList,Region.binds .any e=true->e.on<i)/\∀p,bit (M i) p=true->∃e∈o.after.toList,Region.binds .any e=true/\(p=e.on\/bit (M e.on) p=true)
theorem Zk (a b p:Nat):bit (Nat.lor a b) p=(bit a p||bit b p):=Nat.testBit_or a b p
theorem aox (e p:Nat)(h:bit (Nat.pow 2 e) p=true):p=e:=by
 have h:Nat.testBit (2^e) p=true:=h;rw[Nat.testBit_two_pow] at h;exact(of_decide_eq_true h).symm
theorem ac3 {acc:T Nat}{j:Nat}{M:Nat->Nat}(Dz:∀i a,acc.get i=some a->a=M i):∀{l:List Edge}{s:Nat},KX acc j l=some s->
 (∀e∈l,Region.binds .any e=true->e.on<j)/\∀p,bit s p=true->∃e∈l,Region.binds .any e=true/\(p=e.on\/bit (M e.on) p=true)
 |[],s,h=>by
  cases h;exact⟨(λe he=>by cases he),λp bL=>by simp[bit] at bL⟩
 |e::l,s,h=>by
  rw[KX] at h;split at h
  ·cases h
  ·rename_i eE pW;obtain⟨aa,af⟩:=ac3 Dz pW;split at h
   ·rename_i ah;cases h;refine⟨λe' fA uz=>?_,λp bL=>?_⟩
    ·rcases List.mem_cons.1 fA with rfl|fA
     ·rw[ah] at uz;cases uz
     ·exact aa e' fA uz
    ·obtain⟨e',aI,aQ⟩:=af p bL;exact⟨e',by simp[aI],aQ⟩
   ·rename_i ah;split at h
    ·cases h
    ·rename_i bl;have bl:=Nat.le_of_ble_eq_true bl;split at h
     ·rename_i a bZ;cases h;have bZ:=Dz _ _ bZ;refine⟨λe' fA uz=>?_,λp bL=>?_⟩
      ·rcases List.mem_cons.1 fA with rfl|fA
       ·exact bl
       ·exact aa e' fA uz
      ·rw[Zk,Zk,Bool.or_eq_true,Bool.or_eq_true] at bL;rcases bL with bL|bL|bL
       ·obtain⟨e',aI,aQ⟩:=af p bL;exact⟨e',by simp[aI],aQ⟩
       ·exact⟨e,by simp,ah,.inl (aox _ _ bL)⟩
       ·exact⟨e,by simp,ah,.inr (by rw[<-bZ];exact bL)⟩
     ·cases h
theorem agU:∀{l:List Oper}{j:Nat}{acc:T Nat}{ds:List qf}{vh:Nat->Nat},A_ acc j l=some ds->(∀i a,acc.get i=some a->i<j/\a=vh i)->
 ∃M:Nat->Nat,(∀i,i<j->M i=vh i)/\ds.length=l.length/\∀idx o,l[idx]?=some o->ds[idx]?=some ⟨j+idx,o,M (j+idx)⟩/\YG M (j+idx) o
 |[],j,acc,ds,vh,h,_=>by cases h;exact⟨vh,λ_ _=>rfl,rfl,λidx o b6=>by simp at b6⟩
 |o::l,j,acc,ds,vh,h,Dz=>by
  rw[A_] at h;split at h
  ·cases h
  ·rename_i s aM;split at h
   ·cases h
   ·rename_i aPg iL;cases h;obtain⟨aI,aQ⟩:=ac3 (λi a bZ=>(Dz i a bZ).2) aM;obtain⟨M,bn,bB,dc⟩:=agU (vh:=λi=>if i=j then s else vh i) iL λi a bZ=>by
     rw[bI.T.m8] at bZ;split at bZ
     ·rename_i he;cases bZ;exact⟨ab,by simp[he]⟩
     ·rename_i he;obtain⟨aa,af⟩:=Dz i a bZ;exact⟨ab,by simp[he,af]⟩
    have aaT:M j=s:=by rw[bn j ab];simp
    have ux:∀i,i<j->M i=vh i:=λi aj=>by rw[bn i ab];simp;omega
    refine⟨M,ux,by simp[bB],λidx fF b6=>?_⟩;cases idx with
    |zero=>
     simp at b6;subst b6;refine⟨by simp[aaT],aI,λp bL=>?_⟩;rw[cv,aaT] at bL;obtain⟨e,aE,aP,bS⟩:=aQ p bL;exact⟨e,aE,aP,bS.imp id λh=>by rw[ux _ (aI e aE aP)];exact h⟩
    |succ idx=>
     rw[List.getElem?_cons_succ] at b6;obtain⟨aE,aP⟩:=dc idx fF b6;rw[List.getElem?_cons_succ,aE,show j+(idx+1)=j+1+idx by omega];exact⟨rfl,aP⟩
theorem agN {E:Env}{ops:Array Oper}:∀{l:List qf},Fo E ops l=true->∀{i j:Nat}{a b:qf},i<j->l[i]?=some a->l[j]?=some b->tf E ops a.o b.o=true->bit b.mask a.i=true
 |[],_,i,j,a,b,_,aj,_,_=>by simp at aj
 |d::l,h,0,j+1,a,b,uE,aj,aw,an=>by
  simp only[Fo,gQ,List.all_eq_true] at h;simp at aj aw;subst aj;have:=h.1 b (List.mem_of_getElem? aw);simp[an] at this;exact this
 |d::l,h,i+1,j+1,a,b,uE,aj,aw,an=>by
  simp only[Fo,gQ] at h;exact agN (i:=i) (j:=j) h.2 ab (by simpa using aj) (by simpa using aw) an
 |d::l,h,i,0,a,b,uE,aj,aw,an=>by omega
theorem yx (x:Nat):∀(l:List Nat),vv x l=true↔x∈l
 |[]=>by simp[vv]
 |y::l=>by
  rw[vv];split
  ·rename_i h;have:=gB h;simp[this]
  ·rename_i h;have:x≠y:=λe=>by subst e;rw[Nat.beq_refl] at h;cases h
   simp[yx x l,this]
theorem abv (l r:List Nat):AA l r=true↔∃x,x∈l/\x∈r:=by
 unfold AA;rw[List.any_eq_true];constructor
 ·rintro⟨x,aa,af⟩;exact⟨x,aa,(yx _ _).1 af⟩
 ·rintro⟨x,aa,af⟩;exact⟨x,aa,(yx _ _).2 af⟩
structure oO where
  i:Nat
  mask:Nat
  ids:List Nat
  cell:Option (Nat×Nat)
structure rD where
  i:Nat
  mask:Nat
  ids:List Nat
  ei:Nat
  gF:List (Nat×Nat)
def zR (σ:bU)(y x:Nat×Nat):Prop:=∃cs,σ.heap.get y.1=some (.box cs)/\cs[y.2]?=some (.ptr (some x))
def zG (b:Nat):Nat->List C->List C->List (Nat×Nat)
 |o,c::cs,c'::lL=>match c,c' with
  |.ptr (some x),.ptr (some y)=>match Nat.beq x.1 y.1&&Nat.beq x.2 y.2 with
   |true=>(b,o)::zG b (Nat.succ o) cs lL
   |false=>zG b (Nat.succ o) cs lL
  |_,_=>zG b (Nat.succ o) cs lL
 |_,_,_=>[]
def uJ (σ bd:bU)(ids:List Nat):List (Nat×Nat):=ids.flatMap λb=>match σ.heap.get b with
 |some (.box cs)=>match bd.heap.get b with
  |some (.box lL)=>zG b 0 cs lL
  |_=>[]
 |_=>[]
def aa0 (y:Nat×Nat)(l:List (Nat×Nat)):Bool:=l.any λz=>Nat.beq z.1 y.1&&Nat.beq z.2 y.2
theorem am2 {b:Nat}:∀{cs lL:List C}{o:Nat}{y:Nat×Nat},y∈zG b o cs lL->y.1=b/\∃k x,y.2=o+k/\cs[k]?=some (.ptr (some x))/\lL[k]?=some (.ptr (some x))
 |[],lL,o,y,h=>by cases h
 |c::cs,[],o,y,h=>by cases c<;>cases h
 |c::cs,c'::lL,o,y,h=>by
  have next:y∈zG b (Nat.succ o) cs lL->y.1=b/\∃k x,y.2=o+k/\(c::cs)[k]?=some (.ptr (some x))/\(c'::lL)[k]?=some (.ptr (some x)):=λh=>by
   obtain⟨aa,k,x,af,ax,a8⟩:=am2 h;exact⟨aa,k+1,x,ab,by simpa using ax,by simpa using a8⟩
  unfold zG at h;split at h
  ·rename_i x mI;split at h
   ·rename_i ah;rw[gQ] at ah;rcases List.mem_cons.1 h with rfl|h
    ·have e:x=mI:=Prod.ext (gB ah.1) (gB ah.2);subst e;exact⟨rfl,0,x,rfl,rfl,rfl⟩
    ·exact next h
   ·exact next h
  ·exact next h
theorem asQ {σ bd:bU}{ids:List Nat}{y:Nat×Nat}(h:aa0 y (uJ σ bd ids)=true):∃x,zR σ y x/\zR bd y x:=by
 obtain⟨z,ai,ah⟩:=List.any_eq_true.1 h;rw[gQ] at ah;have e:z=y:=Prod.ext (gB ah.1) (gB ah.2);subst e;obtain⟨b,_,af⟩:=List.mem_flatMap.1 ai;split at af
 ·rename_i cs ax;split at af
  ·rename_i lL a8;obtain⟨cx,k,x,cI,dw,fh⟩:=am2 af;subst cx;rw[gd] at cI;exact⟨x,⟨cs,ax,by rw[cI];exact dw⟩,lL,a8,by rw[cI];exact fh⟩
  ·cases af
 ·cases af
def cellOf (E:Env)(F:Fr)(o:Op):Option (Nat×Nat):=match o with
 |.load t a=>match bI.isAgg E.cC t with
  |some false=>match lI (jw a F) with
   |some (.ptr (some y))=>some y
   |_=>none
  |_=>none
 |_=>none
theorem aoQ {E:Env}{dst:Option Nat}{o:Op}{f:Fr->bU->Q V}{F:Fr}{σ bd:bU}{y x:Nat×Nat}(h:act E dst o=.read f)(an:cellOf E F o=some y)(aa:zR σ y x)(af:zR bd y x):f F σ=f F bd:=by
 unfold cellOf at an;split at an
 ·rename_i t a;split at an
  ·rename_i aqD;split at an
   ·rename_i mI bZ;cases an;have bE:f=mD a vQ:=by
     simp only[act,aqD] at h;cases h;rfl
    subst bE;obtain⟨cs,aI,aQ⟩:=aa;obtain⟨lL,bq,cA⟩:=af;simp only[mD,bZ,Q.lift,vQ,oq,aI,bq,zq,aQ,cA]
   ·cases an
  ·cases an
 ·cases an
theorem aoP {E:Env}{F:Fr}{o:Op}{y:Nat×Nat}(an:cellOf E F o=some y):y.1∈lO F o.operands.toList:=by
 unfold cellOf at an;split at an
 ·rename_i t a;split at an
  ·split at an
   ·rename_i mI bZ;cases an;refine List.mem_flatMap.2 ⟨a,by simp[Op.operands],?_⟩;unfold lI at bZ;split at bZ
    ·rename_i c aT;cases bZ;rw[aT];simp[aci,j']
    ·cases bZ
   ·cases an
  ·cases an
 ·cases an
def agG (ids ws:List Nat)(ei:Nat):Bool:=ids.all λx=> !vv x ws&&Nat.ble (Nat.succ x) ei
def QE (r:oO)(b:rD):Bool:=agG r.ids b.ids b.ei||(match r.cell with
 |some y=>aa0 y b.gF
 |none=>false)
def QF (r:oO)(b:rD):Bool:=match Nat.ble (Nat.succ b.i) r.i with
 |true=>bit r.mask b.i||QE r b
 |false=>bit b.mask r.i||QE r b
def aoS (kK:List oO)(jy:List rD):Bool:=kK.all λr=>jy.all λb=>QF r b
def jM (l:List Nat)(g:Nat->V):Fr:=l.map λt=>(t,g t)
theorem ayA (l:List Nat)(g:Nat->V)(t:Nat):gN (jM l g) t=if t∈l then g t else .any:=by
 induction l with
 |nil=>rfl
 |cons x l cu=>
  show gN (rp (jM l g) x (g x)) t=_;rw[vu,cu];by_cases h:t=x
  ·subst h;simp
  ·simp[h]
structure Yo where
  v:V
  iC:Option (Nat×V)
  s:bU
  kK:List oO
  jy:List rD
structure Yp where
  F:Fr
  s:bU
  kK:List oO
  jy:List rD
def MF (iC:Option (Nat×V))(F:Fr):Fr:=match iC with
 |some x=>rp F x.1 x.2
 |none=>F
def Sc (E:Env)(call:lk)(ops:Array Oper)(d:qf)(x:Nat)(g:Nat->V)(σ:bU):Q Yo:=match act E d.o.dst d.o.op with
 |.pure f=>(f (jM (looks ops d.o) g)).lB λv=>.ret ⟨v,none,σ,[],[]⟩
 |.made f=>(f (jM (looks ops d.o) g)).lB λv=>.ret ⟨v,none,σ,[],[]⟩
 |.read f=>(f (jM (looks ops d.o) g) σ).lB λv=>.ret ⟨v,none,σ,[⟨d.i,d.mask,lO (jM (looks ops d.o) g) d.o.op.operands.toList,cellOf E (jM (looks ops d.o) g) d.o.op⟩],[]⟩
 |.alloc z=>.ret ⟨.c (.ptr (some (x,0))),none,σ,[],[]⟩
 |.jt f=>(f (jM (looks ops d.o) g) σ).lB λr=>match r with
  |.val v bd=>.ret ⟨v,none,bd,[],[⟨d.i,d.mask,lO (jM (looks ops d.o) g) d.o.op.operands.toList,σ.next,uJ σ bd (lO (jM (looks ops d.o) g) d.o.op.operands.toList)⟩]⟩
  |.skip bd=>.ret ⟨.undef,none,bd,[],[⟨d.i,d.mask,lO (jM (looks ops d.o) g) d.o.op.operands.toList,σ.next,uJ σ bd (lO (jM (looks ops d.o) g) d.o.op.operands.toList)⟩]⟩
  |.qL t u bd=>.ret ⟨.undef,some (t,u),bd,[],[⟨d.i,d.mask,lO (jM (looks ops d.o) g) d.o.op.operands.toList,σ.next,uJ σ bd (lO (jM (looks ops d.o) g) d.o.op.operands.toList)⟩]⟩
  |.call f args bd=>(call.run f args bd).lB λy=>.ret ⟨y.1,none,y.2,[],[⟨d.i,d.mask,call.wr f args bd,σ.next,uJ σ y.2 (call.wr f args bd)⟩]⟩
 |.bad=>.fail
def xn (E:Env)(o:Oper)(x:Nat):Nat:=match(act E o.dst o.op).aco with
 |true=>Nat.succ x
 |false=>x
def C6 (E:Env)(call:lk)(n:Nat)(ops:Array Oper):List qf->Nat->Fr->bU->Q Yp
 |[],x,F,σ=>.ret ⟨F,σ,[],[]⟩
 |d::l,x,F,σ=>match C5 n d.o.dst with
  |false=>.fail
  |true=>Ap d.o.guard ops F
   (λF=>(Sc E call ops d x (gN F) σ).lB λy=>(C6 E call n ops l (xn E d.o x) (sL d.o.dst y.v (MF y.iC F)) y.s).lB λz=>.ret ⟨z.F,z.s,y.kK++z.kK,y.jy++z.jy⟩)
   λF=>C6 E call n ops l (xn E d.o x) (sL d.o.dst .undef F) σ
def lay (E:Env):List Oper->bU->bU
 |[],σ=>σ
 |o::l,σ=>match act E o.dst o.op with
  |.alloc z=>lay E l ⟨σ.heap.put σ.next (some (.box z)),σ.next+1⟩
  |_=>lay E l σ
def drawn (E:Env)(call:lk)(n:Nat)(ops:Array Oper)(l:List qf)(F:Fr)(σ:bU):Q (Fr×bU):=
 (C6 E call n ops l σ.next F (lay E ops.toList σ)).lB λz=>match aoS z.kK z.jy with
  |true=>.ret (z.F,z.s)
  |false=>.fail
def wq (ops:Array Oper)(o:Oper)(g:Nat->V):Option Bool:=match o.guard with
 |none=>some true
 |some y=>match ops[y.1]? with
  |some q=>match q.dst with
   |some d=>match g d with
    |.p (.c (.bool x))=>some (x==y.2)
    |.undef=>some false
    |_=>none
   |none=>none
  |none=>none
structure qP where
  g:Nat->V
  s:bU
  x:Nat
  v:V
  iC:Option (Nat×V)
instance:Inhabited qP:=⟨⟨λ_=>.any,⟨.nil,0⟩,0,.any,none⟩⟩
def lC (d:Option Nat)(v:V)(iC:Option (Nat×V))(g:Nat->V):Nat->V:=λt=>if d=some t then v else match iC with
 |some y=>if t=y.1 then y.2 else g t
 |none=>g t
theorem ans (d:Option Nat)(v:V)(iC:Option (Nat×V))(F:Fr):gN (sL d v (MF iC F))=lC d v iC (gN F):=by
 funext t;have aa:gN (MF iC F) t=match iC with|some y=>if t=y.1 then y.2 else gN F t|none=>gN F t:=by
  cases iC with
  |none=>rfl
  |some y=>exact vu _ _ _ _
 cases d with
 |none=>simp only[lC,sL];rw[aa];simp
 |some k=>
  simp only[lC,sL];rw[vu,aa];by_cases h:t=k
  ·subst h;simp
  ·rw[if_neg h,if_neg (by simpa usingλe=>h e.symm)]
section
variable(E:Env)(n:Nat)(ops:Array Oper)(call:lk)(kK:List oO)(jy:List rD)
def Cw (d:qf)(e e':qP):np->Prop
 |.pure f=>cV (f (jM (looks ops d.o) e.g)) e.v/\e.iC=none/\e'.s=e.s
 |.made f=>cV (f (jM (looks ops d.o) e.g)) e.v/\e.iC=none/\e'.s=e.s
 |.read f=>cV (f (jM (looks ops d.o) e.g) e.s) e.v/\e.iC=none/\e'.s=e.s/\⟨d.i,d.mask,lO (jM (looks ops d.o) e.g) d.o.op.operands.toList,cellOf E (jM (looks ops d.o) e.g) d.o.op⟩∈kK
 |.alloc z=>e.v=.c (.ptr (some (e.x,0)))/\e.iC=none/\e'.s=e.s
 |.jt f=>∃r,cV (f (jM (looks ops d.o) e.g) e.s) r/\(match r with
  |.val v bd=>e.v=v/\e.iC=none/\e'.s=bd/\⟨d.i,d.mask,lO (jM (looks ops d.o) e.g) d.o.op.operands.toList,e.s.next,uJ e.s bd (lO (jM (looks ops d.o) e.g) d.o.op.operands.toList)⟩∈jy
  |.skip bd=>e.v=.undef/\e.iC=none/\e'.s=bd/\⟨d.i,d.mask,lO (jM (looks ops d.o) e.g) d.o.op.operands.toList,e.s.next,uJ e.s bd (lO (jM (looks ops d.o) e.g) d.o.op.operands.toList)⟩∈jy
  |.qL t u bd=>e.v=.undef/\e.iC=some (t,u)/\e'.s=bd/\⟨d.i,d.mask,lO (jM (looks ops d.o) e.g) d.o.op.operands.toList,e.s.next,uJ e.s bd (lO (jM (looks ops d.o) e.g) d.o.op.operands.toList)⟩∈jy
  |.call f args bd=>cV (call.run f args bd) (e.v,e'.s)/\e.iC=none/\⟨d.i,d.mask,call.wr f args bd,e.s.next,uJ e.s e'.s (call.wr f args bd)⟩∈jy)
 |.bad=>False
def zO (d:qf)(e e':qP):Prop:=C5 n d.o.dst=true/\e'.g=lC d.o.dst e.v e.iC e.g/\e'.x=xn E d.o e.x/\((wq ops d.o e.g=some false/\e.v=.undef/\e.iC=none/\e'.s=e.s)\/(wq ops d.o e.g=some true/\Cw E ops call kK jy d e e' (act E d.o.dst d.o.op)))
end
section
variable{E:Env}{n:Nat}{ops:Array Oper}{call:lk}{kK QG:List oO}{jy Ra:List rD}
theorem Cw.mono {d:qf}{e e':qP}{A:np}(h:Cw E ops call kK jy d e e' A)(aa:∀r∈kK,r∈QG)(af:∀b∈jy,b∈Ra):Cw E ops call QG Ra d e e' A:=by
 cases A with
 |read f=>exact⟨h.1,h.2.1,h.2.2.1,aa _ h.2.2.2⟩
 |jt f=>
  obtain⟨r,aI,aQ⟩:=h;refine⟨r,aI,?_⟩;cases r with
  |val v bd=>exact⟨aQ.1,aQ.2.1,aQ.2.2.1,af _ aQ.2.2.2⟩
  |skip bd=>exact⟨aQ.1,aQ.2.1,aQ.2.2.1,af _ aQ.2.2.2⟩
  |qL t u bd=>exact⟨aQ.1,aQ.2.1,aQ.2.2.1,af _ aQ.2.2.2⟩
  |call f args bd=>exact⟨aQ.1,aQ.2.1,af _ aQ.2.2⟩
 |_=>exact h
theorem zO.mono {d:qf}{e e':qP}(h:zO E n ops call kK jy d e e')(aa:∀r∈kK,r∈QG)(af:∀b∈jy,b∈Ra):zO E n ops call QG Ra d e e':=⟨h.1,h.2.1,h.2.2.1,h.2.2.2.imp id λh=>⟨h.1,h.2.mono aa af⟩⟩
theorem aqc {α:Type}{o:Oper}{F:Fr}{yes no:Fr->Q α}{y:α}(h:cV (Ap o.guard ops F yes no) y):
 ∃rz,gN rz=gN F/\((wq ops o (gN F)=some true/\cV (yes rz) y)\/(wq ops o (gN F)=some false/\cV (no rz) y)):=by
 unfold Ap at h;split at h
 ·rename_i cj;exact⟨F,rfl,.inl ⟨by simp[wq,cj],h⟩⟩
 ·rename_i z cj;obtain⟨j,b⟩:=z;split at h
  ·rename_i q aw;split at h
   ·rename_i d aA;have hw:∀v,gN F d=v->wq ops o (gN F)=(match v with|.p (.c (.bool x))=>some (x==b)|.undef=>some false|_=>none):=λv aT=>by
     subst aT;have aw:ops[j]?=some q:=aw;simp only[wq,cj,aw,aA]
    split at h
    ·split at h
     ·split at h
      ·rename_i x aO;have hw:=hw _ aO;rcases h.vU with⟨nf,ax⟩|⟨nf,ax⟩
       ·refine⟨_,funext (JX aO nf),?_⟩;subst nf;cases b with
        |true=>exact .inl ⟨hw,ax⟩
        |false=>exact .inr ⟨hw,ax⟩
       ·refine⟨_,funext (JX aO nf),?_⟩;subst nf;cases b with
        |true=>exact .inr ⟨hw,ax⟩
        |false=>exact .inl ⟨hw,ax⟩
      ·exact h.cq.elim
     ·exact h.cq.elim
    ·rename_i aO;exact⟨F,rfl,.inr ⟨hw _ aO,h⟩⟩
    ·exact h.cq.elim
   ·exact h.cq.elim
  ·exact h.cq.elim
theorem ao' {d:qf}{x:Nat}{g:Nat->V}{σ:bU}{y:Yo}(h:cV (Sc E call ops d x g σ) y){e':qP}(he:e'.s=y.s):Cw E ops call y.kK y.jy d ⟨g,σ,x,y.v,y.iC⟩ e' (act E d.o.dst d.o.op):=by
 unfold Sc at h;cases dH:act E d.o.dst d.o.op with
 |pure f=>
  rw[dH] at h;obtain⟨v,aa,h⟩:=h.lT;obtain rfl:=h.eJ;exact⟨aa,rfl,he⟩
 |made f=>
  rw[dH] at h;obtain⟨v,aa,h⟩:=h.lT;obtain rfl:=h.eJ;exact⟨aa,rfl,he⟩
 |read f=>
  rw[dH] at h;obtain⟨v,aa,h⟩:=h.lT;obtain rfl:=h.eJ;exact⟨aa,rfl,he,by simp⟩
 |alloc z=>
  rw[dH] at h;obtain rfl:=h.eJ;exact⟨rfl,rfl,he⟩
 |jt f=>
  rw[dH] at h;obtain⟨r,aa,h⟩:=h.lT;refine⟨r,aa,?_⟩;clear aa;cases r with
  |val v bd=>obtain rfl:=h.eJ;exact⟨rfl,rfl,he,by simp⟩
  |skip bd=>obtain rfl:=h.eJ;exact⟨rfl,rfl,he,by simp⟩
  |qL t u bd=>obtain rfl:=h.eJ;exact⟨rfl,rfl,he,by simp⟩
  |call f args bd=>
   obtain⟨z,af,h⟩:=h.lT;obtain rfl:=h.eJ;refine⟨?_,rfl,by rw[he];simp⟩;rw[he];exact af
 |bad=>rw[dH] at h;exact h.cq.elim
theorem Sd:∀{l:List qf}{x:Nat}{F:Fr}{σ:bU}{z:Yp},cV (C6 E call n ops l x F σ) z->
 ∃es:List qP,es.length=l.length+1/\(∃gv,es[0]?=some gv/\gv.g=gN F/\gv.s=σ/\gv.x=x)/\(∃aE,es[l.length]?=some aE/\aE.g=gN z.F/\aE.s=z.s)/\
  ∀idx d e e',l[idx]?=some d->es[idx]?=some e->es[idx+1]?=some e'->zO E n ops call z.kK z.jy d e e'
 |[],x,F,σ,z,h=>by
  obtain rfl:=h.eJ;exact⟨[⟨gN F,σ,x,.any,none⟩],rfl,⟨_,rfl,rfl,rfl,rfl⟩,⟨_,rfl,rfl,rfl⟩,λidx d e e' bj=>by simp at bj⟩
 |d::l,x,F,σ,z,h=>by
  unfold C6 at h;split at h
  ·exact h.cq.elim
  ·rename_i bj;obtain⟨rz,qv,⟨hw,aa⟩|⟨hw,aa⟩⟩:=aqc h
   ·obtain⟨y,af,ax⟩:=aa.lT;obtain⟨fB,a8,cn⟩:=ax.lT;obtain rfl:=cn.eJ;obtain⟨es,aI,⟨gv,aQ,bq,cA,eP⟩,⟨aE,fy,gz,hJ⟩,ic⟩:=Sd a8;refine⟨⟨gN F,σ,x,y.v,y.iC⟩::es,by simp[aI],⟨_,rfl,rfl,rfl,rfl⟩,⟨aE,by simpa using fy,gz,hJ⟩,λidx d' e e' da dS ez=>?_⟩;cases idx with
    |zero=>
     simp at da dS ez;subst da dS;rw[aQ] at ez;cases ez;rw[qv] at af;refine⟨bj,?_,eP,.inr ⟨hw,(ao' af cA).mono (λr aU=>List.mem_append_left _ aU) λr aU=>List.mem_append_left _ aU⟩⟩;rw[bq,ans,qv]
    |succ idx=>
     exact(ic idx d' e e' (by simpa using da) (by simpa using dS) (by simpa using ez)).mono (λr aU=>List.mem_append_right _ aU) λr aU=>List.mem_append_right _ aU
   ·obtain⟨es,aI,⟨gv,aQ,bq,cA,eP⟩,⟨aE,fy,gz,hJ⟩,ic⟩:=Sd aa;refine⟨⟨gN F,σ,x,.undef,none⟩::es,by simp[aI],⟨_,rfl,rfl,rfl,rfl⟩,⟨aE,by simpa using fy,gz,hJ⟩,λidx d' e e' da dS ez=>?_⟩;cases idx with
    |zero=>
     simp at da dS ez;subst da dS;rw[aQ] at ez;cases ez;refine⟨bj,?_,eP,.inl ⟨hw,rfl,rfl,cA⟩⟩;rw[bq];show gN (sL _ _ (MF none rz))=_;rw[ans,qv]
    |succ idx=>exact ic idx d' e e' (by simpa using da) (by simpa using dS) (by simpa using ez)
theorem TI:∀{l:List Oper}{σ:bU},σ.next<=(lay E l σ).next/\∀i,i<σ.next->(lay E l σ).heap.get i=σ.heap.get i
 |[],σ=>⟨Nat.le_refl _,λ_ _=>rfl⟩
 |o::l,σ=>by
  unfold lay;split
  ·rename_i z ai;obtain⟨aa,af⟩:=TI (l:=l) (σ:=⟨σ.heap.put σ.next (some (.box z)),σ.next+1⟩);refine⟨Nat.le_of_succ_le aa,λi aj=>?_⟩;rw[af i (Nat.lt_succ_of_lt aj)];exact bI.T.eQ _ _ ab
  ·exact TI
theorem TH:∀{l:List Oper}{σ:bU}{x:Nat->Nat},x 0=σ.next->(∀idx o,l[idx]?=some o->x (idx+1)=xn E o (x idx))->
 ∀idx o z,l[idx]?=some o->act E o.dst o.op=.alloc z->σ.next<=x idx/\x idx<(lay E l σ).next/\(lay E l σ).heap.get (x idx)=some (.box z)
 |[],σ,x,ba,aM,idx,o,z,aj,ai=>by simp at aj
 |o::l,σ,x,ba,aM,idx,fF,fB,aj,ai=>by
  have aa:=aM 0 o rfl;rw[ba] at aa;unfold lay;cases dH:act E o.dst o.op with
  |alloc z=>
   simp only
   have uH:x 1=σ.next+1:=by rw[aa];unfold xn;rw[dH];rfl
   cases idx with
   |zero=>
    simp at aj;subst aj;rw[dH] at ai;cases ai;obtain⟨aI,aQ⟩:=TI (E:=E) (l:=l) (σ:=⟨σ.heap.put σ.next (some (.box fB)),σ.next+1⟩);rw[ba];refine⟨Nat.le_refl _,aI,?_⟩;rw[aQ _ (Nat.lt_succ_self _)];exact bI.T.ij ..
   |succ idx=>
    obtain⟨aI,aQ,bq⟩:=TH (l:=l) (σ:=⟨σ.heap.put σ.next (some (.box z)),σ.next+1⟩) (x:=λk=>x (k+1)) uH (λk Ue b6=>aM (k+1) Ue (by simpa using b6)) idx fF fB (by simpa using aj) ai;exact⟨Nat.le_of_succ_le aI,aQ,bq⟩
  |_=>
   simp only
   have uH:x 1=σ.next:=by rw[aa];unfold xn;rw[dH];rfl
   cases idx with
   |zero=>
    simp at aj;subst aj;rw[dH] at ai;cases ai
   |succ idx=>exact TH (l:=l) (σ:=σ) (x:=λk=>x (k+1)) uH (λk Ue b6=>aM (k+1) Ue (by simpa using b6)) idx fF fB (by simpa using aj) ai
theorem anD {m:M}{a:Go.Act}{o:Oper}{g:Nat->V}{b:Bool}(aM:∀t∈looks ops o,eo m (g t) (a.tmps.getD t undef))(h:wq ops o g=some b):Region.wanted o (yielded ops a.tmps)=b:=by
 unfold wq at h;split at h
 ·rename_i cj;cases h;simp[Region.wanted,cj]
 ·rename_i y cj;split at h
  ·rename_i aQW aA;split at h
   ·rename_i d bj;have bR:d∈looks ops o:=List.mem_append_right _ (by rw[cj];simp[aA,bj]);have aT:=aM d bR;split at h
    ·rename_i c an;rw[an] at aT;have aT:a.tmps.getD d undef=.bool c:=aT;have aa:a.tmps[d]?=some (.bool c):=by
      rw[Array.getD_eq_getD_getElem?] at aT;cases af:a.tmps[d]? with
      |none=>rw[af] at aT;cases aT
      |some u=>rw[af] at aT;exact congrArg some aT
     injection h with h
     subst h;obtain⟨j,RG⟩:=y;cases RG<;>cases c<;>simp[Region.wanted,cj,yielded,aA,bj,aa]
    ·rename_i an;cases h;rw[an] at aT;have aT:a.tmps.getD d undef=undef:=aT;have aa:a.tmps[d]?=some undef\/a.tmps[d]?=none:=by
      rw[Array.getD_eq_getD_getElem?] at aT;cases af:a.tmps[d]? with
      |none=>exact .inr rfl
      |some u=>rw[af] at aT;exact .inl (congrArg some aT)
     obtain⟨j,RG⟩:=y;rcases aa with aa|aa<;>simp[Region.wanted,cj,yielded,aA,bj,aa,undef]
    ·cases h
   ·cases h
  ·cases h
end
section
variable{w w':World}{m m':M}{σ bd:bU}
theorem bQ.lay (h:bQ m σ w)(z:List C):bQ m ⟨σ.heap.put σ.next (some (.box z)),σ.next+1⟩ w/\Step m σ w m ⟨σ.heap.put σ.next (some (.box z)),σ.next+1⟩ w:=by
 obtain⟨f1,f2,f3,f4⟩:=h.fresh σ.next (Nat.le_refl _);have key:=h.change (m':=m) (bd:=⟨σ.heap.put σ.next (some (.box z)),σ.next+1⟩) (w':=w) (λj=>j=σ.next) (Ext.refl m) ⟨rfl,rfl,rfl⟩ (Nat.le_refl _) (λj aw=>?_) (λj b aw ah=>?_) (λj aw=>⟨bI.T.eQ _ _ aw,rfl,rfl⟩)
  (λb ah _=>⟨rfl,rfl,rfl⟩) (λj k _ _ _ aw aX _ _ _ _=>aw.trans aX.symm) (λj x R aw _ fp=>?_) (λb R k aX=>h.own b R k aX) (λb R k aX az=>absurd aX az) h.stay
 ·exact⟨key.1,⟨jR.refl _ m,key.2,Nat.le_succ _,λi cs aj _=>(bI.T.eQ _ _ λe=>by rw[e] at aj;rw[f4] at aj;cases aj).trans aj⟩⟩
 ·have aw:σ.next+1<=j:=aw;obtain⟨aI,aQ,bq,cA⟩:=h.fresh j ab;exact⟨aI,aQ,bq,(bI.T.eQ _ _ ab).trans cA⟩
 ·subst aw;simp only[bI.T.ij] at ah;cases ah;exact .inl f1
 ·subst aw;rw[f1] at fp;cases fp
theorem bQ.born (h:bQ m σ w){i:Nat}{cs:List C}{vs:Array Value}{ty:TypeId}(aj:σ.heap.get i=some (.box cs))(bL:m.pl i=none)(aT:cO (dz m) cs vs.toList):
 bQ (m.jE i w.heap.size) σ (w.alloc (.cells vs ty))/\hG m σ w (m.jE i w.heap.size) σ (w.alloc (.cells vs ty)):=by
 have e:Ext m (m.jE i w.heap.size):=M.Ss bL;refine h.change (λj=>j=i) e ⟨rfl,rfl,rfl⟩ (by simp) (λj aw=>?_) (λj b aw ah=>?_) (λj aw=>⟨rfl,by simp[M.jE,aw],rfl⟩)
  (λb ah _=>⟨Below.heap_alloc _ _ _ ah,rfl,by simp[M.jE];omega⟩) (λj k _ _ _ aw aX _ _ _ _=>aw.trans aX.symm) (λj x R aw _ fp=>.inl ?_) (λb R k aX=>?_) (λb R k aX az=>?_) (λb j v gk=>?_)
 ·obtain⟨aI,aQ,bq,cA⟩:=h.fresh j aw;have:j≠i:=λe=>by rw[e] at cA;rw[aj] at cA;cases cA
  exact⟨by simp[M.jE,aI,this],aQ,bq,cA⟩
 ·subst aw;rw[aj] at ah;cases ah;refine .inr ⟨w.heap.size,vs,ty,(0,0),by simp[M.jE],heap_alloc_new _ _,⟨λ_ _=>by omega,Nat.le_refl _⟩,aT.length.symm▸(by simp),λj c an=>?_,by simp[M.jE],h.wT (Nat.le_refl _)⟩;obtain⟨v,aa,af⟩:=aT.get an;exact⟨v,by simpa using aa,af.ext e⟩
 ·subst aw;simp[M.jE] at fp;omega
 ·simp only[M.jE] at aX⊢;split at aX
  ·cases aX;subst_vars;simp
  ·obtain⟨aI,aQ⟩:=h.own b R k aX;have:=(h.own R R none aQ).1;exact⟨by simp;omega,by rw[if_neg ab];exact aQ⟩
 ·simp only[M.jE] at aX;split at aX
  ·cases aX;exact⟨i,.box cs,rfl,aj,by simp[M.jE]⟩
  ·exact absurd aX az
 ·obtain⟨cur,jm,cm,aI,aQ⟩:=h.stay b j v gk;exact⟨cur,jm,cm,(Below.heap_alloc _ _ _ (rf aI)).trans aI,aQ⟩
theorem TJ {E:Env}:∀{l:List Oper}{σ:bU},bQ m σ w->bQ m (lay E l σ) w/\Step m σ w m (lay E l σ) w
 |[],σ,h=>⟨h,Step.refl ..⟩
 |o::l,σ,h=>by
  unfold lay;split
  ·rename_i z ai;obtain⟨aa,af⟩:=h.lay z;obtain⟨ax,a8⟩:=TJ (E:=E) (l:=l) aa;exact⟨ax,af.trans h a8⟩
  ·exact TJ h
end
def ll (ops:Array Oper)(e:Nat->qP)(L:Nat->Bool):Nat->Nat->V
 |0=>(e 0).g
 |p+1=>match L p with
  |true=>lC ((ops[p]?).bind (·.dst)) (e p).v (e p).iC (ll ops e L p)
  |false=>ll ops e L p
def rZ (E:Env)(ops:Array Oper)(i:Nat)(z:List C):Prop:=∃o,ops[i]?=some o/\act E o.dst o.op=.alloc z
structure n7 (E:Env)(n:Nat)(ops:Array Oper)(call:lk)(e:Nat->qP)(M:Nat->Nat)(kK:List oO)(jy:List rD)(σ:bU):Prop where
  step:∀i o,ops[i]?=some o->zO E n ops call kK jy ⟨i,o,M i⟩ (e i) (e (i+1))
  mask:∀i o,ops[i]?=some o->YG M i o
  pair:∀i j a b,i<j->ops[i]?=some a->ops[j]?=some b->tf E ops a b=true->bit (M j) i=true
  Zv:∀r∈kK,∀b∈jy,QF r b=true
  box:∀i z,rZ E ops i z->σ.next<=(e i).x/\(e i).x<(e 0).s.next/\(e 0).s.heap.get (e i).x=some (.box z)
def xN (ops:Array Oper)(L:Nat->Bool):Prop:=∀j o,L j=true->ops[j]?=some o->∀e∈o.after.toList,Region.binds .any e=true->L e.on=true
def qU (ops:Array Oper)(L:Nat->Bool)(i:Nat)(o:Oper):Prop:=ops[i]?=some o/\L i=false/\∀e∈o.after.toList,Region.binds .any e=true->L e.on=true
def pn (L:Nat->Bool)(i:Nat):Nat->Bool:=λj=>if j=i then true else L j
theorem QR (L:Nat->Bool)(i:Nat):pn L i i=true:=by simp[pn]
theorem wk (L:Nat->Bool){i j:Nat}(h:j≠i):pn L i j=L j:=by simp[pn,h]
section
variable{E:Env}{n:Nat}{ops:Array Oper}{call:lk}{e:Nat->qP}{M:Nat->Nat}{kK:List oO}{jy:List rD}{jB:bU}(bE:n7 E n ops call e M kK jy jB)
include bE
theorem n7.waits {L:Nat->Bool}(an:xN ops L):∀(i:Nat)(o:Oper),ops[i]?=some o->(∀e∈o.after.toList,Region.binds .any e=true->L e.on=true)->∀p,bit (M i) p=true->L p=true:=by
 intro i;induction i using Nat.strongRecOn with
 |_ i cu=>
  intro o b6 he p bL;obtain⟨aa,af⟩:=bE.mask i o b6;obtain⟨e,aI,aQ,bq⟩:=af p bL;have aW:=he e aI aQ;rcases bq with rfl|bq
  ·exact aW
  ·have bl:=aa e aI aQ;have aj:i<ops.size:=(oc.1 b6).1;obtain⟨fF,gu⟩:∃fF,ops[e.on]?=some fF:=⟨ops[e.on],Array.getElem?_eq_getElem ab⟩;exact cu e.on bl fF gu (an e.on fF aW gu) p bq
theorem n7.before {L:Nat->Bool}(an:xN ops L){i p:Nat}{o fF:Oper}(aU:qU ops L i o)(bL:ops[p]?=some fF)(bl:p<i)(Av:tf E ops fF o=true):L p=true:=bE.waits an i o aU.1 aU.2.2 p (bE.pair p i fF o bl bL aU.1 Av)
theorem n7.behind {L:Nat->Bool}(an:xN ops L){i p:Nat}{o fF:Oper}(aU:qU ops L i o)(bL:ops[p]?=some fF)(bl:i<p)(Av:tf E ops o fF=true):L p=false:=by
 cases h:L p with
 |false=>rfl
 |true=>
  have:=bE.waits an p fF bL (an p fF h bL) i (bE.pair i p o fF bl aU.1 bL Av);rw[aU.2.1] at this;cases this
omit bE in
theorem ZG {a b:Oper}{t:Nat}(h:t∈sK a)(az:t∈zk ops b):tf E ops a b=true:=by
 have:AA (sK a) (zk ops b)=true:=(abv _ _).2 ⟨t,h,az⟩;simp[tf,this]
omit bE in
theorem ao4 {a b:Oper}{t:Nat}(h:t∈sK b)(az:t∈zk ops a):tf E ops a b=true:=by
 have:AA (sK b) (zk ops a)=true:=(abv _ _).2 ⟨t,h,az⟩;simp[tf,this]
omit bE in
theorem ao3 {a b:Oper}(aa:(act E a.dst a.op).oy=true)(af:(act E b.dst b.op).oy=true):tf E ops a b=true:=by
 simp[tf,aa,af]
theorem n7.outs {i:Nat}{o:Oper}(b6:ops[i]?=some o){t:Nat}(bR:t∉sK o)(g:Nat->V):lC o.dst (e i).v (e i).iC g t=g t:=by
 have bj:o.dst≠some t:=λh=>bR (List.mem_append_left _ (by rw[h];simp));unfold lC;rw[if_neg bj];cases aO:(e i).iC with
 |none=>rfl
 |some y=>
  simp only
  rw[if_neg];intro Tk;refine bR (List.mem_append_right _ ?_);obtain⟨_,_,_,h|⟨_,h⟩⟩:=bE.step i o b6
  ·rw[h.2.2.1] at aO;cases aO
  ·have w2:=Rz (E:=E) o.dst o.op;cases dH:act E o.dst o.op with
   |jt f=>
    simp only[dH] at h w2;obtain⟨r,aa,af⟩:=h;have ax:=w2 _ _ r aa;cases r with
    |qL t' u bd=>
     obtain⟨aI,aQ,bq⟩:=af;rw[aO] at aQ;cases aQ;obtain⟨_,ty,x,lz⟩:=ax;rw[lz];simpa using Tk
    |val v bd=>rw[af.2.1] at aO;cases aO
    |skip bd=>rw[af.2.1] at aO;cases aO
    |call f args bd=>rw[af.2.1] at aO;cases aO
   |bad=>simp only[dH] at h;exact h.elim
   |pure f=>simp only[dH] at h;rw[h.2.1] at aO;cases aO
   |made f=>simp only[dH] at h;rw[h.2.1] at aO;cases aO
   |read f=>simp only[dH] at h;rw[h.2.1] at aO;cases aO
   |alloc z=>simp only[dH] at h;rw[h.2.1] at aO;cases aO
omit bE in
theorem X7 {d:Option Nat}{v:V}{iC:Option (Nat×V)}{g Dm:Nat->V}{t:Nat}(h:g t=Dm t):lC d v iC g t=lC d v iC Dm t:=by
 unfold lC;split
 ·rfl
 ·split
  ·split
   ·rfl
   ·exact h
  ·exact h
theorem n7.frame {i:Nat}{o:Oper}(b6:ops[i]?=some o):(e (i+1)).g=lC o.dst (e i).v (e i).iC (e i).g:=(bE.step i o b6).2.1
theorem n7.looked {L:Nat->Bool}(an:xN ops L){i:Nat}{o:Oper}(aU:qU ops L i o){t:Nat}(bR:t∈looks ops o):ll ops e L ops.size t=(e i).g t:=by
 have aj:i<ops.size:=(oc.1 aU.1).1;have az:t∈zk ops o:=List.mem_append_right _ bR;have aa:∀p,p<=i->ll ops e L p t=(e p).g t:=by
  intro p;induction p with
  |zero=>intro _;rfl
  |succ p cu=>
   intro bL;have cu:=cu ab;obtain⟨fF,gu⟩:∃fF,ops[p]?=some fF:=⟨ops[p],Array.getElem?_eq_getElem ab⟩;rw[bE.frame gu];rw[ll];by_cases bj:t∈sK fF
   ·rw[bE.before an aU gu ab (ZG bj az)];simp only
    rw[gu];exact X7 cu
   ·rw[bE.outs gu bj,<-cu];cases L p with
    |true=>simp only;rw[gu];exact bE.outs gu bj _
    |false=>rfl
 have af:∀p,i<=p->p<=ops.size->ll ops e L p t=ll ops e L i t:=by
  intro p;induction p with
  |zero=>intro h _;have:i=0:=ab
         subst this;rfl
  |succ p cu=>
   intro aq9 DZ;by_cases w7:i=p+1
   ·subst w7;rfl
   ·have cu:=cu ab ab;rw[ll,<-cu];obtain⟨fF,gu⟩:∃fF,ops[p]?=some fF:=⟨ops[p],Array.getElem?_eq_getElem ab⟩;by_cases w6:p=i
    ·subst w6;rw[aU.2.1]
    ·by_cases bj:t∈sK fF
     ·rw[bE.behind an aU gu ab (ao4 bj az)]
     ·cases L p with
      |true=>simp only;rw[gu];exact bE.outs gu bj _
      |false=>rfl
 rw[af _ ab (Nat.le_refl _),aa _ (Nat.le_refl _)]
theorem n7.kV {L:Nat->Bool}(an:xN ops L){i:Nat}{o:Oper}(aU:qU ops L i o)(t:Nat):ll ops e (pn L i) ops.size t=lC o.dst (e i).v (e i).iC (ll ops e L ops.size) t:=by
 have aj:i<ops.size:=(oc.1 aU.1).1;have aa:∀p,p<=i->ll ops e (pn L i) p=ll ops e L p:=by
  intro p;induction p with
  |zero=>intro _;rfl
  |succ p cu=>
   intro bL;rw[ll,ll,cu ab,wk _ (show p≠i by omega)]
 have af:∀p,i+1<=p->p<=ops.size->ll ops e (pn L i) p t=lC o.dst (e i).v (e i).iC (ll ops e L p) t:=by
  intro p;induction p with
  |zero=>intro h _;omega
  |succ p cu=>
   intro aq9 DZ;by_cases w6:p=i
   ·subst w6;rw[ll,ll,aa _ (Nat.le_refl _),aU.2.1,QR];simp only
    rw[aU.1];rfl
   ·have cu:=cu ab ab;obtain⟨fF,gu⟩:∃fF,ops[p]?=some fF:=⟨ops[p],Array.getElem?_eq_getElem ab⟩;rw[ll,ll,wk _ w6];cases gC:L p with
    |false=>exact cu
    |true=>
     simp only
     rw[gu];simp only[Option.bind_some];by_cases bj:t∈sK fF
     ·by_cases SV:t∈sK o
      ·have:=bE.behind an aU gu ab (ZG SV (List.mem_append_left _ bj));rw[gC] at this;cases this
      ·rw[bE.outs aU.1 SV];rw[bE.outs aU.1 SV] at cu;exact X7 cu
     ·rw[bE.outs gu bj,cu];exact X7 (bE.outs gu bj _).symm
 exact af _ aj (Nat.le_refl _)
theorem n7.all {L:Nat->Bool}(h:∀i,i<ops.size->L i=true):∀p,p<=ops.size->ll ops e L p=(e p).g
 |0,_=>rfl
 |p+1,bL=>by
  obtain⟨fF,gu⟩:∃fF,ops[p]?=some fF:=⟨ops[p],Array.getElem?_eq_getElem ab⟩;rw[ll,h p ab,bE.frame gu,n7.all h p ab,gu];rfl
omit bE in
theorem Ys:∀p,ll ops e (λ_=>false) p=(e 0).g
 |0=>rfl
 |p+1=>by rw[ll];exact Ys p
theorem n7.ag9 {i:Nat}{o:Oper}(b6:ops[i]?=some o)(aW:(act E o.dst o.op).oy=false):(e (i+1)).s=(e i).s:=by
 obtain⟨_,_,_,h|⟨_,h⟩⟩:=bE.step i o b6
 ·exact h.2.2.2
 ·cases dH:act E o.dst o.op with
  |jt f=>rw[dH] at aW;cases aW
  |bad=>simp only[dH] at h;exact h.elim
  |pure f=>simp only[dH] at h;exact h.2.2
  |made f=>simp only[dH] at h;exact h.2.2
  |read f=>simp only[dH] at h;exact h.2.2.1
  |alloc z=>simp only[dH] at h;exact h.2.2
theorem n7.anH {i j:Nat}{z fB:List C}(aj:rZ E ops i z)(aw:rZ E ops j fB)(eN:i≠j):(e i).x≠(e j).x:=by
 have mono:∀p k,p+k<=ops.size->(e p).x<=(e (p+k)).x:=by
  intro p k;induction k with
  |zero=>intro _;exact Nat.le_refl _
  |succ k cu=>
   intro h;have cu:=cu ab;obtain⟨fF,gu⟩:∃fF,ops[p+k]?=some fF:=⟨ops[p+k],Array.getElem?_eq_getElem ab⟩;have:=(bE.step _ fF gu).2.2.1;rw[<-Nat.add_assoc,this];simp only[xn];split
   ·exact Nat.le_succ_of_le cu
   ·exact cu
 have lt:∀{i j:Nat}{z:List C},rZ E ops i z->i<j->j<=ops.size->(e i).x<(e j).x:=λ{i j z} ⟨o,b6,dH⟩ bl hle=>by
  have aa:=(bE.step _ o b6).2.2.1;simp only[xn,dH,np.aco] at aa;have:=mono (i+1) (j-(i+1)) ab;rw[show i+1+(j-(i+1))=j by omega,aa] at this;exact this
 obtain⟨o,b6,dH⟩:=id aj;obtain⟨fF,gu,SI⟩:=id aw;have aa:=(oc.1 b6).1;have af:=(oc.1 gu).1;rcases kz i j with h|h
 ·have:=lt aj h ab;omega
 ·have:=lt aw (show j<i by omega) ab;omega
end
structure Inv (E:Env)(n:Nat)(ops:Array Oper)(e:Nat->qP)(c8:M)(jB:bU)(ws:World)(a0:Go.Act)(ds:List Nat)(L:Nat->Bool)(q:Nat)(m:M)(a:Go.Act)(w:World):Prop where
  aA:q<=ops.size
  pre:∀i o,ops[i]?=some o->(act E o.dst o.op).oy=true->(L i=true↔i<q)
  rel:bQ m (e q).s w
  st:Step c8 jB ws m (e q).s w
  top:(e 0).s.next<=(e q).s.next
  cm:zU m n (ll ops e L ops.size) a
  Fp:∀i z,rZ E ops i z->L i=false->m.pl (e i).x=none
  wP:∀i z,rZ E ops i z->m.pl (e i).x=none->(e q).s.heap.get (e i).x=some (.box z)
  wQ:xN ops L
  XW:iF ds a0 a
section
variable{aV:Program}{E:Env}{n:Nat}{ops:Array Oper}{call:lk}{e:Nat->qP}{rA:Nat->Nat}{kK:List oO}{jy:List rD}{jB:bU}{ws:World}{c8 m:M}{a0 a:Go.Act}{ds:List Nat}{L:Nat->Bool}{q:Nat}{w:World}{K:Go.Act->World->Prop}{Q:Exit->Go.Act->World->Prop}(bE:n7 E n ops call e rA kK jy jB)(iL:∀(i:Nat)(o:Oper)(t:Nat),ops[i]?=some o->o.dst=some t->t∈ds)(ba:bQ c8 jB ws)(h:Inv E n ops e c8 jB ws a0 ds L q m a w)
include bE iL ba h
omit iL ba in
theorem Inv.next {o:Oper}(b6:ops[q]?=some o)(aW:(act E o.dst o.op).oy=false):Inv E n ops e c8 jB ws a0 ds L (q+1) m a w:=by
 have Tf:q<ops.size:=(oc.1 b6).1;have dI:=bE.ag9 b6 aW;refine⟨Tf,λi fF gu lQ=>?_,by rw[dI];exact h.rel,by rw[dI];exact h.st,by rw[dI];exact h.top,h.cm,h.Fp,by rw[dI];exact h.wP,h.wQ,h.XW⟩;rw[h.pre i fF gu lQ];have:i≠q:=λe=>by subst e;rw[b6] at gu;cases gu;rw[aW] at lQ;cases lQ
 omega
omit iL ba in
theorem Inv.bound:∃gy,q<=gy/\Inv E n ops e c8 jB ws a0 ds L gy m a w/\(gy=ops.size\/∃o,ops[gy]?=some o/\(act E o.dst o.op).oy=true):=by
 obtain⟨d,bj⟩:∃d,d=ops.size-q:=⟨_,rfl⟩;induction d generalizing q with
 |zero=>exact⟨q,Nat.le_refl _,h,.inl (by have:=h.aA;omega)⟩
 |succ d cu=>
  have bl:q<ops.size:=ab;have b6:ops[q]?=some ops[q]:=Array.getElem?_eq_getElem bl;cases aW:(act E (ops[q]).dst (ops[q]).op).oy with
  |true=>exact⟨q,Nat.le_refl _,h,.inr ⟨_,b6,aW⟩⟩
  |false=>
   obtain⟨gy,aa,af,ax⟩:=cu (Inv.next bE h b6 aW) ab;exact⟨gy,ab,af,ax⟩
omit iL ba in
theorem Inv.looked {i:Nat}{o:Oper}(aU:qU ops L i o){t:Nat}(bR:t∈looks ops o):eo m ((e i).g t) (a.tmps.getD t undef):=by
 rw[<-bE.looked h.wQ aU bR];exact h.cm.2.2 t
omit iL ba in
theorem Inv.only {i:Nat}{o:Oper}(aU:qU ops L i o):dC m n (jM (looks ops o) (e i).g) a:=⟨h.cm.1,h.cm.2.1,λt=>by
 rw[ayA];split
 ·exact Inv.looked bE h aU (by assumption)
 ·trivial⟩
omit bE iL ba in
theorem Inv.closed {i:Nat}{o:Oper}(aU:qU ops L i o):xN ops (pn L i):=by
 intro j fF aw gu e he ah;unfold pn at aw⊢;by_cases iT:j=i
 ·subst iT;rw[aU.1] at gu;cases gu;have:=aU.2.2 e he ah;simp[this]
 ·rw[if_neg iT] at aw;have:=h.wQ j fF aw gu e he ah;simp[this]
omit iL ba in
theorem Inv.put {i:Nat}{o:Oper}(aU:qU ops L i o){m':M}(x:Ext m m'){u:Value}(hu:eo m' (e i).v u)(aO:∀y,(e i).iC=some y->eo m' y.2 (a.tmps.getD y.1 undef)):zU m' n (ll ops e (pn L i) ops.size) (a.put o.dst u):=by
 have fD:=h.cm.1;have bj:=(bE.step i o aU.1).1;refine⟨?_,?_,λt=>?_⟩
 ·cases o.dst<;>simpa[Go.Act.put] using fD
 ·cases o.dst<;>exact h.cm.2.1
 ·rw[bE.kV h.wQ aU t];unfold lC;cases b6:o.dst with
  |none=>
   rw[if_neg (by simp)];show eo m' _ (a.tmps.getD t undef);cases cf:(e i).iC with
   |none=>exact(h.cm.2.2 t).ext x
   |some y=>
    simp only
    split
    ·rename_i bR;subst bR;exact aO y cf
    ·exact(h.cm.2.2 t).ext x
  |some k=>
   simp only[b6] at bj;have aX:=Nat.le_of_ble_eq_true bj;by_cases S2:k=t
   ·subst S2;rw[if_pos rfl];have:(k:Nat)<a.tmps.size:=Nat.lt_of_lt_of_le aX fD;simpa[Go.Act.put,this] using hu
   ·rw[if_neg (by simpa using S2)];have aa:(a.put (some k) u).tmps.getD t undef=a.tmps.getD t undef:=by
     simp[Go.Act.put,Array.getElem?_setIfInBounds_ne S2]
    rw[aa];cases cf:(e i).iC with
    |none=>exact(h.cm.2.2 t).ext x
    |some y=>
     simp only
     split
     ·rename_i bR;subst bR;exact aO y cf
     ·exact(h.cm.2.2 t).ext x
omit bE ba in
theorem Inv.same {i:Nat}{o:Oper}(aU:qU ops L i o)(u:Value):iF ds a0 (a.put o.dst u):=h.XW.trans ((iF.put a o.dst u).mono λt bR=>by
 cases bj:o.dst with
 |none=>rw[bj] at bR;simp at bR
 |some k=>rw[bj] at bR;simp at bR;subst bR;exact iL i o t aU.1 bj)
theorem Inv.quiet {i:Nat}{o:Oper}{u:Value}{m':M}{w':World}(aU:qU ops L i o)(aW:(act E o.dst o.op).oy=false)(az:∀z,rZ E ops i z->(e i).v=.undef)(gU:Step m (e q).s w m' (e q).s w')(bh:bQ m' (e q).s w')(hu:eo m' (e i).v u)(aO:(e i).iC=none):
 Inv E n ops e c8 jB ws a0 ds (pn L i) q m' (a.put o.dst u) w':=by
 have lt:∀j z,rZ E ops j z->(e j).x<(e q).s.next:=λj z ai=>Nat.lt_of_lt_of_le (bE.box j z ai).2.1 h.top;refine⟨h.aA,λj fF gu lQ=>?_,bh,h.st.trans ba gU,h.top,Inv.put bE h aU gU.iK.ext hu (λy cf=>by rw[aO] at cf;cases cf),λj z ai gC=>?_,λj z ai bL=>?_,Inv.closed h aU,Inv.same iL h aU u⟩
 ·have:j≠i:=λe=>by subst e;rw[aU.1] at gu;cases gu;rw[aW] at lQ;cases lQ
  rw[wk L this];exact h.pre j fF gu lQ
 ·rw[gU.iK.pl _ (lt j z ai)];refine h.Fp j z ai ?_;by_cases he:j=i
  ·subst he;exact aU.2.1
  ·rwa [wk L he] at gC
 ·rw[gU.iK.pl _ (lt j z ai)] at bL;exact h.wP j z ai bL
omit ba in
theorem Inv.alloc {i:Nat}{o:Oper}{z:List C}{vs:Array Value}{ty:TypeId}(aU:qU ops L i o)(ai:rZ E ops i z)(aT:cO (dz m) z vs.toList)(aq2:(e i).v=.c (.ptr (some ((e i).x,0))))(aO:(e i).iC=none):
 Inv E n ops e c8 jB ws a0 ds (pn L i) q (m.jE (e i).x w.heap.size) (a.put o.dst (.pointer (some ⟨w.heap.size,0,none⟩))) (w.alloc (.cells vs ty)):=by
 obtain⟨cY,eT,gY⟩:=bE.box i z ai;have bL:=h.Fp i z ai aU.2.1;have ah:=h.wP i z ai bL;obtain⟨aI,aQ⟩:=h.rel.born (ty:=ty) ah bL aT;have ex:=M.Sq (r:=w.heap.size) bL;have aW:(act E o.dst o.op).oy=false:=by
  obtain⟨fF,aa,af⟩:=ai;rw[aU.1] at aa;cases aa;rw[af];rfl
 refine⟨h.aA,λj fF gu lQ=>?_,aI,⟨h.st.iK.trans (n':=jB.next) ⟨ex.ext,λj aw=>ex.pl j ab⟩ (Nat.le_refl _),h.st.gF.trans aQ,h.st.next,h.st.CS⟩,h.top,
  Inv.put bE h aU ex.ext (by rw[aq2];exact⟨w.heap.size,by simp[M.jE],rfl⟩) (λy cf=>by rw[aO] at cf;cases cf),λj fB yU gC=>?_,λj fB yU yP=>?_,Inv.closed h aU,Inv.same iL h aU _⟩
 ·have:j≠i:=λe=>by subst e;rw[aU.1] at gu;cases gu;rw[aW] at lQ;cases lQ
  rw[wk L this];exact h.pre j fF gu lQ
 ·have eN:j≠i:=λe=>by subst e;rw[QR] at gC;cases gC
  rw[wk L eN] at gC;show(if(e j).x=(e i).x then _ else m.pl (e j).x)=none;rw[if_neg (bE.anH yU ai eN)];exact h.Fp j fB yU gC
 ·by_cases eN:j=i
  ·subst eN;have:(m.jE (e j).x w.heap.size).pl (e j).x=some w.heap.size:=by simp[M.jE]
   rw[this] at yP;cases yP
  ·have:(m.jE (e i).x w.heap.size).pl (e j).x=m.pl (e j).x:=by
    show(if(e j).x=(e i).x then _ else m.pl (e j).x)=_;rw[if_neg (bE.anH yU ai eN)]
   rw[this] at yP;exact h.wP j fB yU yP
theorem Inv.jt {o:Oper}{u:Value}{m':M}{w':World}(aU:qU ops L q o)(aW:(act E o.dst o.op).oy=true)(gU:Step m (e q).s w m' (e (q+1)).s w')(bh:bQ m' (e (q+1)).s w')(hu:eo m' (e q).v u)(aO:∀y,(e q).iC=some y->eo m' y.2 (a.tmps.getD y.1 undef)):
 Inv E n ops e c8 jB ws a0 ds (pn L q) (q+1) m' (a.put o.dst u) w':=by
 have Tf:q<ops.size:=(oc.1 aU.1).1;have lt:∀j z,rZ E ops j z->(e j).x<(e q).s.next:=λj z ai=>Nat.lt_of_lt_of_le (bE.box j z ai).2.1 h.top;have eN:∀j z,rZ E ops j z->j≠q:=λj z ⟨fF,aI,aQ⟩ e=>by
  subst e;rw[aU.1] at aI;cases aI;rw[aQ] at aW;cases aW
 refine⟨Tf,λj fF gu lQ=>?_,bh,h.st.trans ba gU,jF h.top gU.next,Inv.put bE h aU gU.iK.ext hu aO,λj z ai gC=>?_,λj z ai bL=>?_,Inv.closed h aU,Inv.same iL h aU u⟩
 ·by_cases he:j=q
  ·subst he;simp[QR]
  ·rw[wk L he,h.pre j fF gu lQ];omega
 ·rw[wk L (eN j z ai)] at gC;rw[gU.iK.pl _ (lt j z ai)];exact h.Fp j z ai gC
 ·rw[gU.iK.pl _ (lt j z ai)] at bL;exact gU.CS _ _ (h.wP j z ai bL) bL
end
section
variable{aV:Program}{E:Env}{n:Nat}{ops:Array Oper}{call:lk}{e:Nat->qP}{rA:Nat->Nat}{kK:List oO}{jy:List rD}{jB:bU}{ws:World}{c8 m:M}{a0 a:Go.Act}{ds:List Nat}{L:Nat->Bool}{q:Nat}{w:World}{K:Go.Act->World->Prop}{Q:Exit->Go.Act->World->Prop}
def uh (r:oO)(σ bd:bU):Prop:=(∀i∈r.ids,bd.heap.get i=σ.heap.get i)\/∃y x,r.cell=some y/\zR σ y x/\zR bd y x
theorem uh.trans {r:oO}{σ bd xK:bU}(an:∀y,r.cell=some y->y.1∈r.ids)(h:uh r σ bd)(h':uh r bd xK):uh r σ xK:=by
 rcases h with h|⟨y,x,aa,af,ax⟩
 ·rcases h' with h'|⟨y,x,aa,⟨cs,af,ax⟩,a8⟩
  ·exact .inl λi aj=>(h' i aj).trans (h i aj)
  ·exact .inr ⟨y,x,aa,⟨cs,by rw[<-h _ (an y aa)];exact af,ax⟩,a8⟩
 ·rcases h' with h'|⟨mI,jn,wV,⟨lL,Du,aaN⟩,aqi⟩
  ·obtain⟨cs,aI,aQ⟩:=ax;exact .inr ⟨y,x,aa,af,cs,by rw[h' _ (an y aa)];exact aI,aQ⟩
  ·rw[aa] at wV;cases wV;obtain⟨cs,aI,aQ⟩:=ax;rw[aI] at Du;cases Du;rw[aQ] at aaN;cases aaN;exact .inr ⟨y,x,aa,af,aqi⟩
theorem uh.symm {r:oO}{σ bd:bU}(h:uh r σ bd):uh r bd σ:=by
 rcases h with h|⟨y,x,aa,af,ax⟩
 ·exact .inl λi aj=>(h i aj).symm
 ·exact .inr ⟨y,x,aa,ax,af⟩
theorem n7.Y4 (bE:n7 E n ops call e rA kK jy jB)(jg:r0 aV call){rd:oO}(an:∀y,rd.cell=some y->y.1∈rd.ids):∀(k p:Nat),p+k<=ops.size->(∀j nV,ops[j]?=some nV->(act E nV.dst nV.op).oy=true->p<=j->j<p+k->∀b∈jy,b.i=j->b.mask=rA j->QE rd b=true)->
 uh rd (e p).s (e (p+k)).s:=by
 intro k;induction k with
 |zero=>intro p _ _;exact .inl λi _=>rfl
 |succ k cu=>
  intro p hle ah;refine(cu p ab (λj nV aw aW aa af=>ah j nV aw aW aa ab)).trans an ?_;obtain⟨o,b6⟩:∃o,ops[p+k]?=some o:=⟨ops[p+k],Array.getElem?_eq_getElem ab⟩;cases aW:(act E o.dst o.op).oy with
  |false=>rw[<-Nat.add_assoc,bE.ag9 b6 aW];exact .inl λi _=>rfl
  |true=>
   have Ku:=bE.step _ o b6;rw[<-Nat.add_assoc];obtain⟨_,_,_,h|⟨_,h⟩⟩:=Ku
   ·rw[h.2.2.2];exact .inl λi _=>rfl
   ·have w2:=Rz (E:=E) o.dst o.op;cases dH:act E o.dst o.op with
    |jt f=>
     simp only[dH] at h w2;obtain⟨r,aa,af⟩:=h;have ax:=w2 _ _ r aa;have off:∀{b:rD}{bd:bU},b∈jy->b.i=p+k->b.mask=rA (p+k)->b.gF=uJ (e (p+k)).s bd b.ids->(∀i,i<b.ei->i∉b.ids->bd.heap.get i=(e (p+k)).s.heap.get i)->uh rd (e (p+k)).s bd:=λ{b bd} a8 cn da dS ez=>by
      have:=ah (p+k) o b6 aW ab ab b a8 cn da;unfold QE at this;rw[Bool.or_eq_true] at this;rcases this with this|this
      ·refine .inl λi aj=>?_;unfold agG at this;have:=List.all_eq_true.1 this i aj;simp only[gQ,Bool.not_eq_true'] at this;exact ez i (Nat.le_of_ble_eq_true this.2) λh=>by rw[(yx _ _).2 h] at this;cases this.1
      ·split at this
       ·rename_i y cf;rw[dS] at this;obtain⟨x,aI,aQ⟩:=asQ this;exact .inr ⟨y,x,cf,aI,aQ⟩
       ·cases this
     cases r with
     |val v bd=>
      obtain⟨_,_,aI,aQ⟩:=af;rw[aI];exact off aQ rfl rfl rfl λi ng mB=>ax i ng mB
     |skip bd=>
      obtain⟨_,_,aI,aQ⟩:=af;rw[aI];exact off aQ rfl rfl rfl λi ng mB=>ax i ng mB
     |qL t u bd=>
      obtain⟨_,_,aI,aQ⟩:=af;rw[aI];exact off aQ rfl rfl rfl λi ng mB=>ax.1 i ng mB
     |call f args bd=>
      obtain⟨j0,_,aQ⟩:=af;have ax:bd=(e (p+k)).s:=ax;subst ax;exact off aQ rfl rfl rfl λi ng mB=>jg.wr f args _ _ _ j0 i ng mB
    |_=>rw[dH] at aW;cases aW
variable(bE:n7 E n ops call e rA kK jy jB)(iL:∀(i:Nat)(o:Oper)(t:Nat),ops[i]?=some o->o.dst=some t->t∈ds)(ba:bQ c8 jB ws)(kE:tY aV E)(jg:r0 aV call)
include bE iL ba kE jg
theorem ayB (h:Inv E n ops e c8 jB ws a0 ds L q m a w)(ah:q=ops.size\/∃o,ops[q]?=some o/\(act E o.dst o.op).oy=true){i:Nat}{o:Oper}(aU:qU ops L i o)(aPw:L ops.size=false)(ev:∀gy m' c9 w',Inv E n ops e c8 jB ws a0 ds (pn L i) gy m' c9 w'->K c9 w'):wpOp aV ops Q i K a w:=by
 have aPI:i<ops.size:=(oc.1 aU.1).1;have Ko:∀t∈looks ops o,eo m ((e i).g t) (a.tmps.getD t undef):=λt bR=>Inv.looked bE h aU bR;have so:=Inv.only bE h aU;have abH:(act E o.dst o.op).oy=true->i=q:=λaW=>by
  have mw:¬i<q:=λbl=>by
   have:=(h.pre i o aU.1 aW).2 bl;rw[aU.2.1] at this;cases this
  rcases ah with ah|⟨ayC,aA,yR⟩
  ·omega
  ·by_cases he:i=q
   ·exact he
   ·have:=bE.before h.wQ aU aA ab (ao3 yR aW);have:=(h.pre q ayC aA yR).1 this;omega
 obtain⟨_,_,_,da⟩:=bE.step i o aU.1;unfold wpOp;simp only[aU.1];rcases da with⟨hw,aT,aO,dI⟩|⟨hw,bj⟩
 ·rw[anD Ko hw];simp only[Bool.false_eq_true,if_false];cases aW:(act E o.dst o.op).oy with
  |false=>exact ev q m _ w (Inv.quiet bE iL ba h aU aW (λ_ _=>aT) (Step.refl ..) h.rel (by rw[aT];rfl) aO)
  |true=>
   obtain rfl:=abH aW;exact ev (i+1) m _ w (Inv.jt bE iL ba h aU aW (by rw[dI];exact Step.refl ..) (by rw[dI];exact h.rel) (by rw[aT];rfl) (λy cf=>by rw[aO] at cf;cases cf))
 ·rw[anD Ko hw];simp only[if_true];refine .inl ?_;have uy:=kE o;cases lz:act E o.dst o.op with
  |bad=>simp only[lz] at bj;exact bj.elim
  |pure f=>
   simp only[lz] at bj;rw[lz] at uy;obtain⟨aI,aQ,bq⟩:=bj;obtain⟨en,aa,af⟩:=uy n _ a m w so _ aI;unfold Oper.wp;rw[aa];exact ev q m _ w (Inv.quiet bE iL ba h aU (by rw[lz];rfl) (λz ⟨fF,bn,bB⟩=>by rw[aU.1] at bn;cases bn;rw[lz] at bB;cases bB) (Step.refl ..) h.rel af aQ)
  |made f=>
   simp only[lz] at bj;rw[lz] at uy;obtain⟨aI,aQ,bq⟩:=bj;obtain⟨m',en,w',aM,aa,af,ax⟩:=uy n _ a m (e q).s w so h.rel _ aI;unfold Oper.wp;rw[aa];exact ev q m' _ w' (Inv.quiet bE iL ba h aU (by rw[lz];rfl) (λz ⟨fF,bn,bB⟩=>by rw[aU.1] at bn;cases bn;rw[lz] at bB;cases bB) aM af ax aQ)
  |read f=>
   simp only[lz] at bj;rw[lz] at uy;obtain⟨aI,aQ,bq,cA⟩:=bj;have w2:=Rz (E:=E) o.dst o.op;rw[lz] at w2;have Av:∀y,(⟨i,rA i,lO (jM (looks ops o) (e i).g) o.op.operands.toList,cellOf E (jM (looks ops o) (e i).g) o.op⟩:oO).cell=some y->y.1∈lO (jM (looks ops o) (e i).g) o.op.operands.toList:=λy cf=>aoP cf;have ar4:uh ⟨i,rA i,lO (jM (looks ops o) (e i).g) o.op.operands.toList,cellOf E (jM (looks ops o) (e i).g) o.op⟩ (e i).s (e q).s:=by
    rcases kz i q with bl|mw
    ·have:=bE.Y4 (aV:=aV) jg Av (q-i) i (by have:=h.aA;omega) λj nV vI S5 aa af b yy aa2 aa3=>by
      have ot:=bE.Zv _ cA b yy;unfold QF at ot;split at ot
      ·rename_i o6;have:=Nat.le_of_ble_eq_true o6;simp only at this;omega
      ·rw[Bool.or_eq_true] at ot;refine ot.resolve_left λDC=>?_;rw[aa3] at DC;have gC:=(h.pre j nV vI S5).2 ab;have:=bE.waits h.wQ j nV vI (h.wQ j nV gC vI) i DC;rw[aU.2.1] at this;cases this
     rw[show i+(q-i)=q by omega] at this;exact this
    ·have:=bE.Y4 (aV:=aV) jg Av (i-q) q ab λj nV vI S5 aa af b yy aa2 aa3=>by
      have ot:=bE.Zv _ cA b yy;unfold QF at ot;split at ot
      ·rw[Bool.or_eq_true] at ot;refine ot.resolve_left λDC=>?_;simp only[aa2] at DC;have gC:=bE.waits h.wQ i o aU.1 aU.2.2 j DC;have:=(h.pre j nV vI S5).1 gC;omega
      ·rename_i o6;have:Nat.ble (Nat.succ b.i) i=true:=Nat.ble_eq_true_of_le ab;simp only[this] at o6;cases o6
     rw[show q+(i-q)=i by omega] at this;exact this.symm
   have uC:f (jM (looks ops o) (e i).g) (e i).s=f (jM (looks ops o) (e i).g) (e q).s:=by
    rcases ar4 with aM|⟨y,x,cW,dv,eU⟩
    ·exact w2 _ _ _ λj aw=>(aM j aw).symm
    ·exact aoQ lz cW dv eU
   rw[uC] at aI;obtain⟨en,aa,af⟩:=uy n _ a m (e q).s w so h.rel _ aI;unfold Oper.wp;rw[aa];exact ev q m _ w (Inv.quiet bE iL ba h aU (by rw[lz];rfl) (λz ⟨fF,bn,bB⟩=>by rw[aU.1] at bn;cases bn;rw[lz] at bB;cases bB) (Step.refl ..) h.rel af aQ)
  |alloc z=>
   simp only[lz] at bj;rw[lz] at uy;obtain⟨aI,aQ,bq⟩:=bj;obtain⟨vs,t,aa,af⟩:=uy a w;unfold Oper.wp;rw[aa];exact ev q _ _ _ (Inv.alloc bE iL h aU ⟨o,aU.1,lz⟩ (af m) aI aQ)
  |jt f=>
   have aW:(act E o.dst o.op).oy=true:=by rw[lz];rfl
   obtain rfl:=abH aW;simp only[lz] at bj;rw[lz] at uy;obtain⟨r,aa,af⟩:=bj;have cj:=uy n _ a m (e i).s w so h.rel r aa;clear aa;unfold Oper.wp;cases r with
   |val v bd=>
    obtain⟨aI,aQ,bq,_⟩:=af;obtain⟨m',en,w',bn,bB,dc,ek⟩:=cj;rw[bB];exact ev (i+1) m' _ w' (Inv.jt bE iL ba h aU aW (by rw[bq];exact bn) (by rw[bq];exact dc) (by rw[aI];exact ek) (λy cf=>by rw[aQ] at cf;cases cf))
   |skip bd=>
    obtain⟨aI,aQ,bq,_⟩:=af;obtain⟨m',w',bn,bB,dc⟩:=cj;rw[bB];exact ev (i+1) m' _ w' (Inv.jt bE iL ba h aU aW (by rw[bq];exact bn) (by rw[bq];exact dc) (by rw[aI];rfl) (λy cf=>by rw[aQ] at cf;cases cf))
   |qL t u bd=>
    obtain⟨aI,aQ,bq,_⟩:=af;obtain⟨m',w',bn,bB,dc,ek⟩:=cj;rw[bB];exact ev (i+1) m' _ w' (Inv.jt bE iL ba h aU aW (by rw[bq];exact bn) (by rw[bq];exact dc) (by rw[aI];rfl) (λy cf=>by rw[aQ] at cf;cases cf;exact ek))
   |call f args bd=>
    obtain⟨aI,aQ,_⟩:=af;obtain⟨rfl,vs,bn,bB⟩:=cj;rw[bB];obtain⟨dc,ek⟩:=jg.run f args _ _ _ m w vs aI h.rel bn;rw[dc];refine ek.mono ?_;rintro _ w' ⟨m',en,rfl,bD,cZ,bN⟩;exact ev (i+1) m' _ w' (Inv.jt bE iL ba h aU aW bD cZ bN (λy cf=>by rw[aQ] at cf;cases cf))
end
def oL (kV:Array Bool):Nat->Bool:=λj=>kV.getD j false
def tc (L:Nat->Bool):Nat->Nat
 |0=>0
 |p+1=>tc L p+(match L p with|true=>0|false=>1)
theorem ZB (L:Nat->Bool){i:Nat}(aj:L i=false):∀p,tc (pn L i) p+(if i<p then 1 else 0)=tc L p
 |0=>by simp[tc]
 |p+1=>by
  have cu:=ZB L aj p;rw[tc,tc];by_cases he:p=i
  ·subst he;rw[QR,aj];simp only[Nat.lt_irrefl,if_false,cv] at cu;simp[cu]
  ·rw[wk L he];by_cases bl:i<p
   ·rw[if_pos bl] at cu;rw[if_pos ab,<-cu];omega
   ·rw[if_neg bl] at cu;rw[if_neg ab,<-cu];omega
theorem ZC (L:Nat->Bool):∀p,tc L p=0->∀i,i<p->L i=true
 |0,_,i,aj=>by omega
 |p+1,h,i,aj=>by
  rw[tc] at h;by_cases he:i=p
  ·subst he;cases gC:L i with
   |true=>rfl
   |false=>rw[gC] at h;simp at h
  ·exact ZC L p ab i ab
theorem YF {kV:Array Bool}{i:Nat}(aj:i<kV.size):oL (kV.setIfInBounds i true)=pn (oL kV) i:=by
 funext j;unfold oL pn;by_cases h:j=i
 ·subst h;simp[aj]
 ·rw[if_neg h];simp[Array.getElem?_setIfInBounds_ne (Ne.symm h)]
section
variable{aV:Program}{E:Env}{n:Nat}{ops:Array Oper}{call:lk}{e:Nat->qP}{rA:Nat->Nat}{kK:List oO}{jy:List rD}{jB:bU}{ws:World}{c8:M}{a0:Go.Act}{ds:List Nat}{Q:Exit->Go.Act->World->Prop}(bE:n7 E n ops call e rA kK jy jB)(iL:∀(i:Nat)(o:Oper)(t:Nat),ops[i]?=some o->o.dst=some t->t∈ds)(ba:bQ c8 jB ws)(kE:tY aV E)(jg:r0 aV call)(fo:∀m' c9 w',Step c8 jB ws m' (e ops.size).s w'->zU m' n (e ops.size).g c9->bQ m' (e ops.size).s w'->iF ds a0 c9->Q .normal c9 w')
include bE iL ba kE jg fo
omit kE jg iL ba in
theorem Y6 {L:Nat->Bool}{q:Nat}{m:M}{a:Go.Act}{w:World}(h:Inv E n ops e c8 jB ws a0 ds L q m a w)(nQ:∀i,i<ops.size->L i=true):Q .normal a w:=by
 obtain⟨gy,_,h',ah⟩:=Inv.bound bE h;have aA:gy=ops.size:=by
  rcases ah with ah|⟨o,b6,aW⟩
  ·exact ah
  ·have bl:gy<ops.size:=(oc.1 b6).1;have:=(h'.pre gy o b6 aW).1 (nQ gy bl);omega
 subst aA;refine fo m a w h'.st ?_ h'.rel h'.XW;have:=h'.cm
 rwa [bE.all nQ _ (Nat.le_refl _)] at this
omit iL ba kE jg fo in
theorem aop {kV:Array Bool}(aM:kV.size=ops.size)(aU:Region.ready .any ops kV=[]):∀i,i<ops.size->oL kV i=true:=by
 intro i;induction i using Nat.strongRecOn with
 |_ i cu=>
  intro aj;cases gC:oL kV i with
  |true=>rfl
  |false=>
   have:i∈Region.ready .any ops kV:=by
    rw[mem_ready];refine⟨?_,ops[i],Array.getElem?_eq_getElem aj,λe he ah=>?_⟩
    ·unfold oL at gC;have:i<kV.size:=ab;simp[this] at gC⊢;exact gC
    ·have bl:=(bE.mask i ops[i] (Array.getElem?_eq_getElem aj)).1 e (by simpa using he) ah;exact cu e.on bl ab
   rw[aU] at this;cases this
theorem Y7:∀(fuel:Nat){kV:Array Bool}{q:Nat}{m:M}{a:Go.Act}{w:World},kV.size=ops.size->tc (oL kV) ops.size<=fuel->Inv E n ops e c8 jB ws a0 ds (oL kV) q m a w->
 wpAny aV .any ops Q fuel kV a w
 |0,kV,q,m,a,w,aM,an,h=>by
  have nQ:=ZC (oL kV) ops.size ab;refine⟨?_,Y6 bE fo h nQ⟩;cases aU:Region.ready .any ops kV with
  |nil=>rfl
  |cons i l=>
   have aj:i∈Region.ready .any ops kV:=by rw[aU];simp
   obtain⟨aa,o,af,_⟩:=mem_ready.1 aj;have bl:i<ops.size:=(oc.1 af).1;have:=nQ i bl;unfold oL at this;have o6:i<kV.size:=ab;simp[o6] at this aa;rw[this] at aa;cases aa
 |fuel+1,kV,q,m,a,w,aM,an,h=>by
  refine⟨λaU=>Y6 bE fo h (aop bE aM aU),λi aj=>?_⟩;obtain⟨aa,o,af,ax⟩:=mem_ready.1 aj;have bl:i<ops.size:=(oc.1 af).1;have o6:i<kV.size:=ab;have gC:oL kV i=false:=by
   unfold oL;simp[o6] at aa⊢;exact aa
  have aU:qU ops (oL kV) i o:=⟨af,gC,λe he ah=>ax e (by simpa using he) ah⟩;obtain⟨gy,_,h',ah⟩:=Inv.bound bE h;refine ayB bE iL ba kE jg h' ah aU (by unfold oL;simp[aM]) λcI cX dh eX g=>?_;refine Y7 fuel (by simpa using aM) ?_ (q:=cI) (m:=cX) (by rw[YF o6];exact g);rw[YF o6];have:=ZB (oL kV) gC ops.size;rw[if_pos bl] at this;omega
end
theorem apa {aV:Program}{E:Env}{n:Nat}{call:lk}(pV:aV.follows .mixedOrders=true)(kE:tY aV E)(jg:r0 aV call){id:Nat}{ops:Array Oper}(AI:IG E ops=true){l:List qf}(aW:A_ .nil 0 ops.toList=some l){ds:List Nat}(iL:∀(i:Nat)(o:Oper)(t:Nat),ops[i]?=some o->o.dst=some t->t∈ds){m:M}{σ:bU}{F:Fr}{a:Go.Act}{w:World}{y:Fr×bU}{Q:Exit->Go.Act->World->Prop}(a5:dC m n F a)(bh:bQ m σ w)(h:cV (drawn E call n ops l F σ) y)(fo:∀m' c9 w',Step m σ w m' y.2 w'->dC m' n y.1 c9->bQ m' y.2 w'->iF ds a c9->Q .normal c9 w'):(Code.region id ops true).wp aV Q a w:=by
 obtain⟨t,bR,h⟩:=cV.lT h;split at h
 ·rename_i aqX;obtain rfl:=h.eJ;unfold IG at AI;rw[aW] at AI;simp only at AI;obtain⟨rA,_,hlen,ux⟩:=agU (vh:=λ_=>0) aW (λi a bZ=>by rw[bI.T.get_nil] at bZ;cases bZ);obtain⟨es,aI,⟨gv,aQ,bq,cA,eP⟩,⟨aE,fy,gz,hJ⟩,ic⟩:=Sd bR;have fD:l.length=ops.size:=by rw[hlen];simp
  have Ku:∀i o,ops[i]?=some o->zO E n ops call t.kK t.jy ⟨i,o,rA i⟩ (es[i]?.getD default) (es[i+1]?.getD default):=λi o b6=>by
   have bj:=(ux i o (by simpa using b6)).1;have aj:=(oc.1 b6).1;have bn:es[i]?=some (es[i]'ab):=fG _
   have bB:es[i+1]?=some (es[i+1]'ab):=fG _
   have:=ic i _ _ _ bj bn bB;rw[bn,bB];simpa using this
  have Dt:(es[0]?.getD default)=gv:=by rw[aQ];rfl
  have SM:∀i z,rZ E ops i z->σ.next<=(es[i]?.getD default).x/\(es[i]?.getD default).x<(es[0]?.getD default).s.next/\(es[0]?.getD default).s.heap.get (es[i]?.getD default).x=some (.box z):=λi z ⟨o,b6,dH⟩=>by
   rw[Dt,cA];exact TH (E:=E) (l:=ops.toList) (σ:=σ) (x:=λi=>(es[i]?.getD default).x) (by rw[Dt,eP]) (λidx o b6=>(Ku idx o (by simpa using b6)).2.2.1) i o z (by simpa using b6) dH
  have bE:n7 E n ops call (λi=>es[i]?.getD default) rA t.kK t.jy σ:=⟨Ku,λi o b6=>by
   have:=(ux i o (by simpa using b6)).2;simpa using this,λi j p q uE bL aA an=>by
   have d1:=(ux i p (by simpa using bL)).1;have d2:=(ux j q (by simpa using aA)).1;have:=agN AI uE d1 d2 an;simpa using this,λr aU b ah=>List.all_eq_true.1 (List.all_eq_true.1 aqX r aU) b ah,SM⟩
  have gC:oL (Array.replicate ops.size false)=λ_=>false:=by
   funext j;unfold oL;by_cases aw:j<ops.size<;>simp[aw]
  have aro:(es[ops.size]?.getD default)=aE:=by rw[<-fD,fy];rfl
  have q3:=bh.vV (z8 w);have ar8:Step m σ w m σ w.drew:=⟨jR.refl _ m,hG.vV bh (z8 w),Nat.le_refl _,λ_ _ h _=>h⟩;obtain⟨bn,bB⟩:=TJ (E:=E) (l:=ops.toList) q3;refine wp_region_any pV ?_;refine Y7 (c8:=m) (ws:=w) (a0:=a) (ds:=ds) bE iL bh kE jg (λm' c9 w' cx cI dw fh=>?_) ops.size (q:=0) (m:=m) (by simp) ?_ ?_
  ·simp only[aro] at cx cI dw;rw[hJ] at cx dw;rw[gz] at cI;exact fo m' c9 w' cx cI.cm dw fh
  ·rw[gC];have:∀p,tc (λ_=>false) p=p:=λp=>by
    induction p with
    |zero=>rfl
    |succ p cu=>rw[tc,cu]
   rw[this];exact Nat.le_refl _
  ·rw[gC];refine⟨Nat.zero_le _,λi o b6 lQ=>by simp,?_,?_,Nat.le_refl _,?_,λi z ai _=>?_,λi z ai bL=>?_,λj o aw=>(by cases aw),iF.refl _ _⟩
   ·simp only[Dt,cA];exact bn
   ·simp only[Dt,cA];exact ar8.trans bh bB
   ·rw[Ys];simp only[Dt,bq];exact a5.apB
   ·have:=(SM i z ai).1;exact(bh.fresh _ this).1
   ·exact(SM i z ai).2.2
 ·exact h.cq.elim
inductive t_ (m m':M):B->B->Prop
  |box {cs lL:List C}:lL.length=cs.length->(∀(j:Nat) c',lL[j]?=some c'->∃c,cs[j]?=some c/\∀v,dz m c v->dz m' c' v)->t_ m m' (.box cs) (.box lL)
  |arr {t:dk} {a3:List Bool} {l:L (D t)} (c_ j5:Nat):t_ m m' (.arr t a3 l none c_) (.arr t a3 l none j5)
  |bC (t:dk):t_ m m' (.bC t) (.bC t)
def B.c_:B->Nat
 |.arr _ _ _ _ v=>v
 |_=>0
def xH (σ:bU)(i:Nat):Nat:=match σ.heap.get i with
 |some b=>b.c_
 |none=>0
theorem vb.ank {m m':M}{h:Array Obj}{s i:Nat}{b fZ:B}(ah:vb m h s b)(bR:t_ m m' b fZ)(bL:m'.pl i=m.pl s)(fP:m'.bj i=m.bj s)(ai:m'.fz=m.fz)(b6:m'.dB=m.dB)(aa:∀t a3 l k j5,fZ=.arr t a3 l k j5->∀o,m'.hO i j5 o=m.hO s b.c_ o)(af:∀t a3 l k j5,fZ=.arr t a3 l k j5->∀k,j5<k->∀o,m'.hO i k o=none)(ax:∀t a3 l k j5,fZ=.arr t a3 l k j5->m.pl s=none->(∀k o,m.hO s k o=none)->∀k o,m'.hO i k o=none):vb m' h i fZ:=by
 cases bR with
 |box aW an=>
  rcases ah with g|⟨r,cur,ty,cm,aI,aQ,bq,cA,eP,fy,gz⟩
  ·exact .inl (bL.trans g)
  ·refine .inr ⟨r,cur,ty,cm,bL.trans aI,aQ,bq,cA.trans aW.symm,λj c' aw=>?_,by rw[b6];exact fy,by rw[ai];exact gz⟩;obtain⟨c,bn,bB⟩:=an j c' aw;obtain⟨v,dc,ek⟩:=eP j c bn;exact⟨v,dc,bB v ek⟩
 |bC t=>
  obtain⟨A,k,c,aI,aQ,bq⟩:=ah;refine⟨A,k,c,fP.trans aI,aQ,bq.imp (λ⟨bn,bB,dc⟩=>⟨bn,bB,bL.trans dc⟩) λ⟨r,cur,ty,cm,bn,bB,dc,ek,iU,o_,p1,D_⟩=>⟨r,cur,ty,cm,bn,bL.trans bB,dc,ek,iU,by rw[ai];exact o_,by rw[b6];exact p1,by rw[b6];exact D_⟩⟩
 |@arr t a3 l c_ j5=>
  obtain⟨A,c,aI,aQ,j0,bq⟩:=ah;refine⟨A,c,fP.trans aI,aQ,af _ _ _ _ _ rfl,bq.imp (λ⟨bn,bB,dc,ek⟩=>⟨bn,bB,bL.trans dc,ax _ _ _ _ _ rfl dc ek⟩) λ⟨r,cur,ty,cm,bn,bB,dc,ek,iU,o_,p1,D_,tF⟩=>
   ⟨r,cur,ty,cm,bn,bL.trans bB,dc,ek,iU,by rw[b6];exact o_,by rw[ai];exact p1,λn x aO=>?_,λo v=>?_⟩⟩
  ·exact(D_ n x aO).frame (by rw[ai];exact iy.refl _) λb k aX _=>⟨rfl,by rw[b6],by rw[ai]⟩
  ·rw[aa _ _ _ _ _ rfl o];exact tF o v
def M.sub (m:M)(σ:bU)(ids:List Nat):M:=⟨λj=>(ids[j]?).bind m.pl,λj=>(ids[j]?).bind m.bj,λj v o=>match ids[j]? with
 |some i=>if v=0 then m.hO i (xH σ i) o else none
 |none=>none,m.fz,m.dB⟩
section
variable{w eX:World}{m cX:M}{σ kP fk lZ:bU}{ids:List Nat}
theorem idx_eq (bj:ids.Nodup){j k i:Nat}(aw:ids[j]?=some i)(aX:ids[k]?=some i):j=k:=by
 have aa:=(ep.1 aw);have af:=(ep.1 aX);obtain⟨aa,aE⟩:=aa;obtain⟨af,aP⟩:=af;rcases kz j k with g|g
 ·exact absurd (aE.trans aP.symm) (List.pairwise_iff_getElem.1 bj j k aa af g)
 ·rcases kz k j with Dm|Dm
  ·exact absurd (aP.trans aE.symm) (List.pairwise_iff_getElem.1 bj k j af aa Dm)
  ·omega
theorem bQ.sub (h:bQ m σ w)(bj:ids.Nodup)(az:kP.next=ids.length)(ah:∀j cY,kP.heap.get j=some cY->∃i b,ids[j]?=some i/\σ.heap.get i=some b/\t_ m (m.sub σ ids) b cY/\cY.c_=0):bQ (m.sub σ ids) kP w where
 fresh j aw:=by
  have Kr:ids[j]?=none:=List.getElem?_eq_none ab;refine⟨by simp[M.sub,Kr],by simp[M.sub,Kr],λk o=>by simp[M.sub,Kr],?_⟩;cases cj:kP.heap.get j with
  |none=>rfl
  |some cY=>
   obtain⟨i,b,aa,_⟩:=ah j cY cj;rw[Kr] at aa;cases aa
 live j cY aw:=by
  obtain⟨i,b,aa,af,ax,a8⟩:=ah j cY aw;refine(h.live i b af).ank ax (by simp[M.sub,aa]) (by simp[M.sub,aa]) rfl rfl (λt a3 l k j5 aT o=>?_) (λt a3 l k j5 aT cB aX o=>?_) (λt a3 l k j5 aT bL aM cB o=>?_)
  ·subst aT;have a8:j5=0:=a8;subst a8;simp[M.sub,aa,xH,af]
  ·have:cB≠0:=ab;simp[M.sub,aa,this]
  ·simp[M.sub,aa,aM]
 inj j k mo od r aw aX aU aA:=by
  obtain⟨i,b,aa,af,_⟩:=ah j mo aw;obtain⟨dR,fZ,wV,Du,_⟩:=ah k od aX;have aE:m.pl i=some r:=by simpa[M.sub,aa] using aU
  have aP:m.pl dR=some r:=by simpa[M.sub,wV] using aA
  have:=h.inj i dR b fZ r af Du aE aP;subst this;exact idx_eq bj aa wV
 own:=h.own
 stay:=h.stay
def tM (σ:bU)(i:Nat):Option Nat:=if σ.next<=i then some 0 else match σ.heap.get i with
 |some (.arr _ _ _ _ v)=>some (v+1)
 |_=>none
def M.glue (m:M)(σ:bU)(cX:M)(fk:bU)(ex:Nat->Option Nat):M:=⟨λi=>if i<σ.next then m.pl i else(ex i).bind cX.pl,λi=>match ex i with
 |some s=>cX.bj s
 |none=>m.bj i,λi v o=>match ex i with
 |some s=>if tM σ i=some v then cX.hO s (xH fk s) o else m.hO i v o
 |none=>m.hO i v o,cX.fz,cX.dB⟩
structure Yq (σ:bU)(ids:List Nat)(ex:Nat->Option Nat)(N:Nat):Prop where
  vW:∀i s,ex i=some s->i<σ.next->ids[s]?=some i
  new:∀i s,ex i=some s->σ.next<=i->i<N
  inj:∀i dR s,ex i=some s->ex dR=some s->i=dR
theorem bQ.glue (h:bQ m σ w)(abt:∀i∈ids,i<σ.next)(tB:kP.next=ids.length)(aD:∀j cY,kP.heap.get j=some cY->∃i b,ids[j]?=some i/\σ.heap.get i=some b)(SN:∀i∈ids,∀cs,σ.heap.get i=some (.box cs)->m.pl i≠none)(af:bQ cX fk eX)(st:Step (m.sub σ ids) kP w cX fk eX){ex:Nat->Option Nat}(hex:Yq σ ids ex lZ.next)(tt:σ.next<=lZ.next)(aX:∀i,i∉ids->i<σ.next->lZ.heap.get i=σ.heap.get i)(aO:∀i gY,lZ.heap.get i=some gY->(i∈ids\/σ.next<=i)->∃s eT,ex i=some s/\fk.heap.get s=some eT/\t_ cX (m.glue σ cX fk ex) eT gY/\∀t a3 l k j5,gY=.arr t a3 l k j5->tM σ i=some j5):
 bQ (m.glue σ cX fk ex) lZ eX/\Step m σ w (m.glue σ cX fk ex) lZ eX:=by
 have low:∀{s i:Nat},ids[s]?=some i->s<kP.next:=λ{s i} aM=>by rw[tB];exact(ep.1 aM).1
 have mem:∀{s i:Nat},ids[s]?=some i->i∈ids:=λaM=>List.mem_of_getElem? aM;have zw:∀{i s:Nat},ex i=some s->(m.glue σ cX fk ex).pl i=cX.pl s:=λ{i s} he=>by
  show(if i<σ.next then _ else _)=_;split
  ·rename_i bl;have aM:=hex.vW i s he bl;rw[st.iK.pl s (low aM)];simp[M.sub,aM]
  ·rw[he];rfl
 have mr:∀{i:Nat},σ.next<=i->m.pl i=none/\m.bj i=none/\(∀k o,m.hO i k o=none):=λ{i} aj=>by
  obtain⟨aI,aQ,bq,_⟩:=h.fresh i aj;exact⟨aI,aQ,bq⟩
 have RF:∀{i v:Nat},i<σ.next->tM σ i=some v->∃t a3 l b6,σ.heap.get i=some (.arr t a3 l b6 (v-1))/\1<=v:=λ{i v} aj aT=>by
  unfold tM at aT;rw[if_neg ab] at aT;split at aT
  ·rename_i t a3 l b6 v0 cj;cases aT;exact⟨t,a3,l,b6,by simpa using cj,ab⟩
  ·cases aT
 have ext:Ext m (m.glue σ cX fk ex):=by
  refine⟨λi r aj=>?_,λi v aj=>?_,λi k o v aj=>?_,st.iK.ext.fz⟩
  ·have bl:i<σ.next:=by
    rcases kz i σ.next with g|g
    ·exact g
    ·rw[(mr g).1] at aj;cases aj
   show(if i<σ.next then _ else _)=_;rw[if_pos bl];exact aj
  ·have bl:i<σ.next:=by
    rcases kz i σ.next with g|g
    ·exact g
    ·rw[(mr g).2.1] at aj;cases aj
   show(match ex i with|some s=>cX.bj s|none=>m.bj i)=_;cases he:ex i with
   |none=>exact aj
   |some s=>
    have aM:=hex.vW i s he bl;exact st.iK.ext.bj s v (by simpa[M.sub,aM] using aj)
  ·have bl:i<σ.next:=by
    rcases kz i σ.next with g|g
    ·exact g
    ·rw[(mr g).2.2] at aj;cases aj
   show(match ex i with|some s=>(if tM σ i=some k then _ else _)|none=>_)=_;cases he:ex i with
   |none=>exact aj
   |some s=>
    simp only
    rw[if_neg]
    ·exact aj
    ·intro aT;obtain⟨t,a3,l,b6,aI,aQ⟩:=RF bl aT;obtain⟨A,c,bn,bB,dc,_⟩:=h.live i _ aI;rw[dc k ab o] at aj;cases aj
 have Uu:∀{R:Nat},CF (m.sub σ ids) kP R->∃j y q k,(j∈ids\/σ.next<=j)/\σ.heap.get j=some y/\m.pl j=some q/\m.dB R=some (q,k):=λ{R} ⟨q,k,j,x,ng,mB,LC⟩=>by
  obtain⟨i,b,aI,aQ⟩:=aD j x mB;exact⟨i,b,q,k,.inl (mem aI),aQ,by simpa[M.sub,aI] using LC,ng⟩
 have key:=h.Zu (m':=m.glue σ cX fk ex) (bd:=lZ) (w':=eX) (λi=>i∈ids\/σ.next<=i) ext ⟨st.gF.os,st.gF.tape,st.gF.output⟩ st.gF.size (λi aj=>?_) (λi gY qw aj=>?_) (λi qw=>?_) (λb ah qw=>?_)
  (λi j bi mo r aqA aqB aj aw aU aA=>?_) (λi x R qw aj fp=>?_) (λb R k ah=>af.own b R k ah) (λb R k ah az=>?_) af.stay
 ·refine⟨key.1,⟨ext,λi aj=>if_pos aj⟩,key.2,tt,λi cs aj bL=>?_⟩;have bl:i<σ.next:=by
   rcases kz i σ.next with g|g
   ·exact g
   ·rw[(h.fresh i g).2.2.2] at aj;cases aj
  rw[aX i (λhm=>SN i hm cs aj bL) bl];exact aj
 ·have sy:ex i=none:=by
   cases he:ex i with
   |none=>rfl
   |some s=>have:=hex.new i s he ab;omega
  obtain⟨f1,f2,f3⟩:=mr (i:=i) ab;refine⟨?_,?_,λk o=>?_,?_⟩
  ·show(if i<σ.next then _ else _)=_;rw[if_neg ab,sy];rfl
  ·show(match ex i with|some s=>cX.bj s|none=>m.bj i)=_;rw[sy];exact f2
  ·show(match ex i with|some s=>(if tM σ i=some k then _ else _)|none=>_)=_;rw[sy];exact f3 k o
  ·cases cj:lZ.heap.get i with
   |none=>rfl
   |some gY=>
    obtain⟨s,eT,aI,_⟩:=aO i gY cj (.inr ab);rw[sy] at aI;cases aI
 ·obtain⟨s,eT,aI,aQ,bq,cA⟩:=aO i gY aj qw;have XX:∀k o,(m.glue σ cX fk ex).hO i k o=if tM σ i=some k then cX.hO s (xH fk s) o else m.hO i k o:=λk o=>by
   show(match ex i with|some s=>(if tM σ i=some k then _ else _)|none=>_)=_;rw[aI]
  have Tm:xH fk s=eT.c_:=by simp[xH,aQ]
  have ayw:∀{k j5:Nat},tM σ i=some j5->j5<k->∀o,m.hO i k o=none:=λ{k j5} aT bl o=>by
   rcases kz i σ.next with g|g
   ·obtain⟨t,a3,l,b6,bn,bB⟩:=RF g aT;obtain⟨A,c,bD,cZ,bN,_⟩:=h.live i _ bn;exact bN k ab o
   ·exact(mr g).2.2 k o
  refine(af.live s eT aQ).ank bq (zw aI) (by show(match ex i with|some s=>cX.bj s|none=>m.bj i)=_;rw[aI]) rfl rfl (λt a3 l k j5 aT o=>?_) (λt a3 l k j5 aT cB pS o=>?_) (λt a3 l k j5 aT bL aM cB o=>?_)
  ·rw[XX,if_pos (cA _ _ _ _ _ aT),Tm]
  ·have uG:=cA _ _ _ _ _ aT;rw[XX,if_neg (by rw[uG];simp;omega)];exact ayw uG pS o
  ·have uG:=cA _ _ _ _ _ aT;rw[XX];split
   ·exact aM _ _
   ·rcases kz i σ.next with g|g
    ·obtain⟨t,a3,l,b6,bn,bB⟩:=RF g uG;obtain⟨A,c,bD,cZ,bN,cK⟩:=h.live i _ bn;have w7:m.pl i=none:=by
      have cn:=zw aI;rw[bL] at cn;have da:(m.glue σ cX fk ex).pl i=m.pl i:=if_pos g;rw[<-da];exact cn
     rcases cK with⟨_,_,_,gn⟩|⟨r,cur,ty,cm,_,ig,_⟩
     ·exact gn cB o
     ·rw[w7] at ig;cases ig
    ·exact(mr g).2.2 cB o
 ·rw[not_or] at qw;have bl:i<σ.next:=ab;have sy:ex i=none:=by
   cases he:ex i with
   |none=>rfl
   |some s=>exact absurd (mem (hex.vW i s he bl)) qw.1
  refine⟨aX i qw.1 bl,if_pos bl,?_⟩;funext k o;show(match ex i with|some s=>(if tM σ i=some k then _ else _)|none=>_)=_;rw[sy]
 ·have:=st.gF.kept b ah λb6=>by
   obtain⟨j,y,q,k,aI,aQ,bq,cA⟩:=Uu b6;exact qw j y q k aI aQ bq cA
  exact⟨this.1,this.2.1,this.2.2.1⟩
 ·obtain⟨s,eT,aI,aQ,_⟩:=aO i bi aj aqA;obtain⟨eE,aow,Dn,JV,_⟩:=aO j mo aw aqB;rw[zw aI] at aU;rw[zw Dn] at aA;have:=af.inj s eE eT aow r aQ JV aU aA;subst this;exact hex.inj i j s aI Dn
 ·obtain⟨s,eT,aI,aQ,_⟩:=aO i x aj qw;rw[zw aI] at fp;rcases kz R w.heap.size with bl|mw
  ·refine .inr (Uu (Classical.byContradiction λaz=>?_));exact(st.gF.kept R bl az).2.2.2 ⟨R,none,s,eT,af.root aQ fp,aQ,fp⟩
  ·exact .inl mw
 ·rcases st.gF.own b R k ah with g|g|g
  ·exact absurd g az
  ·exact .inl g
  ·exact .inr (Uu g)
end
inductive fw
  |leaf (l:fN)
  |agg (t:dk)
  |cJ (t:dk) (o:Nat)
  |Lt
  |ptr (k o:Nat)
  |tok (t:dk) (k:Nat) (nl:List Bool)
  |arr (k:Nat) (t:dk) (a3:List Bool)
  |jZ (k sz f:Nat)
  |fn (f:Nat) (first cap:List (Nat×Nat))
  |xo
  |uR
  |dm
  |sJ (t:dk) (nl:List Bool)
inductive ef
  |box (cs:List fw)
  |arr (t:dk) (a3:List Bool)
  |bC (t:dk)
  |gone
@[reducible] def wA (s:fw):Type:=fw.rec (motive:=λ_=>Type) (λl=>n6 l) (λt=>D t) (λt _=>D t) Unit (λ_ _=>Unit) (λt _ _=>L (D t)) (λ_ _ _=>Unit) (λ_ _ _=>Nat) (λ_ _ _=>Unit) Unit Unit Unit (λt _=>D t) s
@[reducible] def r5 (l:List fw):Type:=List.rec (motive:=λ_=>Type) Unit (λs _ cu=>wA s×cu) l
@[reducible] def kX (b:ef):Type:=ef.rec (motive:=λ_=>Type) (λcs=>r5 cs) (λt _=>L (D t)) (λ_=>Unit) Unit b
@[reducible] def n5 (l:List ef):Type:=List.rec (motive:=λ_=>Type) Unit (λs _ cu=>kX s×cu) l
structure aY where
  p9:List (Nat×fw)
  blocks:List ef
@[reducible] def aY.kinds (p:aY):List fw:=List.rec (motive:=λ_=>List fw) [] (λs _ cu=>s.2::cu) p.p9
@[reducible] def U (p:aY):Type:=r5 p.kinds×n5 p.blocks
def wm (v:V):C:=match v with
 |.p (.c c)=>c
 |_=>.uR
def zm:List Bool->List C->List C
 |b::s9,c::cs=>(match b with
  |true=>.dm
  |false=>c)::zm s9 cs
 |_,cs=>cs
def Ez:List Bool->List C->Bool
 |b::s9,c::cs=>(match b with
  |true=>AP c
  |false=>true)&&Ez s9 cs
 |_,_=>true
def ya (ρ len:Nat->Nat)(s:fw):wA s->V:=fw.rec (motive:=λs=>wA s->V) (λl x=>.c (pL l x)) (λt x=>.agg (lN t x)) (λt o x=>.c (.cJ t x o)) (λ_=>.c (.ptr none)) (λk o _=>.c (.ptr (some (ρ k,o)))) (λt k nl x=>.c (.row t x (.dV (ρ k) nl t.length))) (λk _ _ _=>.c (.a4 (ρ k) (len k))) (λk sz f n=>.c (.jZ (ρ k) n sz f)) (λf us vs _=>.c (.fn f (us.map λy=>(ρ y.1,y.2)) (vs.map λy=>(ρ y.1,y.2)))) (λ_=>.c .xo) (λ_=>.c .uR) (λ_=>.c .dm) (λt nl x=>.agg (zm nl (lN t x))) s
def og (ρ len:Nat->Nat)(l:List fw):r5 l->List V:=List.rec (motive:=λl=>r5 l->List V) (λ_=>[]) (λs _ cu x=>ya ρ len s x.1::cu x.2) l
def C1 (ρ len:Nat->Nat)(c_:Nat)(b:ef):kX b->Option B:=ef.rec (motive:=λb=>kX b->Option B) (λcs x=>some (.box ((og ρ len cs x).map wm))) (λt a3 x=>some (.arr t a3 x none c_)) (λt _=>some (.bC t)) (λ_=>none) b
def TM (b:ef):kX b->Nat:=ef.rec (motive:=λb=>kX b->Nat) (λ_ _=>0) (λ_ _ x=>x.1.length) (λ_ _=>0) (λ_=>0) b
def acR (l:List ef):n5 l->List Nat:=List.rec (motive:=λl=>n5 l->List Nat) (λ_=>[]) (λb _ cu x=>TM b x.1::cu x.2) l
def lenOf {l:List ef}(x:n5 l)(k:Nat):Nat:=(acR l x)[k]?.getD 0
structure fL where
  k:Nat
  id:Nat
  tag:Nat
def kv (ρ:List fL)(k:Nat):Option Nat:=match ρ with
 |[]=>none
 |e::l=>match Nat.beq e.k k with
  |true=>some e.id
  |false=>kv l k
def vo (ρ:List fL)(k id tag:Nat):Option (List fL):=match kv ρ k with
 |none=>some (⟨k,id,tag⟩::ρ)
 |some yW=>match Nat.beq yW id with
  |true=>some (⟨k,id,tag⟩::ρ)
  |false=>none
def CR (ρ:List fL):List (Nat×Nat)->List (Nat×Nat)->Option (List fL)
 |[],[]=>some ρ
 |y::l,z::r=>match Nat.beq y.2 z.2 with
  |true=>match vo ρ y.1 z.1 1 with
   |some ga=>CR ga l r
   |none=>none
  |false=>none
 |_,_=>none
def nO (ρ:List fL)(s:fw)(v:V):Option (wA s×List fL):=match s with
 |.leaf l=>match v with
  |.p (.c c)=>match tg l c with
   |some x=>some (x,ρ)
   |none=>none
  |_=>none
 |.agg t=>match v with
  |.p (.agg cs)=>match mR t cs with
   |some x=>some (x,ρ)
   |none=>none
  |_=>none
 |.cJ t o=>match v with
  |.p (.c (.cJ t' x fF))=>if h:kB t' t=true then(match Nat.beq fF o with
   |true=>some (cast (congrArg D (kC h)) x,ρ)
   |false=>none) else none
  |_=>none
 |.Lt=>match v with
  |.p (.c (.ptr none))=>some ((),ρ)
  |_=>none
 |.ptr k o=>match v with
  |.p (.c (.ptr (some y)))=>match Nat.beq y.2 o with
   |true=>match vo ρ k y.1 1 with
    |some ga=>some ((),ga)
    |none=>none
   |false=>none
  |_=>none
 |.tok t k nl=>match v with
  |.p (.c (.row t' l (.dV id T' sz)))=>if h:kB t' t=true then(match x2 nl T'&&Nat.beq sz t'.length with
   |true=>match vo ρ k id 0 with
    |some ga=>some (cast (congrArg (λt=>L (D t)) (kC h)) l,ga)
    |none=>none
   |false=>match nl with
    |[]=>match vo ρ k id 0 with
     |some ga=>some (cast (congrArg (λt=>L (D t)) (kC h)) l,ga)
     |none=>none
    |_=>none) else none
  |_=>none
 |.arr k _ _=>match v with
  |.p (.c (.a4 id n))=>match vo ρ k id 2 with
   |some ga=>some ((),ga)
   |none=>none
  |_=>none
 |.jZ k sz f=>match v with
  |.p (.c (.jZ id n xE f'))=>match Nat.beq xE sz&&Nat.beq f' f with
   |true=>match vo ρ k id 0 with
    |some ga=>some (n,ga)
    |none=>none
   |false=>none
  |_=>none
 |.fn f us vs=>match v with
  |.p (.c (.fn f' nk gi))=>match Nat.beq f' f with
   |true=>match CR ρ us nk with
    |some ga=>match CR ga vs gi with
     |some aOZ=>some ((),aOZ)
     |none=>none
    |none=>none
   |false=>none
  |_=>none
 |.xo=>match v with
  |.p (.c .xo)=>some ((),ρ)
  |_=>none
 |.uR=>match v with
  |.p (.c .uR)=>some ((),ρ)
  |_=>none
 |.dm=>match v with
  |.p (.c .dm)=>some ((),ρ)
  |_=>none
 |.sJ t nl=>match v with
  |.p (.agg cs)=>match Ez nl cs with
   |true=>match mR t cs with
    |some x=>some (x,ρ)
    |none=>none
   |false=>none
  |_=>none
def yf (l:List fw):List fL->List V->Option (r5 l×List fL):=List.rec (motive:=λl=>List fL->List V->Option (r5 l×List fL)) (λρ vs=>match vs with
 |[]=>some ((),ρ)
 |_=>none)
 (λs _ cu ρ vs=>match vs with
  |[]=>none
  |v::vs=>match nO ρ s v with
   |some y=>match cu y.2 vs with
    |some z=>some ((y.1,z.1),z.2)
    |none=>none
   |none=>none) l
def lr (ρ:List fL)(b:ef)(x:B):Option (kX b×List fL):=match b with
 |.box cs=>match x with
  |.box l=>yf cs ρ (l.map λc=>.p (.c c))
  |_=>none
 |.arr t a3=>match x with
  |.arr t' wF l none _=>if h:kB t' t=true then(match decide (wF=a3) with
   |true=>some (cast (congrArg (λt=>L (D t)) (kC h)) l,ρ)
   |false=>none) else none
  |_=>none
 |.bC t=>match x with
  |.bC t'=>match kB t' t with
   |true=>some ((),ρ)
   |false=>none
  |_=>none
 |.gone=>none
def hasTag (ρ:List fL)(k tag:Nat):Bool:=ρ.any λe=>Nat.beq e.k k&&Nat.beq e.tag tag
def TR (nw:Bool)(ρ:List fL)(j:Nat)(b:ef):Bool:=match nw with
 |false=>true
 |true=>match b with
  |.box _=>hasTag ρ j 1
  |_=>true
def tk (nw:Bool)(σ:bU)(l:List ef):Nat->List fL->Option (n5 l×List fL):=List.rec (motive:=λl=>Nat->List fL->Option (n5 l×List fL)) (λ_ ρ=>some ((),ρ))
 (λb _ cu j ρ=>match b with
  |.gone=>match cu (Nat.succ j) ρ with
   |some z=>some (((),z.1),z.2)
   |none=>none
  |b=>match kv ρ j with
   |none=>none
   |some id=>match σ.heap.get id with
    |none=>none
    |some x=>match TR nw ρ j b with
     |false=>none
     |true=>match lr ρ b x with
      |some y=>match cu (Nat.succ j) y.2 with
       |some z=>some ((y.1,z.1),z.2)
       |none=>none
      |none=>none) l
section
variable{w:World}{m m':M}{σ:bU}{ρ ga:List fL}
theorem JF (f len:Nat->Nat)(s:fw)(l:List fw)(x:r5 (s::l)):og f len (s::l) x=ya f len s x.1::og f len l x.2:=rfl
theorem Z5 (s:fw)(l:List fw)(ρ:List fL)(v:V)(vs:List V):yf (s::l) ρ (v::vs)=(match nO ρ s v with
 |some y=>match yf l y.2 vs with
  |some z=>some ((y.1,z.1),z.2)
  |none=>none
 |none=>none):=rfl
def n8 (ρ:List fL):Prop:=∀e∈ρ,kv ρ e.k=some e.id
theorem acV:∀{ρ:List fL}{k id:Nat},kv ρ k=some id->∃tag,(⟨k,id,tag⟩:fL)∈ρ
 |e::ρ,k,id,h=>by
  rw[kv] at h;split at h
  ·rename_i aX;have:=gB aX;cases h;exact⟨e.tag,by rw[<-this];exact m2⟩
  ·obtain⟨tag,bR⟩:=acV h;exact⟨tag,List.mem_cons_of_mem _ bR⟩
theorem CQ {k id tag:Nat}(h:vo ρ k id tag=some ga):ga=⟨k,id,tag⟩::ρ/\(n8 ρ->n8 ga):=by
 have key:ga=⟨k,id,tag⟩::ρ/\(kv ρ k=none\/kv ρ k=some id):=by
  unfold vo at h;split at h
  ·rename_i az;cases h;exact⟨rfl,.inl az⟩
  ·rename_i yW aM;split at h
   ·rename_i he;cases h;exact⟨rfl,.inr (by rw[aM,gB he])⟩
   ·cases h
 refine⟨key.1,λbE e he=>?_⟩;obtain⟨rfl,aX⟩:=key;rw[kv];split
 ·rename_i aA;have aA:=gB aA;rcases List.mem_cons.1 he with rfl|he
  ·rfl
  ·have aa:=bE e he;have aA:k=e.k:=aA;subst aA;rcases aX with aX|aX
   ·rw[aX] at aa;cases aa
   ·rw[aX] at aa;exact aa
 ·rename_i aA;rcases List.mem_cons.1 he with rfl|he
  ·rw[Nat.beq_refl] at aA;cases aA
  ·exact bE e he
structure ui (m:M)(ρ:List fL)(f len:Nat->Nat):Prop where
  id:∀e∈ρ,f e.k=e.id
  len:∀e∈ρ,e.tag=2->∀A n c,m.bj e.id=some (.slice A n c)->len e.k=n
theorem ui.of {f len:Nat->Nat}(h:ui m ga f len)(aM:∀e∈ρ,e∈ga):ui m ρ f len:=⟨λe he=>h.id e (aM e he),λe he=>h.len e (aM e he)⟩
def Met (m:M)(ρ ga:List fL):Prop:=∀e∈ga,e.tag=1->e∈ρ\/m.pl e.id≠none
theorem RI:∀{us nk:List (Nat×Nat)}{ρ ga:List fL},CR ρ us nk=some ga->(∀e∈ρ,e∈ga)/\(n8 ρ->n8 ga)/\(∀f len,ui m ga f len->nk=us.map λy=>(f y.1,y.2))/\∀vs,cO (qT m) nk vs->Met m ρ ga
 |[],[],ρ,ga,h=>by cases h;exact⟨λ_ h=>h,λh=>h,λ_ _ _=>rfl,λ_ _ e he _=>.inl he⟩
 |y::us,z::nk,ρ,ga,h=>by
  rw[CR] at h;split at h
  ·rename_i he;have he:=gB he;split at h
   ·rename_i sU aa;obtain⟨rfl,aQ⟩:=CQ aa;obtain⟨bn,bB,dc,ek⟩:=RI h;refine⟨λe h=>bn e (List.mem_cons_of_mem _ h),λh=>bB (aQ h),λf len aU=>?_,λvs vL=>?_⟩
    ·rw[List.map_cons,<-dc f len aU];have:=aU.id _ (bn _ m2);simp only at this;rw[this,he]
    ·match vs,vL with
     |v::vs,⟨⟨r,eS,fI⟩,gL⟩=>
      intro e fA bR;rcases ek vs gL e fA bR with g|g
      ·rcases List.mem_cons.1 g with rfl|g
       ·exact .inr (by simp only;rw[eS];simp)
       ·exact .inl g
      ·exact .inr g
   ·cases h
  ·cases h
theorem ao6 {l:fN}{x:n6 l}{u:Value}(h:dU m.fz l x u):dz m (pL l x) u:=by
 cases l with
 |int k=>simp only[dU] at h;exact h
 |bool=>simp only[dU] at h;exact h
 |str=>simp only[dU] at h;exact h
 |a4 t=>exact⟨h,trivial⟩
theorem ZM {l:fN}{c:C}{x:n6 l}{u:Value}(h:tg l c=some x)(an:dz m c u):dz m (pL l x) u:=ao6 (C2 h an)
theorem R6:∀{t:dk}{cs:List C}{x:D t}{vs:List Value},mR t cs=some x->cO (dz m) cs vs->cO (dz m) (lN t x) vs
 |[],[],x,vs,h,aT=>aT
 |[],c::cs,x,vs,h,aT=>by rw[JE] at h;cases h
 |l::t,[],x,vs,h,aT=>by rw[C4] at h;cases h
 |l::t,c::cs,x,v::vs,h,aT=>by
  obtain⟨aa,af⟩:=C3 h;exact⟨ZM aa aT.1,R6 af aT.2⟩
theorem T9:∀{nl:List Bool}{cs ds:List C}{vs:List Value},Ez nl cs=true->cO (dz m) cs vs->cO (dz m) ds vs->cO (dz m) (zm nl ds) vs
 |[],cs,ds,vs,_,_,h=>by
  have:zm [] ds=ds:=by cases ds<;>rfl
  rw[this];exact h
 |b::nl,cs,[],vs,_,_,h=>h
 |b::nl,[],d::ds,[],_,_,h=>h.elim
 |true::nl,c::cs,d::ds,v::vs,az,an,bj=>by
  have az:(AP c&&Ez nl cs)=true:=az;rw[gQ] at az;refine⟨?_,T9 az.2 an.2 bj.2⟩;have af:=an.1;have aa:=az.1;show dz m .dm v;cases c<;>first|exact af|cases aa
 |false::nl,c::cs,d::ds,v::vs,az,an,bj=>by
  have az:(true&&Ez nl cs)=true:=az;rw[gQ] at az;exact⟨bj.1,T9 az.2 an.2 bj.2⟩
theorem Z4 {s:fw}{v:V}{x:wA s}(h:nO ρ s v=some (x,ga)):(∀e∈ρ,e∈ga)/\(n8 ρ->n8 ga)/\(∀f len,ui m ga f len->∀u,eo m v u->eo m (ya f len s x) u)/\((∃u,eo m v u)->Met m ρ ga):=by
 have xG:∀{ρ:List fL},Met m ρ ρ:=λe he _=>.inl he;cases s with
 |leaf l=>
  simp only[nO] at h;split at h
  ·split at h
   ·rename_i c y cf;cases h;exact⟨λ_ h=>h,λh=>h,λf len _ u hu=>ZM cf hu,λ_=>xG⟩
   ·cases h
  ·cases h
 |agg t=>
  simp only[nO] at h;split at h
  ·split at h
   ·rename_i cs y cf;cases h;refine⟨λ_ h=>h,λh=>h,λf len _ u hu=>?_,λ_=>xG⟩;obtain⟨vs,rfl,af⟩:=hu;exact⟨vs,rfl,R6 cf af⟩
   ·cases h
  ·cases h
 |cJ t o=>
  simp only[nO] at h;split at h
  ·split at h
   ·rename_i t' jn fF he;split at h
    ·rename_i b6;obtain rfl:=kC he;obtain rfl:=gB b6;cases h;exact⟨λ_ h=>h,λh=>h,λf len _ u hu=>hu,λ_=>xG⟩
    ·cases h
   ·cases h
  ·cases h
 |Lt=>
  simp only[nO] at h;split at h
  ·cases h;exact⟨λ_ h=>h,λh=>h,λf len _ u hu=>hu,λ_=>xG⟩
  ·cases h
 |ptr k o=>
  simp only[nO] at h;split at h
  ·rename_i y;split at h
   ·rename_i b6;have b6:=gB b6;split at h
    ·rename_i sU aa;obtain⟨rfl,aQ⟩:=CQ aa;cases h;refine⟨λe h=>List.mem_cons_of_mem _ h,aQ,λf len aU u hu=>?_,λ⟨u,hu⟩ e he bR=>?_⟩
     ·have:=aU.id _ m2;simp only at this;show dz m (.ptr (some (f k,o))) u;rw[this,<-b6];exact hu
     ·rcases List.mem_cons.1 he with rfl|he
      ·obtain⟨r,eS,_⟩:=hu;exact .inr (by simp only;rw[eS];simp)
      ·exact .inl he
    ·cases h
   ·cases h
  ·cases h
 |tok t k nl=>
  simp only[nO] at h;split at h
  ·split at h
   ·rename_i t' l id T' sz he;obtain rfl:=kC he;have aqE:(match vo ρ k id 0 with
     |some ga=>some (l,ga)
     |none=>none)=some (x,ga)/\∀u,n9 m.fz T' sz u->n9 m.fz nl t'.length u:=by
     split at h
     ·rename_i ah;rw[gQ] at ah;obtain rfl:=gB ah.2;exact⟨h,λu hu b o len c aT i f aa af ax=>hu b o len c aT i f aa af (RC ah.1 f ax)⟩
     ·split at h
      ·exact⟨h,λu hu=>n9.none⟩
      ·cases h
    clear h;obtain⟨h,ou⟩:=aqE;split at h
    ·rename_i sU aa;obtain⟨rfl,aQ⟩:=CQ aa;cases h;refine⟨λe h=>List.mem_cons_of_mem _ h,aQ,λf len aU u hu=>?_,λ_ e he bR=>?_⟩
     ·have:=aU.id _ m2;simp only at this;show dz m (.row t' l (.dV (f k) nl t'.length)) u;rw[this];exact⟨hu.1,hu.2.1,ou u hu.2.2⟩
     ·rcases List.mem_cons.1 he with rfl|he
      ·cases bR
      ·exact .inl he
    ·cases h
   ·cases h
  ·cases h
 |arr k t a3=>
  simp only[nO] at h;split at h
  ·rename_i id n;split at h
   ·rename_i sU aa;obtain⟨rfl,aQ⟩:=CQ aa;cases h;refine⟨λe h=>List.mem_cons_of_mem _ h,aQ,λf len aU u hu=>?_,λ_ e he bR=>?_⟩
    ·have ax:=aU.id _ m2;obtain⟨A,c,eS,fI,gL⟩:=hu;have a8:=aU.len _ m2 rfl A n c (by rw[<-eS];exact fI);simp only at ax a8;show dz m (.a4 (f k) (len k)) u;rw[ax,a8];exact⟨A,c,eS,fI,gL⟩
    ·rcases List.mem_cons.1 he with rfl|he
     ·cases bR
     ·exact .inl he
   ·cases h
  ·cases h
 |jZ k sz f0=>
  simp only[nO] at h;split at h
  ·rename_i id n xE f';split at h
   ·rename_i ah;rw[gQ] at ah;obtain rfl:=gB ah.1;obtain rfl:=gB ah.2;split at h
    ·rename_i sU aa;obtain⟨rfl,aQ⟩:=CQ aa;cases h;refine⟨λe h=>List.mem_cons_of_mem _ h,aQ,λf len aU u hu=>?_,λ_ e he bR=>?_⟩
     ·have:=aU.id _ m2;simp only at this;show dz m (.jZ (f k) _ _ _) u;rw[this];exact hu
     ·rcases List.mem_cons.1 he with rfl|he
      ·cases bR
      ·exact .inl he
    ·cases h
   ·cases h
  ·cases h
 |fn f0 us vs=>
  simp only[nO] at h;split at h
  ·rename_i f' nk gi;split at h
   ·rename_i ah;obtain rfl:=gB ah;split at h
    ·rename_i sU aa;split at h
     ·rename_i aRb af;cases h;obtain⟨dK,dh,gT,j7⟩:=RI (m:=m) aa;obtain⟨cY,eT,gY,oT⟩:=RI (m:=m) af;refine⟨λe h=>cY e (dK e h),λh=>eT (dh h),λf len aU u hu=>?_,λ⟨u,hu⟩ e he bR=>?_⟩
      ·show dz m (.fn _ _ _) u;rw[<-gT f len (aU.of cY),<-gY f len aU];exact hu
      ·obtain⟨xs,jz,_,fI,gL⟩:=hu;rcases oT _ gL e he bR with g|g
       ·exact j7 _ fI e g bR
       ·exact .inr g
     ·cases h
    ·cases h
   ·cases h
  ·cases h
 |xo=>
  simp only[nO] at h;split at h
  ·cases h;exact⟨λ_ h=>h,λh=>h,λf len _ u hu=>hu,λ_=>xG⟩
  ·cases h
 |uR=>
  simp only[nO] at h;split at h
  ·cases h;exact⟨λ_ h=>h,λh=>h,λf len _ u hu=>hu,λ_=>xG⟩
  ·cases h
 |dm=>
  simp only[nO] at h;split at h
  ·cases h;exact⟨λ_ h=>h,λh=>h,λf len _ u hu=>hu,λ_=>xG⟩
  ·cases h
 |sJ t nl=>
  simp only[nO] at h;split at h
  ·split at h
   ·rename_i az;split at h
    ·rename_i cs y cf;cases h;refine⟨λ_ h=>h,λh=>h,λf len _ u hu=>?_,λ_=>xG⟩;obtain⟨vs,rfl,af⟩:=hu;exact⟨vs,rfl,T9 az af (R6 cf af)⟩
    ·cases h
   ·cases h
  ·cases h
theorem Ak:∀{l:List fw}{vs:List V}{x:r5 l}{ρ ga:List fL},yf l ρ vs=some (x,ga)->(∀e∈ρ,e∈ga)/\(n8 ρ->n8 ga)/\
 (∀f len,ui m ga f len->cO (λv en=>∀u,eo m v u->eo m en u) vs (og f len l x))/\((∀v∈vs,∃u,eo m v u)->Met m ρ ga)
 |[],[],x,ρ,ga,h=>by cases h;exact⟨λ_ h=>h,λh=>h,λ_ _ _=>trivial,λ_ e he _=>.inl he⟩
 |[],v::vs,x,ρ,ga,h=>by cases h
 |s::l,[],x,ρ,ga,h=>by cases h
 |s::l,v::vs,x,ρ,ga,h=>by
  rw[Z5] at h;split at h
  ·rename_i y cf;split at h
   ·rename_i z ai;cases h;obtain⟨dK,dh,gT,j7⟩:=Z4 (m:=m) cf;obtain⟨cY,eT,gY,oT⟩:=Ak (vs:=vs) ai;refine⟨λe h=>cY e (dK e h),λh=>eT (dh h),λf len aU=>⟨gT f len (aU.of cY),gY f len aU⟩,λaT e he bR=>?_⟩;rcases oT (λen h'=>aT en (List.mem_cons_of_mem _ h')) e he bR with g|g
    ·exact j7 (aT v m2) e g bR
    ·exact .inr g
   ·cases h
  ·cases h
def uk (m m':M)(f f':Nat->Nat)(P:Nat->Bool):Prop:=iy m.fz m'.fz/\∀k,P k=true->(∀r,m.pl (f k)=some r->m'.pl (f' k)=some r)/\∀v,m.bj (f k)=some v->m'.bj (f' k)=some v
def fw.tT (P:Nat->Bool):fw->Bool
 |.ptr k _=>P k
 |.tok _ k _=>P k
 |.arr k _ _=>P k
 |.jZ k _ _=>P k
 |.fn _ us vs=>(us.all λy=>P y.1)&&vs.all λy=>P y.1
 |_=>true
theorem UB {f f':Nat->Nat}{P:Nat->Bool}(bR:uk m m' f f' P):∀{us:List (Nat×Nat)}{vs:List Value},(us.all λy=>P y.1)=true->cO (qT m) (us.map λy=>(f y.1,y.2)) vs->cO (qT m') (us.map λy=>(f' y.1,y.2)) vs
 |[],[],_,h=>h
 |y::us,v::vs,ah,⟨⟨r,aa,af⟩,ax⟩=>by
  rw[List.all_cons,gQ] at ah;exact⟨⟨r,(bR.2 y.1 ah.1).1 r aa,af⟩,UB bR ah.2 ax⟩
theorem R8 {f f' len:Nat->Nat}{P:Nat->Bool}{s:fw}{x:wA s}{u:Value}(bR:uk m m' f f' P)(aM:s.tT P=true)(h:eo m (ya f len s x) u):eo m' (ya f' len s x) u:=by
 cases s with
 |leaf l=>
  have h:dz m (pL l x) u:=h;show dz m' (pL l x) u;cases l with
  |a4 t=>exact⟨h.1.ext bR.1,trivial⟩
  |int k=>exact h
  |bool=>exact h
  |str=>exact h
 |agg t=>
  obtain⟨vs,rfl,af⟩:=h;refine⟨vs,rfl,?_⟩;have key:∀{t:dk}{x:D t}{vs:List Value},cO (dz m) (lN t x) vs->cO (dz m') (lN t x) vs:=by
   intro t;induction t with
   |nil=>intro x vs h;match vs,h with|[],h=>exact h
   |cons l t cu=>
    intro x vs h
    match vs,h with
    |v::vs,⟨aa,af⟩=>
     refine⟨?_,cu af⟩;have aa:dz m (pL l x.1) v:=aa;show dz m' (pL l x.1) v;cases l with
     |a4 t=>exact⟨aa.1.ext bR.1,trivial⟩
     |int k=>exact aa
     |bool=>exact aa
     |str=>exact aa
  exact key af
 |cJ t o=>
  obtain⟨b,a,aa,af⟩:=h;exact⟨b,a,aa,af.ext bR.1⟩
 |Lt=>exact h
 |ptr k o=>
  obtain⟨r,aa,af⟩:=h;exact⟨r,(bR.2 k aM).1 r aa,af⟩
 |tok t k nl=>exact⟨h.1.ext bR.1,(bR.2 k aM).2 _ h.2.1,h.2.2.ext bR.1⟩
 |arr k t a3=>
  obtain⟨A,c,aa,af,ax⟩:=h;exact⟨A,c,aa,(bR.2 k aM).2 _ af,ax⟩
 |jZ k sz f0=>
  obtain⟨b,j,c,aa,af⟩:=h;exact⟨b,j,c,(bR.2 k aM).2 _ aa,af⟩
 |fn f0 us vs=>
  have aM:((us.all λy=>P y.1)&&vs.all λy=>P y.1)=true:=aM;rw[gQ] at aM;obtain⟨xs,jz,aa,af,ax⟩:=h;exact⟨xs,jz,aa,UB bR aM.1 af,UB bR aM.2 ax⟩
 |xo=>exact h
 |uR=>exact h
 |dm=>exact h
 |sJ t nl=>
  obtain⟨vs,rfl,af⟩:=h;refine⟨vs,rfl,?_⟩;have key:∀{t:dk}{nl:List Bool}{x:D t}{vs:List Value},cO (dz m) (zm nl (lN t x)) vs->cO (dz m') (zm nl (lN t x)) vs:=by
   intro t;induction t with
   |nil=>intro nl x vs h;cases nl<;>(match vs,h with|[],h=>exact h)
   |cons l t cu=>
    intro nl x vs h;have base:∀{v:Value},dz m (pL l x.1) v->dz m' (pL l x.1) v:=λ{v} aa=>by
     cases l with
     |a4 t=>exact⟨aa.1.ext bR.1,trivial⟩
     |int k=>exact aa
     |bool=>exact aa
     |str=>exact aa
    cases nl with
    |nil=>
     match vs,h with
     |v::vs,⟨aa,af⟩=>
      have e:∀ds:List C,zm [] ds=ds:=λds=>by cases ds<;>rfl
      have:=cu (nl:=[]) (x:=x.2) (vs:=vs) (by rw[e];exact af);rw[e] at this⊢;exact⟨base aa,this⟩
    |cons b nl=>
     match vs,h with
     |v::vs,⟨aa,af⟩=>
      refine⟨?_,cu af⟩;cases b with
      |true=>exact aa
      |false=>exact base aa
  exact key af
end
end cF
end Go.Proofs.YtgmdfchkljaooaaGreat
