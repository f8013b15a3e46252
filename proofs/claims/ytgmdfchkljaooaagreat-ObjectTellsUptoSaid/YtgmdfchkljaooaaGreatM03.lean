/- Typed values. -/
import Derived.Orders
import Derived.Test.YtgmdfchkljaooaaGreatM02
noncomputable section
namespace Go.Proofs.YtgmdfchkljaooaaGreat
open Go.RowKit
namespace cx
open bC (T cL under size kL fx jP hO mf qC)
set_option linter.unusedVariables false
set_option linter.unusedSimpArgs false
structure Env where
  cw:T TypeInfo
  dC:T (List TypeDesc)
  ty:T dh
  jN:T wo
def YU (f:Nat)(args:List Operand)(F:Fr)(σ:bV):Q R:=.ret (.call f (args.map λx=>jx x F) σ)
def Ud (l:List (Nat×Nat)):List V:=l.map λa=>.c (.ptr (some a))
def I4 (f:Operand)(args:List Operand)(F:Fr)(σ:bV):Q R:=match lO (jx f F) with
 |some (.fn g first cap)=>.ret (.call g (Ud first++args.map (λx=>jx x F)++Ud cap) σ)
 |_=>.fail
def Qn (k:C->C->bV->Q R)(c d:C)(σ:bV):Q R:=match d with
 |.str _=>k c d σ
 |_=>.fail
def KY (k:C->C->bV->Q R)(c d:C)(σ:bV):Q R:=match d with
 |.str _=>.fail
 |_=>k c d σ
def D2 (E:Env)(dst:Option Nat)(b:Builtin)(ts:List TypeId)(xs:List Operand):nh:=match b,ts,xs with
 |.len,[t],[x]=>match under E.cw t with
  |some .string=>.pure (m_ x ab4)
  |some (.slice _)=>.pure (m_ x ab3)
  |_=>.bad
 |.append,[t,t'],[x,y]=>match under E.cw t with
  |some (.slice e)=>match elemOf E.cw e with
   |some q=>match under E.cw t' with
    |some .string=>.jw (zw x y (Qn (app q.2.1 q.1 (E.ty.get e) (dst.bind E.jN.get))))
    |some (.slice _)=>.jw (zw x y (KY (app q.2.1 q.1 (E.ty.get e) (dst.bind E.jN.get))))
    |_=>.bad
   |none=>.bad
  |_=>.bad
 |.min,_,[x,y]=>.pure (iY x y (ou λk a b=>.int k (AM a b)))
 |.max,_,[x,y]=>.pure (iY x y (ou λk a b=>.int k (imax a b)))
 |_,_,_=>.bad
def act (E:Env)(dst:Option Nat)(o:Op):nh:=match o with
 |.move x=>.pure (Tt x)
 |.assign x=>.pure (Tt x)
 |.pick c a b=>.pure (pick c a b)
 |.alloc e=>match zero E.cw e with
  |some z=>.alloc z.cells
  |none=>.bad
 |.box e x=>match dst.bind E.jN.get with
  |some .bW=>match E.ty.get e with
   |some t=>.made (uS x (YM t))
   |none=>.bad
  |_=>.jw λF σ=>uS x (λy=>YN y σ) F
 |.build t ck=>match zero E.cw t,under E.cw t with
  |some z,some (.struct fs)=>match E4 E.cw fs.toList with
   |some pl=>.pure (Ab (λi=>pl[i]?) z.cells ck.toList)
   |none=>.bad
  |some z,some (.array _ e)=>match size E.cw e with
   |some n=>.pure (Ab (L7 n) z.cells ck.toList)
   |none=>.bad
  |_,_=>.bad
 |.buildSlice t n ck=>match under E.cw t with
  |some (.slice e)=>match elemOf E.cw e with
   |some q=>match E.ty.get e with
    |some ty=>match dst.bind E.jN.get with
     |some (.arr a1)=>.jw λF σ=>Xf a1 ty n q.1 q.2.2 ck.toList F σ
     |some .tok=>.jw λF σ=>Xg ty n q.1 q.2.2 ck.toList F σ
     |_=>.made (alU ty n q.1 q.2.2 ck.toList)
    |none=>.bad
   |none=>.bad
  |_=>.bad
 |.load t a=>match bC.isAgg E.cw t,size E.cw t with
  |some true,some n=>.read (mC a (y8 n))
  |some false,_=>.read (mC a vM)
  |_,_=>.bad
 |.store t a x=>match size E.cw t with
  |some n=>match a with
   |.tmp Qp=>match E.jN.get Qp with
    |some .bW=>match E.ty.get t with
     |some ty=>.jw (A6 a x (xx n (some (Qp,ty))))
     |none=>.bad
    |_=>.jw (A6 a x (xx n none))
   |_=>.jw (A6 a x (xx n none))
  |none=>.bad
 |.nilCheck x=>.pure (m_ x adN)
 |.binOp op t x y _=>mkBin E.cw E.dC op t x y
 |.unOp op _ x=>asx op x
 |.convert s d x=>match under E.cw s,under E.cw d with
  |some _,some (.int k)=>.pure (m_ x (Y3 k))
  |some .string,some .string=>.pure (m_ x Y4)
  |some (.slice e),some .string=>match under E.cw e with
   |some (.int .u8)=>.read (mC x x7)
   |_=>.bad
  |some .string,some (.slice e)=>match under E.cw e with
   |some (.int .u8)=>.jw (mC x Qm)
   |_=>.bad
  |some (.slice e),some (.slice e')=>match Nat.beq s d,under E.cw e' with
   |true,some (.int .u8)=>.jw (mC x CN)
   |_,_=>.bad
  |_,_=>.bad
 |.makeFunc fn first cap=>match fn with
  |.func f=>.pure (acg f first.toList cap.toList)
  |_=>.bad
 |.makeSlice t l c=>match under E.cw t with
  |some (.slice e)=>match elemOf E.cw e with
   |some q=>match E.ty.get e with
    |some ty=>match dst.bind E.jN.get with
     |some (.arr a1)=>match l,c with
      |.tmp i,.tmp j=>match Nat.beq i j with
       |true=>.jw (mC l (zb a1 ty q.1 q.2.1 q.2.2))
       |false=>.bad
      |.const u,.const e7=>match u,e7 with
       |.int k i,.int cv j=>match decide (k=cv)&&decide (i=j) with
        |true=>.jw (mC l (zb a1 ty q.1 q.2.1 q.2.2))
        |false=>.bad
       |_,_=>.bad
      |_,_=>.bad
     |_=>.bad
    |none=>.bad
   |none=>.bad
  |_=>.bad
 |.slice t x dx aj xj=>match under E.cw t with
  |some .string=>match xj with
   |none=>.pure (Rt x dx aj)
   |some _=>.bad
  |some (.slice e)=>match size E.cw e with
   |some sz=>match xj with
    |none=>.pure (Rs sz x dx aj)
    |some m=>.bad
   |none=>.bad
  |_=>.bad
 |.fieldAddr t x f=>match wO E.cw t f with
  |some y=>match size E.cw y.1 with
   |some (_+1)=>.pure (m_ x (CB y.2))
   |_=>.bad
  |none=>.bad
 |.field t x f=>match wO E.cw t f with
  |some y=>match bC.isAgg E.cw y.1,size E.cw y.1 with
   |some true,some n=>.pure (uS x (T5 n y.2))
   |some false,_=>.pure (uS x (T6 y.2))
   |_,_=>.bad
  |none=>.bad
 |.indexAddr t x i=>match under E.cw t with
  |some (.slice e)=>match size E.cw e with
   |some sz=>.pure (iY x i (abG sz))
   |none=>.bad
  |some (.array k e)=>match i with
   |.const v=>match v with
    |.int qv j=>match decide (0<=j)&&decide (j<k),size E.cw e with
     |true,some sz=>.pure (m_ x (CB (j.toNat*sz)))
     |_,_=>.bad
    |_=>.bad
   |_=>.bad
  |_=>.bad
 |.index t x i=>match under E.cw t with
  |some .string=>.pure (iY x i abH)
  |_=>.bad
 |.extract t i=>.pure (RV t i)
 |.call c=>match c.callee with
  |.builtin b=>D2 E dst b c.argTypes.toList c.args.toList
  |.value f=>match f with
   |.func g=>.jw (YU g c.args.toList)
   |.tmp t=>.jw (I4 f c.args.toList)
   |_=>.bad
  |_=>.bad
 |_=>.bad
def tS (aS:Program)(o:Oper):nh->Prop
 |.pure f=>∀(n:Nat) F (a:Go.Act) m w,dB m n F a->∀v,cU (f F) v->∃ej,(execOp a.eval o).run aS w=.ok (.value ej) w/\en m v ej
 |.made f=>∀(n:Nat) F (a:Go.Act) m σ w,dB m n F a->bM m σ w->∀v,cU (f F) v->∃m' ej w',Step m σ w m' σ w'/\(execOp a.eval o).run aS w=.ok (.value ej) w'/\bM m' σ w'/\en m' v ej
 |.read f=>∀(n:Nat) F (a:Go.Act) m σ w,dB m n F a->bM m σ w->∀v,cU (f F σ) v->∃ej,(execOp a.eval o).run aS w=.ok (.value ej) w/\en m v ej
 |.alloc z=>∀(a:Go.Act) w,∃vs t,(execOp a.eval o).run aS w=.ok (.value (.pointer (some ⟨w.heap.size,0,none⟩))) (w.alloc (.cells vs t))/\∀m,cL (dv m) z vs.toList
 |.jw f=>∀(n:Nat) F (a:Go.Act) m σ w,dB m n F a->bM m σ w->∀r,cU (f F σ) r->Good aS m σ w (λt=>a.tmps.getD t undef) (execOp a.eval o) r
 |.bad=>True
section
variable{aS:Program}{o:Oper}{E:Env}
theorem mH {f:Fr->Q V}(s:Go.Act->Sem Value)(aP:∀a,execOp a.eval o=(do pure (.value (<-s a))))(h:∀(n:Nat) F (a:Go.Act) m w,dB m n F a->jD aS m w (s a) (f F)):tS aS o (.pure f):=by
 intro n F a m w a2 v bB;obtain⟨ej,aa,af⟩:=h n F a m w a2 v bB;exact⟨ej,by rw[aP];simp[aa],af⟩
theorem Yo {f:Fr->Q V}(s:Go.Act->Sem Value)(aP:∀a,execOp a.eval o=(do pure (.value (<-s a))))(h:∀(n:Nat) F (a:Go.Act) m σ w,dB m n F a->bM m σ w->QL aS m σ w (s a) (f F)):tS aS o (.made f):=by
 intro n F a m σ w a2 bf v bB;obtain⟨m',ej,w',aa,af,ax,a8⟩:=h n F a m σ w a2 bf v bB;exact⟨m',ej,w',aa,by rw[aP];simp[af],ax,a8⟩
theorem QX {f:Fr->bV->Q V}(s:Go.Act->Sem Value)(aP:∀a,execOp a.eval o=(do pure (.value (<-s a))))(h:∀(n:Nat) F (a:Go.Act) m σ w,dB m n F a->bM m σ w->jD aS m w (s a) (f F σ)):tS aS o (.read f):=by
 intro n F a m σ w a2 bf v bB;obtain⟨ej,aa,af⟩:=h n F a m σ w a2 bf v bB;exact⟨ej,by rw[aP];simp[aa],af⟩
theorem vh {f:Fr->bV->Q R}(s:Go.Act->Sem Value)(aP:∀a,execOp a.eval o=(do pure (.value (<-s a))))(h:∀(n:Nat) F (a:Go.Act) m σ w r,dB m n F a->bM m σ w->cU (f F σ) r->mT aS m σ w (s a) r):tS aS o (.jw f):=by
 intro n F a m σ w a2 bf r bB;rw[aP];exact(h n F a m σ w r a2 bf bB).R6
theorem CA {A:nh}{op:BinOp}{t sM:TypeId}{x y:Operand}(bX:∀a:Go.Act,execOp a.eval o=(do pure (.value (<-(do eqGuard op t x y (a.eval x) (a.eval y);Go.binOp op t (a.eval x) (a.eval y))))))(h:∀(n:Nat) F (a:Go.Act) m w,dB m n F a->∀f,A=.pure f->jD aS m w (do eqGuard op t x y (a.eval x) (a.eval y);Go.binOp op t (a.eval x) (a.eval y)) (f F))(dH:(∃f,A=.pure f)\/A=.bad):tS aS o A:=by
 rcases dH with⟨f,rfl⟩|rfl
 ·exact mH _ bX λn F a m w a2=>h n F a m w a2 f rfl
 ·trivial
theorem aso {op:BinOp}{x y:Operand}:(∃f,mkInt op x y=.pure f)\/mkInt op x y=.bad:=by cases op<;>first|exact .inl ⟨_,rfl⟩|exact .inr rfl
theorem asu {op:BinOp}{x y:Operand}:(∃f,mkStr op x y=.pure f)\/mkStr op x y=.bad:=by cases op<;>first|exact .inl ⟨_,rfl⟩|exact .inr rfl
theorem ach {k:sS}{op:BinOp}{x y:Operand}:(∃f,AU k op x y=.pure f)\/AU k op x y=.bad:=by cases op<;>first|exact .inl ⟨_,rfl⟩|exact .inr rfl
theorem asr {op:BinOp}{x y:Operand}:(∃f,D3 op x y=.pure f)\/D3 op x y=.bad:=by cases op<;>first|exact .inl ⟨_,rfl⟩|exact .inr rfl
theorem builtin_len {c:Call}{b:Builtin}(an:c.callee=.builtin b){t ty:TypeId}(pR:c.argTypes.toList=[t]){a:Go.Act}{x:Operand}(cf:c.args.toList=[x])(ah:b=.len):
 (do let d<-resolve a.eval c ty;invoke d.target d.args:Sem Next)=(do pure (.value (<-Builtin.len_ #[t] ty #[a.eval x]))):=by
 subst ah;have aa:c.argTypes=#[t]:=Array.toList_inj.1 pR;have af:c.args=#[x]:=Array.toList_inj.1 cf;unfold resolve;simp only[an,aa,af];rw[pure_bind];simp only[invoke,builtin,List.map_toArray,List.map_cons,List.map_nil]
theorem YO {c:Call}{b:Builtin}(an:c.callee=.builtin b){t t' ty:TypeId}(pR:c.argTypes.toList=[t,t']){a:Go.Act}{x y:Operand}(cf:c.args.toList=[x,y])(ah:b=.append):
 (do let d<-resolve a.eval c ty;invoke d.target d.args:Sem Next)=(do pure (.value (<-Builtin.append_ #[t,t'] ty #[a.eval x,a.eval y]))):=by
 subst ah;have aa:c.argTypes=#[t,t']:=Array.toList_inj.1 pR;have af:c.args=#[x,y]:=Array.toList_inj.1 cf;unfold resolve;simp only[an,aa,af];rw[pure_bind];simp only[invoke,builtin,List.map_toArray,List.map_cons,List.map_nil]
theorem YP {c:Call}{b:Builtin}(an:c.callee=.builtin b){ty:TypeId}{a:Go.Act}{x y:Operand}(cf:c.args.toList=[x,y]){g:Value->Value->Sem Value}(ah:∀ts:Array TypeId,∀cs:Array Bool,builtin b ts ty cs #[a.eval x,a.eval y]=(do pure (.value (<-g (a.eval x) (a.eval y))))):
 (do let d<-resolve a.eval c ty;invoke d.target d.args:Sem Next)=(do pure (.value (<-g (a.eval x) (a.eval y)))):=by
 have af:c.args=#[x,y]:=Array.toList_inj.1 cf;rw[<-ah c.argTypes (c.args.map λ|.const _=>true|_=>false)];unfold resolve;simp only[an,af];rw[pure_bind];simp only[invoke,List.map_toArray,List.map_cons,List.map_nil];rfl
theorem amc {w:World}{m:M}{F:Fr}{a:Go.Act}{n:Nat}{x y:Operand}{f:(k:IntKind)->bc k->bc k->C}{g:Value->Value->Sem Value}(a2:dB m n F a)(bB:∀k (i j:bc k),∃v,(g (.int k i.1) (.int k j.1)).run aS w=.ok v w/\dv m (f k i j) v):jD aS m w (g (a.eval x) (a.eval y)) (iY x y (ou f) F):=by
 intro v h;obtain⟨c,d,an,bg,h⟩:=uR a2 h;unfold ou at h;split at h
 ·split at h
  ·rename_i k i cv j aU;subst aU;have an:a.eval x=.int cv i.1:=an;have bg:a.eval y=.int cv j.1:=bg;obtain rfl:=i_ h;obtain⟨u,aa,af⟩:=bB cv i j;exact⟨u,by rw[an,bg];exact aa,af⟩
  ·exact h.cc.elim
 ·exact h.cc.elim
theorem anv (b6:fx aS E.cw){dst:Option Nat}{c:Call}{b:Builtin}(an:c.callee=.builtin b){ty:TypeId}(bX:∀a:Go.Act,execOp a.eval o=(do let d<-resolve a.eval c ty;invoke d.target d.args)):
 tS aS o (D2 E dst b c.argTypes.toList c.args.toList):=by
 unfold D2;split
 ·rename_i t x pR aZ;split
  ·rename_i hu;exact mH _ (λa=>(bX a).trans (builtin_len an pR aZ rfl)) λn F a m w a2=>ar3 b6 a2 hu
  ·rename_i e hu;exact mH _ (λa=>(bX a).trans (builtin_len an pR aZ rfl)) λn F a m w a2=>ar2 b6 a2 hu
  ·trivial
 ·rename_i t t' x y pR aZ;split
  ·rename_i e hu;split
   ·rename_i q ay;split
    ·rename_i w8;refine vh (λa=>Builtin.append_ #[t,t'] ty #[a.eval x,a.eval y]) (λa=>(bX a).trans (YO an pR aZ rfl)) λn F a m σ w r a2 bf h=>?_;obtain⟨c',kS,dH⟩:=gT h;obtain⟨d',vw,dH⟩:=gT dH;unfold Qn at dH;split at dH
     ·rename_i s;refine Yz (ty:=E.ty.get e) (jN:=dst.bind E.jN.get) b6 a2 bf hu w8 (.inr rfl) (yb b6 ay) (λ_ d bg=>⟨s,by rw[vw] at bg;cases bg;rfl⟩) (λ⟨_,h⟩=>by cases h) ?_;unfold zw;rw[kS,vw];exact dH
     ·exact dH.cc.elim
    ·rename_i e' w8;refine vh (λa=>Builtin.append_ #[t,t'] ty #[a.eval x,a.eval y]) (λa=>(bX a).trans (YO an pR aZ rfl)) λn F a m σ w r a2 bf h=>?_;obtain⟨c',kS,dH⟩:=gT h;obtain⟨d',vw,dH⟩:=gT dH;unfold KY at dH;split at dH
     ·exact dH.cc.elim
     ·rename_i aA;refine Yz (ty:=E.ty.get e) (jN:=dst.bind E.jN.get) b6 a2 bf hu w8 (.inl ⟨_,rfl⟩) (yb b6 ay) (λh=>by cases h) (λ_ d bg s aP=>by rw[vw] at bg;cases bg;exact aA s aP) ?_;unfold zw;rw[kS,vw];exact dH
    ·trivial
   ·trivial
  ·trivial
 ·rename_i x y aZ;refine mH (λa=>Builtin.min2 (a.eval x) (a.eval y)) (λa=>(bX a).trans (YP an aZ λts cs=>by simp[builtin,Builtin.min_])) λn F a m w a2=>amc a2 λk i j=>⟨.int k (AM i j).1,?_,rfl⟩;simp only[Builtin.min2,AM];by_cases uu:i.1<=j.1<;>simp[uu]<;>omega
 ·rename_i x y aZ;refine mH (λa=>Builtin.max2 (a.eval x) (a.eval y)) (λa=>(bX a).trans (YP an aZ λts cs=>by simp[builtin,Builtin.max_])) λn F a m w a2=>amc a2 λk i j=>⟨.int k (imax i j).1,?_,rfl⟩;simp only[Builtin.max2,imax];by_cases uu:j.1<=i.1<;>simp[uu]<;>omega
 ·trivial
theorem TT {m:M}{n:Nat}{F:Fr}{a:Go.Act}(a2:dB m n F a):∀(l:List Operand),cL (en m) (l.map λx=>jx x F) (l.map a.eval)
 |[]=>trivial
 |x::l=>⟨lY a2 x,TT a2 l⟩
theorem Ue {m:M}:∀{l:List (Nat×Nat)}{vs:List Value},cL (qK m) l vs->cL (en m) (Ud l) vs
 |[],[],_=>trivial
 |p::l,v::vs,⟨aa,af⟩=>⟨aa,Ue af⟩
theorem anB {m:M}{σ:bV}{w:World}{F:Fr}{a:Go.Act}{n:Nat}{r:R}{aR:Nat->Value}{f:Nat}{c:Call}(a2:dB m n F a)(h:cU (YU f c.args.toList F σ) r)(an:c.callee=.value (.func f)){type:TypeId}:
 Good aS m σ w aR (do let d<-resolve a.eval c type;invoke d.target d.args) r:=by
 obtain rfl:=h.eH;refine⟨rfl,c.args.map a.eval,by rw[Array.toList_map];exact TT a2 _,?_⟩;simp[resolve,an,Act.eval,Deferred.ofValue,invoke]
theorem anC {m:M}{σ:bV}{w:World}{F:Fr}{a:Go.Act}{n:Nat}{r:R}{aR:Nat->Value}{f:Operand}{c:Call}(a2:dB m n F a)(h:cU (I4 f c.args.toList F σ) r)(an:c.callee=.value f){type:TypeId}:
 Good aS m σ w aR (do let d<-resolve a.eval c type;invoke d.target d.args) r:=by
 unfold I4 at h;split at h
 ·rename_i g first cap cm
  obtain⟨us,vs,aW,hu,aL⟩:=qa cm (lY a2 f);obtain rfl:=h.eH;refine⟨rfl,us++c.args.map a.eval++vs,?_,?_⟩
  ·rw[Array.toList_append,Array.toList_append,Array.toList_map];exact cL.append (cL.append (Ue hu) (TT a2 _)) (Ue aL)
  ·simp[resolve,an,aW,Deferred.ofValue,invoke]
 ·exact h.cc.elim
theorem am8 (b6:fx aS E.cw)(qX:∀t ds,E.dC.get t=some ds->t_ aS t (.flat ds))(o:Oper):tS aS o (act E o.dst o.op):=by
 obtain⟨dst,op,type,pos,after,guard⟩:=o;show tS aS _ (act E dst op);cases op with
 |move x=>exactλn F a m w a2 v h=>⟨a.eval x,rfl,adB a2 h⟩
 |assign x=>exactλn F a m w a2 v h=>⟨a.eval x,rfl,adB a2 h⟩
 |pick c x y=>exactλn F a m w a2 v h=>axH a2 h
 |alloc e=>
  simp only[act];split
  ·rename_i z ai;intro a w;obtain⟨v,aa,-⟩:=Qb b6 (w:=w) ⟨λ_=>none,λ_=>none,λ_ _ _=>none,λ_=>[],λ_=>none⟩ ai;refine⟨v.cells,e,by simp[execOp,Instr.alloc,aa,newVar,Go.newRow,newObj,Sem.run],λm=>?_⟩;obtain⟨ej,wS,af⟩:=Qb b6 (w:=w) m ai;rw[aa] at wS;cases wS;exact af.cells
  ·trivial
 |box e x=>
  simp only[act];split
  ·split
   ·exact Yo _ (λa=>rfl) λn F a m σ w a2 bf=>anq a2 bf
   ·trivial
  ·exact vh _ (λa=>rfl) λn F a m σ w r a2 bf h=>anr a2 bf h
 |build t ck=>
  simp only[act];split
  ·rename_i z fs ai hu;split
   ·rename_i pl w7;exact mH _ (λa=>rfl) λn F a m w a2=>ant b6 a2 ai hu w7
   ·trivial
  ·rename_i z k e ai hu;split
   ·rename_i sz fA;exact mH _ (λa=>rfl) λn F a m w a2=>ans b6 a2 ai hu fA
   ·trivial
  ·trivial
 |buildSlice t k ck=>
  simp only[act];split
  ·rename_i e hu;split
   ·rename_i q ay;split
    ·rename_i ty SL;split
     ·exact vh _ (λa=>rfl) λn F a m σ w r a2 bf h=>aML b6 a2 bf hu (yb b6 ay) h
     ·exact vh _ (λa=>rfl) λn F a m σ w r a2 bf h=>aMO b6 a2 bf hu (yb b6 ay) h
     ·exact Yo _ (λa=>rfl) λn F a m σ w a2 bf=>aMM b6 a2 bf hu (yb b6 ay)
    ·trivial
   ·trivial
  ·trivial
 |load t x=>
  simp only[act];split
  ·rename_i k cm aP;exact QX _ (λa=>rfl) λn F a m σ w a2 bf=>ab8 b6 a2 bf cm aP
  ·rename_i _ cm;exact QX _ (λa=>rfl) λn F a m σ w a2 bf=>ab9 b6 a2 bf cm
  ·trivial
 |store t x y=>
  simp only[act];split
  ·rename_i k aP;split
   ·rename_i Qp;split
    ·split
     ·exactλn F a m σ w a2 bf r h=>Xk b6 a2 bf aP (λq ay=>by cases ay;rfl) h
     ·trivial
    ·exactλn F a m σ w a2 bf r h=>Xk b6 a2 bf aP (λq ay=>by cases ay) h
   ·exactλn F a m σ w a2 bf r h=>Xk b6 a2 bf aP (λq ay=>by cases ay) h
  ·trivial
 |nilCheck x=>exactλn F a m w a2 v h=>auh a2 rfl h
 |binOp op t x y sM=>
  simp only[act,mkBin];split
  ·rename_i d bg;split
   ·exact CA (sM:=sM) (op:=op) (t:=t) (x:=x) (y:=y) (λa=>rfl) (λn F a m w a2 f bB=>by have:=asq (aS:=aS) (w:=w) (op:=op) (t:=t) (x:=x) (y:=y) a2;rw[bB] at this;exact this) aso
   ·exact CA (sM:=sM) (op:=op) (t:=t) (x:=x) (y:=y) (λa=>rfl) (λn F a m w a2 f bB=>by have:=asw (aS:=aS) (w:=w) (op:=op) (t:=t) (x:=x) (y:=y) a2;rw[bB] at this;exact this) asu
   ·exact CA (sM:=sM) (op:=op) (t:=t) (x:=x) (y:=y) (λa=>rfl) (λn F a m w a2 f bB=>by have:=acj (w:=w) (op:=op) (x:=x) (y:=y) (k:=.leaf .bool) a2 (jP b6 bg) ⟨(λq h=>by cases h),(λh=>by cases h)⟩;rw[bB] at this;exact this) ach
   ·exact CA (sM:=sM) (op:=op) (t:=t) (x:=x) (y:=y) (λa=>rfl) (λn F a m w a2 f bB=>by have:=ast (w:=w) (op:=op) (x:=x) (y:=y) a2 (jP b6 bg);rw[bB] at this;exact this) asr
   ·split
    ·rename_i ds iM;exact CA (sM:=sM) (op:=op) (t:=t) (x:=x) (y:=y) (λa=>rfl) (λn F a m w a2 f bB=>by have:=acj (w:=w) (op:=op) (x:=x) (y:=y) a2 (qX _ _ iM) ⟨(λq h=>by cases h),(λh=>by cases h)⟩;rw[bB] at this;exact this) ach
    ·trivial
  ·trivial
 |unOp op t x=>
  cases op<;>first
   |exact mH _ (λa=>rfl) λn F a m w a2=>aM7 a2
   |exact mH _ (λa=>rfl) λn F a m w a2=>aM8 a2
   |exact mH _ (λa=>rfl) λn F a m w a2=>aM9 a2
   |exact trivial
 |convert s d x=>
  simp only[act];split
  ·rename_i ds k aP bg;exact mH _ (λa=>rfl) λn F a m w a2=>anQ b6 a2 aP bg
  ·rename_i aP bg;exact mH _ (λa=>rfl) λn F a m w a2=>anT b6 a2 aP bg
  ·rename_i e aP bg;split
   ·rename_i he;exact QX _ (λa=>rfl) λn F a m σ w a2 bf=>anO b6 a2 bf aP bg he
   ·trivial
  ·rename_i e aP bg;split
   ·rename_i he;exact vh _ (λa=>rfl) λn F a m σ w r a2 bf h=>aMU b6 a2 bf aP bg he h
   ·trivial
  ·rename_i e e' aP bg;split
   ·rename_i SI he;exact vh _ (λa=>rfl) λn F a m σ w r a2 bf h=>anS b6 a2 bf aP bg (gB SI) he h
   ·trivial
  ·trivial
 |makeFunc fn first cap=>
  simp only[act];split
  ·exact mH _ (λa=>rfl) λn F a m w a2=>asl a2
  ·trivial
 |makeSlice t l c=>
  simp only[act];split
  ·rename_i e hu;split
   ·rename_i q ay;split
    ·rename_i ty SL;split
     ·split
      ·split
       ·rename_i aa;obtain rfl:=gB aa;exact vh _ (λa=>rfl) λn F a m σ w r a2 bf h=>acd b6 a2 bf hu (yb b6 ay) h
       ·trivial
      ·split
       ·split
        ·rename_i aa;simp only[gR,decide_eq_true_iff] at aa;obtain⟨rfl,rfl⟩:=aa;exact vh _ (λa=>rfl) λn F a m σ w r a2 bf h=>acd b6 a2 bf hu (yb b6 ay) h
        ·trivial
       ·trivial
      ·trivial
     ·trivial
    ·trivial
   ·trivial
  ·trivial
 |slice t x dx aj xj=>
  simp only[act];split
  ·rename_i hu;split
   ·exact mH _ (λa=>rfl) λn F a m w a2=>an0 b6 a2 hu
   ·trivial
  ·rename_i e hu;split
   ·rename_i sz aP;split
    ·exact mH _ (λa=>rfl) λn F a m w a2=>anZ b6 a2 hu aP
    ·trivial
   ·trivial
  ·trivial
 |fieldAddr t x f=>
  simp only[act];split
  ·rename_i y b7;split
   ·rename_i k aP;exact mH _ (λa=>rfl) λn F a m w a2=>am9 b6 a2 b7 aP
   ·trivial
  ·trivial
 |field t x f=>
  simp only[act];split
  ·rename_i y b7;split
   ·rename_i k cm aP;exact mH _ (λa=>rfl) λn F a m w a2=>aow b6 a2 b7 cm aP
   ·rename_i cm;exact mH _ (λa=>rfl) λn F a m w a2=>aox b6 a2 b7 cm
   ·trivial
  ·trivial
 |indexAddr t x i=>
  simp only[act];split
  ·rename_i e hu;split
   ·rename_i sz aP;exact mH _ (λa=>rfl) λn F a m w a2=>arz b6 a2 hu aP
   ·trivial
  ·rename_i k e hu;split
   ·split
    ·rename_i qv j;split
     ·rename_i sz aq aP;simp only[gR,decide_eq_true_eq] at aq;exact mH _ (λa=>rfl) λn F a m w a2=>arx b6 a2 hu aP aq.1 aq.2
     ·trivial
    ·trivial
   ·trivial
  ·trivial
 |index t x i=>
  simp only[act];split
  ·rename_i hu;exact mH _ (λa=>rfl) λn F a m w a2=>arA b6 a2 hu
  ·trivial
 |extract t i=>exact mH _ (λa=>rfl) λn F a m w a2=>aon a2
 |call c=>
  simp only[act];split
  ·rename_i b an;exact anv b6 an λa=>rfl
  ·rename_i f an;split
   ·exactλn F a m σ w a2 bf r h=>anB a2 h an
   ·exactλn F a m σ w a2 bf r h=>anC a2 h an
   ·trivial
  ·trivial
 |_=>exact trivial
end
open bC (T cL under size kL fx jP)
structure lp where
  run:Nat->List V->bV->Q (V×bV)
  wr:Nat->List V->bV->List Nat
def CW (n:Nat)(d:Option Nat):Bool:=match d with
 |some t=>Nat.ble (Nat.succ t) n
 |none=>true
def sF (d:Option Nat)(v:V)(F:Fr):Fr:=match d with
 |some t=>rj F t v
 |none=>F
def adF (z:List C)(σ:bV):Q R:=zn (.box z) (.ptr (some (σ.next,0))) σ
def alD (a:nh)(F:Fr)(σ:bV):Q R:=match a with
 |.pure f=>(f F).lG λv=>.ret (.val v σ)
 |.made f=>(f F).lG λv=>.ret (.val v σ)
 |.read f=>(f F σ).lG λv=>.ret (.val v σ)
 |.alloc z=>adF z σ
 |.jw f=>f F σ
 |.bad=>.fail
def fin (call:lp)(d:Option Nat)(F:Fr)(r:Q R):Q (Fr×bV):=r.lG λr=>match r with
 |.val v σ=>.ret (sF d v F,σ)
 |.skip σ=>.ret (sF d .undef F,σ)
 |.qA t v σ=>.ret (sF d .undef (rj F t v),σ)
 |.call f args σ=>(call.run f args σ).lG λy=>.ret (sF d y.1 F,y.2)
def Ao {α:Type}(g:Option (Nat×Bool))(ops:Array Oper)(F:Fr)(yes no:Fr->Q α):Q α:=match g with
 |none=>yes F
 |some y=>match ops[y.1]? with
  |some q=>match q.dst with
   |some d=>match gN F d with
    |.p x=>match x with
     |.c c=>match c with
      |.bool x=>.ite x (match y.2 with
       |true=>yes (rj F d (.c (.bool true)))
       |false=>no (rj F d (.c (.bool true))))
       (match y.2 with
        |true=>no (rj F d (.c (.bool false)))
        |false=>yes (rj F d (.c (.bool false))))
      |_=>.fail
     |_=>.fail
    |.undef=>no F
    |_=>.fail
   |none=>.fail
  |none=>.fail
def step (E:Env)(call:lp)(n:Nat)(ops:Array Oper)(o:Oper)(F:Fr)(σ:bV):Q (Fr×bV):=match CW n o.dst with
 |false=>.fail
 |true=>Ao o.guard ops F (λF=>fin call o.dst F (alD (act E o.dst o.op) F σ)) λF=>.ret (sF o.dst .undef F,σ)
def steps (E:Env)(call:lp)(n:Nat)(ops:Array Oper)(l:List Oper):Fr->bV->Q (Fr×bV):=List.rec (motive:=λ_=>Fr->bV->Q (Fr×bV)) (λF σ=>.ret (F,σ)) (λo _ cj F σ=>(step E call n ops o F σ).lG λy=>cj y.1 y.2) l
structure rV (aS:Program)(call:lp):Prop where
  run:∀f args σ v bb m w (vs:Array Value),cU (call.run f args σ) (v,bb)->bM m σ w->cL (en m) args vs.toList->
    (callFunc f vs).run aS w=.ok (.enter f vs) w/\Calls aS f vs w λe w'=>∃m' ej,e=.returned ej/\Step m σ w m' bb w'/\bM m' bb w'/\en m' v ej
  wr:∀f args σ v bb,cU (call.run f args σ) (v,bb)->∀i,i<σ.next->i∉call.wr f args σ->bb.heap.get i=σ.heap.get i
def tT (aS:Program)(E:Env):Prop:=∀o:Oper,tS aS o (act E o.dst o.op)
def zU (m:M)(n:Nat)(g:Nat->V)(a:Go.Act):Prop:=n<=a.tmps.size/\a.defers=[]/\∀t,en m (g t) (a.tmps.getD t undef)
def iG (l:List Nat)(a c6:Go.Act):Prop:=∀t,t∉l->c6.tmps.getD t undef=a.tmps.getD t undef
section
variable{aS:Program}{w:World}{m m':M}{σ bb:bV}{F rp:Fr}{a:Go.Act}{n:Nat}{call:lp}{E:Env}
theorem iG.refl (l:List Nat)(a:Go.Act):iG l a a:=λ_ _=>rfl
theorem iG.trans {l:List Nat}{a c6 z0:Go.Act}(h:iG l a c6)(k:iG l c6 z0):iG l a z0:=λt bQ=>(k t bQ).trans (h t bQ)
theorem iG.mono {l eC:List Nat}{a c6:Go.Act}(h:iG l a c6)(aZ:∀t,t∈l->t∈eC):iG eC a c6:=λt bQ=>h t λq=>bQ (aZ t q)
theorem iG.put (a:Go.Act)(d:Option Nat)(v:Value):iG d.toList a (a.put d v):=by
 intro t bQ;cases d with
 |none=>rfl
 |some k=>
  have:k≠t:=λe=>bQ (by simp[e]);simp[Go.Act.put,Array.getElem?_setIfInBounds_ne this]
theorem dB.aot (a2:dB m n F a):zU m n (gN F) a:=⟨a2.size,a2.defers,a2.slot⟩
theorem zU.b_ (a2:zU m n (gN F) a):dB m n F a:=⟨a2.1,a2.2.1,a2.2.2⟩
theorem dB.congr (a2:dB m n F a)(h:∀t,gN rp t=gN F t):dB m n rp a:=⟨a2.size,a2.defers,λt=>by rw[h];exact a2.slot t⟩
theorem dB.put (a2:dB m n F a)(e:Ext m m'){d:Option Nat}{v:V}{ej:Value}(bg:CW n d=true)(aL:en m' v ej):dB m' n (sF d v F) (a.put d ej):=by
 cases d with
 |none=>exact⟨a2.size,a2.defers,λt=>(a2.slot t).ext e⟩
 |some k=>
  have aU:=Nat.le_of_ble_eq_true bg;have fA:=a2.size;refine⟨by simpa[Go.Act.put] using a2.size,a2.defers,λt=>?_⟩;show en m' (gN (rj F k v) t) _;rw[vo];by_cases h:t=k
  ·subst h;have:t<a.tmps.size:=ab;simpa[Go.Act.put,this] using aL
  ·have aa:(a.put (some k) ej).tmps.getD t undef=a.tmps.getD t undef:=by
    simp[Go.Act.put,Array.getElem?_setIfInBounds_ne (Ne.symm h)]
   rw[if_neg h,aa];exact(a2.slot t).ext e
theorem dB.qA (a2:dB m n F a){t:Nat}{v:V}(aL:en m v (a.tmps.getD t undef)):dB m n (rj F t v) a:=⟨a2.size,a2.defers,λk=>by
 rw[vo];by_cases h:k=t
 ·subst h;rw[if_pos rfl];exact aL
 ·rw[if_neg h];exact a2.slot k⟩
theorem Ju {d:Nat}{x b:Bool}(h:gN F d=.p (.c (.bool x)))(aW:x=b):∀t,gN (rj F d (.c (.bool b))) t=gN F t:=λt=>by
 rw[vo];by_cases he:t=d
 ·subst he;rw[if_pos rfl,h,aW]
 ·rw[if_neg he]
theorem aub (bf:bM m σ w){z:List C}{vs:Array Value}{t:TypeId}(h:cL (dv m) z vs.toList){r:R}(aO:cU (adF z σ) r):
 ∃m' v bb,r=.val v bb/\Step m σ w m' bb (w.alloc (.cells vs t))/\bM m' bb (w.alloc (.cells vs t))/\en m' v (.pointer (some ⟨w.heap.size,0,none⟩)):=by
 obtain rfl:=aO.eH;obtain⟨ax,a8⟩:=bf.adE (ty:=t) h;have e:=M.RS (m:=m) (r:=w.heap.size) (bf.fresh σ.next (Nat.le_refl _)).1;exact⟨_,_,_,rfl,.put bf e a8,ax,w.heap.size,by simp[M.jE],rfl⟩
theorem aMo {o:Oper}{ac:nh}{r:R}(dH:tS aS o ac)(a2:dB m n F a)(bf:bM m σ w)(h:cU (alD ac F σ) r):Good aS m σ w (λt=>a.tmps.getD t undef) (execOp a.eval o) r:=by
 cases ac with
 |pure f=>
  obtain⟨v,aL,h⟩:=h.lX;obtain rfl:=h.eH;obtain⟨ej,aa,af⟩:=dH n F a m w a2 v aL;exact⟨m,ej,w,Step.refl ..,aa,bf,af⟩
 |made f=>
  obtain⟨v,aL,h⟩:=h.lX;obtain rfl:=h.eH;obtain⟨m',ej,w',a6,aa,af,ax⟩:=dH n F a m σ w a2 bf v aL;exact⟨m',ej,w',a6,aa,af,ax⟩
 |read f=>
  obtain⟨v,aL,h⟩:=h.lX;obtain rfl:=h.eH;obtain⟨ej,aa,af⟩:=dH n F a m σ w a2 bf v aL;exact⟨m,ej,w,Step.refl ..,aa,bf,af⟩
 |alloc z=>
  obtain⟨vs,t,aa,af⟩:=dH a w;obtain⟨m',v,bb,rfl,ax,a8,cy⟩:=aub (t:=t) bf (af m) h;exact⟨m',_,_,ax,aa,a8,cy⟩
 |jw f=>exact dH n F a m σ w a2 bf r h
 |bad=>exact h.cc.elim
theorem aoy {o:Oper}{r:Q R}{K:Go.Act->World->Prop}{Q:Exit->Go.Act->World->Prop}{y:Fr×bV}(jh:rV aS call)(a2:dB m n F a)(bf:bM m σ w)(bg:CW n o.dst=true)(cm:∀x,cU r x->Good aS m σ w (λt=>a.tmps.getD t undef) (execOp a.eval o) x)(h:cU (fin call o.dst F r) y)(ev:∀m' c6 w',Step m σ w m' y.2 w'->dB m' n y.1 c6->bM m' y.2 w'->iG o.dst.toList a c6->K c6 w'):o.wp aS a w K Q:=by
 obtain⟨x,aW,h⟩:=h.lX;have cm:=cm x aW;clear aW;unfold Oper.wp;cases x with
 |val v XD=>
  obtain⟨m',ej,w',e,af,ax,a8⟩:=cm;obtain rfl:=h.eH;rw[af];exact ev m' _ w' e (a2.put e.iL.ext bg a8) ax (iG.put _ _ _)
 |skip XD=>
  obtain⟨m',w',e,af,ax⟩:=cm;obtain rfl:=h.eH;rw[af];exact ev m' _ w' e (a2.put e.iL.ext bg rfl) ax (iG.put _ _ _)
 |qA t v XD=>
  obtain⟨m',w',e,af,ax,a8⟩:=cm;obtain rfl:=h.eH;rw[af];exact ev m' _ w' e (((a2.ext e.iL.ext).qA a8).put (Ext.refl m') bg rfl) ax (iG.put _ _ _)
 |call f args XD=>
  obtain⟨rfl,vs,ax,a8⟩:=cm;obtain⟨mG,b7,h⟩:=h.lX;obtain rfl:=h.eH;rw[a8];obtain⟨cy,dm⟩:=jh.run f args _ mG.1 mG.2 m w vs b7 bf ax;rw[cy];refine dm.mono ?_;rintro _ w' ⟨m',ej,rfl,e,dL,dY⟩;exact ev m' _ w' e (a2.put e.iL.ext bg dY) dL (iG.put _ _ _)
theorem aNu {o q:Oper}{ops:Array Oper}{j d:Nat}{b:Bool}(a2:dB m n F a)(cm:o.guard=some (j,b))(aq:ops[j]?=some q)(ay:q.dst=some d):
 (∀x,gN F d=.p (.c (.bool x))->Region.wanted o (yielded ops a.tmps)=(x==b))/\(gN F d=.undef->Region.wanted o (yielded ops a.tmps)=false):=by
 have aP:=a2.slot d;constructor
 ·intro x aW;rw[aW] at aP;have aP:a.tmps.getD d undef=.bool x:=aP;have aa:a.tmps[d]?=some (.bool x):=by
   rw[Array.getD_eq_getD_getElem?] at aP;cases af:a.tmps[d]? with
   |none=>rw[af] at aP;cases aP
   |some v=>rw[af] at aP;exact congrArg some aP
  simp[Region.wanted,cm,yielded,aq,ay,aa]
 ·intro aW;rw[aW] at aP;have aP:a.tmps.getD d undef=undef:=aP;have aa:a.tmps[d]?=some undef\/a.tmps[d]?=none:=by
   rw[Array.getD_eq_getD_getElem?] at aP;cases af:a.tmps[d]? with
   |none=>exact .inr rfl
   |some v=>rw[af] at aP;exact .inl (congrArg some aP)
  rcases aa with aa|aa<;>simp[Region.wanted,cm,yielded,aq,ay,aa,undef]
theorem ao5 {α:Type}{o:Oper}{ops:Array Oper}{yes no:Fr->Q α}{y:α}(a2:dB m n F a)(h:cU (Ao o.guard ops F yes no) y):
 ∃rp,(∀t,gN rp t=gN F t)/\((Region.wanted o (yielded ops a.tmps)=true/\cU (yes rp) y)\/(Region.wanted o (yielded ops a.tmps)=false/\cU (no rp) y)):=by
 unfold Ao at h;split at h
 ·rename_i cm;exact⟨F,λ_=>rfl,.inl ⟨by simp[Region.wanted,cm],h⟩⟩
 ·rename_i z cm;obtain⟨j,b⟩:=z;split at h
  ·rename_i q aq;split at h
   ·rename_i d ay;obtain⟨aa,af⟩:=aNu a2 cm aq ay;split at h
    ·split at h
     ·split at h
      ·rename_i x aW;have aa:=aa x aW;rcases h.vR with⟨m7,ax⟩|⟨m7,ax⟩
       ·refine⟨_,Ju aW m7,?_⟩;subst m7;cases b with
        |true=>exact .inl ⟨aa,ax⟩
        |false=>exact .inr ⟨aa,ax⟩
       ·refine⟨_,Ju aW m7,?_⟩;subst m7;cases b with
        |true=>exact .inr ⟨aa,ax⟩
        |false=>exact .inl ⟨aa,ax⟩
      ·exact h.cc.elim
     ·exact h.cc.elim
    ·rename_i aW;exact⟨F,λ_=>rfl,.inr ⟨af aW,h⟩⟩
    ·exact h.cc.elim
   ·exact h.cc.elim
  ·exact h.cc.elim
theorem aMR {ops:Array Oper}{o:Oper}{K:Go.Act->World->Prop}{Q:Exit->Go.Act->World->Prop}{y:Fr×bV}(kE:tT aS E)(jh:rV aS call)(a2:dB m n F a)(bf:bM m σ w)(h:cU (step E call n ops o F σ) y)(ev:∀m' c6 w',Step m σ w m' y.2 w'->dB m' n y.1 c6->bM m' y.2 w'->iG o.dst.toList a c6->K c6 w'):
 if Region.wanted o (yielded ops a.tmps) then o.wp aS a w K Q\/(o.asks aS a w/\LetsOut Q) else K (a.put o.dst undef) w:=by
 unfold step at h;split at h
 ·exact h.cc.elim
 ·rename_i bg;obtain⟨rp,qj,aa|aa⟩:=ao5 a2 h
  ·rw[if_pos aa.1];have Z0:=a2.congr qj;exact .inl (aoy jh Z0 bf bg (λx aW=>aMo (kE o) Z0 bf aW) aa.2 ev)
  ·rw[aa.1];obtain rfl:=aa.2.eH;exact ev m _ w (Step.refl ..) ((a2.congr qj).put (Ext.refl m) bg rfl) bf (iG.put _ _ _)
theorem alV {ops:Array Oper}{ds:List Nat}{Q:Exit->Go.Act->World->Prop}(kE:tT aS E)(jh:rV aS call):
 ∀(l:List Oper)(k:Nat){m:M}{σ:bV}{F:Fr}{a:Go.Act}{w:World}{y:Fr×bV},(∀i,l[i]?=ops[k+i]?)->(∀o∈l,∀t,o.dst=some t->t∈ds)->dB m n F a->bM m σ w->
 cU (steps E call n ops l F σ) y->(∀m' c6 w',Step m σ w m' y.2 w'->dB m' n y.1 c6->bM m' y.2 w'->iG ds a c6->Q .normal c6 w')->
 wpOps aS ops Q (List.range' k l.length) a w
 |[],k,m,σ,F,a,w,y,aZ,iM,a2,bf,h,fl=>by
  obtain rfl:=h.eH;exact fl m a w (Step.refl ..) a2 bf (iG.refl _ _)
 |o::l,k,m,σ,F,a,w,y,aZ,iM,a2,bf,h,fl=>by
  have bX:ops[k]?=some o:=by simpa using(aZ 0).symm
  rw[gS,List.range'_succ,wpOps_cons];unfold wpOp;simp only[bX];obtain⟨az,aa,af⟩:=cU.lX h;refine aMR kE jh a2 bf aa λm' c6 w' e qj rA aP=>?_;refine alV kE jh l (k+1) (λi=>?_) (λfC gu=>iM fC (List.mem_cons_of_mem _ gu)) qj rA af λqw z0 u2 e' apd apf pQ=>fl qw z0 u2 (e.trans bf e') apd apf ((aP.mono λt bQ=>?_).trans pQ)
  ·have:=aZ (i+1);rw[List.getElem?_cons_succ] at this;rw[this];congr 1;omega
  ·cases bg:o.dst with
   |none=>rw[bg] at bQ;simp at bQ
   |some k=>rw[bg] at bQ;simp at bQ;subst bQ;exact iM o mY _ bg
end
def j8 (c:C):List Nat:=match c with
 |.ptr (some x)=>[x.1]
 |.row _ _ (.dW k _ _)=>[k]
 |.row _ _ (.at_ id _ _ _ _)=>[id]
 |.aR id _=>[id]
 |.u1 id _ _ _=>[id]
 |.jW id _ _ _=>[id]
 |_=>[]
def abu (v:V):List Nat:=match v with
 |.p (.c c)=>j8 c
 |_=>[]
def lR (F:Fr)(l:List Operand):List Nat:=l.flatMap λx=>abu (jx x F)
def sE (o:Oper):List Nat:=o.dst.toList++(match o.op with
 |.store _ (.tmp t) _=>[t]
 |_=>[])
def Kept (σ bb:bV)(ws:List Nat):Prop:=∀i,i<σ.next->i∉ws->bb.heap.get i=σ.heap.get i
def qH (o:Op)(σ:bV)(ws:List Nat):R->Prop
 |.val _ bb=>Kept σ bb ws
 |.skip bb=>Kept σ bb ws
 |.qA t _ bb=>Kept σ bb ws/\∃ty x,o=.store ty (.tmp t) x
 |.call _ _ bb=>bb=σ
def xK (o:Op):nh->Prop
 |.read f=>∀F σ bb,(∀i∈lR F o.operands.toList,σ.heap.get i=bb.heap.get i)->f F σ=f F bb
 |.jw f=>∀F σ r,cU (f F σ) r->qH o σ (lR F o.operands.toList) r
 |_=>True
section
variable{σ bb:bV}{F:Fr}{α:Type}{x y:Operand}{r:R}{E:Env}{o:Op}
theorem D1 {l:List Operand}{x:Operand}(aW:x∈l){c:C}(an:lO (jx x F)=some c){i:Nat}(aj:i∈j8 c):i∈lR F l:=by
 refine List.mem_flatMap.2 ⟨x,aW,?_⟩;unfold lO at an;split at an
 ·rename_i c' aL;cases an;rw[aL];exact aj
 ·cases an
theorem Dc {i:Nat}(h:σ.heap.get i=bb.heap.get i)(k:B->Q α):og σ i k=og bb i k:=by unfold og;rw[h]
theorem TQ {k:C->bV->Q α}{l:List Operand}(aW:x∈l)(h:∀i∈lR F l,σ.heap.get i=bb.heap.get i)(aU:∀c,(∀i∈j8 c,σ.heap.get i=bb.heap.get i)->k c σ=k c bb):mC x k F σ=mC x k F bb:=by
 unfold mC;cases an:lO (jx x F) with
 |none=>rfl
 |some c=>exact aU c λi aj=>h i (D1 aW an aj)
theorem ar6 {c:C}(h:∀i∈j8 c,σ.heap.get i=bb.heap.get i):vM c σ=vM c bb:=by
 unfold vM z4;split
 ·rfl
 ·exact Dc (h _ (by simp[j8])) _
 ·exact Dc (h _ (by simp[j8])) _
 ·rfl
theorem ar5 {k:Nat}{c:C}(h:∀i∈j8 c,σ.heap.get i=bb.heap.get i):y8 k c σ=y8 k c bb:=by
 unfold y8 z4;split
 ·rfl
 ·exact Dc (h _ (by simp[j8])) _
 ·split
  ·rfl
  ·exact Dc (h _ (by simp[j8])) _
 ·rfl
theorem anP {c:C}(h:∀i∈j8 c,σ.heap.get i=bb.heap.get i):x7 c σ=x7 c bb:=by
 unfold x7;split
 ·rfl
 ·rfl
 ·exact Dc (h _ (by simp[j8])) _
 ·rfl
theorem S0 {ws:List Nat}{b:B}{n:Nat}:Kept σ ⟨σ.heap.put σ.next (some b),n⟩ ws:=λi aj _=>bC.T.eP _ _ ab
theorem Eh {ws:List Nat}{b:B}{c:C}(h:cU (zn b c σ) r):qH o σ ws r:=by
 obtain rfl:=h.eH;exact S0
theorem Ib {t:dh}{d:C}{k:L (D t)->List Bool->Q R}(h:cU (rT t d σ k) r):∃l dC,cU (k l dC) r:=by
 unfold rT at h;split at h
 ·exact⟨_,_,h⟩
 ·obtain⟨_,_,h⟩:=np h
  ·split at h
   ·split at h
    ·split at h
     ·exact⟨_,_,h⟩
     ·exact h.cc.elim
    ·exact h.cc.elim
   ·exact h.cc.elim
 ·split at h
  ·exact⟨_,_,h⟩
  ·exact h.cc.elim
 ·obtain⟨_,_,h⟩:=np h
  ·split at h
   ·split at h
    ·exact⟨_,_,h⟩
    ·exact h.cc.elim
   ·exact h.cc.elim
 ·split at h
  ·obtain⟨l,_,h⟩:=h.m9;exact⟨_,_,h⟩
  ·exact h.cc.elim
 ·exact h.cc.elim
theorem Q3 {t:dh}{eZ k:Nat}{l eC:L (D t)}{nl dC:List Bool}{ws:List Nat}{jC:bV}(h:cU (z2 t eZ k l nl eC dC σ) r)(a6:jC.next<=σ.next)(aU:k∈ws\/jC.next<=k)(aP:Kept jC σ ws):qH o jC ws r:=by
 obtain⟨gh,_,h⟩:=h.m9;obtain rfl:=h.eH;intro i aj aA;show((σ.heap.put k none).put σ.next _).get i=_;rw[bC.T.eP _ _ ab,bC.T.eP _ _ (by rcases aU with aU|aU;(exactλe=>aA (e▸aU));omega)];exact aP i aj aA
theorem Yv {t:dh}{a1:List Bool}{eZ k:Nat}{l eC:L (D t)}{ws:List Nat}{jC:bV}(h:cU (IN t a1 eZ k l eC σ) r)(a6:jC.next<=σ.next)(aU:k∈ws\/jC.next<=k)(aP:Kept jC σ ws):qH o jC ws r:=by
 obtain⟨gh,_,h⟩:=h.m9;obtain rfl:=h.eH;intro i aj aA;show((σ.heap.put k none).put σ.next _).get i=_;rw[bC.T.eP _ _ ab,bC.T.eP _ _ (by rcases aU with aU|aU;(exactλe=>aA (e▸aU));omega)];exact aP i aj aA
theorem Yy {eZ sz:Nat}{ty:Option dh}{jN:Option wo}{c d:C}{ws:List Nat}(hw:∀i∈j8 c,i∈ws)(h:cU (app eZ sz ty jN c d σ) r):qH o σ ws r:=by
 unfold app at h;split at h
 ·split at h
  ·split at h
   ·split at h
    ·obtain⟨l,dC,h⟩:=Ib h;split at h
     ·exact Yv h (by simp) (.inr (Nat.le_refl _)) S0
     ·exact h.cc.elim
    ·obtain⟨l,dC,h⟩:=Ib h;exact Q3 h (by simp) (.inr (Nat.le_refl _)) S0
   ·exact h.cc.elim
  ·exact h.cc.elim
 ·obtain⟨_,_,h⟩:=np h
  ·split at h
   ·split at h
    ·obtain⟨l,dC,h⟩:=Ib h;exact Q3 h (Nat.le_refl _) (.inl (hw _ (by simp[j8]))) λi _ _=>rfl
    ·exact h.cc.elim
   ·exact h.cc.elim
 ·rename_i id c7 n xz f;obtain⟨_,_,h⟩:=np h
  ·split at h
   ·split at h
    ·split at h
     ·split at h
      ·obtain⟨l,dC,h⟩:=Ib h;refine Q3 h (by simp) (.inr (Nat.le_refl _)) λi aj aA=>?_;show((σ.heap.put id _).put σ.next _).get i=_;rw[bC.T.eP _ _ ab,bC.T.eP _ _ (λe=>aA (hw _ (by simp[j8,e])))]
      ·exact h.cc.elim
     ·exact h.cc.elim
    ·exact h.cc.elim
   ·exact h.cc.elim
 ·obtain⟨_,_,h⟩:=np h
  ·split at h
   ·split at h
    ·obtain⟨l,dC,h⟩:=Ib h;split at h
     ·exact Yv h (Nat.le_refl _) (.inl (hw _ (by simp[j8]))) λi _ _=>rfl
     ·exact h.cc.elim
    ·exact h.cc.elim
   ·exact h.cc.elim
 ·exact h.cc.elim
theorem S1 {ws:List Nat}{k n:Nat}{b:Option B}(aU:k∈ws):Kept σ ⟨σ.heap.put k b,n⟩ ws:=λi _ aA=>bC.T.eP _ _ λe=>aA (e▸aU)
theorem abM {ws:List Nat}{k i n:Nat}{b c:Option B}(aU:k∈ws)(aj:i∈ws):Kept σ ⟨(σ.heap.put k b).put i c,n⟩ ws:=λj _ aA=>by
 show((σ.heap.put k b).put i c).get j=_;have aa:j≠i:=λe=>aA (by rw[e];exact aj);have af:j≠k:=λe=>aA (by rw[e];exact aU);rw[bC.T.eP _ _ aa,bC.T.eP _ _ af]
theorem aMS {sz:Nat}{bW:Option (Nat×dh)}{c:C}{v:P}{ws:List Nat}(hw:∀i∈j8 c,i∈ws)(aL:∀d,v=.c d->∀i∈j8 d,i∈ws)(ai:∀q,bW=some q->∃ty x,o=.store ty (.tmp q.1) x)(h:cU (xx sz bW c v σ) r):qH o σ ws r:=by
 unfold xx at h;split at h
 ·exact h.cc.elim
 split at h
 ·obtain⟨_,_,h⟩:=np h
  ·split at h
   ·split at h
    ·split at h
     ·obtain rfl:=h.eH;exact S1 (hw _ (by simp[j8]))
     ·split at h
      ·obtain⟨y,_,h⟩:=gT h;obtain rfl:=h.eH;exact⟨S1 (hw _ (by simp[j8])),ai _ rfl⟩
      ·exact h.cc.elim
    ·exact h.cc.elim
   ·exact h.cc.elim
 ·obtain⟨_,_,h⟩:=np h
  ·split at h
   ·split at h
    ·exact h.cc.elim
    ·split at h
     ·exact h.cc.elim
     ·split at h
      ·split at h
       ·obtain⟨e,_,h⟩:=h.m9;obtain⟨e',_,h⟩:=gT h;obtain rfl:=h.eH;exact S1 (hw _ (by simp[j8]))
       ·exact h.cc.elim
      ·split at h
       ·split at h
        ·split at h
         ·obtain⟨e,_,h⟩:=h.m9;obtain⟨e',_,h⟩:=gT h;split at h
          ·obtain rfl:=h.eH;exact abM (aL _ rfl _ (by simp[j8])) (hw _ (by simp[j8]))
          ·split at h
           ·rcases h.vR with⟨_,h⟩|⟨_,h⟩
            ·obtain rfl:=h.eH;exact abM (aL _ rfl _ (by simp[j8])) (hw _ (by simp[j8]))
            ·exact h.cc.elim
           ·exact h.cc.elim
         ·exact h.cc.elim
        ·exact h.cc.elim
       ·exact h.cc.elim
   ·exact h.cc.elim
 ·exact h.cc.elim
theorem axu {k:P->Q α}{z:α}(h:cU (uS x k F) z):∃c,cU (k c) z:=by
 obtain⟨c,_,h⟩:=gT h;exact⟨c,h⟩
theorem aMN {t:dh}{len sz:Nat}{z:List C}{l:List (Nat×Operand)}{ws:List Nat}(h:cU (Xg t len sz z l F σ) r):qH o σ ws r:=by
 obtain⟨y,_,h⟩:=gT h;exact Eh h
theorem aMK {a1:List Bool}{t:dh}{len sz:Nat}{z:List C}{l:List (Nat×Operand)}{ws:List Nat}(h:cU (Xf a1 t len sz z l F σ) r):qH o σ ws r:=by
 obtain⟨y,_,h⟩:=gT h;split at h
 ·exact Eh h
 ·exact h.cc.elim
theorem asg {a1:List Bool}{t:dh}{sz eZ:Nat}{z:List C}{c:C}{ws:List Nat}(h:cU (zb a1 t sz eZ z c σ) r):qH o σ ws r:=by
 unfold zb at h;split at h
 ·split at h
  ·split at h
   ·obtain⟨l,_,h⟩:=h.m9;exact Eh h
   ·exact h.cc.elim
  ·exact h.cc.elim
 ·exact h.cc.elim
theorem anR {c:C}{ws:List Nat}(h:cU (CN c σ) r):qH o σ ws r:=by
 unfold CN at h;split at h
 ·obtain⟨_,_,h⟩:=np h
  ·split at h
   ·split at h
    ·split at h
     ·exact h.cc.elim
     ·obtain rfl:=h.eH;exactλi _ _=>rfl
    ·exact h.cc.elim
   ·exact h.cc.elim
 ·exact h.cc.elim
theorem aMT {c:C}{ws:List Nat}(h:cU (Qm c σ) r):qH o σ ws r:=by
 unfold Qm at h;split at h
 ·obtain⟨l,_,h⟩:=h.m9;exact Eh h
 ·exact h.cc.elim
theorem TP {k:C->bV->Q α}{z:α}(h:cU (mC x k F σ) z):∃c,lO (jx x F)=some c/\cU (k c σ) z:=gT h
theorem ane {eZ sz:Nat}{ty:Option dh}{jN:Option wo}{l:List Operand}(aW:x∈l)(h:cU (zw x y (Qn (app eZ sz ty jN)) F σ) r):qH o σ (lR F l) r:=by
 obtain⟨c,an,h⟩:=gT h;obtain⟨d,bg,h⟩:=gT h;unfold Qn at h;split at h
 ·exact Yy (λi aj=>D1 aW an aj) h
 ·exact h.cc.elim
theorem anc {eZ sz:Nat}{ty:Option dh}{jN:Option wo}{l:List Operand}(aW:x∈l)(h:cU (zw x y (KY (app eZ sz ty jN)) F σ) r):qH o σ (lR F l) r:=by
 obtain⟨c,an,h⟩:=gT h;obtain⟨d,bg,h⟩:=gT h;unfold KY at h;split at h
 ·exact h.cc.elim
 ·exact Yy (λi aj=>D1 aW an aj) h
theorem Xl {sz:Nat}{bW:Option (Nat×dh)}{l:List Operand}(aW:x∈l)(b7:y∈l)(ai:∀q,bW=some q->∃ty x,o=.store ty (.tmp q.1) x)(h:cU (A6 x y (xx sz bW) F σ) r):qH o σ (lR F l) r:=by
 obtain⟨c,an,h⟩:=gT h;obtain⟨d,bg,h⟩:=gT h;refine aMS (λi aj=>D1 aW an aj) (λd' vw i aj=>?_) ai h;refine D1 (c:=d') b7 ?_ aj;unfold wA at bg;split at bg
 ·rename_i jn aq6;cases bg;rw[aq6,vw];rfl
 ·cases bg
theorem anu {c:Call}{b:Builtin}(an:c.callee=.builtin b){dst:Option Nat}:xK (.call c) (D2 E dst b c.argTypes.toList c.args.toList):=by
 have bX:(Op.call c).operands.toList=c.args.toList:=by simp[Op.operands,Call.operands,an]
 unfold D2;split
 ·split<;>trivial
 ·rename_i t t' x y pR aZ;split
  ·split
   ·split
    ·intro F σ r h;rw[bX,aZ];exact ane mY h
    ·intro F σ r h;rw[bX,aZ];exact anc mY h
    ·trivial
   ·trivial
  ·trivial
 ·trivial
 ·trivial
 ·trivial
theorem asp {op:BinOp}:xK o (mkInt op x y):=by cases op<;>trivial
theorem asv {op:BinOp}:xK o (mkStr op x y):=by cases op<;>trivial
theorem aci {k:sS}{op:BinOp}:xK o (AU k op x y):=by cases op<;>trivial
theorem ass {op:BinOp}:xK o (D3 op x y):=by cases op<;>trivial
theorem QY (dst:Option Nat)(o:Op):xK o (act E dst o):=by
 cases o with
 |alloc e=>simp only[act];split<;>trivial
 |box e x=>
  simp only[act];split
  ·split<;>trivial
  ·intro F σ r h;obtain⟨c,h⟩:=axu h;exact Eh h
 |build t ck=>simp only[act];split<;>(try split)<;>trivial
 |buildSlice t k ck=>
  simp only[act];split
  ·split
   ·split
    ·split
     ·exactλF σ r h=>aMK h
     ·exactλF σ r h=>aMN h
     ·trivial
    ·trivial
   ·trivial
  ·trivial
 |load t x=>
  simp only[act];split
  ·exactλF σ bb h=>TQ (l:=(Op.load t x).operands.toList) (by simp[Op.operands]) h λc an=>ar5 an
  ·exactλF σ bb h=>TQ (l:=(Op.load t x).operands.toList) (by simp[Op.operands]) h λc an=>ar6 an
  ·trivial
 |store t x y=>
  simp only[act];have aW:x∈(Op.store t x y).operands.toList:=by simp[Op.operands]
  have b7:y∈(Op.store t x y).operands.toList:=by simp[Op.operands]
  split
  ·split
   ·rename_i Qp;split
    ·split
     ·exactλF σ r h=>Xl aW b7 (λq ay=>by cases ay;exact⟨t,y,rfl⟩) h
     ·trivial
    ·exactλF σ r h=>Xl aW b7 (λq ay=>by cases ay) h
   ·exactλF σ r h=>Xl aW b7 (λq ay=>by cases ay) h
  ·trivial
 |binOp op t x y sM=>
  simp only[act,mkBin];split
  ·split
   ·exact asp
   ·exact asv
   ·exact aci
   ·exact ass
   ·split
    ·exact aci
    ·trivial
  ·trivial
 |unOp op t x=>cases op<;>trivial
 |convert s d x=>
  simp only[act];split
  ·trivial
  ·trivial
  ·split
   ·exactλF σ bb h=>TQ (l:=(Op.convert s d x).operands.toList) (by simp[Op.operands]) h λc an=>anP an
   ·trivial
  ·split
   ·intro F σ r h;obtain⟨c,_,h⟩:=TP h;exact aMT h
   ·trivial
  ·split
   ·intro F σ r h;obtain⟨c,_,h⟩:=TP h;exact anR h
   ·trivial
  ·trivial
 |makeFunc fn first cap=>simp only[act];split<;>trivial
 |makeSlice t l c=>
  have key:∀{a1:List Bool}{ty:dh}{sz eZ:Nat}{z:List C},xK (.makeSlice t l c) (.jw (mC l (zb a1 ty sz eZ z))):=λ{a1 ty sz eZ z} F σ r h=>by
   obtain⟨c,_,h⟩:=TP h;exact asg h
  simp only[act];split
  ·split
   ·split
    ·split
     ·split
      ·split
       ·exact key
       ·trivial
      ·split
       ·split
        ·exact key
        ·trivial
       ·trivial
      ·trivial
     ·trivial
    ·trivial
   ·trivial
  ·trivial
 |slice t x dx aj xj=>simp only[act];split<;>(try split)<;>(try split)<;>trivial
 |fieldAddr t x f=>simp only[act];split<;>(try split)<;>trivial
 |field t x f=>simp only[act];split<;>(try split)<;>trivial
 |indexAddr t x i=>simp only[act];split<;>(try split)<;>(try split)<;>(try split)<;>trivial
 |index t x i=>simp only[act];split<;>trivial
 |call c=>
  simp only[act];split
  ·rename_i b an;exact anu an
  ·split
   ·intro F σ r h;obtain rfl:=h.eH;rfl
   ·intro F σ r h;unfold I4 at h;split at h
    ·obtain rfl:=h.eH;rfl
    ·exact h.cc.elim
   ·trivial
  ·trivial
 |_=>trivial
end
structure p6 where
  i:Nat
  o:Oper
  mask:Nat
def Kq (acc:T Nat)(j:Nat):List Edge->Option Nat
 |[]=>some 0
 |e::l=>match Kq acc j l with
  |none=>none
  |some s=>match Region.binds .any e with
   |false=>some s
   |true=>match Nat.ble (Nat.succ e.on) j with
    |false=>none
    |true=>match acc.get e.on with
     |some a=>some (Nat.lor s (Nat.lor (Nat.pow 2 e.on) a))
     |none=>none
def A_ (acc:T Nat)(j:Nat):List Oper->Option (List p6)
 |[]=>some []
 |o::l=>match Kq acc j o.after.toList with
  |none=>none
  |some s=>match A_ (acc.put j (some s)) (Nat.succ j) l with
   |none=>none
   |some r=>some (⟨j,o,s⟩::r)
def nh.ov (a:nh):Bool:=match a with
 |.jw _=>true
 |_=>false
def nh.abz (a:nh):Bool:=match a with
 |.alloc _=>true
 |_=>false
def vq (x:Nat):List Nat->Bool
 |[]=>false
 |y::l=>match Nat.beq x y with
  |true=>true
  |false=>vq x l
def Az (l r:List Nat):Bool:=l.any λx=>vq x r
def looks (ops:Array Oper)(o:Oper):List Nat:=o.looksAt ops
def zm (ops:Array Oper)(o:Oper):List Nat:=sE o++looks ops o
def s9 (E:Env)(ops:Array Oper)(a b:Oper):Bool:=
 ((act E a.dst a.op).ov&&(act E b.dst b.op).ov)||Az (sE a) (zm ops b)||Az (sE b) (zm ops a)
def bit (s i:Nat):Bool:=Nat.testBit s i
def E2 (E:Env)(ops:Array Oper):List p6->Bool
 |[]=>true
 |a::l=>(l.all λb=> !s9 E ops a.o b.o||bit b.mask a.i)&&E2 E ops l
def H7 (E:Env)(ops:Array Oper):Bool:=match A_ .nil 0 ops.toList with
 |some l=>E2 E ops l
 |none=>false
def X6 (M:Nat->Nat)(i:Nat)(o:Oper):Prop:=(∀e∈o.after.toList,Region.binds .any e=true->e.on<i)/\∀p,bit (M i) p=true->∃e∈o.after.toList,Region.binds .any e=true/\(p=e.on\/bit (M e.on) p=true)
theorem YJ (a b p:Nat):bit (Nat.lor a b) p=(bit a p||bit b p):=Nat.testBit_or a b p
theorem ank (e p:Nat)(h:bit (Nat.pow 2 e) p=true):p=e:=by
 have h:Nat.testBit (2^e) p=true:=h;rw[Nat.testBit_two_pow] at h;exact(of_decide_eq_true h).symm
theorem ace {acc:T Nat}{j:Nat}{M:Nat->Nat}(Dh:∀i a,acc.get i=some a->a=M i):∀{l:List Edge}{s:Nat},Kq acc j l=some s->
 (∀e∈l,Region.binds .any e=true->e.on<j)/\∀p,bit s p=true->∃e∈l,Region.binds .any e=true/\(p=e.on\/bit (M e.on) p=true)
 |[],s,h=>by
  cases h;exact⟨(λe he=>by cases he),λp bF=>by simp[bit] at bF⟩
 |e::l,s,h=>by
  rw[Kq] at h;split at h
  ·cases h
  ·rename_i eA pQ;obtain⟨aa,af⟩:=ace Dh pQ;split at h
   ·rename_i ah;cases h;refine⟨λe' fu tl=>?_,λp bF=>?_⟩
    ·rcases List.mem_cons.1 fu with rfl|fu
     ·rw[ah] at tl;cases tl
     ·exact aa e' fu tl
    ·obtain⟨e',aG,aN⟩:=af p bF;exact⟨e',by simp[aG],aN⟩
   ·rename_i ah;split at h
    ·cases h
    ·rename_i bn;have bn:=Nat.le_of_ble_eq_true bn;split at h
     ·rename_i a cf;cases h;have cf:=Dh _ _ cf;refine⟨λe' fu tl=>?_,λp bF=>?_⟩
      ·rcases List.mem_cons.1 fu with rfl|fu
       ·exact bn
       ·exact aa e' fu tl
      ·rw[YJ,YJ,Bool.or_eq_true,Bool.or_eq_true] at bF;rcases bF with bF|bF|bF
       ·obtain⟨e',aG,aN⟩:=af p bF;exact⟨e',by simp[aG],aN⟩
       ·exact⟨e,by simp,ah,.inl (ank _ _ bF)⟩
       ·exact⟨e,by simp,ah,.inr (by rw[<-cf];exact bF)⟩
     ·cases h
theorem agl:∀{l:List Oper}{j:Nat}{acc:T Nat}{ds:List p6}{va:Nat->Nat},A_ acc j l=some ds->(∀i a,acc.get i=some a->i<j/\a=va i)->
 ∃M:Nat->Nat,(∀i,i<j->M i=va i)/\ds.length=l.length/\∀idx o,l[idx]?=some o->ds[idx]?=some ⟨j+idx,o,M (j+idx)⟩/\X6 M (j+idx) o
 |[],j,acc,ds,va,h,_=>by cases h;exact⟨va,λ_ _=>rfl,rfl,λidx o bX=>by simp at bX⟩
 |o::l,j,acc,ds,va,h,Dh=>by
  rw[A_] at h;split at h
  ·cases h
  ·rename_i s aP;split at h
   ·cases h
   ·rename_i aNW iM;cases h;obtain⟨aG,aN⟩:=ace (λi a cf=>(Dh i a cf).2) aP;obtain⟨M,bA,bI,c9⟩:=agl (va:=λi=>if i=j then s else va i) iM λi a cf=>by
     rw[bC.T.m3] at cf;split at cf
     ·rename_i he;cases cf;exact⟨ab,by simp[he]⟩
     ·rename_i he;obtain⟨aa,af⟩:=Dh i a cf;exact⟨ab,by simp[he,af]⟩
    have Z3:M j=s:=by rw[bA j ab];simp
    have uo:∀i,i<j->M i=va i:=λi aj=>by rw[bA i ab];simp;omega
    refine⟨M,uo,by simp[bI],λidx fC bX=>?_⟩;cases idx with
    |zero=>
     simp at bX;subst bX;refine⟨by simp[Z3],aG,λp bF=>?_⟩;rw[cq,Z3] at bF;obtain⟨e,aD,aQ,bO⟩:=aN p bF;exact⟨e,aD,aQ,bO.imp id λh=>by rw[uo _ (aG e aD aQ)];exact h⟩
    |succ idx=>
     rw[List.getElem?_cons_succ] at bX;obtain⟨aD,aQ⟩:=c9 idx fC bX;rw[List.getElem?_cons_succ,aD,show j+(idx+1)=j+1+idx by omega];exact⟨rfl,aQ⟩
theorem af_ {E:Env}{ops:Array Oper}:∀{l:List p6},E2 E ops l=true->∀{i j:Nat}{a b:p6},i<j->l[i]?=some a->l[j]?=some b->s9 E ops a.o b.o=true->bit b.mask a.i=true
 |[],_,i,j,a,b,_,aj,_,_=>by simp at aj
 |d::l,h,0,j+1,a,b,uu,aj,aq,an=>by
  simp only[E2,gR,List.all_eq_true] at h;simp at aj aq;subst aj;have:=h.1 b (List.mem_of_getElem? aq);simp[an] at this;exact this
 |d::l,h,i+1,j+1,a,b,uu,aj,aq,an=>by
  simp only[E2,gR] at h;exact af_ (i:=i) (j:=j) h.2 ab (by simpa using aj) (by simpa using aq) an
 |d::l,h,i,0,a,b,uu,aj,aq,an=>by omega
theorem yx (x:Nat):∀(l:List Nat),vq x l=true↔x∈l
 |[]=>by simp[vq]
 |y::l=>by
  rw[vq];split
  ·rename_i h;have:=gB h;simp[this]
  ·rename_i h;have:x≠y:=λe=>by subst e;rw[Nat.beq_refl] at h;cases h
   simp[yx x l,this]
theorem aaD (l r:List Nat):Az l r=true↔∃x,x∈l/\x∈r:=by
 unfold Az;rw[List.any_eq_true];constructor
 ·rintro⟨x,aa,af⟩;exact⟨x,aa,(yx _ _).1 af⟩
 ·rintro⟨x,aa,af⟩;exact⟨x,aa,(yx _ _).2 af⟩
structure oL where
  i:Nat
  mask:Nat
  ids:List Nat
  cell:Option (Nat×Nat)
structure rv where
  i:Nat
  mask:Nat
  ids:List Nat
  ef:Nat
  gE:List (Nat×Nat)
def zR (σ:bV)(y x:Nat×Nat):Prop:=∃cs,σ.heap.get y.1=some (.box cs)/\cs[y.2]?=some (.ptr (some x))
def zG (b:Nat):Nat->List C->List C->List (Nat×Nat)
 |o,c::cs,c'::lf=>match c,c' with
  |.ptr (some x),.ptr (some y)=>match Nat.beq x.1 y.1&&Nat.beq x.2 y.2 with
   |true=>(b,o)::zG b (Nat.succ o) cs lf
   |false=>zG b (Nat.succ o) cs lf
  |_,_=>zG b (Nat.succ o) cs lf
 |_,_,_=>[]
def uE (σ bb:bV)(ids:List Nat):List (Nat×Nat):=ids.flatMap λb=>match σ.heap.get b with
 |some (.box cs)=>match bb.heap.get b with
  |some (.box lf)=>zG b 0 cs lf
  |_=>[]
 |_=>[]
def Z_ (y:Nat×Nat)(l:List (Nat×Nat)):Bool:=l.any λz=>Nat.beq z.1 y.1&&Nat.beq z.2 y.2
theorem alN {b:Nat}:∀{cs lf:List C}{o:Nat}{y:Nat×Nat},y∈zG b o cs lf->y.1=b/\∃k x,y.2=o+k/\cs[k]?=some (.ptr (some x))/\lf[k]?=some (.ptr (some x))
 |[],lf,o,y,h=>by cases h
 |c::cs,[],o,y,h=>by cases c<;>cases h
 |c::cs,c'::lf,o,y,h=>by
  have next:y∈zG b (Nat.succ o) cs lf->y.1=b/\∃k x,y.2=o+k/\(c::cs)[k]?=some (.ptr (some x))/\(c'::lf)[k]?=some (.ptr (some x)):=λh=>by
   obtain⟨aa,k,x,af,ax,a8⟩:=alN h;exact⟨aa,k+1,x,ab,by simpa using ax,by simpa using a8⟩
  unfold zG at h;split at h
  ·rename_i x mG;split at h
   ·rename_i ah;rw[gR] at ah;rcases List.mem_cons.1 h with rfl|h
    ·have e:x=mG:=Prod.ext (gB ah.1) (gB ah.2);subst e;exact⟨rfl,0,x,rfl,rfl,rfl⟩
    ·exact next h
   ·exact next h
  ·exact next h
theorem arL {σ bb:bV}{ids:List Nat}{y:Nat×Nat}(h:Z_ y (uE σ bb ids)=true):∃x,zR σ y x/\zR bb y x:=by
 obtain⟨z,ai,ah⟩:=List.any_eq_true.1 h;rw[gR] at ah;have e:z=y:=Prod.ext (gB ah.1) (gB ah.2);subst e;obtain⟨b,_,af⟩:=List.mem_flatMap.1 ai;split at af
 ·rename_i cs ax;split at af
  ·rename_i lf a8;obtain⟨cr,k,x,cI,dw,fe⟩:=alN af;subst cr;rw[fW] at cI;exact⟨x,⟨cs,ax,by rw[cI];exact dw⟩,lf,a8,by rw[cI];exact fe⟩
  ·cases af
 ·cases af
def cellOf (E:Env)(F:Fr)(o:Op):Option (Nat×Nat):=match o with
 |.load t a=>match bC.isAgg E.cw t with
  |some false=>match lO (jx a F) with
   |some (.ptr (some y))=>some y
   |_=>none
  |_=>none
 |_=>none
theorem anG {E:Env}{dst:Option Nat}{o:Op}{f:Fr->bV->Q V}{F:Fr}{σ bb:bV}{y x:Nat×Nat}(h:act E dst o=.read f)(an:cellOf E F o=some y)(aa:zR σ y x)(af:zR bb y x):f F σ=f F bb:=by
 unfold cellOf at an;split at an
 ·rename_i t a;split at an
  ·rename_i apw;split at an
   ·rename_i mG cf;cases an;have bB:f=mC a vM:=by
     simp only[act,apw] at h;cases h;rfl
    subst bB;obtain⟨cs,aG,aN⟩:=aa;obtain⟨lf,bo,cE⟩:=af;simp only[mC,cf,Q.lift,vM,og,aG,bo,zt,aN,cE]
   ·cases an
  ·cases an
 ·cases an
theorem anF {E:Env}{F:Fr}{o:Op}{y:Nat×Nat}(an:cellOf E F o=some y):y.1∈lR F o.operands.toList:=by
 unfold cellOf at an;split at an
 ·rename_i t a;split at an
  ·split at an
   ·rename_i mG cf;cases an;refine List.mem_flatMap.2 ⟨a,by simp[Op.operands],?_⟩;unfold lO at cf;split at cf
    ·rename_i c aL;cases cf;rw[aL];simp[abu,j8]
    ·cases cf
   ·cases an
  ·cases an
 ·cases an
def afX (ids ws:List Nat)(ef:Nat):Bool:=ids.all λx=> !vq x ws&&Nat.ble (Nat.succ x) ef
def P3 (r:oL)(b:rv):Bool:=afX r.ids b.ids b.ef||(match r.cell with
 |some y=>Z_ y b.gE
 |none=>false)
def P4 (r:oL)(b:rv):Bool:=match Nat.ble (Nat.succ b.i) r.i with
 |true=>bit r.mask b.i||P3 r b
 |false=>bit b.mask r.i||P3 r b
def anI (kJ:List oL)(jz:List rv):Bool:=kJ.all λr=>jz.all λb=>P4 r b
def jM (l:List Nat)(g:Nat->V):Fr:=l.map λt=>(t,g t)
theorem axw (l:List Nat)(g:Nat->V)(t:Nat):gN (jM l g) t=if t∈l then g t else .any:=by
 induction l with
 |nil=>rfl
 |cons x l cj=>
  show gN (rj (jM l g) x (g x)) t=_;rw[vo,cj];by_cases h:t=x
  ·subst h;simp
  ·simp[h]
structure XM where
  v:V
  iE:Option (Nat×V)
  s:bV
  kJ:List oL
  jz:List rv
structure XN where
  F:Fr
  s:bV
  kJ:List oL
  jz:List rv
def L' (iE:Option (Nat×V))(F:Fr):Fr:=match iE with
 |some x=>rj F x.1 x.2
 |none=>F
def RC (E:Env)(call:lp)(ops:Array Oper)(d:p6)(x:Nat)(g:Nat->V)(σ:bV):Q XM:=match act E d.o.dst d.o.op with
 |.pure f=>(f (jM (looks ops d.o) g)).lG λv=>.ret ⟨v,none,σ,[],[]⟩
 |.made f=>(f (jM (looks ops d.o) g)).lG λv=>.ret ⟨v,none,σ,[],[]⟩
 |.read f=>(f (jM (looks ops d.o) g) σ).lG λv=>.ret ⟨v,none,σ,[⟨d.i,d.mask,lR (jM (looks ops d.o) g) d.o.op.operands.toList,cellOf E (jM (looks ops d.o) g) d.o.op⟩],[]⟩
 |.alloc z=>.ret ⟨.c (.ptr (some (x,0))),none,σ,[],[]⟩
 |.jw f=>(f (jM (looks ops d.o) g) σ).lG λr=>match r with
  |.val v bb=>.ret ⟨v,none,bb,[],[⟨d.i,d.mask,lR (jM (looks ops d.o) g) d.o.op.operands.toList,σ.next,uE σ bb (lR (jM (looks ops d.o) g) d.o.op.operands.toList)⟩]⟩
  |.skip bb=>.ret ⟨.undef,none,bb,[],[⟨d.i,d.mask,lR (jM (looks ops d.o) g) d.o.op.operands.toList,σ.next,uE σ bb (lR (jM (looks ops d.o) g) d.o.op.operands.toList)⟩]⟩
  |.qA t u bb=>.ret ⟨.undef,some (t,u),bb,[],[⟨d.i,d.mask,lR (jM (looks ops d.o) g) d.o.op.operands.toList,σ.next,uE σ bb (lR (jM (looks ops d.o) g) d.o.op.operands.toList)⟩]⟩
  |.call f args bb=>(call.run f args bb).lG λy=>.ret ⟨y.1,none,y.2,[],[⟨d.i,d.mask,call.wr f args bb,σ.next,uE σ y.2 (call.wr f args bb)⟩]⟩
 |.bad=>.fail
def xk (E:Env)(o:Oper)(x:Nat):Nat:=match(act E o.dst o.op).abz with
 |true=>Nat.succ x
 |false=>x
def CX (E:Env)(call:lp)(n:Nat)(ops:Array Oper):List p6->Nat->Fr->bV->Q XN
 |[],x,F,σ=>.ret ⟨F,σ,[],[]⟩
 |d::l,x,F,σ=>match CW n d.o.dst with
  |false=>.fail
  |true=>Ao d.o.guard ops F
   (λF=>(RC E call ops d x (gN F) σ).lG λy=>(CX E call n ops l (xk E d.o x) (sF d.o.dst y.v (L' y.iE F)) y.s).lG λz=>.ret ⟨z.F,z.s,y.kJ++z.kJ,y.jz++z.jz⟩)
   λF=>CX E call n ops l (xk E d.o x) (sF d.o.dst .undef F) σ
def lay (E:Env):List Oper->bV->bV
 |[],σ=>σ
 |o::l,σ=>match act E o.dst o.op with
  |.alloc z=>lay E l ⟨σ.heap.put σ.next (some (.box z)),σ.next+1⟩
  |_=>lay E l σ
def drawn (E:Env)(call:lp)(n:Nat)(ops:Array Oper)(l:List p6)(F:Fr)(σ:bV):Q (Fr×bV):=
 (CX E call n ops l σ.next F (lay E ops.toList σ)).lG λz=>match anI z.kJ z.jz with
  |true=>.ret (z.F,z.s)
  |false=>.fail
def wj (ops:Array Oper)(o:Oper)(g:Nat->V):Option Bool:=match o.guard with
 |none=>some true
 |some y=>match ops[y.1]? with
  |some q=>match q.dst with
   |some d=>match g d with
    |.p (.c (.bool x))=>some (x==y.2)
    |.undef=>some false
    |_=>none
   |none=>none
  |none=>none
structure qG where
  g:Nat->V
  s:bV
  x:Nat
  v:V
  iE:Option (Nat×V)
instance:Inhabited qG:=⟨⟨λ_=>.any,⟨.nil,0⟩,0,.any,none⟩⟩
def lH (d:Option Nat)(v:V)(iE:Option (Nat×V))(g:Nat->V):Nat->V:=λt=>if d=some t then v else match iE with
 |some y=>if t=y.1 then y.2 else g t
 |none=>g t
theorem amg (d:Option Nat)(v:V)(iE:Option (Nat×V))(F:Fr):gN (sF d v (L' iE F))=lH d v iE (gN F):=by
 funext t;have aa:gN (L' iE F) t=match iE with|some y=>if t=y.1 then y.2 else gN F t|none=>gN F t:=by
  cases iE with
  |none=>rfl
  |some y=>exact vo _ _ _ _
 cases d with
 |none=>simp only[lH,sF];rw[aa];simp
 |some k=>
  simp only[lH,sF];rw[vo,aa];by_cases h:t=k
  ·subst h;simp
  ·rw[if_neg h,if_neg (by simpa usingλe=>h e.symm)]
section
variable(E:Env)(n:Nat)(ops:Array Oper)(call:lp)(kJ:List oL)(jz:List rv)
def Cm (d:p6)(e e':qG):nh->Prop
 |.pure f=>cU (f (jM (looks ops d.o) e.g)) e.v/\e.iE=none/\e'.s=e.s
 |.made f=>cU (f (jM (looks ops d.o) e.g)) e.v/\e.iE=none/\e'.s=e.s
 |.read f=>cU (f (jM (looks ops d.o) e.g) e.s) e.v/\e.iE=none/\e'.s=e.s/\⟨d.i,d.mask,lR (jM (looks ops d.o) e.g) d.o.op.operands.toList,cellOf E (jM (looks ops d.o) e.g) d.o.op⟩∈kJ
 |.alloc z=>e.v=.c (.ptr (some (e.x,0)))/\e.iE=none/\e'.s=e.s
 |.jw f=>∃r,cU (f (jM (looks ops d.o) e.g) e.s) r/\(match r with
  |.val v bb=>e.v=v/\e.iE=none/\e'.s=bb/\⟨d.i,d.mask,lR (jM (looks ops d.o) e.g) d.o.op.operands.toList,e.s.next,uE e.s bb (lR (jM (looks ops d.o) e.g) d.o.op.operands.toList)⟩∈jz
  |.skip bb=>e.v=.undef/\e.iE=none/\e'.s=bb/\⟨d.i,d.mask,lR (jM (looks ops d.o) e.g) d.o.op.operands.toList,e.s.next,uE e.s bb (lR (jM (looks ops d.o) e.g) d.o.op.operands.toList)⟩∈jz
  |.qA t u bb=>e.v=.undef/\e.iE=some (t,u)/\e'.s=bb/\⟨d.i,d.mask,lR (jM (looks ops d.o) e.g) d.o.op.operands.toList,e.s.next,uE e.s bb (lR (jM (looks ops d.o) e.g) d.o.op.operands.toList)⟩∈jz
  |.call f args bb=>cU (call.run f args bb) (e.v,e'.s)/\e.iE=none/\⟨d.i,d.mask,call.wr f args bb,e.s.next,uE e.s e'.s (call.wr f args bb)⟩∈jz)
 |.bad=>False
def zO (d:p6)(e e':qG):Prop:=CW n d.o.dst=true/\e'.g=lH d.o.dst e.v e.iE e.g/\e'.x=xk E d.o e.x/\((wj ops d.o e.g=some false/\e.v=.undef/\e.iE=none/\e'.s=e.s)\/(wj ops d.o e.g=some true/\Cm E ops call kJ jz d e e' (act E d.o.dst d.o.op)))
end
section
variable{E:Env}{n:Nat}{ops:Array Oper}{call:lp}{kJ P5:List oL}{jz QA:List rv}
theorem Cm.mono {d:p6}{e e':qG}{A:nh}(h:Cm E ops call kJ jz d e e' A)(aa:∀r∈kJ,r∈P5)(af:∀b∈jz,b∈QA):Cm E ops call P5 QA d e e' A:=by
 cases A with
 |read f=>exact⟨h.1,h.2.1,h.2.2.1,aa _ h.2.2.2⟩
 |jw f=>
  obtain⟨r,aG,aN⟩:=h;refine⟨r,aG,?_⟩;cases r with
  |val v bb=>exact⟨aN.1,aN.2.1,aN.2.2.1,af _ aN.2.2.2⟩
  |skip bb=>exact⟨aN.1,aN.2.1,aN.2.2.1,af _ aN.2.2.2⟩
  |qA t u bb=>exact⟨aN.1,aN.2.1,aN.2.2.1,af _ aN.2.2.2⟩
  |call f args bb=>exact⟨aN.1,aN.2.1,af _ aN.2.2⟩
 |_=>exact h
theorem zO.mono {d:p6}{e e':qG}(h:zO E n ops call kJ jz d e e')(aa:∀r∈kJ,r∈P5)(af:∀b∈jz,b∈QA):zO E n ops call P5 QA d e e':=⟨h.1,h.2.1,h.2.2.1,h.2.2.2.imp id λh=>⟨h.1,h.2.mono aa af⟩⟩
theorem ao6 {α:Type}{o:Oper}{F:Fr}{yes no:Fr->Q α}{y:α}(h:cU (Ao o.guard ops F yes no) y):
 ∃rp,gN rp=gN F/\((wj ops o (gN F)=some true/\cU (yes rp) y)\/(wj ops o (gN F)=some false/\cU (no rp) y)):=by
 unfold Ao at h;split at h
 ·rename_i cm;exact⟨F,rfl,.inl ⟨by simp[wj,cm],h⟩⟩
 ·rename_i z cm;obtain⟨j,b⟩:=z;split at h
  ·rename_i q aq;split at h
   ·rename_i d ay;have hw:∀v,gN F d=v->wj ops o (gN F)=(match v with|.p (.c (.bool x))=>some (x==b)|.undef=>some false|_=>none):=λv aL=>by
     subst aL;have aq:ops[j]?=some q:=aq;simp only[wj,cm,aq,ay]
    split at h
    ·split at h
     ·split at h
      ·rename_i x aW;have hw:=hw _ aW;rcases h.vR with⟨m7,ax⟩|⟨m7,ax⟩
       ·refine⟨_,funext (Ju aW m7),?_⟩;subst m7;cases b with
        |true=>exact .inl ⟨hw,ax⟩
        |false=>exact .inr ⟨hw,ax⟩
       ·refine⟨_,funext (Ju aW m7),?_⟩;subst m7;cases b with
        |true=>exact .inr ⟨hw,ax⟩
        |false=>exact .inl ⟨hw,ax⟩
      ·exact h.cc.elim
     ·exact h.cc.elim
    ·rename_i aW;exact⟨F,rfl,.inr ⟨hw _ aW,h⟩⟩
    ·exact h.cc.elim
   ·exact h.cc.elim
  ·exact h.cc.elim
theorem an2 {d:p6}{x:Nat}{g:Nat->V}{σ:bV}{y:XM}(h:cU (RC E call ops d x g σ) y){e':qG}(he:e'.s=y.s):Cm E ops call y.kJ y.jz d ⟨g,σ,x,y.v,y.iE⟩ e' (act E d.o.dst d.o.op):=by
 unfold RC at h;cases dH:act E d.o.dst d.o.op with
 |pure f=>
  rw[dH] at h;obtain⟨v,aa,h⟩:=h.lX;obtain rfl:=h.eH;exact⟨aa,rfl,he⟩
 |made f=>
  rw[dH] at h;obtain⟨v,aa,h⟩:=h.lX;obtain rfl:=h.eH;exact⟨aa,rfl,he⟩
 |read f=>
  rw[dH] at h;obtain⟨v,aa,h⟩:=h.lX;obtain rfl:=h.eH;exact⟨aa,rfl,he,by simp⟩
 |alloc z=>
  rw[dH] at h;obtain rfl:=h.eH;exact⟨rfl,rfl,he⟩
 |jw f=>
  rw[dH] at h;obtain⟨r,aa,h⟩:=h.lX;refine⟨r,aa,?_⟩;clear aa;cases r with
  |val v bb=>obtain rfl:=h.eH;exact⟨rfl,rfl,he,by simp⟩
  |skip bb=>obtain rfl:=h.eH;exact⟨rfl,rfl,he,by simp⟩
  |qA t u bb=>obtain rfl:=h.eH;exact⟨rfl,rfl,he,by simp⟩
  |call f args bb=>
   obtain⟨z,af,h⟩:=h.lX;obtain rfl:=h.eH;refine⟨?_,rfl,by rw[he];simp⟩;rw[he];exact af
 |bad=>rw[dH] at h;exact h.cc.elim
theorem RD:∀{l:List p6}{x:Nat}{F:Fr}{σ:bV}{z:XN},cU (CX E call n ops l x F σ) z->
 ∃es:List qG,es.length=l.length+1/\(∃gv,es[0]?=some gv/\gv.g=gN F/\gv.s=σ/\gv.x=x)/\(∃aD,es[l.length]?=some aD/\aD.g=gN z.F/\aD.s=z.s)/\
  ∀idx d e e',l[idx]?=some d->es[idx]?=some e->es[idx+1]?=some e'->zO E n ops call z.kJ z.jz d e e'
 |[],x,F,σ,z,h=>by
  obtain rfl:=h.eH;exact⟨[⟨gN F,σ,x,.any,none⟩],rfl,⟨_,rfl,rfl,rfl,rfl⟩,⟨_,rfl,rfl,rfl⟩,λidx d e e' bg=>by simp at bg⟩
 |d::l,x,F,σ,z,h=>by
  unfold CX at h;split at h
  ·exact h.cc.elim
  ·rename_i bg;obtain⟨rp,qj,⟨hw,aa⟩|⟨hw,aa⟩⟩:=ao6 h
   ·obtain⟨y,af,ax⟩:=aa.lX;obtain⟨fU,a8,cy⟩:=ax.lX;obtain rfl:=cy.eH;obtain⟨es,aG,⟨gv,aN,bo,cE,eM⟩,⟨aD,fH,gz,hM⟩,iV⟩:=RD a8;refine⟨⟨gN F,σ,x,y.v,y.iE⟩::es,by simp[aG],⟨_,rfl,rfl,rfl,rfl⟩,⟨aD,by simpa using fH,gz,hM⟩,λidx d' e e' dm dL dY=>?_⟩;cases idx with
    |zero=>
     simp at dm dL dY;subst dm dL;rw[aN] at dY;cases dY;rw[qj] at af;refine⟨bg,?_,eM,.inr ⟨hw,(an2 af cE).mono (λr aO=>List.mem_append_left _ aO) λr aO=>List.mem_append_left _ aO⟩⟩;rw[bo,amg,qj]
    |succ idx=>
     exact(iV idx d' e e' (by simpa using dm) (by simpa using dL) (by simpa using dY)).mono (λr aO=>List.mem_append_right _ aO) λr aO=>List.mem_append_right _ aO
   ·obtain⟨es,aG,⟨gv,aN,bo,cE,eM⟩,⟨aD,fH,gz,hM⟩,iV⟩:=RD aa;refine⟨⟨gN F,σ,x,.undef,none⟩::es,by simp[aG],⟨_,rfl,rfl,rfl,rfl⟩,⟨aD,by simpa using fH,gz,hM⟩,λidx d' e e' dm dL dY=>?_⟩;cases idx with
    |zero=>
     simp at dm dL dY;subst dm dL;rw[aN] at dY;cases dY;refine⟨bg,?_,eM,.inl ⟨hw,rfl,rfl,cE⟩⟩;rw[bo];show gN (sF _ _ (L' none rp))=_;rw[amg,qj]
    |succ idx=>exact iV idx d' e e' (by simpa using dm) (by simpa using dL) (by simpa using dY)
theorem S9:∀{l:List Oper}{σ:bV},σ.next<=(lay E l σ).next/\∀i,i<σ.next->(lay E l σ).heap.get i=σ.heap.get i
 |[],σ=>⟨Nat.le_refl _,λ_ _=>rfl⟩
 |o::l,σ=>by
  unfold lay;split
  ·rename_i z ai;obtain⟨aa,af⟩:=S9 (l:=l) (σ:=⟨σ.heap.put σ.next (some (.box z)),σ.next+1⟩);refine⟨Nat.le_of_succ_le aa,λi aj=>?_⟩;rw[af i (Nat.lt_succ_of_lt aj)];exact bC.T.eP _ _ ab
  ·exact S9
theorem S8:∀{l:List Oper}{σ:bV}{x:Nat->Nat},x 0=σ.next->(∀idx o,l[idx]?=some o->x (idx+1)=xk E o (x idx))->
 ∀idx o z,l[idx]?=some o->act E o.dst o.op=.alloc z->σ.next<=x idx/\x idx<(lay E l σ).next/\(lay E l σ).heap.get (x idx)=some (.box z)
 |[],σ,x,a6,aP,idx,o,z,aj,ai=>by simp at aj
 |o::l,σ,x,a6,aP,idx,fC,fU,aj,ai=>by
  have aa:=aP 0 o rfl;rw[a6] at aa;unfold lay;cases dH:act E o.dst o.op with
  |alloc z=>
   simp only
   have uz:x 1=σ.next+1:=by rw[aa];unfold xk;rw[dH];rfl
   cases idx with
   |zero=>
    simp at aj;subst aj;rw[dH] at ai;cases ai;obtain⟨aG,aN⟩:=S9 (E:=E) (l:=l) (σ:=⟨σ.heap.put σ.next (some (.box fU)),σ.next+1⟩);rw[a6];refine⟨Nat.le_refl _,aG,?_⟩;rw[aN _ (Nat.lt_succ_self _)];exact bC.T.il ..
   |succ idx=>
    obtain⟨aG,aN,bo⟩:=S8 (l:=l) (σ:=⟨σ.heap.put σ.next (some (.box z)),σ.next+1⟩) (x:=λk=>x (k+1)) uz (λk TF bX=>aP (k+1) TF (by simpa using bX)) idx fC fU (by simpa using aj) ai;exact⟨Nat.le_of_succ_le aG,aN,bo⟩
  |_=>
   simp only
   have uz:x 1=σ.next:=by rw[aa];unfold xk;rw[dH];rfl
   cases idx with
   |zero=>
    simp at aj;subst aj;rw[dH] at ai;cases ai
   |succ idx=>exact S8 (l:=l) (σ:=σ) (x:=λk=>x (k+1)) uz (λk TF bX=>aP (k+1) TF (by simpa using bX)) idx fC fU (by simpa using aj) ai
theorem amq {m:M}{a:Go.Act}{o:Oper}{g:Nat->V}{b:Bool}(aP:∀t∈looks ops o,en m (g t) (a.tmps.getD t undef))(h:wj ops o g=some b):Region.wanted o (yielded ops a.tmps)=b:=by
 unfold wj at h;split at h
 ·rename_i cm;cases h;simp[Region.wanted,cm]
 ·rename_i y cm;split at h
  ·rename_i aPE ay;split at h
   ·rename_i d bg;have bQ:d∈looks ops o:=List.mem_append_right _ (by rw[cm];simp[ay,bg]);have aL:=aP d bQ;split at h
    ·rename_i c an;rw[an] at aL;have aL:a.tmps.getD d undef=.bool c:=aL;have aa:a.tmps[d]?=some (.bool c):=by
      rw[Array.getD_eq_getD_getElem?] at aL;cases af:a.tmps[d]? with
      |none=>rw[af] at aL;cases aL
      |some u=>rw[af] at aL;exact congrArg some aL
     injection h with h
     subst h;obtain⟨j,Q6⟩:=y;cases Q6<;>cases c<;>simp[Region.wanted,cm,yielded,ay,bg,aa]
    ·rename_i an;cases h;rw[an] at aL;have aL:a.tmps.getD d undef=undef:=aL;have aa:a.tmps[d]?=some undef\/a.tmps[d]?=none:=by
      rw[Array.getD_eq_getD_getElem?] at aL;cases af:a.tmps[d]? with
      |none=>exact .inr rfl
      |some u=>rw[af] at aL;exact .inl (congrArg some aL)
     obtain⟨j,Q6⟩:=y;rcases aa with aa|aa<;>simp[Region.wanted,cm,yielded,ay,bg,aa,undef]
    ·cases h
   ·cases h
  ·cases h
end
section
variable{w w':World}{m m':M}{σ bb:bV}
theorem bM.lay (h:bM m σ w)(z:List C):bM m ⟨σ.heap.put σ.next (some (.box z)),σ.next+1⟩ w/\Step m σ w m ⟨σ.heap.put σ.next (some (.box z)),σ.next+1⟩ w:=by
 obtain⟨f1,f2,f3,f4⟩:=h.fresh σ.next (Nat.le_refl _);have key:=h.change (m':=m) (bb:=⟨σ.heap.put σ.next (some (.box z)),σ.next+1⟩) (w':=w) (λj=>j=σ.next) (Ext.refl m) ⟨rfl,rfl,rfl⟩ (Nat.le_refl _) (λj aq=>?_) (λj b aq ah=>?_) (λj aq=>⟨bC.T.eP _ _ aq,rfl,rfl⟩)
  (λb ah _=>⟨rfl,rfl,rfl⟩) (λj k _ _ _ aq aU _ _ _ _=>aq.trans aU.symm) (λj x R aq _ fm=>?_) (λb R k aU=>h.own b R k aU) (λb R k aU aA=>absurd aU aA) h.stay
 ·exact⟨key.1,⟨jR.refl _ m,key.2,Nat.le_succ _,λi cs aj _=>(bC.T.eP _ _ λe=>by rw[e] at aj;rw[f4] at aj;cases aj).trans aj⟩⟩
 ·have aq:σ.next+1<=j:=aq;obtain⟨aG,aN,bo,cE⟩:=h.fresh j ab;exact⟨aG,aN,bo,(bC.T.eP _ _ ab).trans cE⟩
 ·subst aq;simp only[bC.T.il] at ah;cases ah;exact .inl f1
 ·subst aq;rw[f1] at fm;cases fm
theorem bM.born (h:bM m σ w){i:Nat}{cs:List C}{vs:Array Value}{ty:TypeId}(aj:σ.heap.get i=some (.box cs))(bF:m.pl i=none)(aL:cL (dv m) cs vs.toList):
 bM (m.jE i w.heap.size) σ (w.alloc (.cells vs ty))/\hJ m σ w (m.jE i w.heap.size) σ (w.alloc (.cells vs ty)):=by
 have e:Ext m (m.jE i w.heap.size):=M.RU bF;refine h.change (λj=>j=i) e ⟨rfl,rfl,rfl⟩ (by simp) (λj aq=>?_) (λj b aq ah=>?_) (λj aq=>⟨rfl,by simp[M.jE,aq],rfl⟩)
  (λb ah _=>⟨Below.heap_alloc _ _ _ ah,rfl,by simp[M.jE];omega⟩) (λj k _ _ _ aq aU _ _ _ _=>aq.trans aU.symm) (λj x R aq _ fm=>.inl ?_) (λb R k aU=>?_) (λb R k aU aA=>?_) (λb j v gj=>?_)
 ·obtain⟨aG,aN,bo,cE⟩:=h.fresh j aq;have:j≠i:=λe=>by rw[e] at cE;rw[aj] at cE;cases cE
  exact⟨by simp[M.jE,aG,this],aN,bo,cE⟩
 ·subst aq;rw[aj] at ah;cases ah;refine .inr ⟨w.heap.size,vs,ty,(0,0),by simp[M.jE],heap_alloc_new _ _,⟨λ_ _=>by omega,Nat.le_refl _⟩,aL.length.symm▸(by simp),λj c an=>?_,by simp[M.jE],h.wQ (Nat.le_refl _)⟩;obtain⟨v,aa,af⟩:=aL.get an;exact⟨v,by simpa using aa,af.ext e⟩
 ·subst aq;simp[M.jE] at fm;omega
 ·simp only[M.jE] at aU⊢;split at aU
  ·cases aU;subst_vars;simp
  ·obtain⟨aG,aN⟩:=h.own b R k aU;have:=(h.own R R none aN).1;exact⟨by simp;omega,by rw[if_neg ab];exact aN⟩
 ·simp only[M.jE] at aU;split at aU
  ·cases aU;exact⟨i,.box cs,rfl,aj,by simp[M.jE]⟩
  ·exact absurd aU aA
 ·obtain⟨cur,jm,b_,aG,aN⟩:=h.stay b j v gj;exact⟨cur,jm,b_,(Below.heap_alloc _ _ _ (q8 aG)).trans aG,aN⟩
theorem S_ {E:Env}:∀{l:List Oper}{σ:bV},bM m σ w->bM m (lay E l σ) w/\Step m σ w m (lay E l σ) w
 |[],σ,h=>⟨h,Step.refl ..⟩
 |o::l,σ,h=>by
  unfold lay;split
  ·rename_i z ai;obtain⟨aa,af⟩:=h.lay z;obtain⟨ax,a8⟩:=S_ (E:=E) (l:=l) aa;exact⟨ax,af.trans h a8⟩
  ·exact S_ h
end
def lq (ops:Array Oper)(e:Nat->qG)(L:Nat->Bool):Nat->Nat->V
 |0=>(e 0).g
 |p+1=>match L p with
  |true=>lH ((ops[p]?).bind (·.dst)) (e p).v (e p).iE (lq ops e L p)
  |false=>lq ops e L p
def rU (E:Env)(ops:Array Oper)(i:Nat)(z:List C):Prop:=∃o,ops[i]?=some o/\act E o.dst o.op=.alloc z
structure nZ (E:Env)(n:Nat)(ops:Array Oper)(call:lp)(e:Nat->qG)(M:Nat->Nat)(kJ:List oL)(jz:List rv)(σ:bV):Prop where
  step:∀i o,ops[i]?=some o->zO E n ops call kJ jz ⟨i,o,M i⟩ (e i) (e (i+1))
  mask:∀i o,ops[i]?=some o->X6 M i o
  pair:∀i j a b,i<j->ops[i]?=some a->ops[j]?=some b->s9 E ops a b=true->bit (M j) i=true
  YX:∀r∈kJ,∀b∈jz,P4 r b=true
  box:∀i z,rU E ops i z->σ.next<=(e i).x/\(e i).x<(e 0).s.next/\(e 0).s.heap.get (e i).x=some (.box z)
def xM (ops:Array Oper)(L:Nat->Bool):Prop:=∀j o,L j=true->ops[j]?=some o->∀e∈o.after.toList,Region.binds .any e=true->L e.on=true
def qL (ops:Array Oper)(L:Nat->Bool)(i:Nat)(o:Oper):Prop:=ops[i]?=some o/\L i=false/\∀e∈o.after.toList,Region.binds .any e=true->L e.on=true
def pc (L:Nat->Bool)(i:Nat):Nat->Bool:=λj=>if j=i then true else L j
theorem Qf (L:Nat->Bool)(i:Nat):pc L i i=true:=by simp[pc]
theorem wh (L:Nat->Bool){i j:Nat}(h:j≠i):pc L i j=L j:=by simp[pc,h]
section
variable{E:Env}{n:Nat}{ops:Array Oper}{call:lp}{e:Nat->qG}{M:Nat->Nat}{kJ:List oL}{jz:List rv}{jC:bV}(bB:nZ E n ops call e M kJ jz jC)
include bB
theorem nZ.waits {L:Nat->Bool}(an:xM ops L):∀(i:Nat)(o:Oper),ops[i]?=some o->(∀e∈o.after.toList,Region.binds .any e=true->L e.on=true)->∀p,bit (M i) p=true->L p=true:=by
 intro i;induction i using Nat.strongRecOn with
 |_ i cj=>
  intro o bX he p bF;obtain⟨aa,af⟩:=bB.mask i o bX;obtain⟨e,aG,aN,bo⟩:=af p bF;have aZ:=he e aG aN;rcases bo with rfl|bo
  ·exact aZ
  ·have bn:=aa e aG aN;have aj:i<ops.size:=(n7.1 bX).1;obtain⟨fC,gu⟩:∃fC,ops[e.on]?=some fC:=⟨ops[e.on],Array.getElem?_eq_getElem ab⟩;exact cj e.on bn fC gu (an e.on fC aZ gu) p bo
theorem nZ.before {L:Nat->Bool}(an:xM ops L){i p:Nat}{o fC:Oper}(aO:qL ops L i o)(bF:ops[p]?=some fC)(bn:p<i)(At:s9 E ops fC o=true):L p=true:=bB.waits an i o aO.1 aO.2.2 p (bB.pair p i fC o bn bF aO.1 At)
theorem nZ.behind {L:Nat->Bool}(an:xM ops L){i p:Nat}{o fC:Oper}(aO:qL ops L i o)(bF:ops[p]?=some fC)(bn:i<p)(At:s9 E ops o fC=true):L p=false:=by
 cases h:L p with
 |false=>rfl
 |true=>
  have:=bB.waits an p fC bF (an p fC h bF) i (bB.pair i p o fC bn aO.1 bF At);rw[aO.2.1] at this;cases this
omit bB in
theorem Y6 {a b:Oper}{t:Nat}(h:t∈sE a)(aA:t∈zm ops b):s9 E ops a b=true:=by
 have:Az (sE a) (zm ops b)=true:=(aaD _ _).2 ⟨t,h,aA⟩;simp[s9,this]
omit bB in
theorem anV {a b:Oper}{t:Nat}(h:t∈sE b)(aA:t∈zm ops a):s9 E ops a b=true:=by
 have:Az (sE b) (zm ops a)=true:=(aaD _ _).2 ⟨t,h,aA⟩;simp[s9,this]
omit bB in
theorem anU {a b:Oper}(aa:(act E a.dst a.op).ov=true)(af:(act E b.dst b.op).ov=true):s9 E ops a b=true:=by
 simp[s9,aa,af]
theorem nZ.outs {i:Nat}{o:Oper}(bX:ops[i]?=some o){t:Nat}(bQ:t∉sE o)(g:Nat->V):lH o.dst (e i).v (e i).iE g t=g t:=by
 have bg:o.dst≠some t:=λh=>bQ (List.mem_append_left _ (by rw[h];simp));unfold lH;rw[if_neg bg];cases aW:(e i).iE with
 |none=>rfl
 |some y=>
  simp only
  rw[if_neg];intro SL;refine bQ (List.mem_append_right _ ?_);obtain⟨_,_,_,h|⟨_,h⟩⟩:=bB.step i o bX
  ·rw[h.2.2.1] at aW;cases aW
  ·have w1:=QY (E:=E) o.dst o.op;cases dH:act E o.dst o.op with
   |jw f=>
    simp only[dH] at h w1;obtain⟨r,aa,af⟩:=h;have ax:=w1 _ _ r aa;cases r with
    |qA t' u bb=>
     obtain⟨aG,aN,bo⟩:=af;rw[aW] at aN;cases aN;obtain⟨_,ty,x,lE⟩:=ax;rw[lE];simpa using SL
    |val v bb=>rw[af.2.1] at aW;cases aW
    |skip bb=>rw[af.2.1] at aW;cases aW
    |call f args bb=>rw[af.2.1] at aW;cases aW
   |bad=>simp only[dH] at h;exact h.elim
   |pure f=>simp only[dH] at h;rw[h.2.1] at aW;cases aW
   |made f=>simp only[dH] at h;rw[h.2.1] at aW;cases aW
   |read f=>simp only[dH] at h;rw[h.2.1] at aW;cases aW
   |alloc z=>simp only[dH] at h;rw[h.2.1] at aW;cases aW
omit bB in
theorem Xs {d:Option Nat}{v:V}{iE:Option (Nat×V)}{g C9:Nat->V}{t:Nat}(h:g t=C9 t):lH d v iE g t=lH d v iE C9 t:=by
 unfold lH;split
 ·rfl
 ·split
  ·split
   ·rfl
   ·exact h
  ·exact h
theorem nZ.frame {i:Nat}{o:Oper}(bX:ops[i]?=some o):(e (i+1)).g=lH o.dst (e i).v (e i).iE (e i).g:=(bB.step i o bX).2.1
theorem nZ.looked {L:Nat->Bool}(an:xM ops L){i:Nat}{o:Oper}(aO:qL ops L i o){t:Nat}(bQ:t∈looks ops o):lq ops e L ops.size t=(e i).g t:=by
 have aj:i<ops.size:=(n7.1 aO.1).1;have aA:t∈zm ops o:=List.mem_append_right _ bQ;have aa:∀p,p<=i->lq ops e L p t=(e p).g t:=by
  intro p;induction p with
  |zero=>intro _;rfl
  |succ p cj=>
   intro bF;have cj:=cj ab;obtain⟨fC,gu⟩:∃fC,ops[p]?=some fC:=⟨ops[p],Array.getElem?_eq_getElem ab⟩;rw[bB.frame gu];rw[lq];by_cases bg:t∈sE fC
   ·rw[bB.before an aO gu ab (Y6 bg aA)];simp only
    rw[gu];exact Xs cj
   ·rw[bB.outs gu bg,<-cj];cases L p with
    |true=>simp only;rw[gu];exact bB.outs gu bg _
    |false=>rfl
 have af:∀p,i<=p->p<=ops.size->lq ops e L p t=lq ops e L i t:=by
  intro p;induction p with
  |zero=>intro h _;have:i=0:=ab
         subst this;rfl
  |succ p cj=>
   intro ap3 DI;by_cases w6:i=p+1
   ·subst w6;rfl
   ·have cj:=cj ab ab;rw[lq,<-cj];obtain⟨fC,gu⟩:∃fC,ops[p]?=some fC:=⟨ops[p],Array.getElem?_eq_getElem ab⟩;by_cases w5:p=i
    ·subst w5;rw[aO.2.1]
    ·by_cases bg:t∈sE fC
     ·rw[bB.behind an aO gu ab (anV bg aA)]
     ·cases L p with
      |true=>simp only;rw[gu];exact bB.outs gu bg _
      |false=>rfl
 rw[af _ ab (Nat.le_refl _),aa _ (Nat.le_refl _)]
theorem nZ.kU {L:Nat->Bool}(an:xM ops L){i:Nat}{o:Oper}(aO:qL ops L i o)(t:Nat):lq ops e (pc L i) ops.size t=lH o.dst (e i).v (e i).iE (lq ops e L ops.size) t:=by
 have aj:i<ops.size:=(n7.1 aO.1).1;have aa:∀p,p<=i->lq ops e (pc L i) p=lq ops e L p:=by
  intro p;induction p with
  |zero=>intro _;rfl
  |succ p cj=>
   intro bF;rw[lq,lq,cj ab,wh _ (show p≠i by omega)]
 have af:∀p,i+1<=p->p<=ops.size->lq ops e (pc L i) p t=lH o.dst (e i).v (e i).iE (lq ops e L p) t:=by
  intro p;induction p with
  |zero=>intro h _;omega
  |succ p cj=>
   intro ap3 DI;by_cases w5:p=i
   ·subst w5;rw[lq,lq,aa _ (Nat.le_refl _),aO.2.1,Qf];simp only
    rw[aO.1];rfl
   ·have cj:=cj ab ab;obtain⟨fC,gu⟩:∃fC,ops[p]?=some fC:=⟨ops[p],Array.getElem?_eq_getElem ab⟩;rw[lq,lq,wh _ w5];cases gC:L p with
    |false=>exact cj
    |true=>
     simp only
     rw[gu];simp only[Option.bind_some];by_cases bg:t∈sE fC
     ·by_cases Sl:t∈sE o
      ·have:=bB.behind an aO gu ab (Y6 Sl (List.mem_append_left _ bg));rw[gC] at this;cases this
      ·rw[bB.outs aO.1 Sl];rw[bB.outs aO.1 Sl] at cj;exact Xs cj
     ·rw[bB.outs gu bg,cj];exact Xs (bB.outs gu bg _).symm
 exact af _ aj (Nat.le_refl _)
theorem nZ.all {L:Nat->Bool}(h:∀i,i<ops.size->L i=true):∀p,p<=ops.size->lq ops e L p=(e p).g
 |0,_=>rfl
 |p+1,bF=>by
  obtain⟨fC,gu⟩:∃fC,ops[p]?=some fC:=⟨ops[p],Array.getElem?_eq_getElem ab⟩;rw[lq,h p ab,bB.frame gu,nZ.all h p ab,gu];rfl
omit bB in
theorem XS:∀p,lq ops e (λ_=>false) p=(e 0).g
 |0=>rfl
 |p+1=>by rw[lq];exact XS p
theorem nZ.agt {i:Nat}{o:Oper}(bX:ops[i]?=some o)(aZ:(act E o.dst o.op).ov=false):(e (i+1)).s=(e i).s:=by
 obtain⟨_,_,_,h|⟨_,h⟩⟩:=bB.step i o bX
 ·exact h.2.2.2
 ·cases dH:act E o.dst o.op with
  |jw f=>rw[dH] at aZ;cases aZ
  |bad=>simp only[dH] at h;exact h.elim
  |pure f=>simp only[dH] at h;exact h.2.2
  |made f=>simp only[dH] at h;exact h.2.2
  |read f=>simp only[dH] at h;exact h.2.2.1
  |alloc z=>simp only[dH] at h;exact h.2.2
theorem nZ.amw {i j:Nat}{z fU:List C}(aj:rU E ops i z)(aq:rU E ops j fU)(eJ:i≠j):(e i).x≠(e j).x:=by
 have mono:∀p k,p+k<=ops.size->(e p).x<=(e (p+k)).x:=by
  intro p k;induction k with
  |zero=>intro _;exact Nat.le_refl _
  |succ k cj=>
   intro h;have cj:=cj ab;obtain⟨fC,gu⟩:∃fC,ops[p+k]?=some fC:=⟨ops[p+k],Array.getElem?_eq_getElem ab⟩;have:=(bB.step _ fC gu).2.2.1;rw[<-Nat.add_assoc,this];simp only[xk];split
   ·exact Nat.le_succ_of_le cj
   ·exact cj
 have lt:∀{i j:Nat}{z:List C},rU E ops i z->i<j->j<=ops.size->(e i).x<(e j).x:=λ{i j z} ⟨o,bX,dH⟩ bn hle=>by
  have aa:=(bB.step _ o bX).2.2.1;simp only[xk,dH,nh.abz] at aa;have:=mono (i+1) (j-(i+1)) ab;rw[show i+1+(j-(i+1))=j by omega,aa] at this;exact this
 obtain⟨o,bX,dH⟩:=id aj;obtain⟨fC,gu,Sb⟩:=id aq;have aa:=(n7.1 bX).1;have af:=(n7.1 gu).1;rcases ky i j with h|h
 ·have:=lt aj h ab;omega
 ·have:=lt aq (show j<i by omega) ab;omega
end
structure Inv (E:Env)(n:Nat)(ops:Array Oper)(e:Nat->qG)(dS:M)(jC:bV)(ws:World)(a0:Go.Act)(ds:List Nat)(L:Nat->Bool)(q:Nat)(m:M)(a:Go.Act)(w:World):Prop where
  ay:q<=ops.size
  pre:∀i o,ops[i]?=some o->(act E o.dst o.op).ov=true->(L i=true↔i<q)
  rel:bM m (e q).s w
  st:Step dS jC ws m (e q).s w
  top:(e 0).s.next<=(e q).s.next
  b_:zU m n (lq ops e L ops.size) a
  E3:∀i z,rU E ops i z->L i=false->m.pl (e i).x=none
  wJ:∀i z,rU E ops i z->m.pl (e i).x=none->(e q).s.heap.get (e i).x=some (.box z)
  wK:xM ops L
  Xh:iG ds a0 a
section
variable{aS:Program}{E:Env}{n:Nat}{ops:Array Oper}{call:lp}{e:Nat->qG}{rq:Nat->Nat}{kJ:List oL}{jz:List rv}{jC:bV}{ws:World}{dS m:M}{a0 a:Go.Act}{ds:List Nat}{L:Nat->Bool}{q:Nat}{w:World}{K:Go.Act->World->Prop}{Q:Exit->Go.Act->World->Prop}(bB:nZ E n ops call e rq kJ jz jC)(iM:∀(i:Nat)(o:Oper)(t:Nat),ops[i]?=some o->o.dst=some t->t∈ds)(a6:bM dS jC ws)(h:Inv E n ops e dS jC ws a0 ds L q m a w)
include bB iM a6 h
omit iM a6 in
theorem Inv.next {o:Oper}(bX:ops[q]?=some o)(aZ:(act E o.dst o.op).ov=false):Inv E n ops e dS jC ws a0 ds L (q+1) m a w:=by
 have SG:q<ops.size:=(n7.1 bX).1;have dI:=bB.agt bX aZ;refine⟨SG,λi fC gu lV=>?_,by rw[dI];exact h.rel,by rw[dI];exact h.st,by rw[dI];exact h.top,h.b_,h.E3,by rw[dI];exact h.wJ,h.wK,h.Xh⟩;rw[h.pre i fC gu lV];have:i≠q:=λe=>by subst e;rw[bX] at gu;cases gu;rw[aZ] at lV;cases lV
 omega
omit iM a6 in
theorem Inv.bound:∃gV,q<=gV/\Inv E n ops e dS jC ws a0 ds L gV m a w/\(gV=ops.size\/∃o,ops[gV]?=some o/\(act E o.dst o.op).ov=true):=by
 obtain⟨d,bg⟩:∃d,d=ops.size-q:=⟨_,rfl⟩;induction d generalizing q with
 |zero=>exact⟨q,Nat.le_refl _,h,.inl (by have:=h.ay;omega)⟩
 |succ d cj=>
  have bn:q<ops.size:=ab;have bX:ops[q]?=some ops[q]:=Array.getElem?_eq_getElem bn;cases aZ:(act E (ops[q]).dst (ops[q]).op).ov with
  |true=>exact⟨q,Nat.le_refl _,h,.inr ⟨_,bX,aZ⟩⟩
  |false=>
   obtain⟨gV,aa,af,ax⟩:=cj (Inv.next bB h bX aZ) ab;exact⟨gV,ab,af,ax⟩
omit iM a6 in
theorem Inv.looked {i:Nat}{o:Oper}(aO:qL ops L i o){t:Nat}(bQ:t∈looks ops o):en m ((e i).g t) (a.tmps.getD t undef):=by
 rw[<-bB.looked h.wK aO bQ];exact h.b_.2.2 t
omit iM a6 in
theorem Inv.only {i:Nat}{o:Oper}(aO:qL ops L i o):dB m n (jM (looks ops o) (e i).g) a:=⟨h.b_.1,h.b_.2.1,λt=>by
 rw[axw];split
 ·exact Inv.looked bB h aO (by assumption)
 ·trivial⟩
omit bB iM a6 in
theorem Inv.closed {i:Nat}{o:Oper}(aO:qL ops L i o):xM ops (pc L i):=by
 intro j fC aq gu e he ah;unfold pc at aq⊢;by_cases iW:j=i
 ·subst iW;rw[aO.1] at gu;cases gu;have:=aO.2.2 e he ah;simp[this]
 ·rw[if_neg iW] at aq;have:=h.wK j fC aq gu e he ah;simp[this]
omit iM a6 in
theorem Inv.put {i:Nat}{o:Oper}(aO:qL ops L i o){m':M}(x:Ext m m'){u:Value}(hu:en m' (e i).v u)(aW:∀y,(e i).iE=some y->en m' y.2 (a.tmps.getD y.1 undef)):zU m' n (lq ops e (pc L i) ops.size) (a.put o.dst u):=by
 have fA:=h.b_.1;have bg:=(bB.step i o aO.1).1;refine⟨?_,?_,λt=>?_⟩
 ·cases o.dst<;>simpa[Go.Act.put] using fA
 ·cases o.dst<;>exact h.b_.2.1
 ·rw[bB.kU h.wK aO t];unfold lH;cases bX:o.dst with
  |none=>
   rw[if_neg (by simp)];show en m' _ (a.tmps.getD t undef);cases b7:(e i).iE with
   |none=>exact(h.b_.2.2 t).ext x
   |some y=>
    simp only
    split
    ·rename_i bQ;subst bQ;exact aW y b7
    ·exact(h.b_.2.2 t).ext x
  |some k=>
   simp only[bX] at bg;have aU:=Nat.le_of_ble_eq_true bg;by_cases Ss:k=t
   ·subst Ss;rw[if_pos rfl];have:(k:Nat)<a.tmps.size:=Nat.lt_of_lt_of_le aU fA;simpa[Go.Act.put,this] using hu
   ·rw[if_neg (by simpa using Ss)];have aa:(a.put (some k) u).tmps.getD t undef=a.tmps.getD t undef:=by
     simp[Go.Act.put,Array.getElem?_setIfInBounds_ne Ss]
    rw[aa];cases b7:(e i).iE with
    |none=>exact(h.b_.2.2 t).ext x
    |some y=>
     simp only
     split
     ·rename_i bQ;subst bQ;exact aW y b7
     ·exact(h.b_.2.2 t).ext x
omit bB a6 in
theorem Inv.same {i:Nat}{o:Oper}(aO:qL ops L i o)(u:Value):iG ds a0 (a.put o.dst u):=h.Xh.trans ((iG.put a o.dst u).mono λt bQ=>by
 cases bg:o.dst with
 |none=>rw[bg] at bQ;simp at bQ
 |some k=>rw[bg] at bQ;simp at bQ;subst bQ;exact iM i o t aO.1 bg)
theorem Inv.quiet {i:Nat}{o:Oper}{u:Value}{m':M}{w':World}(aO:qL ops L i o)(aZ:(act E o.dst o.op).ov=false)(aA:∀z,rU E ops i z->(e i).v=.undef)(gY:Step m (e q).s w m' (e q).s w')(bf:bM m' (e q).s w')(hu:en m' (e i).v u)(aW:(e i).iE=none):
 Inv E n ops e dS jC ws a0 ds (pc L i) q m' (a.put o.dst u) w':=by
 have lt:∀j z,rU E ops j z->(e j).x<(e q).s.next:=λj z ai=>Nat.lt_of_lt_of_le (bB.box j z ai).2.1 h.top;refine⟨h.ay,λj fC gu lV=>?_,bf,h.st.trans a6 gY,h.top,Inv.put bB h aO gY.iL.ext hu (λy b7=>by rw[aW] at b7;cases b7),λj z ai gC=>?_,λj z ai bF=>?_,Inv.closed h aO,Inv.same iM h aO u⟩
 ·have:j≠i:=λe=>by subst e;rw[aO.1] at gu;cases gu;rw[aZ] at lV;cases lV
  rw[wh L this];exact h.pre j fC gu lV
 ·rw[gY.iL.pl _ (lt j z ai)];refine h.E3 j z ai ?_;by_cases he:j=i
  ·subst he;exact aO.2.1
  ·rwa [wh L he] at gC
 ·rw[gY.iL.pl _ (lt j z ai)] at bF;exact h.wJ j z ai bF
omit a6 in
theorem Inv.alloc {i:Nat}{o:Oper}{z:List C}{vs:Array Value}{ty:TypeId}(aO:qL ops L i o)(ai:rU E ops i z)(aL:cL (dv m) z vs.toList)(apW:(e i).v=.c (.ptr (some ((e i).x,0))))(aW:(e i).iE=none):
 Inv E n ops e dS jC ws a0 ds (pc L i) q (m.jE (e i).x w.heap.size) (a.put o.dst (.pointer (some ⟨w.heap.size,0,none⟩))) (w.alloc (.cells vs ty)):=by
 obtain⟨c4,fD,ij⟩:=bB.box i z ai;have bF:=h.E3 i z ai aO.2.1;have ah:=h.wJ i z ai bF;obtain⟨aG,aN⟩:=h.rel.born (ty:=ty) ah bF aL;have ex:=M.RS (r:=w.heap.size) bF;have aZ:(act E o.dst o.op).ov=false:=by
  obtain⟨fC,aa,af⟩:=ai;rw[aO.1] at aa;cases aa;rw[af];rfl
 refine⟨h.ay,λj fC gu lV=>?_,aG,⟨h.st.iL.trans (n':=jC.next) ⟨ex.ext,λj aq=>ex.pl j ab⟩ (Nat.le_refl _),h.st.gE.trans aN,h.st.next,h.st.CK⟩,h.top,
  Inv.put bB h aO ex.ext (by rw[apW];exact⟨w.heap.size,by simp[M.jE],rfl⟩) (λy b7=>by rw[aW] at b7;cases b7),λj fU yU gC=>?_,λj fU yU yO=>?_,Inv.closed h aO,Inv.same iM h aO _⟩
 ·have:j≠i:=λe=>by subst e;rw[aO.1] at gu;cases gu;rw[aZ] at lV;cases lV
  rw[wh L this];exact h.pre j fC gu lV
 ·have eJ:j≠i:=λe=>by subst e;rw[Qf] at gC;cases gC
  rw[wh L eJ] at gC;show(if(e j).x=(e i).x then _ else m.pl (e j).x)=none;rw[if_neg (bB.amw yU ai eJ)];exact h.E3 j fU yU gC
 ·by_cases eJ:j=i
  ·subst eJ;have:(m.jE (e j).x w.heap.size).pl (e j).x=some w.heap.size:=by simp[M.jE]
   rw[this] at yO;cases yO
  ·have:(m.jE (e i).x w.heap.size).pl (e j).x=m.pl (e j).x:=by
    show(if(e j).x=(e i).x then _ else m.pl (e j).x)=_;rw[if_neg (bB.amw yU ai eJ)]
   rw[this] at yO;exact h.wJ j fU yU yO
theorem Inv.jw {o:Oper}{u:Value}{m':M}{w':World}(aO:qL ops L q o)(aZ:(act E o.dst o.op).ov=true)(gY:Step m (e q).s w m' (e (q+1)).s w')(bf:bM m' (e (q+1)).s w')(hu:en m' (e q).v u)(aW:∀y,(e q).iE=some y->en m' y.2 (a.tmps.getD y.1 undef)):
 Inv E n ops e dS jC ws a0 ds (pc L q) (q+1) m' (a.put o.dst u) w':=by
 have SG:q<ops.size:=(n7.1 aO.1).1;have lt:∀j z,rU E ops j z->(e j).x<(e q).s.next:=λj z ai=>Nat.lt_of_lt_of_le (bB.box j z ai).2.1 h.top;have eJ:∀j z,rU E ops j z->j≠q:=λj z ⟨fC,aG,aN⟩ e=>by
  subst e;rw[aO.1] at aG;cases aG;rw[aN] at aZ;cases aZ
 refine⟨SG,λj fC gu lV=>?_,bf,h.st.trans a6 gY,jd h.top gY.next,Inv.put bB h aO gY.iL.ext hu aW,λj z ai gC=>?_,λj z ai bF=>?_,Inv.closed h aO,Inv.same iM h aO u⟩
 ·by_cases he:j=q
  ·subst he;simp[Qf]
  ·rw[wh L he,h.pre j fC gu lV];omega
 ·rw[wh L (eJ j z ai)] at gC;rw[gY.iL.pl _ (lt j z ai)];exact h.E3 j z ai gC
 ·rw[gY.iL.pl _ (lt j z ai)] at bF;exact gY.CK _ _ (h.wJ j z ai bF) bF
end
section
variable{aS:Program}{E:Env}{n:Nat}{ops:Array Oper}{call:lp}{e:Nat->qG}{rq:Nat->Nat}{kJ:List oL}{jz:List rv}{jC:bV}{ws:World}{dS m:M}{a0 a:Go.Act}{ds:List Nat}{L:Nat->Bool}{q:Nat}{w:World}{K:Go.Act->World->Prop}{Q:Exit->Go.Act->World->Prop}
def uc (r:oL)(σ bb:bV):Prop:=(∀i∈r.ids,bb.heap.get i=σ.heap.get i)\/∃y x,r.cell=some y/\zR σ y x/\zR bb y x
theorem uc.trans {r:oL}{σ bb xJ:bV}(an:∀y,r.cell=some y->y.1∈r.ids)(h:uc r σ bb)(h':uc r bb xJ):uc r σ xJ:=by
 rcases h with h|⟨y,x,aa,af,ax⟩
 ·rcases h' with h'|⟨y,x,aa,⟨cs,af,ax⟩,a8⟩
  ·exact .inl λi aj=>(h' i aj).trans (h i aj)
  ·exact .inr ⟨y,x,aa,⟨cs,by rw[<-h _ (an y aa)];exact af,ax⟩,a8⟩
 ·rcases h' with h'|⟨mG,jn,wS,⟨lf,Dd,ZX⟩,apa⟩
  ·obtain⟨cs,aG,aN⟩:=ax;exact .inr ⟨y,x,aa,af,cs,by rw[h' _ (an y aa)];exact aG,aN⟩
  ·rw[aa] at wS;cases wS;obtain⟨cs,aG,aN⟩:=ax;rw[aG] at Dd;cases Dd;rw[aN] at ZX;cases ZX;exact .inr ⟨y,x,aa,af,apa⟩
theorem uc.symm {r:oL}{σ bb:bV}(h:uc r σ bb):uc r bb σ:=by
 rcases h with h|⟨y,x,aa,af,ax⟩
 ·exact .inl λi aj=>(h i aj).symm
 ·exact .inr ⟨y,x,aa,ax,af⟩
theorem nZ.Yr (bB:nZ E n ops call e rq kJ jz jC)(jh:rV aS call){rd:oL}(an:∀y,rd.cell=some y->y.1∈rd.ids):∀(k p:Nat),p+k<=ops.size->(∀j nR,ops[j]?=some nR->(act E nR.dst nR.op).ov=true->p<=j->j<p+k->∀b∈jz,b.i=j->b.mask=rq j->P3 rd b=true)->
 uc rd (e p).s (e (p+k)).s:=by
 intro k;induction k with
 |zero=>intro p _ _;exact .inl λi _=>rfl
 |succ k cj=>
  intro p hle ah;refine(cj p ab (λj nR aq aZ aa af=>ah j nR aq aZ aa ab)).trans an ?_;obtain⟨o,bX⟩:∃o,ops[p+k]?=some o:=⟨ops[p+k],Array.getElem?_eq_getElem ab⟩;cases aZ:(act E o.dst o.op).ov with
  |false=>rw[<-Nat.add_assoc,bB.agt bX aZ];exact .inl λi _=>rfl
  |true=>
   have J2:=bB.step _ o bX;rw[<-Nat.add_assoc];obtain⟨_,_,_,h|⟨_,h⟩⟩:=J2
   ·rw[h.2.2.2];exact .inl λi _=>rfl
   ·have w1:=QY (E:=E) o.dst o.op;cases dH:act E o.dst o.op with
    |jw f=>
     simp only[dH] at h w1;obtain⟨r,aa,af⟩:=h;have ax:=w1 _ _ r aa;have off:∀{b:rv}{bb:bV},b∈jz->b.i=p+k->b.mask=rq (p+k)->b.gE=uE (e (p+k)).s bb b.ids->(∀i,i<b.ef->i∉b.ids->bb.heap.get i=(e (p+k)).s.heap.get i)->uc rd (e (p+k)).s bb:=λ{b bb} a8 cy dm dL dY=>by
      have:=ah (p+k) o bX aZ ab ab b a8 cy dm;unfold P3 at this;rw[Bool.or_eq_true] at this;rcases this with this|this
      ·refine .inl λi aj=>?_;unfold afX at this;have:=List.all_eq_true.1 this i aj;simp only[gR,Bool.not_eq_true'] at this;exact dY i (Nat.le_of_ble_eq_true this.2) λh=>by rw[(yx _ _).2 h] at this;cases this.1
      ·split at this
       ·rename_i y b7;rw[dL] at this;obtain⟨x,aG,aN⟩:=arL this;exact .inr ⟨y,x,b7,aG,aN⟩
       ·cases this
     cases r with
     |val v bb=>
      obtain⟨_,_,aG,aN⟩:=af;rw[aG];exact off aN rfl rfl rfl λi m8 mA=>ax i m8 mA
     |skip bb=>
      obtain⟨_,_,aG,aN⟩:=af;rw[aG];exact off aN rfl rfl rfl λi m8 mA=>ax i m8 mA
     |qA t u bb=>
      obtain⟨_,_,aG,aN⟩:=af;rw[aG];exact off aN rfl rfl rfl λi m8 mA=>ax.1 i m8 mA
     |call f args bb=>
      obtain⟨jX,_,aN⟩:=af;have ax:bb=(e (p+k)).s:=ax;subst ax;exact off aN rfl rfl rfl λi m8 mA=>jh.wr f args _ _ _ jX i m8 mA
    |_=>rw[dH] at aZ;cases aZ
variable(bB:nZ E n ops call e rq kJ jz jC)(iM:∀(i:Nat)(o:Oper)(t:Nat),ops[i]?=some o->o.dst=some t->t∈ds)(a6:bM dS jC ws)(kE:tT aS E)(jh:rV aS call)
include bB iM a6 kE jh
theorem axx (h:Inv E n ops e dS jC ws a0 ds L q m a w)(ah:q=ops.size\/∃o,ops[q]?=some o/\(act E o.dst o.op).ov=true){i:Nat}{o:Oper}(aO:qL ops L i o)(aOa:L ops.size=false)(ev:∀gV m' c6 w',Inv E n ops e dS jC ws a0 ds (pc L i) gV m' c6 w'->K c6 w'):wpOp aS ops Q i K a w:=by
 have aOn:i<ops.size:=(n7.1 aO.1).1;have JV:∀t∈looks ops o,en m ((e i).g t) (a.tmps.getD t undef):=λt bQ=>Inv.looked bB h aO bQ;have sk:=Inv.only bB h aO;have aaP:(act E o.dst o.op).ov=true->i=q:=λaZ=>by
  have mu:¬i<q:=λbn=>by
   have:=(h.pre i o aO.1 aZ).2 bn;rw[aO.2.1] at this;cases this
  rcases ah with ah|⟨axy,ay,yQ⟩
  ·omega
  ·by_cases he:i=q
   ·exact he
   ·have:=bB.before h.wK aO ay ab (anU yQ aZ);have:=(h.pre q axy ay yQ).1 this;omega
 obtain⟨_,_,_,dm⟩:=bB.step i o aO.1;unfold wpOp;simp only[aO.1];rcases dm with⟨hw,aL,aW,dI⟩|⟨hw,bg⟩
 ·rw[amq JV hw];simp only[Bool.false_eq_true,if_false];cases aZ:(act E o.dst o.op).ov with
  |false=>exact ev q m _ w (Inv.quiet bB iM a6 h aO aZ (λ_ _=>aL) (Step.refl ..) h.rel (by rw[aL];rfl) aW)
  |true=>
   obtain rfl:=aaP aZ;exact ev (i+1) m _ w (Inv.jw bB iM a6 h aO aZ (by rw[dI];exact Step.refl ..) (by rw[dI];exact h.rel) (by rw[aL];rfl) (λy b7=>by rw[aW] at b7;cases b7))
 ·rw[amq JV hw];simp only[if_true];refine .inl ?_;have uq:=kE o;cases lE:act E o.dst o.op with
  |bad=>simp only[lE] at bg;exact bg.elim
  |pure f=>
   simp only[lE] at bg;rw[lE] at uq;obtain⟨aG,aN,bo⟩:=bg;obtain⟨ej,aa,af⟩:=uq n _ a m w sk _ aG;unfold Oper.wp;rw[aa];exact ev q m _ w (Inv.quiet bB iM a6 h aO (by rw[lE];rfl) (λz ⟨fC,bA,bI⟩=>by rw[aO.1] at bA;cases bA;rw[lE] at bI;cases bI) (Step.refl ..) h.rel af aN)
  |made f=>
   simp only[lE] at bg;rw[lE] at uq;obtain⟨aG,aN,bo⟩:=bg;obtain⟨m',ej,w',aP,aa,af,ax⟩:=uq n _ a m (e q).s w sk h.rel _ aG;unfold Oper.wp;rw[aa];exact ev q m' _ w' (Inv.quiet bB iM a6 h aO (by rw[lE];rfl) (λz ⟨fC,bA,bI⟩=>by rw[aO.1] at bA;cases bA;rw[lE] at bI;cases bI) aP af ax aN)
  |read f=>
   simp only[lE] at bg;rw[lE] at uq;obtain⟨aG,aN,bo,cE⟩:=bg;have w1:=QY (E:=E) o.dst o.op;rw[lE] at w1;have At:∀y,(⟨i,rq i,lR (jM (looks ops o) (e i).g) o.op.operands.toList,cellOf E (jM (looks ops o) (e i).g) o.op⟩:oL).cell=some y->y.1∈lR (jM (looks ops o) (e i).g) o.op.operands.toList:=λy b7=>anF b7;have J1:uc ⟨i,rq i,lR (jM (looks ops o) (e i).g) o.op.operands.toList,cellOf E (jM (looks ops o) (e i).g) o.op⟩ (e i).s (e q).s:=by
    rcases ky i q with bn|mu
    ·have:=bB.Yr (aS:=aS) jh At (q-i) i (by have:=h.ay;omega) λj nR vE Sv aa af b yy aaa aab=>by
      have om:=bB.YX _ cE b yy;unfold P4 at om;split at om
      ·rename_i oZ;have:=Nat.le_of_ble_eq_true oZ;simp only at this;omega
      ·rw[Bool.or_eq_true] at om;refine om.resolve_left λDk=>?_;rw[aab] at Dk;have gC:=(h.pre j nR vE Sv).2 ab;have:=bB.waits h.wK j nR vE (h.wK j nR gC vE) i Dk;rw[aO.2.1] at this;cases this
     rw[show i+(q-i)=q by omega] at this;exact this
    ·have:=bB.Yr (aS:=aS) jh At (i-q) q ab λj nR vE Sv aa af b yy aaa aab=>by
      have om:=bB.YX _ cE b yy;unfold P4 at om;split at om
      ·rw[Bool.or_eq_true] at om;refine om.resolve_left λDk=>?_;simp only[aaa] at Dk;have gC:=bB.waits h.wK i o aO.1 aO.2.2 j Dk;have:=(h.pre j nR vE Sv).1 gC;omega
      ·rename_i oZ;have:Nat.ble (Nat.succ b.i) i=true:=Nat.ble_eq_true_of_le ab;simp only[this] at oZ;cases oZ
     rw[show q+(i-q)=i by omega] at this;exact this.symm
   have wZ:f (jM (looks ops o) (e i).g) (e i).s=f (jM (looks ops o) (e i).g) (e q).s:=by
    rcases J1 with aP|⟨y,x,cW,dA,eR⟩
    ·exact w1 _ _ _ λj aq=>(aP j aq).symm
    ·exact anG lE cW dA eR
   rw[wZ] at aG;obtain⟨ej,aa,af⟩:=uq n _ a m (e q).s w sk h.rel _ aG;unfold Oper.wp;rw[aa];exact ev q m _ w (Inv.quiet bB iM a6 h aO (by rw[lE];rfl) (λz ⟨fC,bA,bI⟩=>by rw[aO.1] at bA;cases bA;rw[lE] at bI;cases bI) (Step.refl ..) h.rel af aN)
  |alloc z=>
   simp only[lE] at bg;rw[lE] at uq;obtain⟨aG,aN,bo⟩:=bg;obtain⟨vs,t,aa,af⟩:=uq a w;unfold Oper.wp;rw[aa];exact ev q _ _ _ (Inv.alloc bB iM h aO ⟨o,aO.1,lE⟩ (af m) aG aN)
  |jw f=>
   have aZ:(act E o.dst o.op).ov=true:=by rw[lE];rfl
   obtain rfl:=aaP aZ;simp only[lE] at bg;rw[lE] at uq;obtain⟨r,aa,af⟩:=bg;have cm:=uq n _ a m (e i).s w sk h.rel r aa;clear aa;unfold Oper.wp;cases r with
   |val v bb=>
    obtain⟨aG,aN,bo,_⟩:=af;obtain⟨m',ej,w',bA,bI,c9,ei⟩:=cm;rw[bI];exact ev (i+1) m' _ w' (Inv.jw bB iM a6 h aO aZ (by rw[bo];exact bA) (by rw[bo];exact c9) (by rw[aG];exact ei) (λy b7=>by rw[aN] at b7;cases b7))
   |skip bb=>
    obtain⟨aG,aN,bo,_⟩:=af;obtain⟨m',w',bA,bI,c9⟩:=cm;rw[bI];exact ev (i+1) m' _ w' (Inv.jw bB iM a6 h aO aZ (by rw[bo];exact bA) (by rw[bo];exact c9) (by rw[aG];rfl) (λy b7=>by rw[aN] at b7;cases b7))
   |qA t u bb=>
    obtain⟨aG,aN,bo,_⟩:=af;obtain⟨m',w',bA,bI,c9,ei⟩:=cm;rw[bI];exact ev (i+1) m' _ w' (Inv.jw bB iM a6 h aO aZ (by rw[bo];exact bA) (by rw[bo];exact c9) (by rw[aG];rfl) (λy b7=>by rw[aN] at b7;cases b7;exact ei))
   |call f args bb=>
    obtain⟨aG,aN,_⟩:=af;obtain⟨rfl,vs,bA,bI⟩:=cm;rw[bI];obtain⟨c9,ei⟩:=jh.run f args _ _ _ m w vs aG h.rel bA;rw[c9];refine ei.mono ?_;rintro _ w' ⟨m',ej,rfl,bx,cX,bH⟩;exact ev (i+1) m' _ w' (Inv.jw bB iM a6 h aO aZ bx cX bH (λy b7=>by rw[aN] at b7;cases b7))
end
def oI (kU:Array Bool):Nat->Bool:=λj=>kU.getD j false
def s7 (L:Nat->Bool):Nat->Nat
 |0=>0
 |p+1=>s7 L p+(match L p with|true=>0|false=>1)
theorem Y1 (L:Nat->Bool){i:Nat}(aj:L i=false):∀p,s7 (pc L i) p+(if i<p then 1 else 0)=s7 L p
 |0=>by simp[s7]
 |p+1=>by
  have cj:=Y1 L aj p;rw[s7,s7];by_cases he:p=i
  ·subst he;rw[Qf,aj];simp only[Nat.lt_irrefl,if_false,cq] at cj;simp[cj]
  ·rw[wh L he];by_cases bn:i<p
   ·rw[if_pos bn] at cj;rw[if_pos ab,<-cj];omega
   ·rw[if_neg bn] at cj;rw[if_neg ab,<-cj];omega
theorem Y2 (L:Nat->Bool):∀p,s7 L p=0->∀i,i<p->L i=true
 |0,_,i,aj=>by omega
 |p+1,h,i,aj=>by
  rw[s7] at h;by_cases he:i=p
  ·subst he;cases gC:L i with
   |true=>rfl
   |false=>rw[gC] at h;simp at h
  ·exact Y2 L p ab i ab
theorem X5 {kU:Array Bool}{i:Nat}(aj:i<kU.size):oI (kU.setIfInBounds i true)=pc (oI kU) i:=by
 funext j;unfold oI pc;by_cases h:j=i
 ·subst h;simp[aj]
 ·rw[if_neg h];simp[Array.getElem?_setIfInBounds_ne (Ne.symm h)]
section
variable{aS:Program}{E:Env}{n:Nat}{ops:Array Oper}{call:lp}{e:Nat->qG}{rq:Nat->Nat}{kJ:List oL}{jz:List rv}{jC:bV}{ws:World}{dS:M}{a0:Go.Act}{ds:List Nat}{Q:Exit->Go.Act->World->Prop}(bB:nZ E n ops call e rq kJ jz jC)(iM:∀(i:Nat)(o:Oper)(t:Nat),ops[i]?=some o->o.dst=some t->t∈ds)(a6:bM dS jC ws)(kE:tT aS E)(jh:rV aS call)(fl:∀m' c6 w',Step dS jC ws m' (e ops.size).s w'->zU m' n (e ops.size).g c6->bM m' (e ops.size).s w'->iG ds a0 c6->Q .normal c6 w')
include bB iM a6 kE jh fl
omit kE jh iM a6 in
theorem Yt {L:Nat->Bool}{q:Nat}{m:M}{a:Go.Act}{w:World}(h:Inv E n ops e dS jC ws a0 ds L q m a w)(m4:∀i,i<ops.size->L i=true):Q .normal a w:=by
 obtain⟨gV,_,h',ah⟩:=Inv.bound bB h;have ay:gV=ops.size:=by
  rcases ah with ah|⟨o,bX,aZ⟩
  ·exact ah
  ·have bn:gV<ops.size:=(n7.1 bX).1;have:=(h'.pre gV o bX aZ).1 (m4 gV bn);omega
 subst ay;refine fl m a w h'.st ?_ h'.rel h'.Xh;have:=h'.b_
 rwa [bB.all m4 _ (Nat.le_refl _)] at this
omit iM a6 kE jh fl in
theorem ana {kU:Array Bool}(aP:kU.size=ops.size)(aO:Region.ready .any ops kU=[]):∀i,i<ops.size->oI kU i=true:=by
 intro i;induction i using Nat.strongRecOn with
 |_ i cj=>
  intro aj;cases gC:oI kU i with
  |true=>rfl
  |false=>
   have:i∈Region.ready .any ops kU:=by
    rw[mem_ready];refine⟨?_,ops[i],Array.getElem?_eq_getElem aj,λe he ah=>?_⟩
    ·unfold oI at gC;have:i<kU.size:=ab;simp[this] at gC⊢;exact gC
    ·have bn:=(bB.mask i ops[i] (Array.getElem?_eq_getElem aj)).1 e (by simpa using he) ah;exact cj e.on bn ab
   rw[aO] at this;cases this
theorem Yu:∀(fuel:Nat){kU:Array Bool}{q:Nat}{m:M}{a:Go.Act}{w:World},kU.size=ops.size->s7 (oI kU) ops.size<=fuel->Inv E n ops e dS jC ws a0 ds (oI kU) q m a w->
 wpAny aS .any ops Q fuel kU a w
 |0,kU,q,m,a,w,aP,an,h=>by
  have m4:=Y2 (oI kU) ops.size ab;refine⟨?_,Yt bB fl h m4⟩;cases aO:Region.ready .any ops kU with
  |nil=>rfl
  |cons i l=>
   have aj:i∈Region.ready .any ops kU:=by rw[aO];simp
   obtain⟨aa,o,af,_⟩:=mem_ready.1 aj;have bn:i<ops.size:=(n7.1 af).1;have:=m4 i bn;unfold oI at this;have oZ:i<kU.size:=ab;simp[oZ] at this aa;rw[this] at aa;cases aa
 |fuel+1,kU,q,m,a,w,aP,an,h=>by
  refine⟨λaO=>Yt bB fl h (ana bB aP aO),λi aj=>?_⟩;obtain⟨aa,o,af,ax⟩:=mem_ready.1 aj;have bn:i<ops.size:=(n7.1 af).1;have oZ:i<kU.size:=ab;have gC:oI kU i=false:=by
   unfold oI;simp[oZ] at aa⊢;exact aa
  have aO:qL ops (oI kU) i o:=⟨af,gC,λe he ah=>ax e (by simpa using he) ah⟩;obtain⟨gV,_,h',ah⟩:=Inv.bound bB h;refine axx bB iM a6 kE jh h' ah aO (by unfold oI;simp[aP]) λcI dc di eU g=>?_;refine Yu fuel (by simpa using aP) ?_ (q:=cI) (m:=dc) (by rw[X5 oZ];exact g);rw[X5 oZ];have:=Y1 (oI kU) gC ops.size;rw[if_pos bn] at this;omega
end
theorem an3 {aS:Program}{E:Env}{n:Nat}{call:lp}(pP:aS.follows .mixedOrders=true)(kE:tT aS E)(jh:rV aS call){id:Nat}{ops:Array Oper}(AH:H7 E ops=true){l:List p6}(aZ:A_ .nil 0 ops.toList=some l){ds:List Nat}(iM:∀(i:Nat)(o:Oper)(t:Nat),ops[i]?=some o->o.dst=some t->t∈ds){m:M}{σ:bV}{F:Fr}{a:Go.Act}{w:World}{y:Fr×bV}{Q:Exit->Go.Act->World->Prop}(a2:dB m n F a)(bf:bM m σ w)(h:cU (drawn E call n ops l F σ) y)(fl:∀m' c6 w',Step m σ w m' y.2 w'->dB m' n y.1 c6->bM m' y.2 w'->iG ds a c6->Q .normal c6 w'):(Code.region id ops true).wp aS Q a w:=by
 obtain⟨t,bQ,h⟩:=cU.lX h;split at h
 ·rename_i apR;obtain rfl:=h.eH;unfold H7 at AH;rw[aZ] at AH;simp only at AH;obtain⟨rq,_,hlen,uo⟩:=agl (va:=λ_=>0) aZ (λi a cf=>by rw[bC.T.get_nil] at cf;cases cf);obtain⟨es,aG,⟨gv,aN,bo,cE,eM⟩,⟨aD,fH,gz,hM⟩,iV⟩:=RD bQ;have fA:l.length=ops.size:=by rw[hlen];simp
  have J2:∀i o,ops[i]?=some o->zO E n ops call t.kJ t.jz ⟨i,o,rq i⟩ (es[i]?.getD default) (es[i+1]?.getD default):=λi o bX=>by
   have bg:=(uo i o (by simpa using bX)).1;have aj:=(n7.1 bX).1;have bA:es[i]?=some (es[i]'ab):=fy _
   have bI:es[i+1]?=some (es[i+1]'ab):=fy _
   have:=iV i _ _ _ bg bA bI;rw[bA,bI];simpa using this
  have yo:(es[0]?.getD default)=gv:=by rw[aN];rfl
  have Sf:∀i z,rU E ops i z->σ.next<=(es[i]?.getD default).x/\(es[i]?.getD default).x<(es[0]?.getD default).s.next/\(es[0]?.getD default).s.heap.get (es[i]?.getD default).x=some (.box z):=λi z ⟨o,bX,dH⟩=>by
   rw[yo,cE];exact S8 (E:=E) (l:=ops.toList) (σ:=σ) (x:=λi=>(es[i]?.getD default).x) (by rw[yo,eM]) (λidx o bX=>(J2 idx o (by simpa using bX)).2.2.1) i o z (by simpa using bX) dH
  have bB:nZ E n ops call (λi=>es[i]?.getD default) rq t.kJ t.jz σ:=⟨J2,λi o bX=>by
   have:=(uo i o (by simpa using bX)).2;simpa using this,λi j p q uu bF ay an=>by
   have d1:=(uo i p (by simpa using bF)).1;have d2:=(uo j q (by simpa using ay)).1;have:=af_ AH uu d1 d2 an;simpa using this,λr aO b ah=>List.all_eq_true.1 (List.all_eq_true.1 apR r aO) b ah,Sf⟩
  have gC:oI (Array.replicate ops.size false)=λ_=>false:=by
   funext j;unfold oI;by_cases aq:j<ops.size<;>simp[aq]
  have aqg:(es[ops.size]?.getD default)=aD:=by rw[<-fA,fH];rfl
  have qU:=bf.vS (z8 w);have aqW:Step m σ w m σ w.drew:=⟨jR.refl _ m,hJ.vS bf (z8 w),Nat.le_refl _,λ_ _ h _=>h⟩;obtain⟨bA,bI⟩:=S_ (E:=E) (l:=ops.toList) qU;refine wp_region_any pP ?_;refine Yu (dS:=m) (ws:=w) (a0:=a) (ds:=ds) bB iM bf kE jh (λm' c6 w' cr cI dw fe=>?_) ops.size (q:=0) (m:=m) (by simp) ?_ ?_
  ·simp only[aqg] at cr cI dw;rw[hM] at cr dw;rw[gz] at cI;exact fl m' c6 w' cr cI.b_ dw fe
  ·rw[gC];have:∀p,s7 (λ_=>false) p=p:=λp=>by
    induction p with
    |zero=>rfl
    |succ p cj=>rw[s7,cj]
   rw[this];exact Nat.le_refl _
  ·rw[gC];refine⟨Nat.zero_le _,λi o bX lV=>by simp,?_,?_,Nat.le_refl _,?_,λi z ai _=>?_,λi z ai bF=>?_,λj o aq=>(by cases aq),iG.refl _ _⟩
   ·simp only[yo,cE];exact bA
   ·simp only[yo,cE];exact aqW.trans bf bI
   ·rw[XS];simp only[yo,bo];exact a2.aot
   ·have:=(Sf i z ai).1;exact(bf.fresh _ this).1
   ·exact(Sf i z ai).2.2
 ·exact h.cc.elim
inductive tV (m m':M):B->B->Prop
  |box {cs lf:List C}:lf.length=cs.length->(∀(j:Nat) c',lf[j]?=some c'->∃c,cs[j]?=some c/\∀v,dv m c v->dv m' c' v)->tV m m' (.box cs) (.box lf)
  |arr {t:dh} {a1:List Bool} {l:L (D t)} (c7 j4:Nat):tV m m' (.arr t a1 l none c7) (.arr t a1 l none j4)
  |bG (t:dh):tV m m' (.bG t) (.bG t)
def B.c7:B->Nat
 |.arr _ _ _ _ v=>v
 |_=>0
def xE (σ:bV)(i:Nat):Nat:=match σ.heap.get i with
 |some b=>b.c7
 |none=>0
theorem u5.al' {m m':M}{h:Array Obj}{s i:Nat}{b f_:B}(ah:u5 m h s b)(bQ:tV m m' b f_)(bF:m'.pl i=m.pl s)(fM:m'.bg i=m.bg s)(ai:m'.fz=m.fz)(bX:m'.dy=m.dy)(aa:∀t a1 l k j4,f_=.arr t a1 l k j4->∀o,m'.hP i j4 o=m.hP s b.c7 o)(af:∀t a1 l k j4,f_=.arr t a1 l k j4->∀k,j4<k->∀o,m'.hP i k o=none)(ax:∀t a1 l k j4,f_=.arr t a1 l k j4->m.pl s=none->(∀k o,m.hP s k o=none)->∀k o,m'.hP i k o=none):u5 m' h i f_:=by
 cases bQ with
 |box aZ an=>
  rcases ah with g|⟨r,cur,ty,b_,aG,aN,bo,cE,eM,fH,gz⟩
  ·exact .inl (bF.trans g)
  ·refine .inr ⟨r,cur,ty,b_,bF.trans aG,aN,bo,cE.trans aZ.symm,λj c' aq=>?_,by rw[bX];exact fH,by rw[ai];exact gz⟩;obtain⟨c,bA,bI⟩:=an j c' aq;obtain⟨v,c9,ei⟩:=eM j c bA;exact⟨v,c9,bI v ei⟩
 |bG t=>
  obtain⟨A,k,c,aG,aN,bo⟩:=ah;refine⟨A,k,c,fM.trans aG,aN,bo.imp (λ⟨bA,bI,c9⟩=>⟨bA,bI,bF.trans c9⟩) λ⟨r,cur,ty,b_,bA,bI,c9,ei,jJ,o4,pT,DU⟩=>⟨r,cur,ty,b_,bA,bF.trans bI,c9,ei,jJ,by rw[ai];exact o4,by rw[bX];exact pT,by rw[bX];exact DU⟩⟩
 |@arr t a1 l c7 j4=>
  obtain⟨A,c,aG,aN,jX,bo⟩:=ah;refine⟨A,c,fM.trans aG,aN,af _ _ _ _ _ rfl,bo.imp (λ⟨bA,bI,c9,ei⟩=>⟨bA,bI,bF.trans c9,ax _ _ _ _ _ rfl c9 ei⟩) λ⟨r,cur,ty,b_,bA,bI,c9,ei,jJ,o4,pT,DU,tB⟩=>
   ⟨r,cur,ty,b_,bA,bF.trans bI,c9,ei,jJ,by rw[bX];exact o4,by rw[ai];exact pT,λn x aW=>?_,λo v=>?_⟩⟩
  ·exact(DU n x aW).frame (by rw[ai];exact iA.refl _) λb k aU _=>⟨rfl,by rw[bX],by rw[ai]⟩
  ·rw[aa _ _ _ _ _ rfl o];exact tB o v
def M.sub (m:M)(σ:bV)(ids:List Nat):M:=⟨λj=>(ids[j]?).bind m.pl,λj=>(ids[j]?).bind m.bg,λj v o=>match ids[j]? with
 |some i=>if v=0 then m.hP i (xE σ i) o else none
 |none=>none,m.fz,m.dy⟩
section
variable{w eU:World}{m dc:M}{σ kN fh l4:bV}{ids:List Nat}
theorem idx_eq (bg:ids.Nodup){j k i:Nat}(aq:ids[j]?=some i)(aU:ids[k]?=some i):j=k:=by
 have aa:=(eu.1 aq);have af:=(eu.1 aU);obtain⟨aa,aD⟩:=aa;obtain⟨af,aQ⟩:=af;rcases ky j k with g|g
 ·exact absurd (aD.trans aQ.symm) (List.pairwise_iff_getElem.1 bg j k aa af g)
 ·rcases ky k j with C9|C9
  ·exact absurd (aQ.trans aD.symm) (List.pairwise_iff_getElem.1 bg k j af aa C9)
  ·omega
theorem bM.sub (h:bM m σ w)(bg:ids.Nodup)(aA:kN.next=ids.length)(ah:∀j c4,kN.heap.get j=some c4->∃i b,ids[j]?=some i/\σ.heap.get i=some b/\tV m (m.sub σ ids) b c4/\c4.c7=0):bM (m.sub σ ids) kN w where
 fresh j aq:=by
  have JY:ids[j]?=none:=List.getElem?_eq_none ab;refine⟨by simp[M.sub,JY],by simp[M.sub,JY],λk o=>by simp[M.sub,JY],?_⟩;cases cm:kN.heap.get j with
  |none=>rfl
  |some c4=>
   obtain⟨i,b,aa,_⟩:=ah j c4 cm;rw[JY] at aa;cases aa
 live j c4 aq:=by
  obtain⟨i,b,aa,af,ax,a8⟩:=ah j c4 aq;refine(h.live i b af).al' ax (by simp[M.sub,aa]) (by simp[M.sub,aa]) rfl rfl (λt a1 l k j4 aL o=>?_) (λt a1 l k j4 aL cv aU o=>?_) (λt a1 l k j4 aL bF aP cv o=>?_)
  ·subst aL;have a8:j4=0:=a8;subst a8;simp[M.sub,aa,xE,af]
  ·have:cv≠0:=ab;simp[M.sub,aa,this]
  ·simp[M.sub,aa,aP]
 inj j k mn n8 r aq aU aO ay:=by
  obtain⟨i,b,aa,af,_⟩:=ah j mn aq;obtain⟨dV,f_,wS,Dd,_⟩:=ah k n8 aU;have aD:m.pl i=some r:=by simpa[M.sub,aa] using aO
  have aQ:m.pl dV=some r:=by simpa[M.sub,wS] using ay
  have:=h.inj i dV b f_ r af Dd aD aQ;subst this;exact idx_eq bg aa wS
 own:=h.own
 stay:=h.stay
def tG (σ:bV)(i:Nat):Option Nat:=if σ.next<=i then some 0 else match σ.heap.get i with
 |some (.arr _ _ _ _ v)=>some (v+1)
 |_=>none
def M.glue (m:M)(σ:bV)(dc:M)(fh:bV)(ex:Nat->Option Nat):M:=⟨λi=>if i<σ.next then m.pl i else(ex i).bind dc.pl,λi=>match ex i with
 |some s=>dc.bg s
 |none=>m.bg i,λi v o=>match ex i with
 |some s=>if tG σ i=some v then dc.hP s (xE fh s) o else m.hP i v o
 |none=>m.hP i v o,dc.fz,dc.dy⟩
structure XQ (σ:bV)(ids:List Nat)(ex:Nat->Option Nat)(N:Nat):Prop where
  vT:∀i s,ex i=some s->i<σ.next->ids[s]?=some i
  new:∀i s,ex i=some s->σ.next<=i->i<N
  inj:∀i dV s,ex i=some s->ex dV=some s->i=dV
theorem bM.glue (h:bM m σ w)(aaB:∀i∈ids,i<σ.next)(tv:kN.next=ids.length)(aC:∀j c4,kN.heap.get j=some c4->∃i b,ids[j]?=some i/\σ.heap.get i=some b)(Sg:∀i∈ids,∀cs,σ.heap.get i=some (.box cs)->m.pl i≠none)(af:bM dc fh eU)(st:Step (m.sub σ ids) kN w dc fh eU){ex:Nat->Option Nat}(hex:XQ σ ids ex l4.next)(tk:σ.next<=l4.next)(aU:∀i,i∉ids->i<σ.next->l4.heap.get i=σ.heap.get i)(aW:∀i ij,l4.heap.get i=some ij->(i∈ids\/σ.next<=i)->∃s fD,ex i=some s/\fh.heap.get s=some fD/\tV dc (m.glue σ dc fh ex) fD ij/\∀t a1 l k j4,ij=.arr t a1 l k j4->tG σ i=some j4):
 bM (m.glue σ dc fh ex) l4 eU/\Step m σ w (m.glue σ dc fh ex) l4 eU:=by
 have low:∀{s i:Nat},ids[s]?=some i->s<kN.next:=λ{s i} aP=>by rw[tv];exact(eu.1 aP).1
 have mem:∀{s i:Nat},ids[s]?=some i->i∈ids:=λaP=>List.mem_of_getElem? aP;have zx:∀{i s:Nat},ex i=some s->(m.glue σ dc fh ex).pl i=dc.pl s:=λ{i s} he=>by
  show(if i<σ.next then _ else _)=_;split
  ·rename_i bn;have aP:=hex.vT i s he bn;rw[st.iL.pl s (low aP)];simp[M.sub,aP]
  ·rw[he];rfl
 have mq:∀{i:Nat},σ.next<=i->m.pl i=none/\m.bg i=none/\(∀k o,m.hP i k o=none):=λ{i} aj=>by
  obtain⟨aG,aN,bo,_⟩:=h.fresh i aj;exact⟨aG,aN,bo⟩
 have Q5:∀{i v:Nat},i<σ.next->tG σ i=some v->∃t a1 l bX,σ.heap.get i=some (.arr t a1 l bX (v-1))/\1<=v:=λ{i v} aj aL=>by
  unfold tG at aL;rw[if_neg ab] at aL;split at aL
  ·rename_i t a1 l bX v0 cm;cases aL;exact⟨t,a1,l,bX,by simpa using cm,ab⟩
  ·cases aL
 have ext:Ext m (m.glue σ dc fh ex):=by
  refine⟨λi r aj=>?_,λi v aj=>?_,λi k o v aj=>?_,st.iL.ext.fz⟩
  ·have bn:i<σ.next:=by
    rcases ky i σ.next with g|g
    ·exact g
    ·rw[(mq g).1] at aj;cases aj
   show(if i<σ.next then _ else _)=_;rw[if_pos bn];exact aj
  ·have bn:i<σ.next:=by
    rcases ky i σ.next with g|g
    ·exact g
    ·rw[(mq g).2.1] at aj;cases aj
   show(match ex i with|some s=>dc.bg s|none=>m.bg i)=_;cases he:ex i with
   |none=>exact aj
   |some s=>
    have aP:=hex.vT i s he bn;exact st.iL.ext.bg s v (by simpa[M.sub,aP] using aj)
  ·have bn:i<σ.next:=by
    rcases ky i σ.next with g|g
    ·exact g
    ·rw[(mq g).2.2] at aj;cases aj
   show(match ex i with|some s=>(if tG σ i=some k then _ else _)|none=>_)=_;cases he:ex i with
   |none=>exact aj
   |some s=>
    simp only
    rw[if_neg]
    ·exact aj
    ·intro aL;obtain⟨t,a1,l,bX,aG,aN⟩:=Q5 bn aL;obtain⟨A,c,bA,bI,c9,_⟩:=h.live i _ aG;rw[c9 k ab o] at aj;cases aj
 have TX:∀{R:Nat},Cv (m.sub σ ids) kN R->∃j y q k,(j∈ids\/σ.next<=j)/\σ.heap.get j=some y/\m.pl j=some q/\m.dy R=some (q,k):=λ{R} ⟨q,k,j,x,m8,mA,K4⟩=>by
  obtain⟨i,b,aG,aN⟩:=aC j x mA;exact⟨i,b,q,k,.inl (mem aG),aN,by simpa[M.sub,aG] using K4,m8⟩
 have key:=h.YW (m':=m.glue σ dc fh ex) (bb:=l4) (w':=eU) (λi=>i∈ids\/σ.next<=i) ext ⟨st.gE.os,st.gE.tape,st.gE.output⟩ st.gE.size (λi aj=>?_) (λi ij ql aj=>?_) (λi ql=>?_) (λb ah ql=>?_)
  (λi j bi mn r apt apu aj aq aO ay=>?_) (λi x R ql aj fm=>?_) (λb R k ah=>af.own b R k ah) (λb R k ah aA=>?_) af.stay
 ·refine⟨key.1,⟨ext,λi aj=>if_pos aj⟩,key.2,tk,λi cs aj bF=>?_⟩;have bn:i<σ.next:=by
   rcases ky i σ.next with g|g
   ·exact g
   ·rw[(h.fresh i g).2.2.2] at aj;cases aj
  rw[aU i (λhm=>Sg i hm cs aj bF) bn];exact aj
 ·have uw:ex i=none:=by
   cases he:ex i with
   |none=>rfl
   |some s=>have:=hex.new i s he ab;omega
  obtain⟨f1,f2,f3⟩:=mq (i:=i) ab;refine⟨?_,?_,λk o=>?_,?_⟩
  ·show(if i<σ.next then _ else _)=_;rw[if_neg ab,uw];rfl
  ·show(match ex i with|some s=>dc.bg s|none=>m.bg i)=_;rw[uw];exact f2
  ·show(match ex i with|some s=>(if tG σ i=some k then _ else _)|none=>_)=_;rw[uw];exact f3 k o
  ·cases cm:l4.heap.get i with
   |none=>rfl
   |some ij=>
    obtain⟨s,fD,aG,_⟩:=aW i ij cm (.inr ab);rw[uw] at aG;cases aG
 ·obtain⟨s,fD,aG,aN,bo,cE⟩:=aW i ij aj ql;have Xi:∀k o,(m.glue σ dc fh ex).hP i k o=if tG σ i=some k then dc.hP s (xE fh s) o else m.hP i k o:=λk o=>by
   show(match ex i with|some s=>(if tG σ i=some k then _ else _)|none=>_)=_;rw[aG]
  have SN:xE fh s=fD.c7:=by simp[xE,aN]
  have axs:∀{k j4:Nat},tG σ i=some j4->j4<k->∀o,m.hP i k o=none:=λ{k j4} aL bn o=>by
   rcases ky i σ.next with g|g
   ·obtain⟨t,a1,l,bX,bA,bI⟩:=Q5 g aL;obtain⟨A,c,bx,cX,bH,_⟩:=h.live i _ bA;exact bH k ab o
   ·exact(mq g).2.2 k o
  refine(af.live s fD aN).al' bo (zx aG) (by show(match ex i with|some s=>dc.bg s|none=>m.bg i)=_;rw[aG]) rfl rfl (λt a1 l k j4 aL o=>?_) (λt a1 l k j4 aL cv pN o=>?_) (λt a1 l k j4 aL bF aP cv o=>?_)
  ·rw[Xi,if_pos (cE _ _ _ _ _ aL),SN]
  ·have uy:=cE _ _ _ _ _ aL;rw[Xi,if_neg (by rw[uy];simp;omega)];exact axs uy pN o
  ·have uy:=cE _ _ _ _ _ aL;rw[Xi];split
   ·exact aP _ _
   ·rcases ky i σ.next with g|g
    ·obtain⟨t,a1,l,bX,bA,bI⟩:=Q5 g uy;obtain⟨A,c,bx,cX,bH,cJ⟩:=h.live i _ bA;have w6:m.pl i=none:=by
      have cy:=zx aG;rw[bF] at cy;have dm:(m.glue σ dc fh ex).pl i=m.pl i:=if_pos g;rw[<-dm];exact cy
     rcases cJ with⟨_,_,_,gn⟩|⟨r,cur,ty,b_,_,ik,_⟩
     ·exact gn cv o
     ·rw[w6] at ik;cases ik
    ·exact(mq g).2.2 cv o
 ·rw[not_or] at ql;have bn:i<σ.next:=ab;have uw:ex i=none:=by
   cases he:ex i with
   |none=>rfl
   |some s=>exact absurd (mem (hex.vT i s he bn)) ql.1
  refine⟨aU i ql.1 bn,if_pos bn,?_⟩;funext k o;show(match ex i with|some s=>(if tG σ i=some k then _ else _)|none=>_)=_;rw[uw]
 ·have:=st.gE.kept b ah λbX=>by
   obtain⟨j,y,q,k,aG,aN,bo,cE⟩:=TX bX;exact ql j y q k aG aN bo cE
  exact⟨this.1,this.2.1,this.2.2.1⟩
 ·obtain⟨s,fD,aG,aN,_⟩:=aW i bi aj apt;obtain⟨eA,ani,C_,Js,_⟩:=aW j mn aq apu;rw[zx aG] at aO;rw[zx C_] at ay;have:=af.inj s eA fD ani r aN Js aO ay;subst this;exact hex.inj i j s aG C_
 ·obtain⟨s,fD,aG,aN,_⟩:=aW i x aj ql;rw[zx aG] at fm;rcases ky R w.heap.size with bn|mu
  ·refine .inr (TX (Classical.byContradiction λaA=>?_));exact(st.gE.kept R bn aA).2.2.2 ⟨R,none,s,fD,af.root aN fm,aN,fm⟩
  ·exact .inl mu
 ·rcases st.gE.own b R k ah with g|g|g
  ·exact absurd g aA
  ·exact .inl g
  ·exact .inr (TX g)
end
inductive fp
  |leaf (l:eL)
  |agg (t:dh)
  |cH (t:dh) (o:Nat)
  |KW
  |ptr (k o:Nat)
  |tok (t:dh) (k:Nat) (nl:List Bool)
  |arr (k:Nat) (t:dh) (a1:List Bool)
  |jW (k sz f:Nat)
  |fn (f:Nat) (first cap:List (Nat×Nat))
  |xm
  |uM
  |dt
  |sD (t:dh) (nl:List Bool)
inductive ec
  |box (cs:List fp)
  |arr (t:dh) (a1:List Bool)
  |bG (t:dh)
  |gone
@[reducible] def wq (s:fp):Type:=fp.rec (motive:=λ_=>Type) (λl=>nA l) (λt=>D t) (λt _=>D t) Unit (λ_ _=>Unit) (λt _ _=>L (D t)) (λ_ _ _=>Unit) (λ_ _ _=>Nat) (λ_ _ _=>Unit) Unit Unit Unit (λt _=>D t) s
@[reducible] def rZ (l:List fp):Type:=List.rec (motive:=λ_=>Type) Unit (λs _ cj=>wq s×cj) l
@[reducible] def kY (b:ec):Type:=ec.rec (motive:=λ_=>Type) (λcs=>rZ cs) (λt _=>L (D t)) (λ_=>Unit) Unit b
@[reducible] def nY (l:List ec):Type:=List.rec (motive:=λ_=>Type) Unit (λs _ cj=>kY s×cj) l
structure a4 where
  pZ:List (Nat×fp)
  blocks:List ec
@[reducible] def a4.kinds (p:a4):List fp:=List.rec (motive:=λ_=>List fp) [] (λs _ cj=>s.2::cj) p.pZ
@[reducible] def U (p:a4):Type:=rZ p.kinds×nY p.blocks
def wi (v:V):C:=match v with
 |.p (.c c)=>c
 |_=>.uM
def zo:List Bool->List C->List C
 |b::s4,c::cs=>(match b with
  |true=>.dt
  |false=>c)::zo s4 cs
 |_,cs=>cs
def Ei:List Bool->List C->Bool
 |b::s4,c::cs=>(match b with
  |true=>AQ c
  |false=>true)&&Ei s4 cs
 |_,_=>true
def x9 (ρ len:Nat->Nat)(s:fp):wq s->V:=fp.rec (motive:=λs=>wq s->V) (λl x=>.c (pH l x)) (λt x=>.agg (lA t x)) (λt o x=>.c (.cH t x o)) (λ_=>.c (.ptr none)) (λk o _=>.c (.ptr (some (ρ k,o)))) (λt k nl x=>.c (.row t x (.dW (ρ k) nl t.length))) (λk _ _ _=>.c (.aR (ρ k) (len k))) (λk sz f n=>.c (.jW (ρ k) n sz f)) (λf us vs _=>.c (.fn f (us.map λy=>(ρ y.1,y.2)) (vs.map λy=>(ρ y.1,y.2)))) (λ_=>.c .xm) (λ_=>.c .uM) (λ_=>.c .dt) (λt nl x=>.agg (zo nl (lA t x))) s
def n_ (ρ len:Nat->Nat)(l:List fp):rZ l->List V:=List.rec (motive:=λl=>rZ l->List V) (λ_=>[]) (λs _ cj x=>x9 ρ len s x.1::cj x.2) l
def CS (ρ len:Nat->Nat)(c7:Nat)(b:ec):kY b->Option B:=ec.rec (motive:=λb=>kY b->Option B) (λcs x=>some (.box ((n_ ρ len cs x).map wi))) (λt a1 x=>some (.arr t a1 x none c7)) (λt _=>some (.bG t)) (λ_=>none) b
def Tb (b:ec):kY b->Nat:=ec.rec (motive:=λb=>kY b->Nat) (λ_ _=>0) (λ_ _ x=>x.1.length) (λ_ _=>0) (λ_=>0) b
def ab2 (l:List ec):nY l->List Nat:=List.rec (motive:=λl=>nY l->List Nat) (λ_=>[]) (λb _ cj x=>Tb b x.1::cj x.2) l
def lenOf {l:List ec}(x:nY l)(k:Nat):Nat:=(ab2 l x)[k]?.getD 0
structure fJ where
  k:Nat
  id:Nat
  tag:Nat
def kr (ρ:List fJ)(k:Nat):Option Nat:=match ρ with
 |[]=>none
 |e::l=>match Nat.beq e.k k with
  |true=>some e.id
  |false=>kr l k
def vi (ρ:List fJ)(k id tag:Nat):Option (List fJ):=match kr ρ k with
 |none=>some (⟨k,id,tag⟩::ρ)
 |some yW=>match Nat.beq yW id with
  |true=>some (⟨k,id,tag⟩::ρ)
  |false=>none
def CJ (ρ:List fJ):List (Nat×Nat)->List (Nat×Nat)->Option (List fJ)
 |[],[]=>some ρ
 |y::l,z::r=>match Nat.beq y.2 z.2 with
  |true=>match vi ρ y.1 z.1 1 with
   |some gd=>CJ gd l r
   |none=>none
  |false=>none
 |_,_=>none
def nI (ρ:List fJ)(s:fp)(v:V):Option (wq s×List fJ):=match s with
 |.leaf l=>match v with
  |.p (.c c)=>match s_ l c with
   |some x=>some (x,ρ)
   |none=>none
  |_=>none
 |.agg t=>match v with
  |.p (.agg cs)=>match mM t cs with
   |some x=>some (x,ρ)
   |none=>none
  |_=>none
 |.cH t o=>match v with
  |.p (.c (.cH t' x fC))=>if h:kB t' t=true then(match Nat.beq fC o with
   |true=>some (cast (congrArg D (kC h)) x,ρ)
   |false=>none) else none
  |_=>none
 |.KW=>match v with
  |.p (.c (.ptr none))=>some ((),ρ)
  |_=>none
 |.ptr k o=>match v with
  |.p (.c (.ptr (some y)))=>match Nat.beq y.2 o with
   |true=>match vi ρ k y.1 1 with
    |some gd=>some ((),gd)
    |none=>none
   |false=>none
  |_=>none
 |.tok t k nl=>match v with
  |.p (.c (.row t' l (.dW id TA sz)))=>if h:kB t' t=true then(match xZ nl TA&&Nat.beq sz t'.length with
   |true=>match vi ρ k id 0 with
    |some gd=>some (cast (congrArg (λt=>L (D t)) (kC h)) l,gd)
    |none=>none
   |false=>match nl with
    |[]=>match vi ρ k id 0 with
     |some gd=>some (cast (congrArg (λt=>L (D t)) (kC h)) l,gd)
     |none=>none
    |_=>none) else none
  |_=>none
 |.arr k _ _=>match v with
  |.p (.c (.aR id n))=>match vi ρ k id 2 with
   |some gd=>some ((),gd)
   |none=>none
  |_=>none
 |.jW k sz f=>match v with
  |.p (.c (.jW id n xz f'))=>match Nat.beq xz sz&&Nat.beq f' f with
   |true=>match vi ρ k id 0 with
    |some gd=>some (n,gd)
    |none=>none
   |false=>none
  |_=>none
 |.fn f us vs=>match v with
  |.p (.c (.fn f' nc gi))=>match Nat.beq f' f with
   |true=>match CJ ρ us nc with
    |some gd=>match CJ gd vs gi with
     |some aNB=>some ((),aNB)
     |none=>none
    |none=>none
   |false=>none
  |_=>none
 |.xm=>match v with
  |.p (.c .xm)=>some ((),ρ)
  |_=>none
 |.uM=>match v with
  |.p (.c .uM)=>some ((),ρ)
  |_=>none
 |.dt=>match v with
  |.p (.c .dt)=>some ((),ρ)
  |_=>none
 |.sD t nl=>match v with
  |.p (.agg cs)=>match Ei nl cs with
   |true=>match mM t cs with
    |some x=>some (x,ρ)
    |none=>none
   |false=>none
  |_=>none
def yd (l:List fp):List fJ->List V->Option (rZ l×List fJ):=List.rec (motive:=λl=>List fJ->List V->Option (rZ l×List fJ)) (λρ vs=>match vs with
 |[]=>some ((),ρ)
 |_=>none)
 (λs _ cj ρ vs=>match vs with
  |[]=>none
  |v::vs=>match nI ρ s v with
   |some y=>match cj y.2 vs with
    |some z=>some ((y.1,z.1),z.2)
    |none=>none
   |none=>none) l
def lz (ρ:List fJ)(b:ec)(x:B):Option (kY b×List fJ):=match b with
 |.box cs=>match x with
  |.box l=>yd cs ρ (l.map λc=>.p (.c c))
  |_=>none
 |.arr t a1=>match x with
  |.arr t' wz l none _=>if h:kB t' t=true then(match decide (wz=a1) with
   |true=>some (cast (congrArg (λt=>L (D t)) (kC h)) l,ρ)
   |false=>none) else none
  |_=>none
 |.bG t=>match x with
  |.bG t'=>match kB t' t with
   |true=>some ((),ρ)
   |false=>none
  |_=>none
 |.gone=>none
def hasTag (ρ:List fJ)(k tag:Nat):Bool:=ρ.any λe=>Nat.beq e.k k&&Nat.beq e.tag tag
def Tg (nn:Bool)(ρ:List fJ)(j:Nat)(b:ec):Bool:=match nn with
 |false=>true
 |true=>match b with
  |.box _=>hasTag ρ j 1
  |_=>true
def tf (nn:Bool)(σ:bV)(l:List ec):Nat->List fJ->Option (nY l×List fJ):=List.rec (motive:=λl=>Nat->List fJ->Option (nY l×List fJ)) (λ_ ρ=>some ((),ρ))
 (λb _ cj j ρ=>match b with
  |.gone=>match cj (Nat.succ j) ρ with
   |some z=>some (((),z.1),z.2)
   |none=>none
  |b=>match kr ρ j with
   |none=>none
   |some id=>match σ.heap.get id with
    |none=>none
    |some x=>match Tg nn ρ j b with
     |false=>none
     |true=>match lz ρ b x with
      |some y=>match cj (Nat.succ j) y.2 with
       |some z=>some ((y.1,z.1),z.2)
       |none=>none
      |none=>none) l
section
variable{w:World}{m m':M}{σ:bV}{ρ gd:List fJ}
theorem Ja (f len:Nat->Nat)(s:fp)(l:List fp)(x:rZ (s::l)):n_ f len (s::l) x=x9 f len s x.1::n_ f len l x.2:=rfl
theorem Zt (s:fp)(l:List fp)(ρ:List fJ)(v:V)(vs:List V):yd (s::l) ρ (v::vs)=(match nI ρ s v with
 |some y=>match yd l y.2 vs with
  |some z=>some ((y.1,z.1),z.2)
  |none=>none
 |none=>none):=rfl
def n3 (ρ:List fJ):Prop:=∀e∈ρ,kr ρ e.k=some e.id
theorem ab6:∀{ρ:List fJ}{k id:Nat},kr ρ k=some id->∃tag,(⟨k,id,tag⟩:fJ)∈ρ
 |e::ρ,k,id,h=>by
  rw[kr] at h;split at h
  ·rename_i aU;have:=gB aU;cases h;exact⟨e.tag,by rw[<-this];exact mY⟩
  ·obtain⟨tag,bQ⟩:=ab6 h;exact⟨tag,List.mem_cons_of_mem _ bQ⟩
theorem CI {k id tag:Nat}(h:vi ρ k id tag=some gd):gd=⟨k,id,tag⟩::ρ/\(n3 ρ->n3 gd):=by
 have key:gd=⟨k,id,tag⟩::ρ/\(kr ρ k=none\/kr ρ k=some id):=by
  unfold vi at h;split at h
  ·rename_i aA;cases h;exact⟨rfl,.inl aA⟩
  ·rename_i yW aP;split at h
   ·rename_i he;cases h;exact⟨rfl,.inr (by rw[aP,gB he])⟩
   ·cases h
 refine⟨key.1,λbB e he=>?_⟩;obtain⟨rfl,aU⟩:=key;rw[kr];split
 ·rename_i ay;have ay:=gB ay;rcases List.mem_cons.1 he with rfl|he
  ·rfl
  ·have aa:=bB e he;have ay:k=e.k:=ay;subst ay;rcases aU with aU|aU
   ·rw[aU] at aa;cases aa
   ·rw[aU] at aa;exact aa
 ·rename_i ay;rcases List.mem_cons.1 he with rfl|he
  ·rw[Nat.beq_refl] at ay;cases ay
  ·exact bB e he
structure ud (m:M)(ρ:List fJ)(f len:Nat->Nat):Prop where
  id:∀e∈ρ,f e.k=e.id
  len:∀e∈ρ,e.tag=2->∀A n c,m.bg e.id=some (.slice A n c)->len e.k=n
theorem ud.of {f len:Nat->Nat}(h:ud m gd f len)(aP:∀e∈ρ,e∈gd):ud m ρ f len:=⟨λe he=>h.id e (aP e he),λe he=>h.len e (aP e he)⟩
def Met (m:M)(ρ gd:List fJ):Prop:=∀e∈gd,e.tag=1->e∈ρ\/m.pl e.id≠none
theorem Q8:∀{us nc:List (Nat×Nat)}{ρ gd:List fJ},CJ ρ us nc=some gd->(∀e∈ρ,e∈gd)/\(n3 ρ->n3 gd)/\(∀f len,ud m gd f len->nc=us.map λy=>(f y.1,y.2))/\∀vs,cL (qK m) nc vs->Met m ρ gd
 |[],[],ρ,gd,h=>by cases h;exact⟨λ_ h=>h,λh=>h,λ_ _ _=>rfl,λ_ _ e he _=>.inl he⟩
 |y::us,z::nc,ρ,gd,h=>by
  rw[CJ] at h;split at h
  ·rename_i he;have he:=gB he;split at h
   ·rename_i sN aa;obtain⟨rfl,aN⟩:=CI aa;obtain⟨bA,bI,c9,ei⟩:=Q8 h;refine⟨λe h=>bA e (List.mem_cons_of_mem _ h),λh=>bI (aN h),λf len aO=>?_,λvs vH=>?_⟩
    ·rw[List.map_cons,<-c9 f len aO];have:=aO.id _ (bA _ mY);simp only at this;rw[this,he]
    ·match vs,vH with
     |v::vs,⟨⟨r,eT,fK⟩,gU⟩=>
      intro e fu bQ;rcases ei vs gU e fu bQ with g|g
      ·rcases List.mem_cons.1 g with rfl|g
       ·exact .inr (by simp only;rw[eT];simp)
       ·exact .inl g
      ·exact .inr g
   ·cases h
  ·cases h
theorem anX {l:eL}{x:nA l}{u:Value}(h:dQ m.fz l x u):dv m (pH l x) u:=by
 cases l with
 |int k=>simp only[dQ] at h;exact h
 |bool=>simp only[dQ] at h;exact h
 |str=>simp only[dQ] at h;exact h
 |aR t=>exact⟨h,trivial⟩
theorem Za {l:eL}{c:C}{x:nA l}{u:Value}(h:s_ l c=some x)(an:dv m c u):dv m (pH l x) u:=anX (CT h an)
theorem Rv:∀{t:dh}{cs:List C}{x:D t}{vs:List Value},mM t cs=some x->cL (dv m) cs vs->cL (dv m) (lA t x) vs
 |[],[],x,vs,h,aL=>aL
 |[],c::cs,x,vs,h,aL=>by rw[I_] at h;cases h
 |l::t,[],x,vs,h,aL=>by rw[CV] at h;cases h
 |l::t,c::cs,x,v::vs,h,aL=>by
  obtain⟨aa,af⟩:=CU h;exact⟨Za aa aL.1,Rv af aL.2⟩
theorem Ty:∀{nl:List Bool}{cs ds:List C}{vs:List Value},Ei nl cs=true->cL (dv m) cs vs->cL (dv m) ds vs->cL (dv m) (zo nl ds) vs
 |[],cs,ds,vs,_,_,h=>by
  have:zo [] ds=ds:=by cases ds<;>rfl
  rw[this];exact h
 |b::nl,cs,[],vs,_,_,h=>h
 |b::nl,[],d::ds,[],_,_,h=>h.elim
 |true::nl,c::cs,d::ds,v::vs,aA,an,bg=>by
  have aA:(AQ c&&Ei nl cs)=true:=aA;rw[gR] at aA;refine⟨?_,Ty aA.2 an.2 bg.2⟩;have af:=an.1;have aa:=aA.1;show dv m .dt v;cases c<;>first|exact af|cases aa
 |false::nl,c::cs,d::ds,v::vs,aA,an,bg=>by
  have aA:(true&&Ei nl cs)=true:=aA;rw[gR] at aA;exact⟨bg.1,Ty aA.2 an.2 bg.2⟩
theorem Zs {s:fp}{v:V}{x:wq s}(h:nI ρ s v=some (x,gd)):(∀e∈ρ,e∈gd)/\(n3 ρ->n3 gd)/\(∀f len,ud m gd f len->∀u,en m v u->en m (x9 f len s x) u)/\((∃u,en m v u)->Met m ρ gd):=by
 have xB:∀{ρ:List fJ},Met m ρ ρ:=λe he _=>.inl he;cases s with
 |leaf l=>
  simp only[nI] at h;split at h
  ·split at h
   ·rename_i c y b7;cases h;exact⟨λ_ h=>h,λh=>h,λf len _ u hu=>Za b7 hu,λ_=>xB⟩
   ·cases h
  ·cases h
 |agg t=>
  simp only[nI] at h;split at h
  ·split at h
   ·rename_i cs y b7;cases h;refine⟨λ_ h=>h,λh=>h,λf len _ u hu=>?_,λ_=>xB⟩;obtain⟨vs,rfl,af⟩:=hu;exact⟨vs,rfl,Rv b7 af⟩
   ·cases h
  ·cases h
 |cH t o=>
  simp only[nI] at h;split at h
  ·split at h
   ·rename_i t' jn fC he;split at h
    ·rename_i bX;obtain rfl:=kC he;obtain rfl:=gB bX;cases h;exact⟨λ_ h=>h,λh=>h,λf len _ u hu=>hu,λ_=>xB⟩
    ·cases h
   ·cases h
  ·cases h
 |KW=>
  simp only[nI] at h;split at h
  ·cases h;exact⟨λ_ h=>h,λh=>h,λf len _ u hu=>hu,λ_=>xB⟩
  ·cases h
 |ptr k o=>
  simp only[nI] at h;split at h
  ·rename_i y;split at h
   ·rename_i bX;have bX:=gB bX;split at h
    ·rename_i sN aa;obtain⟨rfl,aN⟩:=CI aa;cases h;refine⟨λe h=>List.mem_cons_of_mem _ h,aN,λf len aO u hu=>?_,λ⟨u,hu⟩ e he bQ=>?_⟩
     ·have:=aO.id _ mY;simp only at this;show dv m (.ptr (some (f k,o))) u;rw[this,<-bX];exact hu
     ·rcases List.mem_cons.1 he with rfl|he
      ·obtain⟨r,eT,_⟩:=hu;exact .inr (by simp only;rw[eT];simp)
      ·exact .inl he
    ·cases h
   ·cases h
  ·cases h
 |tok t k nl=>
  simp only[nI] at h;split at h
  ·split at h
   ·rename_i t' l id TA sz he;obtain rfl:=kC he;have apx:(match vi ρ k id 0 with
     |some gd=>some (l,gd)
     |none=>none)=some (x,gd)/\∀u,n4 m.fz TA sz u->n4 m.fz nl t'.length u:=by
     split at h
     ·rename_i ah;rw[gR] at ah;obtain rfl:=gB ah.2;exact⟨h,λu hu b o len c aL i f aa af ax=>hu b o len c aL i f aa af (Q2 ah.1 f ax)⟩
     ·split at h
      ·exact⟨h,λu hu=>n4.none⟩
      ·cases h
    clear h;obtain⟨h,oo⟩:=apx;split at h
    ·rename_i sN aa;obtain⟨rfl,aN⟩:=CI aa;cases h;refine⟨λe h=>List.mem_cons_of_mem _ h,aN,λf len aO u hu=>?_,λ_ e he bQ=>?_⟩
     ·have:=aO.id _ mY;simp only at this;show dv m (.row t' l (.dW (f k) nl t'.length)) u;rw[this];exact⟨hu.1,hu.2.1,oo u hu.2.2⟩
     ·rcases List.mem_cons.1 he with rfl|he
      ·cases bQ
      ·exact .inl he
    ·cases h
   ·cases h
  ·cases h
 |arr k t a1=>
  simp only[nI] at h;split at h
  ·rename_i id n;split at h
   ·rename_i sN aa;obtain⟨rfl,aN⟩:=CI aa;cases h;refine⟨λe h=>List.mem_cons_of_mem _ h,aN,λf len aO u hu=>?_,λ_ e he bQ=>?_⟩
    ·have ax:=aO.id _ mY;obtain⟨A,c,eT,fK,gU⟩:=hu;have a8:=aO.len _ mY rfl A n c (by rw[<-eT];exact fK);simp only at ax a8;show dv m (.aR (f k) (len k)) u;rw[ax,a8];exact⟨A,c,eT,fK,gU⟩
    ·rcases List.mem_cons.1 he with rfl|he
     ·cases bQ
     ·exact .inl he
   ·cases h
  ·cases h
 |jW k sz f0=>
  simp only[nI] at h;split at h
  ·rename_i id n xz f';split at h
   ·rename_i ah;rw[gR] at ah;obtain rfl:=gB ah.1;obtain rfl:=gB ah.2;split at h
    ·rename_i sN aa;obtain⟨rfl,aN⟩:=CI aa;cases h;refine⟨λe h=>List.mem_cons_of_mem _ h,aN,λf len aO u hu=>?_,λ_ e he bQ=>?_⟩
     ·have:=aO.id _ mY;simp only at this;show dv m (.jW (f k) _ _ _) u;rw[this];exact hu
     ·rcases List.mem_cons.1 he with rfl|he
      ·cases bQ
      ·exact .inl he
    ·cases h
   ·cases h
  ·cases h
 |fn f0 us vs=>
  simp only[nI] at h;split at h
  ·rename_i f' nc gi;split at h
   ·rename_i ah;obtain rfl:=gB ah;split at h
    ·rename_i sN aa;split at h
     ·rename_i aPT af;cases h;obtain⟨dM,di,gL,k_⟩:=Q8 (m:=m) aa;obtain⟨c4,fD,ij,oQ⟩:=Q8 (m:=m) af;refine⟨λe h=>c4 e (dM e h),λh=>fD (di h),λf len aO u hu=>?_,λ⟨u,hu⟩ e he bQ=>?_⟩
      ·show dv m (.fn _ _ _) u;rw[<-gL f len (aO.of c4),<-ij f len aO];exact hu
      ·obtain⟨xs,jB,_,fK,gU⟩:=hu;rcases oQ _ gU e he bQ with g|g
       ·exact k_ _ fK e g bQ
       ·exact .inr g
     ·cases h
    ·cases h
   ·cases h
  ·cases h
 |xm=>
  simp only[nI] at h;split at h
  ·cases h;exact⟨λ_ h=>h,λh=>h,λf len _ u hu=>hu,λ_=>xB⟩
  ·cases h
 |uM=>
  simp only[nI] at h;split at h
  ·cases h;exact⟨λ_ h=>h,λh=>h,λf len _ u hu=>hu,λ_=>xB⟩
  ·cases h
 |dt=>
  simp only[nI] at h;split at h
  ·cases h;exact⟨λ_ h=>h,λh=>h,λf len _ u hu=>hu,λ_=>xB⟩
  ·cases h
 |sD t nl=>
  simp only[nI] at h;split at h
  ·split at h
   ·rename_i aA;split at h
    ·rename_i cs y b7;cases h;refine⟨λ_ h=>h,λh=>h,λf len _ u hu=>?_,λ_=>xB⟩;obtain⟨vs,rfl,af⟩:=hu;exact⟨vs,rfl,Ty aA af (Rv b7 af)⟩
    ·cases h
   ·cases h
  ·cases h
theorem Ak:∀{l:List fp}{vs:List V}{x:rZ l}{ρ gd:List fJ},yd l ρ vs=some (x,gd)->(∀e∈ρ,e∈gd)/\(n3 ρ->n3 gd)/\
 (∀f len,ud m gd f len->cL (λv ej=>∀u,en m v u->en m ej u) vs (n_ f len l x))/\((∀v∈vs,∃u,en m v u)->Met m ρ gd)
 |[],[],x,ρ,gd,h=>by cases h;exact⟨λ_ h=>h,λh=>h,λ_ _ _=>trivial,λ_ e he _=>.inl he⟩
 |[],v::vs,x,ρ,gd,h=>by cases h
 |s::l,[],x,ρ,gd,h=>by cases h
 |s::l,v::vs,x,ρ,gd,h=>by
  rw[Zt] at h;split at h
  ·rename_i y b7;split at h
   ·rename_i z ai;cases h;obtain⟨dM,di,gL,k_⟩:=Zs (m:=m) b7;obtain⟨c4,fD,ij,oQ⟩:=Ak (vs:=vs) ai;refine⟨λe h=>c4 e (dM e h),λh=>fD (di h),λf len aO=>⟨gL f len (aO.of c4),ij f len aO⟩,λaL e he bQ=>?_⟩;rcases oQ (λej h'=>aL ej (List.mem_cons_of_mem _ h')) e he bQ with g|g
    ·exact k_ (aL v mY) e g bQ
    ·exact .inr g
   ·cases h
  ·cases h
def uf (m m':M)(f f':Nat->Nat)(P:Nat->Bool):Prop:=iA m.fz m'.fz/\∀k,P k=true->(∀r,m.pl (f k)=some r->m'.pl (f' k)=some r)/\∀v,m.bg (f k)=some v->m'.bg (f' k)=some v
def fp.tO (P:Nat->Bool):fp->Bool
 |.ptr k _=>P k
 |.tok _ k _=>P k
 |.arr k _ _=>P k
 |.jW k _ _=>P k
 |.fn _ us vs=>(us.all λy=>P y.1)&&vs.all λy=>P y.1
 |_=>true
theorem T4 {f f':Nat->Nat}{P:Nat->Bool}(bQ:uf m m' f f' P):∀{us:List (Nat×Nat)}{vs:List Value},(us.all λy=>P y.1)=true->cL (qK m) (us.map λy=>(f y.1,y.2)) vs->cL (qK m') (us.map λy=>(f' y.1,y.2)) vs
 |[],[],_,h=>h
 |y::us,v::vs,ah,⟨⟨r,aa,af⟩,ax⟩=>by
  rw[List.all_cons,gR] at ah;exact⟨⟨r,(bQ.2 y.1 ah.1).1 r aa,af⟩,T4 bQ ah.2 ax⟩
theorem Rx {f f' len:Nat->Nat}{P:Nat->Bool}{s:fp}{x:wq s}{u:Value}(bQ:uf m m' f f' P)(aP:s.tO P=true)(h:en m (x9 f len s x) u):en m' (x9 f' len s x) u:=by
 cases s with
 |leaf l=>
  have h:dv m (pH l x) u:=h;show dv m' (pH l x) u;cases l with
  |aR t=>exact⟨h.1.ext bQ.1,trivial⟩
  |int k=>exact h
  |bool=>exact h
  |str=>exact h
 |agg t=>
  obtain⟨vs,rfl,af⟩:=h;refine⟨vs,rfl,?_⟩;have key:∀{t:dh}{x:D t}{vs:List Value},cL (dv m) (lA t x) vs->cL (dv m') (lA t x) vs:=by
   intro t;induction t with
   |nil=>intro x vs h;match vs,h with|[],h=>exact h
   |cons l t cj=>
    intro x vs h
    match vs,h with
    |v::vs,⟨aa,af⟩=>
     refine⟨?_,cj af⟩;have aa:dv m (pH l x.1) v:=aa;show dv m' (pH l x.1) v;cases l with
     |aR t=>exact⟨aa.1.ext bQ.1,trivial⟩
     |int k=>exact aa
     |bool=>exact aa
     |str=>exact aa
  exact key af
 |cH t o=>
  obtain⟨b,a,aa,af⟩:=h;exact⟨b,a,aa,af.ext bQ.1⟩
 |KW=>exact h
 |ptr k o=>
  obtain⟨r,aa,af⟩:=h;exact⟨r,(bQ.2 k aP).1 r aa,af⟩
 |tok t k nl=>exact⟨h.1.ext bQ.1,(bQ.2 k aP).2 _ h.2.1,h.2.2.ext bQ.1⟩
 |arr k t a1=>
  obtain⟨A,c,aa,af,ax⟩:=h;exact⟨A,c,aa,(bQ.2 k aP).2 _ af,ax⟩
 |jW k sz f0=>
  obtain⟨b,j,c,aa,af⟩:=h;exact⟨b,j,c,(bQ.2 k aP).2 _ aa,af⟩
 |fn f0 us vs=>
  have aP:((us.all λy=>P y.1)&&vs.all λy=>P y.1)=true:=aP;rw[gR] at aP;obtain⟨xs,jB,aa,af,ax⟩:=h;exact⟨xs,jB,aa,T4 bQ aP.1 af,T4 bQ aP.2 ax⟩
 |xm=>exact h
 |uM=>exact h
 |dt=>exact h
 |sD t nl=>
  obtain⟨vs,rfl,af⟩:=h;refine⟨vs,rfl,?_⟩;have key:∀{t:dh}{nl:List Bool}{x:D t}{vs:List Value},cL (dv m) (zo nl (lA t x)) vs->cL (dv m') (zo nl (lA t x)) vs:=by
   intro t;induction t with
   |nil=>intro nl x vs h;cases nl<;>(match vs,h with|[],h=>exact h)
   |cons l t cj=>
    intro nl x vs h;have base:∀{v:Value},dv m (pH l x.1) v->dv m' (pH l x.1) v:=λ{v} aa=>by
     cases l with
     |aR t=>exact⟨aa.1.ext bQ.1,trivial⟩
     |int k=>exact aa
     |bool=>exact aa
     |str=>exact aa
    cases nl with
    |nil=>
     match vs,h with
     |v::vs,⟨aa,af⟩=>
      have e:∀ds:List C,zo [] ds=ds:=λds=>by cases ds<;>rfl
      have:=cj (nl:=[]) (x:=x.2) (vs:=vs) (by rw[e];exact af);rw[e] at this⊢;exact⟨base aa,this⟩
    |cons b nl=>
     match vs,h with
     |v::vs,⟨aa,af⟩=>
      refine⟨?_,cj af⟩;cases b with
      |true=>exact aa
      |false=>exact base aa
  exact key af
end
end cx
end Go.Proofs.YtgmdfchkljaooaaGreat
