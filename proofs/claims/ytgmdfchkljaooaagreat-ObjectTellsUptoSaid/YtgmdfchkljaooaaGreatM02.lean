/- Typed values. -/
import Derived.Laws.StructEq
import Derived.ChangeKeysEq
import Derived.Laws.IdiomStrings
import Derived.Laws.BytesArg
import Derived.Deep.AppendSrc
import Derived.Test.YtgmdfchkljaooaaGreatM01
noncomputable section
namespace Go.Proofs.YtgmdfchkljaooaaGreat
open Go.RowKit
namespace cx
open bC (T cL under size kL)
set_option linter.unusedVariables false
inductive Q (ρ:Type):Type 1
  |ret (x:ρ)
  |fail
  |bind {α:Type} (o:Option α) (f:α->Q ρ)
  |ite (b:Bool) (x y:Q ρ)
  |alt {α β:Type} (s:α⊕β) (f:α->Q ρ) (g:β->Q ρ)
section
variable{ρ gd β:Type}
def Q.lG (q:Q ρ)(f:ρ->Q gd):Q gd:=Q.rec (motive:=λ_=>Q gd) f .fail (λo _ cj=>.bind o cj) (λb _ _ x y=>.ite b x y) (λs _ _ cj DR=>.alt s cj DR) q
def Q.opt (q:Q (Option β)):Option β:=Q.rec (motive:=λ_=>Option β) (λx=>x) none (λo _ cj=>Option.bind o cj) (λb _ _ x y=>cond b x y) (λs _ _ cj DR=>Sum.elim cj DR s) q
inductive cU:Q ρ->ρ->Prop
  |ret (x:ρ):cU (.ret x) x
  |bind {α:Type} {o:Option α} {f:α->Q ρ} {a:α} {x:ρ}:o=some a->cU (f a) x->cU (.bind o f) x
  |cw {b:Bool} {p q:Q ρ} {x:ρ}:b=true->cU p x->cU (.ite b p q) x
  |RW {b:Bool} {p q:Q ρ} {x:ρ}:b=false->cU q x->cU (.ite b p q) x
  |inl {α β:Type} {s:α⊕β} {f:α->Q ρ} {g:β->Q ρ} {a:α} {x:ρ}:s=.inl a->cU (f a) x->cU (.alt s f g) x
  |inr {α β:Type} {s:α⊕β} {f:α->Q ρ} {g:β->Q ρ} {b:β} {x:ρ}:s=.inr b->cU (g b) x->cU (.alt s f g) x
theorem cU.eH {x y:ρ}(h:cU (.ret x) y):y=x:=by cases h;rfl
theorem cU.cc {y:ρ}(h:cU .fail y):False:=by cases h
theorem cU.m9 {α:Type}{o:Option α}{f:α->Q ρ}{x:ρ}(h:cU (.bind o f) x):∃a,o=some a/\cU (f a) x:=by
 cases h with
 |bind aa af=>exact⟨_,aa,af⟩
theorem cU.vR {b:Bool}{p q:Q ρ}{x:ρ}(h:cU (.ite b p q) x):(b=true/\cU p x)\/(b=false/\cU q x):=by
 cases h with
 |cw aa af=>exact .inl ⟨aa,af⟩
 |RW aa af=>exact .inr ⟨aa,af⟩
theorem cU.afV {α β:Type}{s:α⊕β}{f:α->Q ρ}{g:β->Q ρ}{x:ρ}(h:cU (.alt s f g) x):(∃a,s=.inl a/\cU (f a) x)\/∃b,s=.inr b/\cU (g b) x:=by
 cases h with
 |inl aa af=>exact .inl ⟨_,aa,af⟩
 |inr aa af=>exact .inr ⟨_,aa,af⟩
theorem cU.lX {q:Q ρ}{f:ρ->Q gd}{y:gd}(h:cU (q.lG f) y):∃x,cU q x/\cU (f x) y:=by
 induction q with
 |ret x=>exact⟨x,.ret x,h⟩
 |fail=>exact h.cc.elim
 |bind o g cj=>
  obtain⟨a,aa,af⟩:=cU.m9 h;obtain⟨x,ax,a8⟩:=cj a af;exact⟨x,.bind aa ax,a8⟩
 |ite b p q yY yZ=>
  rcases cU.vR h with⟨aa,af⟩|⟨aa,af⟩
  ·obtain⟨x,ax,a8⟩:=yY af;exact⟨x,.cw aa ax,a8⟩
  ·obtain⟨x,ax,a8⟩:=yZ af;exact⟨x,.RW aa ax,a8⟩
 |alt s p q yY yZ=>
  rcases cU.afV h with⟨a,aa,af⟩|⟨b,aa,af⟩
  ·obtain⟨x,ax,a8⟩:=yY a af;exact⟨x,.inl aa ax,a8⟩
  ·obtain⟨x,ax,a8⟩:=yZ b af;exact⟨x,.inr aa ax,a8⟩
theorem cU.LR {q:Q (Option β)}{r:β}(h:q.opt=some r):cU q (some r):=by
 induction q with
 |ret x=>
  have h:x=some r:=h;rw[h];exact .ret _
 |fail=>cases h
 |bind o g cj=>
  have h:Option.bind o (λa=>(g a).opt)=some r:=h;cases bX:o with
  |none=>rw[bX] at h;cases h
  |some a=>rw[bX] at h;exact .bind rfl (cj a h)
 |ite b p q yY yZ=>
  have h:cond b p.opt q.opt=some r:=h;cases b with
  |true=>exact .cw rfl (yY h)
  |false=>exact .RW rfl (yZ h)
 |alt s p q yY yZ=>
  have h:Sum.elim (λa=>(p a).opt) (λb=>(q b).opt) s=some r:=h;cases s with
  |inl a=>exact .inl rfl (yY a h)
  |inr b=>exact .inr rfl (yZ b h)
end
def iZ (c:C):Q V:=.ret (.p (.c c))
def zA {α:Type}(o:Option α)(f:α->C):Q V:=.bind o λa=>.ret (.p (.c (f a)))
def Q.lift {α ρ:Type}(o:Option α)(f:α->Q ρ):Q ρ:=match o with
 |some a=>f a
 |none=>.fail
abbrev Fr:=List (Nat×V)
def gN (F:Fr)(t:Nat):V:=List.rec (motive:=λ_=>V) .any (λx _ cj=>cond (Nat.beq t x.1) x.2 cj) F
def rj (F:Fr)(t:Nat)(v:V):Fr:=(t,v)::F
theorem vo (F:Fr)(t k:Nat)(v:V):gN (rj F t v) k=if k=t then v else gN F k:=by
 show cond (Nat.beq k t) v (gN F k)=_;by_cases h:k=t
 ·subst h;rw[Nat.beq_refl,if_pos rfl];rfl
 ·have:Nat.beq k t=false:=by
   cases ah:Nat.beq k t with
   |false=>rfl
   |true=>exact absurd (gB ah) h
  rw[this,if_neg h];rfl
def jx (x:Operand)(F:Fr):V:=match x with
 |.tmp t=>gN F t
 |.const v=>match A4 v with
  |some x=>.p x
  |none=>.any
 |.global g=>.any
 |.func f=>.c (.fn f [] [])
def lO (v:V):Option C:=match v with
 |.p (.c c)=>some c
 |_=>none
def wA (v:V):Option P:=match v with
 |.p x=>some x
 |_=>none
inductive R
  |val (v:V) (σ:bV)
  |skip (σ:bV)
  |qA (t:Nat) (v:V) (σ:bV)
  |call (f:Nat) (args:List V) (σ:bV)
inductive nh
  |pure (f:Fr->Q V)
  |made (f:Fr->Q V)
  |read (f:Fr->bV->Q V)
  |alloc (z:List C)
  |jw (f:Fr->bV->Q R)
  |bad
section
variable{α:Type}
def m_ (g:Operand)(k:C->Q α)(F:Fr):Q α:=Q.lift (lO (jx g F)) k
def iY (g h:Operand)(k:C->C->Q α)(F:Fr):Q α:=Q.lift (lO (jx g F)) λc=>Q.lift (lO (jx h F)) λd=>k c d
def uS (g:Operand)(k:P->Q α)(F:Fr):Q α:=Q.lift (wA (jx g F)) k
def TR (g h:Operand)(k:P->P->Q α)(F:Fr):Q α:=Q.lift (wA (jx g F)) λc=>Q.lift (wA (jx h F)) λd=>k c d
def mC (g:Operand)(k:C->bV->Q α)(F:Fr)(σ:bV):Q α:=Q.lift (lO (jx g F)) λc=>k c σ
def zw (g h:Operand)(k:C->C->bV->Q α)(F:Fr)(σ:bV):Q α:=Q.lift (lO (jx g F)) λc=>Q.lift (lO (jx h F)) λd=>k c d σ
def A6 (g h:Operand)(k:C->P->bV->Q α)(F:Fr)(σ:bV):Q α:=Q.lift (lO (jx g F)) λc=>Q.lift (wA (jx h F)) λd=>k c d σ
end
def ou (f:(k:IntKind)->bc k->bc k->C)(c d:C):Q V:=match c,d with
 |.int k a,.int cv b=>if h:cv=k then iZ (f k a (h▸b)) else .fail
 |_,_=>.fail
def Kb (f:(k:IntKind)->bc k->bc k->Option (bc k))(c d:C):Q V:=match c,d with
 |.int k a,.int cv b=>if h:cv=k then zA (f k a (h▸b)) (.int k) else .fail
 |_,_=>.fail
def Qh (f:(k cv:IntKind)->bc k->bc cv->Option (bc k))(c d:C):Q V:=match c,d with
 |.int k a,.int cv b=>zA (f k cv a b) (.int k)
 |_,_=>.fail
def mkInt (op:BinOp)(x y:Operand):nh:=match op with
 |.add=>.pure (iY x y (ou λk a b=>.int k (bj a b)))
 |.sub=>.pure (iY x y (ou λk a b=>.int k (eF a b)))
 |.mul=>.pure (iY x y (ou λk a b=>.int k (vI a b)))
 |.quo=>.pure (iY x y (Kb λk a b=>vK a b))
 |.rem=>.pure (iY x y (Kb λk a b=>lk a b))
 |.and=>.pure (iY x y (ou λk a b=>.int k (rG a b)))
 |.or=>.pure (iY x y (ou λk a b=>.int k (rH a b)))
 |.xor=>.pure (iY x y (ou λk a b=>.int k (q7 a b)))
 |.shl=>.pure (iY x y (Qh λk cv a b=>AR a b))
 |.shr=>.pure (iY x y (Qh λk cv a b=>rI a b))
 |.eql=>.pure (iY x y (ou λk a b=>.bool (a9 a b)))
 |.neq=>.pure (iY x y (ou λk a b=>.bool (!a9 a b)))
 |.lss=>.pure (iY x y (ou λk a b=>.bool (bh a b)))
 |.leq=>.pure (iY x y (ou λk a b=>.bool (fN a b)))
 |.gtr=>.pure (iY x y (ou λk a b=>.bool (bh b a)))
 |.geq=>.pure (iY x y (ou λk a b=>.bool (fN b a)))
 |_=>.bad
def xy (f:ee->ee->C)(c d:C):Q V:=match c,d with
 |.str s,.str t=>iZ (f s t)
 |_,_=>.fail
def alM (c d:C):Q V:=match c,d with
 |.str s,.str t=>zA (fF s t) .str
 |_,_=>.fail
def mkStr (op:BinOp)(x y:Operand):nh:=match op with
 |.add=>.pure (iY x y alM)
 |.eql=>.pure (iY x y (xy λs t=>.bool (cB s t)))
 |.neq=>.pure (iY x y (xy λs t=>.bool (!cB s t)))
 |.lss=>.pure (iY x y (xy λs t=>.bool (ox s t)))
 |.leq=>.pure (iY x y (xy λs t=>.bool (ox s t||cB s t)))
 |.gtr=>.pure (iY x y (xy λs t=>.bool (!(ox s t||cB s t))))
 |.geq=>.pure (iY x y (xy λs t=>.bool (!ox s t)))
 |_=>.bad
def fits (d:TypeDesc)(a b:C):Option Bool:=match d,a,b with
 |.int _,.int k x,.int cv y=>if h:cv=k then some (a9 x (h▸y)) else none
 |.string,.str s,.str t=>some (cB s t)
 |.bool,.bool x,.bool y=>some (x==y)
 |_,_,_=>none
def vm:List TypeDesc->List C->List C->Option Bool
 |[],[],[]=>some true
 |d::ds,a::l,b::r=>match fits d a b with
  |some x=>match vm ds l r with
   |some y=>some (x&&y)
   |none=>none
  |none=>none
 |_,_,_=>none
inductive sS
  |leaf (d:TypeDesc)
  |flat (ds:List TypeDesc)
def Ke (k:sS)(x y:P):Option Bool:=match k,x,y with
 |.leaf d,.c a,.c b=>fits d a b
 |.flat ds,.agg l,.agg r=>vm ds l r
 |_,_,_=>none
def AU (k:sS)(op:BinOp)(x y:Operand):nh:=match op with
 |.eql=>.pure (TR x y λp q=>Q.lift (Ke k p q) λb=>iZ (.bool b))
 |.neq=>.pure (TR x y λp q=>Q.lift (Ke k p q) λb=>iZ (.bool (!b)))
 |_=>.bad
def Jj (c d:C):Option Bool:=match c,d with
 |.ptr none,.ptr none=>some true
 |.ptr none,.ptr (some _)=>some false
 |.ptr (some _),.ptr none=>some false
 |.cH _ _ _,.ptr none=>some false
 |.ptr none,.cH _ _ _=>some false
 |_,_=>none
def D3 (op:BinOp)(x y:Operand):nh:=match op with
 |.eql=>.pure (iY x y λp q=>Q.lift (Jj p q) λb=>iZ (.bool b))
 |.neq=>.pure (iY x y λp q=>Q.lift (Jj p q) λb=>iZ (.bool (!b)))
 |_=>.bad
def mkBin (cw:T TypeInfo)(dC:T (List TypeDesc))(op:BinOp)(t:Nat)(x y:Operand):nh:=match under cw t with
 |some d=>match d with
  |.int _=>mkInt op x y
  |.string=>mkStr op x y
  |.bool=>AU (.leaf .bool) op x y
  |.pointer _=>D3 op x y
  |_=>match dC.get t with
   |some ds=>AU (.flat ds) op x y
   |none=>.bad
 |none=>.bad
def DS {k:IntKind}(n:bc k):bc k:=bc.w k (BitVec.ofInt k.bits (if k.signed then-1 else k.max)^^^BitVec.ofInt k.bits n.1).toNat
def amd (c:C):Q V:=match c with
 |.int k n=>iZ (.int k (uA n))
 |_=>.fail
def ame (c:C):Q V:=match c with
 |.bool b=>iZ (.bool (!b))
 |_=>.fail
def amf (c:C):Q V:=match c with
 |.int k n=>iZ (.int k (DS n))
 |_=>.fail
def asx (op:UnOp)(x:Operand):nh:=match op with
 |.neg=>.pure (m_ x amd)
 |.not=>.pure (m_ x ame)
 |.xor=>.pure (m_ x amf)
 |_=>.bad
def og {α:Type}(σ:bV)(i:Nat)(k:B->Q α):Q α:=match σ.heap.get i with
 |some b=>k b
 |none=>.fail
def zt {α:Type}(l:List C)(o:Nat)(k:C->Q α):Q α:=match l[o]? with
 |some c=>k c
 |none=>.fail
def Xw (ap:Bool)(c:C)(id c7 n sz f:Nat):C:=match ap,c with
 |true,.row t l _=>.row t l (.at_ id c7 n sz f)
 |_,c=>c
def z4 {α:Type}(σ:bV)(id n sz:Nat)(k:(t:dh)->List Bool->L (D t)->Nat->D t->Q α):Q α:=og σ id λb=>match b with
 |.arr t a1 l none c7=>match Nat.beq t.length sz with
  |true=>.bind (eO l n) λe=>k t a1 l c7 e
  |false=>.fail
 |_=>.fail
def vM (c:C)(σ:bV):Q V:=match c with
 |.cH t x o=>zt (lA t x) o iZ
 |.ptr (some x)=>og σ x.1 λb=>match b with
  |.box cs=>zt cs x.2 iZ
  |_=>.fail
 |.jW id n sz f=>z4 σ id n sz λt a1 l c7 e=>zt (lA t e) f λc=>iZ (Xw (a1[f]?.getD false) c id c7 n sz f)
 |_=>.fail
def y8 (k:Nat)(c:C)(σ:bV):Q V:=match c with
 |.cH t x o=>match k with
  |0=>.fail
  |_=>Q.lift (cut (lA t x) o k) λl=>.ret (.p (.agg l))
 |.ptr (some x)=>og σ x.1 λb=>match b with
  |.box cs=>Q.lift (cut cs x.2 k) λl=>.ret (.p (.agg l))
  |_=>.fail
 |.jW id n sz f=>match k with
  |0=>.fail
  |_=>z4 σ id n sz λt a1 l c7 e=>Q.lift (cut (lA t e) f k) λl=>.ret (.p (.agg l))
 |_=>.fail
def KX (a1:List Bool)(f:Nat):Nat->Bool
 |0=>true
 |n+1=>match a1[f]?.getD false with
  |true=>false
  |false=>KX a1 (f+1) n
inductive wo
  |bW
  |tok
  |arr (a1:List Bool)
def xx (k:Nat)(bW:Option (Nat×dh))(c:C)(x:P)(σ:bV):Q R:=match Nat.beq x.cells.length k with
 |false=>.fail
 |true=>match c with
  |.ptr (some a)=>og σ a.1 λb=>match b with
   |.box cs=>match Nat.ble (a.2+x.cells.length) cs.length with
    |true=>match bW with
     |none=>.ret (.skip ⟨σ.heap.put a.1 (some (.box (rP cs a.2 x.cells))),σ.next⟩)
     |some q=>match a.2 with
      |0=>Q.lift (mM q.2 (rP cs a.2 x.cells)) λy=>.ret (.qA q.1 (.c (.cH q.2 y 0)) ⟨σ.heap.put a.1 none,σ.next⟩)
      |_=>.fail
    |false=>.fail
   |_=>.fail
  |.jW id n sz f=>og σ id λb=>match b with
   |.arr t a1 l bX c7=>match Nat.beq t.length sz with
    |false=>.fail
    |true=>match Nat.ble (f+x.cells.length) t.length with
     |false=>.fail
     |true=>match KX a1 f x.cells.length with
      |true=>match bX with
       |none=>.bind (eO l n) λe=>Q.lift (mM t (rP (lA t e) f x.cells)) λe'=>.ret (.skip ⟨σ.heap.put id (some (.arr t a1 (dO l n e') none c7)),σ.next⟩)
       |some _=>.fail
      |false=>match x with
       |.c (.row t' y (.dW cv _ _))=>match σ.heap.get cv,t[f]?,a1[f]? with
        |some (.bG aMW),some (.aR t3),some true=>match kB aMW t3&&kB t' t3 with
         |true=>.bind (eO l n) λe=>Q.lift (mM t ((lA t e).set f (.row t' y .no))) λe'=>
          (match bX with
           |none=>.ret (.skip ⟨(σ.heap.put cv none).put id (some (.arr t a1 (dO l n e') none (c7+1))),σ.next⟩)
           |some q=>match Nat.beq q.2 f with
            |true=>.ite (decide (q.1=n)) (.ret (.skip ⟨(σ.heap.put cv none).put id (some (.arr t a1 (dO l n e') none (c7+1))),σ.next⟩)) .fail
            |false=>.fail)
         |false=>.fail
        |_,_,_=>.fail
       |_=>.fail
   |_=>.fail
  |_=>.fail
def Ef {α:Type}(c:C)(k:Int->Q α):Q α:=match c with
 |.int _ n=>k n.1
 |_=>.fail
def CB (off:Nat)(c:C):Q V:=match c with
 |.ptr (some x)=>iZ (.ptr (some (x.1,x.2+off)))
 |.cH t x o=>iZ (.cH t x (o+off))
 |.jW id n sz f=>iZ (.jW id n sz (f+off))
 |_=>.fail
def T6 (off:Nat)(x:P):Q V:=match x with
 |.agg l=>zt l off iZ
 |.c _=>.fail
def T5 (n off:Nat)(x:P):Q V:=match x with
 |.agg l=>Q.lift (cut l off n) λr=>.ret (.p (.agg r))
 |.c _=>.fail
def aX {α:Type}(l:L α)(i:Int):Option α:=bif decide (0<=i) then l.1[i.toNat]? else none
def abG (sz:Nat)(c i:C):Q V:=Ef i λn=>match c with
 |.row t l _=>match Nat.beq t.length sz with
  |true=>.bind (aX l n) λe=>iZ (.cH t e 0)
  |false=>.fail
 |.aR id len=>.ite (decide (0<=n)&&decide (n<len)) (iZ (.jW id n.toNat sz 0)) .fail
 |_=>.fail
def uC (s:ee)(i:Int):Option (bc .u8):=bif decide (0<=i) then(s.1.data[i.toNat]?).map λu=>⟨u.toNat,by have:=u.toNat_lt;simp[IntKind.min,IntKind.max,IntKind.bits,IntKind.signed];omega⟩ else none
def abH (c i:C):Q V:=Ef i λn=>match c with
 |.str s=>zA (uC s n) (.int .u8)
 |_=>.fail
def ab4 (c:C):Q V:=match c with
 |.str s=>iZ (.int .i64 (mO s))
 |_=>.fail
def ab3 (c:C):Q V:=match c with
 |.dt=>iZ (.int .i64 (bc.w .i64 0))
 |.row t l _=>iZ (.int .i64 (ba l))
 |.aR id n=>iZ (.int .i64 (bc.w .i64 n))
 |.u1 id dx n sz=>iZ (.int .i64 (bc.w .i64 n))
 |_=>.fail
def y2 {α:Type}(g:Option Operand)(d:Int)(F:Fr)(k:Int->Q α):Q α:=match g with
 |none=>k d
 |some g=>Q.lift (lO (jx g F)) λc=>Ef c k
def Rt (x:Operand)(dx aj:Option Operand)(F:Fr):Q V:=match lO (jx x F) with
 |some (.str s)=>y2 aj s.1.size F λh=>y2 dx 0 F λl=>zA (pF s l h) .str
 |_=>.fail
def Rs (sz:Nat)(x:Operand)(dx aj:Option Operand)(F:Fr):Q V:=match lO (jx x F) with
 |some (.row t s _)=>Q.lift (match Nat.beq t.length sz with|true=>some ()|false=>none) λ_=>y2 aj s.1.length F λh=>y2 dx 0 F λl=>zA (nG s l h) λr=>.row t r .no
 |some (.aR id n)=>y2 aj n F λh=>y2 dx 0 F λl=>.ite (decide (0<=l)&&decide (l<=h)&&decide (h<=n)) (iZ (.u1 id l.toNat (h-l).toNat sz)) .fail
 |_=>.fail
def yg (place:Nat->Option (Nat×Nat))(F:Fr):List (Nat×Operand)->List C->Option (List C)
 |[],cells=>some cells
 |x::rest,cells=>match wA (jx x.2 F) with
  |none=>none
  |some v=>match place x.1 with
   |none=>none
   |some y=>match Nat.beq v.cells.length y.2 with
    |true=>match Nat.ble (y.1+y.2) cells.length with
     |true=>yg place F rest (rP cells y.1 v.cells)
     |false=>none
    |false=>none
def E4 (cw:T TypeInfo):List Field->Option (List (Nat×Nat))
 |[]=>some []
 |f::l=>match size cw f.type with
  |some n=>match E4 cw l with
   |some r=>some ((f.offset,n)::r)
   |none=>none
  |none=>none
def L7 (n i:Nat):Option (Nat×Nat):=some (i*n,n)
def rl (z:List C):Nat->List C
 |0=>[]
 |n+1=>z++rl z n
def Ab (place:Nat->Option (Nat×Nat))(z:List C)(l:List (Nat×Operand))(F:Fr):Q V:=match yg place F l z with
 |some cs=>.ret (.p (.agg cs))
 |none=>.fail
def x8 (t:dh):Nat->List C->Option (List (D t))
 |0,_=>some []
 |k+1,l=>match mM t (l.take t.length) with
  |some x=>match x8 t k (l.drop t.length) with
   |some r=>some (x::r)
   |none=>none
  |none=>none
def Y3 (k:IntKind)(c:C):Q V:=match c with
 |.int _ n=>iZ (.int k (eN k n))
 |_=>.fail
def Y4 (c:C):Q V:=match c with
 |.str s=>iZ (.str s)
 |_=>.fail
def py (l:L (D [.int .u8])):ee:=⟨⟨(l.1.map λx=>UInt8.ofNat x.1.1.toNat).toArray⟩,by
 have:=l.2;show((l.1.map λx=>UInt8.ofNat x.1.1.toNat).toArray).size<=_;simp;omega⟩
def x7 (c:C)(σ:bV):Q V:=match c with
 |.dt=>iZ (.str (py L.nil))
 |.row t l _=>if h:kB t [.int .u8]=true then iZ (.str (py (cast (congrArg (λt=>L (D t)) (kC h)) l))) else .fail
 |.aR id n=>og σ id λb=>match b with
  |.arr t a1 l none c7=>if h:kB t [.int .u8]=true then iZ (.str (py (cast (congrArg (λt=>L (D t)) (kC h)) l))) else .fail
  |_=>.fail
 |_=>.fail
open bC (T cL under size kL fx jP hO mf qC)
set_option linter.unusedSimpArgs false
structure dB (m:M)(n:Nat)(F:Fr)(a:Go.Act):Prop where
  size:n<=a.tmps.size
  defers:a.defers=[]
  slot:∀t,en m (gN F t) (a.tmps.getD t undef)
def jD (aS:Program)(m:M)(w:World)(s:Sem Value)(q:Q V):Prop:=∀v,cU q v->∃ej,s.run aS w=.ok ej w/\en m v ej
section
variable{aS:Program}{w:World}{m m':M}{σ bb:bV}{F:Fr}{a:Go.Act}{n:Nat}{v:V}{α:Type}{z:α}
theorem dB.ext (a2:dB m n F a)(e:Ext m m'):dB m' n F a:=⟨a2.size,a2.defers,λt=>(a2.slot t).ext e⟩
theorem qa {v:V}{c:C}{x:Value}(h:lO v=some c)(aL:en m v x):dv m c x:=by
 unfold lO at h;split at h
 ·cases h;exact aL
 ·cases h
theorem CF {v:V}{c:P}{x:Value}(h:wA v=some c)(aL:en m v x):mU m c x:=by
 unfold wA at h;split at h
 ·cases h;exact aL
 ·cases h
theorem lY (a2:dB m n F a)(x:Operand):en m (jx x F) (a.eval x):=by
 cases x with
 |tmp t=>exact a2.slot t
 |const v=>
  show en m (match A4 v with|some x=>V.p x|none=>.any) v;cases h:A4 v with
  |none=>trivial
  |some x=>exact TO m h
 |global g=>trivial
 |func f=>exact⟨#[],#[],rfl,trivial,trivial⟩
theorem gT {β:Type}{o:Option β}{k:β->Q α}(h:cU (Q.lift o k) z):∃x,o=some x/\cU (k x) z:=by
 cases o with
 |none=>exact h.cc.elim
 |some x=>exact⟨x,rfl,h⟩
theorem uQ {x:Operand}{k:C->Q α}(a2:dB m n F a)(h:cU (m_ x k F) z):∃c,dv m c (a.eval x)/\cU (k c) z:=by
 obtain⟨c,an,h⟩:=gT h;exact⟨c,qa an (lY a2 x),h⟩
theorem uR {x y:Operand}{k:C->C->Q α}(a2:dB m n F a)(h:cU (iY x y k F) z):∃c d,dv m c (a.eval x)/\dv m d (a.eval y)/\cU (k c d) z:=by
 obtain⟨c,an,h⟩:=gT h;obtain⟨d,bg,h⟩:=gT h;exact⟨c,d,qa an (lY a2 x),qa bg (lY a2 y),h⟩
theorem LU {x:Operand}{k:P->Q α}(a2:dB m n F a)(h:cU (uS x k F) z):∃c,mU m c (a.eval x)/\cU (k c) z:=by
 obtain⟨c,an,h⟩:=gT h;exact⟨c,CF an (lY a2 x),h⟩
theorem afY {x y:Operand}{k:P->P->Q α}(a2:dB m n F a)(h:cU (TR x y k F) z):∃c d,mU m c (a.eval x)/\mU m d (a.eval y)/\cU (k c d) z:=by
 obtain⟨c,an,h⟩:=gT h;obtain⟨d,bg,h⟩:=gT h;exact⟨c,d,CF an (lY a2 x),CF bg (lY a2 y),h⟩
theorem A5 {x:Operand}{k:C->bV->Q α}(a2:dB m n F a)(h:cU (mC x k F σ) z):∃c,dv m c (a.eval x)/\cU (k c σ) z:=by
 obtain⟨c,an,h⟩:=gT h;exact⟨c,qa an (lY a2 x),h⟩
theorem axt {x y:Operand}{k:C->P->bV->Q α}(a2:dB m n F a)(h:cU (A6 x y k F σ) z):∃c d,dv m c (a.eval x)/\mU m d (a.eval y)/\cU (k c d σ) z:=by
 obtain⟨c,an,h⟩:=gT h;obtain⟨d,bg,h⟩:=gT h;exact⟨c,d,qa an (lY a2 x),CF bg (lY a2 y),h⟩
theorem i_ {c:C}(h:cU (iZ c) v):v=.p (.c c):=h.eH
theorem Bd {β:Type}{o:Option β}{f:β->C}(h:cU (zA o f) v):∃x,o=some x/\v=.p (.c (f x)):=by
 obtain⟨x,aa,af⟩:=h.m9;exact⟨x,aa,af.eH⟩
variable{op:BinOp}{t:TypeId}{x y:Operand}
theorem R8 (k cv:IntKind)(i j:Int):(eqGuard op t x y (.int k i) (.int cv j)).run aS w=.ok () w:=by
 unfold eqGuard;cases op<;>simp
theorem ZW (s eA:ByteArray):(eqGuard op t x y (.string s) (.string eA)).run aS w=.ok () w:=by
 unfold eqGuard;cases op<;>simp
theorem sx {f:(k:IntKind)->bc k->bc k->C}(a2:dB m n F a)(bB:∀k (i j:bc k),∃v,(Go.binOp op t (.int k i.1) (.int k j.1)).run aS w=.ok v w/\dv m (f k i j) v):
 jD aS m w (do eqGuard op t x y (a.eval x) (a.eval y);Go.binOp op t (a.eval x) (a.eval y)) (iY x y (ou f) F):=by
 intro v h;obtain⟨c,d,an,bg,h⟩:=uR a2 h;unfold ou at h;split at h
 ·split at h
  ·rename_i k i cv j aU;subst aU;have an:a.eval x=.int cv i.1:=an;have bg:a.eval y=.int cv j.1:=bg;obtain rfl:=i_ h;obtain⟨u,aa,af⟩:=bB cv i j;exact⟨u,by rw[an,bg,iI,R8];exact aa,af⟩
  ·exact h.cc.elim
 ·exact h.cc.elim
theorem abx {f:(k:IntKind)->bc k->bc k->Option (bc k)}(a2:dB m n F a)(bB:∀k (i j:bc k) z,f k i j=some z->(Go.binOp op t (.int k i.1) (.int k j.1)).run aS w=.ok (.int k z.1) w):
 jD aS m w (do eqGuard op t x y (a.eval x) (a.eval y);Go.binOp op t (a.eval x) (a.eval y)) (iY x y (Kb f) F):=by
 intro v h;obtain⟨c,d,an,bg,h⟩:=uR a2 h;unfold Kb at h;split at h
 ·split at h
  ·rename_i k i cv j aU;subst aU;have an:a.eval x=.int cv i.1:=an;have bg:a.eval y=.int cv j.1:=bg;obtain⟨z,aa,rfl⟩:=Bd h;exact⟨.int cv z.1,by rw[an,bg,iI,R8];exact bB cv i j z aa,rfl⟩
  ·exact h.cc.elim
 ·exact h.cc.elim
theorem alT {f:(k cv:IntKind)->bc k->bc cv->Option (bc k)}(a2:dB m n F a)(bB:∀k cv (i:bc k)(j:bc cv) z,f k cv i j=some z->(Go.binOp op t (.int k i.1) (.int cv j.1)).run aS w=.ok (.int k z.1) w):
 jD aS m w (do eqGuard op t x y (a.eval x) (a.eval y);Go.binOp op t (a.eval x) (a.eval y)) (iY x y (Qh f) F):=by
 intro v h;obtain⟨c,d,an,bg,h⟩:=uR a2 h;unfold Qh at h;split at h
 ·rename_i k i cv j;have an:a.eval x=.int k i.1:=an;have bg:a.eval y=.int cv j.1:=bg;obtain⟨z,aa,rfl⟩:=Bd h;exact⟨.int k z.1,by rw[an,bg,iI,R8];exact bB k cv i j z aa,rfl⟩
 ·exact h.cc.elim
theorem Y5 {β:Type}{b:Bool}{o:Option β}{z:β}(h:cond b none o=some z):b=false/\o=some z:=by
 cases b with
 |true=>cases h
 |false=>exact⟨rfl,h⟩
theorem CO {β:Type}{b:Bool}{o:Option β}{z:β}(h:cond b o none=some z):b=true/\o=some z:=by
 cases b with
 |true=>exact⟨rfl,h⟩
 |false=>cases h
theorem asq (a2:dB m n F a):match mkInt op x y with
 |.pure f=>jD aS m w (do eqGuard op t x y (a.eval x) (a.eval y);Go.binOp op t (a.eval x) (a.eval y)) (f F)
 |.bad=>True
 |_=>False:=by
 cases op with
 |add=>exact sx a2 λk i j=>⟨_,by simp[Go.binOp,Op.intArith];rfl,rfl⟩
 |sub=>exact sx a2 λk i j=>⟨_,by simp[Go.binOp,Op.intArith];rfl,rfl⟩
 |mul=>exact sx a2 λk i j=>⟨_,by simp[Go.binOp,Op.intArith];rfl,rfl⟩
 |quo=>
  refine abx a2 λk i j z h=>?_;obtain⟨aa,af⟩:=Y5 h;cases af;have:j.1≠0:=of_decide_eq_false aa;simp[Go.binOp,Op.intDiv,this,bc.w]
 |rem=>
  refine abx a2 λk i j z h=>?_;obtain⟨aa,af⟩:=Y5 h;cases af;have aq:j.1≠0:=of_decide_eq_false aa;have hw:k.wrap (i.1.tmod j.1)=i.1.tmod j.1:=by
   refine Ce ?_;have af:=i.2;have aaH:k.min<=0/\0<=k.max:=by cases k<;>decide
   have ax:=Int.natAbs_tmod i.1 j.1;have a8:i.1.natAbs%j.1.natAbs<=i.1.natAbs:=Nat.mod_le _ _;rcases Int.le_total 0 i.1 with h|h
   ·have:=Int.tmod_nonneg j.1 h;omega
   ·have cy:i.1.tmod j.1<=0:=by
     have:=Int.tmod_nonneg j.1 (a:=-i.1) ab;rw[Int.neg_tmod] at this;omega
    omega
  simp[Go.binOp,Op.intDiv,aq,bc.w,hw]
 |and=>exact sx a2 λk i j=>⟨_,by simp[Go.binOp,Op.intBits];rfl,by simp[rG,bc.w,dv]⟩
 |or=>exact sx a2 λk i j=>⟨_,by simp[Go.binOp,Op.intBits];rfl,by simp[rH,bc.w,dv]⟩
 |xor=>exact sx a2 λk i j=>⟨_,by simp[Go.binOp,Op.intBits];rfl,by simp[q7,bc.w,dv]⟩
 |shl=>
  refine alT a2 λk cv i j z h=>?_;obtain⟨aa,af⟩:=CO h;cases af;have:¬(j.1<0):=by have:=of_decide_eq_true aa;omega
  simp[Go.binOp,Op.shift,this,bc.w,Int.natCast_pow]
 |shr=>
  refine alT a2 λk cv i j z h=>?_;obtain⟨aa,af⟩:=CO h;cases af;have aA:¬(j.1<0):=by have:=of_decide_eq_true aa;omega
  have hw:k.wrap (i.1.fdiv (2^(min j.1.toNat k.bits):Nat))=i.1.fdiv (2^(min j.1.toNat k.bits):Nat):=by
   refine Ce ?_;have af:=i.2;have aaH:k.min<=0/\0<=k.max:=by cases k<;>decide
   have bF:(0:Int)<(2^(min j.1.toNat k.bits):Nat):=by
    have:0<2^(min j.1.toNat k.bits):=Nat.pow_pos bk;omega
   have yP:(1:Int)<=(2^(min j.1.toNat k.bits):Nat):=ab;rw[Int.fdiv_eq_ediv_of_nonneg _ ab];generalize((2^(min j.1.toNat k.bits):Nat):Int)=p at bF yP⊢;rcases Int.le_total 0 i.1 with h|h
   ·have dM:=Int.ediv_nonneg h (by omega:0<=p);have di:=Int.ediv_le_self p h;omega
   ·have dM:i.1/p<=0:=by
     have:=Int.ediv_le_ediv bF h;simpa using this
    have di:i.1<=i.1/p:=by
     rw[Int.le_ediv_iff_mul_le bF];have:i.1*p<=i.1*1:=Int.mul_le_mul_of_nonpos_left h yP;omega
    omega
  simp only[bc.w,hw];simp[Go.binOp,Op.shift,aA,Int.natCast_pow]
 |eql=>exact sx a2 λk i j=>⟨.bool (i.1==j.1),by simp[Go.binOp,Op.intCmp],rfl⟩
 |neq=>exact sx a2 λk i j=>⟨.bool (i.1!=j.1),by simp[Go.binOp,Op.intCmp],rfl⟩
 |lss=>exact sx a2 λk i j=>⟨.bool (decide (i.1<j.1)),by simp[Go.binOp,Op.intCmp],rfl⟩
 |leq=>exact sx a2 λk i j=>⟨.bool (decide (i.1<=j.1)),by simp[Go.binOp,Op.intCmp],rfl⟩
 |gtr=>exact sx a2 λk i j=>⟨.bool (decide (i.1>j.1)),by simp[Go.binOp,Op.intCmp],rfl⟩
 |geq=>exact sx a2 λk i j=>⟨.bool (decide (i.1>=j.1)),by simp[Go.binOp,Op.intCmp],rfl⟩
 |andNot=>trivial
theorem IV (s eA:ee):(s.1.toList==eA.1.toList)=cB s eA:=by
 unfold cB;rw[al_,Bool.eq_iff_iff,decide_eq_true_iff,decide_eq_true_iff];exact Subtype.ext_iff.symm
theorem B9 {f:ee->ee->C}(a2:dB m n F a)(bB:∀s eA:ee,∃v,(Go.binOp op t (.string s.1) (.string eA.1)).run aS w=.ok v w/\dv m (f s eA) v):
 jD aS m w (do eqGuard op t x y (a.eval x) (a.eval y);Go.binOp op t (a.eval x) (a.eval y)) (iY x y (xy f) F):=by
 intro v h;obtain⟨c,d,an,bg,h⟩:=uR a2 h;unfold xy at h;split at h
 ·rename_i s eA;have an:a.eval x=.string s.1:=an;have bg:a.eval y=.string eA.1:=bg;obtain rfl:=i_ h;obtain⟨u,aa,af⟩:=bB s eA;exact⟨u,by rw[an,bg,iI,ZW];exact aa,af⟩
 ·exact h.cc.elim
theorem asw (a2:dB m n F a):match mkStr op x y with
 |.pure f=>jD aS m w (do eqGuard op t x y (a.eval x) (a.eval y);Go.binOp op t (a.eval x) (a.eval y)) (f F)
 |.bad=>True
 |_=>False:=by
 cases op with
 |add=>
  intro v h;obtain⟨c,d,an,bg,h⟩:=uR a2 h;unfold alM at h;split at h
  ·rename_i s eA;have an:a.eval x=.string s.1:=an;have bg:a.eval y=.string eA.1:=bg;obtain⟨z,aa,rfl⟩:=Bd h;unfold fF at aa;split at aa
   ·rename_i hle;cases aa;refine⟨.string (s.1++eA.1),?_,rfl⟩;have aa:¬(((s.1.size+eA.1.size:Nat):Int)>IntKind.i64.max):=by
     have:IntKind.i64.max=9223372036854775807:=by decide
     omega
    rw[an,bg,iI,ZW];simp only[Go.binOp,Op.stringOp,if_neg aa,jT,jq]
   ·cases aa
  ·exact h.cc.elim
 |eql=>exact B9 a2 λs eA=>⟨.bool (cB s eA),by simp only[Go.binOp,Op.stringOp,IV,jT],rfl⟩
 |neq=>exact B9 a2 λs eA=>⟨.bool (!cB s eA),by simp only[Go.binOp,Op.stringOp,IV,jT],rfl⟩
 |lss=>exact B9 a2 λs eA=>⟨.bool (ox s eA),by simp only[Go.binOp,Op.stringOp,ox,jT],rfl⟩
 |leq=>exact B9 a2 λs eA=>⟨.bool (ox s eA||cB s eA),by simp only[Go.binOp,Op.stringOp,ox,IV,jT],rfl⟩
 |gtr=>exact B9 a2 λs eA=>⟨.bool (!(ox s eA||cB s eA)),by simp only[Go.binOp,Op.stringOp,ox,IV,jT],rfl⟩
 |geq=>exact B9 a2 λs eA=>⟨.bool (!ox s eA),by simp only[Go.binOp,Op.stringOp,ox,jT],rfl⟩
 |_=>trivial
end
def Form (d:TypeDesc)(u e7:Value)(r:Bool):Prop:=(∃q k i j,d=.int q/\u=.int k i/\e7=.int k j/\r=decide (i=j))\/(∃s eA,d=.string/\u=.string s/\e7=.string eA/\r=decide (s=eA))\/(∃x y,d=.bool/\u=.bool x/\e7=.bool y/\r=decide (x=y))
section
variable{aS:Program}{w:World}{m:M}{F:Fr}{a:Go.Act}{n:Nat}{v:V}{t:TypeId}{x y z:Operand}{cw:T TypeInfo}
theorem Form.run {d:TypeDesc}{u e7:Value}{r:Bool}{k:Nat}(bQ:aS.underlying t=some d)(h:Form d u e7 r):(Op.equalIn (k+1) t u e7).run aS w=.ok r w:=by
 rcases h with⟨q,cv,i,j,rfl,rfl,rfl,rfl⟩|⟨s,eA,rfl,rfl,rfl,rfl⟩|⟨x,y,rfl,rfl,rfl,rfl⟩
 ·rw[run_equalIn_int w _ _ _ _ _ _ bQ];rfl
 ·rw[run_equalIn_string w _ _ _ _ bQ,al_]
 ·rw[run_equalIn_bool w _ _ _ _ bQ];rfl
theorem Form.part {d:TypeDesc}{u e7:Value}{r:Bool}{cs:Array Value}{off:Nat}(bQ:aS.underlying t=some d)(h:Form d u e7 r){b:Value}(ah:cs[off]?=some b):(Go.part t cs off).run aS w=.ok b w:=by
 have cm:(Go.isAgg t).run aS w=.ok false w:=by
  rcases h with⟨q,cv,i,j,rfl,rfl,rfl,rfl⟩|⟨s,eA,rfl,rfl,rfl,rfl⟩|⟨x,y,rfl,rfl,rfl,rfl⟩<;>simp[Go.isAgg,run_underlying bQ]
 simp only[Go.part,iI,cm,jq,Bool.false_eq_true,if_false,ah,jT]
def sQ:List TypeDesc->List Value->List Value->Bool->Prop
 |[],[],[],r=>r=true
 |d::ds,u::us,e7::nc,r=>∃x,Form d u e7 x/\(x=true->sQ ds us nc r)/\(x=false->r=false)
 |_,_,_,_=>False
theorem sQ.split:∀{mo ya:List TypeDesc}{us nc:List Value}{b:Bool},sQ (mo++ya) us nc b->
 ∃c4,sQ mo (us.take mo.length) (nc.take mo.length) c4/\(c4=true->sQ ya (us.drop mo.length) (nc.drop mo.length) b)/\(c4=false->b=false)
 |[],ya,us,nc,b,h=>⟨true,rfl,λ_=>h,λq=>by cases q⟩
 |d::mo,ya,u::us,e7::nc,b,⟨x,aa,af,ax⟩=>by
  cases x with
  |true=>
   obtain⟨c4,aG,aN,bo⟩:=sQ.split (af rfl);exact⟨c4,⟨true,aa,λ_=>aG,λq=>by cases q⟩,aN,bo⟩
  |false=>exact⟨false,⟨false,aa,(λq=>by cases q),λ_=>rfl⟩,(λq=>by cases q),ax⟩
 |d::mo,ya,[],l,b,h=>by cases l<;>exact h.elim
 |d::mo,ya,u::us,[],b,h=>h.elim
def sR (aS:Program)(t:TypeId)(k:Nat)(ds:List TypeDesc):Prop:=∀(w:World)(d:Nat)(xs jB:Array Value)(b:Bool),sQ ds xs.toList jB.toList b->(Op.equalIn (d+k) t (.agg xs) (.agg jB)).run aS w=.ok b w
inductive xP (aS:Program)(k:Nat):Nat->List Field->List TypeDesc->Prop
  |nil (i:Nat):xP aS k i [] []
  |leaf {i:Nat} {f:Field} {fs:List Field} {d:TypeDesc} {ds:List TypeDesc}:f.name≠ "_"->f.offset=i->aS.underlying f.type=some d->xP aS k (i+1) fs ds->xP aS k i (f::fs) (d::ds)
  |row {i:Nat} {f:Field} {fs:List Field} {mo ds:List TypeDesc} {fs':Array Field}:f.name≠ "_"->f.offset=i->aS.underlying f.type=some (.struct fs')->aS.cellsOf f.type=mo.length->sR aS f.type k mo->xP aS k (i+mo.length) fs ds->xP aS k i (f::fs) (mo++ds)
theorem JN {l:List Value}{i:Nat}{u:Value}{us:List Value}(h:l.drop i=u::us):l[i]?=some u/\l.drop (i+1)=us:=by
 refine⟨?_,by rw[<-List.drop_drop,h];rfl⟩;have:=congrArg List.head? h;simpa using this
theorem aMr {k:Nat}(d:Nat)(xs jB:Array Value){b:Bool}{i:Nat}{fs:List Field}{ds:List TypeDesc}(bB:xP aS k i fs ds):sQ ds (xs.toList.drop i) (jB.toList.drop i) b->
 (Op.eqFields (d+(k+1)) xs jB fs).run aS w=.ok b w:=by
 induction bB generalizing b with
 |nil i=>
  intro h;have:b=true:=by
   generalize xs.toList.drop i=p at h;generalize jB.toList.drop i=q at h;cases p<;>cases q<;>first|exact h|exact h.elim
  simp[Op.eqFields,this]
 |@leaf i f fs dd ds aa af ax a8 cj=>
  intro h
  match bF:xs.toList.drop i,ay:jB.toList.drop i,h with
  |u::us,e7::nc,h=>
   obtain⟨x,aG,aN,bo⟩:=h;obtain⟨aD,t1⟩:=JN bF;obtain⟨aQ,t2⟩:=JN ay;have aD:xs[f.offset]?=some u:=by rw[af];simpa using aD
   have aQ:jB[f.offset]?=some e7:=by rw[af];simpa using aQ
   have R7:=aG.run (w:=w) (k:=d+k) ax;simp only[Op.eqFields,if_pos aa,iI,aG.part ax aD,aG.part ax aQ,jq];rw[show d+(k+1)=d+k+1 by omega,R7];cases x with
   |true=>
    simp only[jq,Bool.not_true,Bool.false_eq_true,if_false];rw[show d+k+1=d+(k+1) by omega];refine cj ?_;rw[t1,t2];exact aN rfl
   |false=>simp[bo rfl]
  |[],l,h=>cases l<;>exact h.elim
  |u::us,[],h=>exact h.elim
 |@row i f fs mo ds fs' aa af ax a8 cy dm cj=>
  intro h;obtain⟨c4,aG,aN,bo⟩:=h.split;have cm:(Go.isAgg f.type).run aS w=.ok true w:=by simp[Go.isAgg,run_underlying ax]
  have aP:(sizeOf f.type).run aS w=.ok mo.length w:=by
   unfold Program.cellsOf at a8;unfold Program.underlying at ax;cases aj:aS.info? f.type with
   |none=>rw[aj] at ax;cases ax
   |some i=>rw[aj] at a8;simp at a8;simp[sizeOf,typeInfo,aj,a8]
  have aqI:∀xs:Array Value,(Go.part f.type xs f.offset).run aS w=.ok (.agg (xs.extract i (i+mo.length))) w:=λxs=>by
   simp only[Go.part,iI,cm,jq,if_true,aP,jT,af]
  have aW:∀xs:Array Value,(xs.extract i (i+mo.length)).toList=(xs.toList.drop i).take mo.length:=λxs=>by simp
  have R7:=cy w (d+1) (xs.extract i (i+mo.length)) (jB.extract i (i+mo.length)) c4 (by rw[aW,aW];exact aG);simp only[Op.eqFields,if_pos aa,iI,aqI,jq];rw[show d+(k+1)=d+1+k by omega,R7];cases c4 with
  |true=>
   simp only[jq,Bool.not_true,Bool.false_eq_true,if_false];rw[show d+1+k=d+(k+1) by omega];refine cj ?_;rw[<-List.drop_drop,<-List.drop_drop];exact aN rfl
  |false=>simp[bo rfl]
theorem RY {k:Nat}{fs:Array Field}{ds:List TypeDesc}(hu:aS.underlying t=some (.struct fs))(aP:aS.stoodInHeld t=false)(bB:xP aS k 0 fs.toList ds):sR aS t (k+2) ds:=by
 have aay:aS.fieldsOf t=fs:=by simp[Program.fieldsOf,hu]
 intro w d xs jB b h;rw[show d+(k+2)=d+(k+1)+1 by omega,run_equalIn_struct w (d+(k+1)) t xs jB (by rw[aay];exact hu) aP,aay];exact aMr d xs jB bB (by simpa using h)
theorem alI (d:Nat){e:TypeId}{dd:TypeDesc}(he:aS.underlying e=some dd)(xs jB:Array Value){b:Bool}:∀{k i:Nat},sQ (List.replicate k dd) (xs.toList.drop i) (jB.toList.drop i) b->
 (Op.eqItems (d+1) e 1 xs jB (List.range' i k)).run aS w=.ok b w
 |0,i,h=>by
  have:b=true:=by
   generalize xs.toList.drop i=p at h;generalize jB.toList.drop i=q at h;cases p<;>cases q<;>first|exact h|exact h.elim
  simp[Op.eqItems,this]
 |k+1,i,h=>by
  rw[List.replicate_succ] at h
  match bF:xs.toList.drop i,ay:jB.toList.drop i,h with
  |u::us,e7::nc,h=>
   obtain⟨x,aG,aN,bo⟩:=h;obtain⟨aD,t1⟩:=JN bF;obtain⟨aQ,t2⟩:=JN ay;rw[List.range'_succ,Op.eqItems];have aD:xs[i*1]?=some u:=by simpa using aD
   have aQ:jB[i*1]?=some e7:=by simpa using aQ
   simp only[iI,aG.part he aD,aG.part he aQ,jq,aG.run he];cases x with
   |true=>
    simp only[Bool.not_true,Bool.false_eq_true,if_false];refine alI d he xs jB ?_;rw[t1,t2];exact aN rfl
   |false=>simp[bo rfl]
  |[],l,h=>cases l<;>exact h.elim
  |u::us,[],h=>exact h.elim
theorem aoD {k:Nat}{e:TypeId}{dd:TypeDesc}{i:TypeInfo}(hu:aS.underlying t=some (.array k e))(he:aS.underlying e=some dd)(aj:aS.info? e=some i)(aa:aS.cellsOf e=1):
 sR aS t 2 (List.replicate k dd):=by
 intro w d xs jB b h;rw[run_equalIn_array w (d+1) xs jB hu aj,aa,List.range_eq_range'];exact alI d he xs jB (by simpa using h)
def t_ (aS:Program)(t:TypeId):sS->Prop
 |.leaf d=>aS.underlying t=some d
 |.flat ds=>(∃k,k<=9000/\sR aS t k ds)/\aS.eqGuardType aS.depth t=false
def xR (k:sS)(u e7:Value)(r:Bool):Prop:=match k with
 |.leaf d=>Form d u e7 r
 |.flat ds=>∃xs jB,u=.agg xs/\e7=.agg jB/\sQ ds xs.toList jB.toList r
theorem xR.run {k:sS}{u e7:Value}{r:Bool}(aU:t_ aS t k)(h:xR k u e7 r):(Op.equal t u e7).run aS w=.ok r w:=by
 cases k with
 |leaf d=>exact Form.run (k:=9999) aU h
 |flat ds=>
  obtain⟨xs,jB,rfl,rfl,h⟩:=h;obtain⟨⟨k,aa,af⟩,_⟩:=aU;have:=af w (10000-k) xs jB r h
  rwa [Nat.sub_add_cancel ab] at this
theorem xR.guard {k:sS}{u e7:Value}{r:Bool}{op:BinOp}(aU:t_ aS t k)(h:xR k u e7 r):(eqGuard op t x y u e7).run aS w=.ok () w:=by
 cases k with
 |leaf d=>
  rcases h with⟨q,cv,i,j,_,rfl,rfl,_⟩|⟨s,eA,_,rfl,rfl,_⟩|⟨x,y,_,rfl,rfl,_⟩<;>(unfold eqGuard;cases op<;>simp)
 |flat ds=>
  obtain⟨xs,jB,rfl,rfl,h⟩:=h;exact run_eqGuard_agg w op t x y xs jB aU.2
theorem xR.bin {k:sS}{u e7:Value}{r:Bool}(aU:t_ aS t k)(aA:(∀q,k≠.leaf (.int q))/\k≠.leaf .string)(h:xR k u e7 r):
 (Go.binOp .eql t u e7).run aS w=.ok (.bool r) w/\(Go.binOp .neq t u e7).run aS w=.ok (.bool (!r)) w:=by
 have aO:=h.run (w:=w) aU;cases k with
 |leaf d=>
  rcases h with⟨q,cv,i,j,rfl,rfl,rfl,_⟩|⟨s,eA,rfl,rfl,rfl,_⟩|⟨x,y,rfl,rfl,rfl,_⟩
  ·exact absurd rfl (aA.1 q)
  ·exact absurd rfl aA.2
  ·simp only[Go.binOp,iI,aO,jq,jT,and_self]
 |flat ds=>
  obtain⟨xs,jB,rfl,rfl,h⟩:=h;simp only[Go.binOp,iI,aO,jq,jT,and_self]
theorem alH {e:TypeId}(hu:aS.underlying t=some (.pointer e)){A eW:Option Addr}{b:Bool}(h:A=none/\b=eW.isNone\/eW=none/\b=A.isNone):
 (Op.equal t (.pointer A) (.pointer eW)).run aS w=.ok b w:=by
 show(Op.equalIn (9999+1) t (.pointer A) (.pointer eW)).run aS w=.ok b w;generalize 9999=d;rcases h with⟨rfl,rfl⟩|⟨rfl,rfl⟩
 ·simp[Op.equalIn,run_underlying hu]
 ·cases A<;>simp[Op.equalIn,run_underlying hu]
theorem ZH {d:TypeDesc}{c c':C}{u e7:Value}{r:Bool}(h:fits d c c'=some r)(an:dv m c u)(kS:dv m c' e7):Form d u e7 r:=by
 unfold fits at h;split at h
 ·split at h
  ·rename_i q k i cv j aU;subst aU;cases h;exact .inl ⟨q,_,_,_,rfl,an,kS,rfl⟩
  ·cases h
 ·rename_i s eA;cases h;refine .inr (.inl ⟨_,_,rfl,an,kS,?_⟩);unfold cB;rw[Bool.eq_iff_iff,decide_eq_true_iff,decide_eq_true_iff];exact Subtype.ext_iff
 ·rename_i x y;cases h;exact .inr (.inr ⟨_,_,rfl,an,kS,by cases x<;>cases y<;>rfl⟩)
 ·cases h
theorem Zw:∀{ds:List TypeDesc}{l r:List C}{us nc:List Value}{b:Bool},vm ds l r=some b->cL (dv m) l us->cL (dv m) r nc->sQ ds us nc b
 |[],[],[],[],[],b,h,_,_=>by simp[vm] at h;subst h;exact rfl
 |d::ds,c::l,c'::r,u::us,e7::nc,b,h,⟨aa,af⟩,⟨ax,a8⟩=>by
  rw[vm] at h;split at h
  ·rename_i x aW;have bB:=ZH aW aa ax;split at h
   ·rename_i y b7;cases h;refine⟨x,bB,λq=>?_,λq=>?_⟩
    ·rw[q,Bool.true_and];exact Zw b7 af a8
    ·rw[q,Bool.false_and]
   ·cases h
  ·cases h
 |[],c::l,_,_,_,b,h,_,_=>by simp[vm] at h
 |[],[],c::r,_,_,b,h,_,_=>by simp[vm] at h
 |d::ds,[],_,_,_,b,h,_,_=>by simp[vm] at h
 |d::ds,c::l,[],_,_,b,h,_,_=>by simp[vm] at h
theorem abO {k:sS}{p p':P}{u e7:Value}{r:Bool}(h:Ke k p p'=some r)(bF:mU m p u)(yO:mU m p' e7):xR k u e7 r:=by
 unfold Ke at h;split at h
 ·exact ZH h bF yO
 ·obtain⟨xs,rfl,aa⟩:=bF;obtain⟨jB,rfl,af⟩:=yO;exact⟨xs,jB,rfl,rfl,Zw h aa af⟩
 ·cases h
theorem acj {k:sS}{op:BinOp}(a2:dB m n F a)(aU:t_ aS t k)(aA:(∀q,k≠.leaf (.int q))/\k≠.leaf .string):match AU k op x y with
 |.pure f=>jD aS m w (do eqGuard op t x y (a.eval x) (a.eval y);Go.binOp op t (a.eval x) (a.eval y)) (f F)
 |.bad=>True
 |_=>False:=by
 cases op with
 |eql=>
  intro v h;obtain⟨c,d,an,bg,h⟩:=afY a2 h;obtain⟨b,aa,af⟩:=gT h;obtain rfl:=i_ af;have bB:=abO aa an bg;exact⟨.bool b,by rw[iI,bB.guard aU];exact(bB.bin aU aA).1,rfl⟩
 |neq=>
  intro v h;obtain⟨c,d,an,bg,h⟩:=afY a2 h;obtain⟨b,aa,af⟩:=gT h;obtain rfl:=i_ af;have bB:=abO aa an bg;exact⟨.bool (!b),by rw[iI,bB.guard aU];exact(bB.bin aU aA).2,rfl⟩
 |_=>trivial
theorem Zx {c d:C}{u e7:Value}{b:Bool}(h:Jj c d=some b)(an:dv m c u)(bg:dv m d e7):
 ∃A eW:Option Addr,u=.pointer A/\e7=.pointer eW/\(A=none/\b=eW.isNone\/eW=none/\b=A.isNone):=by
 have key:∀{a:Nat×Nat}{u:Value},dv m (.ptr (some a)) u->∃A,u=.pointer (some A):=λ{a u} h=>by
  obtain⟨r,_,rfl⟩:∃r,m.pl a.1=some r/\u=.pointer (some ⟨r,a.2,none⟩):=h;exact⟨_,rfl⟩
 have abN:∀{t:dh}{x:D t}{o:Nat}{u:Value},dv m (.cH t x o) u->∃A,u=.pointer (some A):=λ{t x o u} h=>by
  obtain⟨b,a,rfl,_⟩:=h;exact⟨_,rfl⟩
 have nil:∀{u:Value},dv m (.ptr none) u->u=.pointer none:=λh=>h;unfold Jj at h;split at h
 ·cases h;obtain rfl:=nil an;obtain rfl:=nil bg;exact⟨none,none,rfl,rfl,.inl ⟨rfl,rfl⟩⟩
 ·cases h;obtain rfl:=nil an;obtain⟨A,rfl⟩:=key bg;exact⟨none,some A,rfl,rfl,.inl ⟨rfl,rfl⟩⟩
 ·cases h;obtain rfl:=nil bg;obtain⟨A,rfl⟩:=key an;exact⟨some A,none,rfl,rfl,.inr ⟨rfl,rfl⟩⟩
 ·cases h;obtain rfl:=nil bg;obtain⟨A,rfl⟩:=abN an;exact⟨some A,none,rfl,rfl,.inr ⟨rfl,rfl⟩⟩
 ·cases h;obtain rfl:=nil an;obtain⟨A,rfl⟩:=abN bg;exact⟨none,some A,rfl,rfl,.inl ⟨rfl,rfl⟩⟩
 ·cases h
theorem ast {op:BinOp}{e:TypeId}(a2:dB m n F a)(hu:aS.underlying t=some (.pointer e)):match D3 op x y with
 |.pure f=>jD aS m w (do eqGuard op t x y (a.eval x) (a.eval y);Go.binOp op t (a.eval x) (a.eval y)) (f F)
 |.bad=>True
 |_=>False:=by
 cases op with
 |eql=>
  intro v h;obtain⟨c,d,an,bg,h⟩:=uR a2 h;obtain⟨b,aa,af⟩:=gT h;obtain rfl:=i_ af;obtain⟨A,eW,aD,aQ,af⟩:=Zx aa an bg;exact⟨.bool b,by rw[aD,aQ];simp[eqGuard,Go.binOp,alH hu af],rfl⟩
 |neq=>
  intro v h;obtain⟨c,d,an,bg,h⟩:=uR a2 h;obtain⟨b,aa,af⟩:=gT h;obtain rfl:=i_ af;obtain⟨A,eW,aD,aQ,af⟩:=Zx aa an bg;exact⟨.bool (!b),by rw[aD,aQ];simp[eqGuard,Go.binOp,alH hu af],rfl⟩
 |_=>trivial
end
open bC (T cL under size kL fx jP hO mf qC qD)
structure Step (m:M)(σ:bV)(w:World)(m':M)(bb:bV)(w':World):Prop where
  iL:jR σ.next m m'
  gE:hJ m σ w m' bb w'
  next:σ.next<=bb.next
  CK:∀i cs,σ.heap.get i=some (.box cs)->m.pl i=none->bb.heap.get i=some (.box cs)
def Good (aS:Program)(m:M)(σ:bV)(w:World)(aR:Nat->Value)(s:Sem Next):R->Prop
 |.val v bb=>∃m' ej w',Step m σ w m' bb w'/\s.run aS w=.ok (.value ej) w'/\bM m' bb w'/\en m' v ej
 |.skip bb=>∃m' w',Step m σ w m' bb w'/\s.run aS w=.ok .skip w'/\bM m' bb w'
 |.qA t v bb=>∃m' w',Step m σ w m' bb w'/\s.run aS w=.ok .skip w'/\bM m' bb w'/\en m' v (aR t)
 |.call f args bb=>bb=σ/\∃vs:Array Value,cL (en m) args vs.toList/\s.run aS w=(callFunc f vs).run aS w
section
variable{aS:Program}{w:World}{m m':M}{σ bb:bV}{F:Fr}{a:Go.Act}{n:Nat}{v:V}{α:Type}{z:α}{t:TypeId}{x y:Operand}{cw:T TypeInfo}
theorem Step.refl (m:M)(σ:bV)(w:World):Step m σ w m σ w:=⟨jR.refl _ m,hJ.refl m σ w,Nat.le_refl _,λ_ _ h _=>h⟩
theorem Step.trans {qw:M}{xJ:bV}{w' u2:World}(h:bM m σ w)(k:Step m σ w m' bb w')(l:Step m' bb w' qw xJ u2):Step m σ w qw xJ u2:=
 ⟨k.iL.trans l.iL k.next,k.gE.trans l.gE,jd k.next l.next,λi cs aa af=>l.CK i cs (k.CK i cs aa af) ((k.iL.pl i (by
  rcases ky i σ.next with ax|ax
  ·exact ax
  ·rw[(h.fresh i ax).2.2.2] at aa;cases aa)).trans af)⟩
theorem np {i:Nat}{k:B->Q α}(h:cU (og σ i k) z):∃b,σ.heap.get i=some b/\cU (k b) z:=by
 unfold og at h;split at h
 ·exact⟨_,by assumption,h⟩
 ·exact h.cc.elim
theorem K2 {l:List C}{o:Nat}{k:C->Q α}(h:cU (zt l o k) z):∃c,l[o]?=some c/\cU (k c) z:=by
 unfold zt at h;split at h
 ·exact⟨_,by assumption,h⟩
 ·exact h.cc.elim
theorem YB {id n sz:Nat}{k:(t:dh)->List Bool->L (D t)->Nat->D t->Q α}(h:cU (z4 σ id n sz k) z):
 ∃t a1 l c7 e,σ.heap.get id=some (.arr t a1 l none c7)/\t.length=sz/\l.1[n]?=some e/\cU (k t a1 l c7 e) z:=by
 unfold z4 at h;obtain⟨b,ah,h⟩:=np h;split at h
 ·rename_i t a1 l c7;split at h
  ·rename_i aZ;obtain⟨e,aa,af⟩:=h.m9;exact⟨t,a1,l,c7,e,ah,gB aZ,aa,af⟩
  ·exact h.cc.elim
 ·exact h.cc.elim
theorem aNv {ap:Bool}{c:C}{u:Value}{id c7 k sz f:Nat}(an:dv m c u)(h:ap=true->m.hP id c7 (k*sz+f)=some u):dv m (Xw ap c id c7 k sz f) u:=by
 cases ap with
 |false=>unfold Xw;exact an
 |true=>cases c with
  |row t l oA=>exact⟨an.1,h rfl⟩
  |_=>exact an
theorem ab9 (b6:fx aS cw)(a2:dB m n F a)(bf:bM m σ w)(cm:bC.isAgg cw t=some false):jD aS m w (Instr.loadAt t (a.eval x)) (mC x vM F σ):=by
 intro v h;obtain⟨c,an,h⟩:=A5 a2 h;have fin:∀{A:Addr}{u:Value},a.eval x=.pointer (some A)->(Go.load A).run aS w=.ok u w->(Instr.loadAt t (a.eval x)).run aS w=.ok u w:=λaa af=>by
  simp only[aa,Instr.loadAt,Instr.sureAddr,loadVar,iI,jT,jq,qC b6 cm,Bool.false_eq_true,if_false,af]
 unfold vM at h;split at h
 ·rename_i t' jn o;obtain⟨b,r2,aW,bg⟩:=an;obtain⟨c,an,h⟩:=K2 h;obtain rfl:=i_ h;obtain⟨u,hu,yC⟩:=bg.cell o c an;obtain⟨cur,ty,b_,aG,aN⟩:=bf.stay _ _ _ hu;exact⟨u,fin aW (qD aG aN),yC⟩
 ·rename_i p;obtain⟨r,aO,aW⟩:=an;obtain⟨b,ah,h⟩:=np h;split at h
  ·obtain⟨c,an,h⟩:=K2 h;obtain rfl:=i_ h;obtain⟨u,aa,af⟩:=bf.ano (aS:=aS) ah aO an;exact⟨u,fin aW aa,af⟩
  ·exact h.cc.elim
 ·rename_i id k sz f;obtain⟨b,len,cp,pM,aW⟩:=an;obtain⟨t',a1,l,c7,e,aj,rfl,he,h⟩:=YB h;obtain⟨c,an,h⟩:=K2 h;obtain rfl:=i_ h;obtain⟨aG,aN,bo,cur,ty,b_,cE,eM,fH,gz,hM,iV,qT,kQ⟩:=bf.arr aj pM;obtain⟨u,hu,yC⟩:=(qT k e he).cell f c an (by simp);rw[fW] at hu;refine⟨u,fin aW (qD eM hu),?_⟩;have qX:f<t'.length:=by
   have:=(eu.1 an).1
   rwa [C2] at this
  refine aNv yC λcf=>(kQ _ _).2 ⟨hu,?_,?_⟩
  ·rw[(x_ qX rfl).2];cases ay:a1[f]? with
   |none=>rw[ay] at cf;cases cf
   |some b=>rw[ay] at cf;simp at cf;rw[cf]
  ·rw[(x_ qX rfl).1];exact(eu.1 he).1
 ·exact h.cc.elim
theorem ab8 {sz:Nat}(b6:fx aS cw)(a2:dB m n F a)(bf:bM m σ w)(cm:bC.isAgg cw t=some true)(aP:size cw t=some sz):jD aS m w (Instr.loadAt t (a.eval x)) (mC x (y8 sz) F σ):=by
 intro v h;obtain⟨c,an,h⟩:=A5 a2 h;have fin:∀{A:Addr}{vs:List Value},a.eval x=.pointer (some A)->(loadCells A sz).run aS w=.ok vs.toArray w->(Instr.loadAt t (a.eval x)).run aS w=.ok (.agg vs.toArray) w:=λaa af=>by
  simp[aa,Instr.loadAt,Instr.sureAddr,loadVar,qC b6 cm,mf b6 aP,af]
 unfold y8 at h;split at h
 ·rename_i t' jn o;obtain⟨b,r2,aW,bg⟩:=an;split at h
  ·exact h.cc.elim
  ·rename_i k aU;obtain⟨l,aZ,h⟩:=gT h;obtain rfl:=h.eH;obtain⟨rfl,hle⟩:=I9 aZ;obtain⟨vs,aG,aN,bo⟩:=L0 (m:=m) (g:=λj=>(m.fz b)[r2+j]?) (λj c an=>bg.cell j c an) sz o hle;have lW:0<sz:=Nat.pos_of_ne_zero λq=>aU q;have hu:(m.fz b)[r2+o]?=some (vs[0]'ab):=by
    have:=aN 0 ab;simpa using this.trans (fy ab)
   obtain⟨cur,ty,b_,bA,bI⟩:=bf.stay _ _ _ hu;refine⟨_,fin aW (vs:=vs) ?_,_,rfl,by simpa using bo⟩;rw[<-aG];refine bC.run_loadCells bA vs λj aq=>?_;have hu:=aN j aq;rw[fy aq] at hu;have hu:(m.fz b)[r2+(o+j)]?=some vs[j]:=hu;obtain⟨h_,jm,jG,bx,cX⟩:=bf.stay _ _ _ hu;rw[bA] at bx;cases bx;rw[Nat.add_assoc,cX,fy aq]
 ·rename_i p;obtain⟨r,aO,aW⟩:=an;obtain⟨b,ah,h⟩:=np h;split at h
  ·obtain⟨l,aZ,h⟩:=gT h;obtain rfl:=h.eH;obtain⟨vs,aG,aN,bo⟩:=bf.anp (aS:=aS) ah aO aZ;exact⟨_,fin aW aN,_,rfl,by simpa using bo⟩
  ·exact h.cc.elim
 ·rename_i id k xz f;obtain⟨b,len,cp,pM,aW⟩:=an;split at h
  ·exact h.cc.elim
  ·rename_i aU;obtain⟨t',a1,l,c7,e,aj,rfl,he,h⟩:=YB h;obtain⟨eC,aZ,h⟩:=gT h;obtain rfl:=h.eH;obtain⟨rfl,hle⟩:=I9 aZ;obtain⟨aG,aN,bo,cur,ty,b_,cE,eM,fH,gz,hM,iV,qT,kQ⟩:=bf.arr aj pM;obtain⟨vs,bA,bI,c9⟩:=L0 (m:=m) (g:=λj=>cur[k*t'.length+j]?) (λj c an=>by
    obtain⟨u,hu,yC⟩:=(qT k e he).cell j c an (by simp);rw[fW] at hu;exact⟨u,hu,yC⟩) sz f hle
   refine⟨_,fin aW (vs:=vs) ?_,_,rfl,by simpa using c9⟩;rw[<-bA];exact bC.run_loadCells eM vs λj aq=>by rw[Nat.add_assoc];exact bI j aq
 ·exact h.cc.elim
theorem adK {a1:List Bool}:∀{k f:Nat},KX a1 f k=true->∀j,f<=j->j<f+k->a1[j]?.getD false=false
 |0,f,_,j,aa,af=>by omega
 |k+1,f,h,j,aa,af=>by
  rw[KX] at h;split at h
  ·cases h
  ·rename_i bB;by_cases aq:j=f
   ·rw[aq];exact bB
   ·exact adK h j ab ab
theorem E6 {i:Nat}{b:B}{j:Nat}{cs:List C}(aj:σ.heap.get i=some b)(aA:(∀q,b≠.box q)\/m.pl i≠none)(aq:σ.heap.get j=some (.box cs))(bF:m.pl j=none)(o:Option B):(σ.heap.put i o).get j=some (.box cs):=by
 rw[bC.T.eP _ _ ?_]
 ·exact aq
 ·intro e;subst e;rw[aj] at aq;cases aq;rcases aA with aA|aA
  ·exact aA _ rfl
  ·exact aA bF
theorem Xk {sz:Nat}{bW:Option (Nat×dh)}(b6:fx aS cw)(a2:dB m n F a)(bf:bM m σ w)(aP:size cw t=some sz)(ai:∀q,bW=some q->x=.tmp q.1){r:R}(h:cU (A6 x y (xx sz bW) F σ) r):
 Good aS m σ w (λt=>a.tmps.getD t undef) (do Instr.storeAt t (a.eval x) (a.eval y);pure .skip) r:=by
 obtain⟨c,d,an,bg,aa⟩:=axt a2 h;clear h;have h:=aa;clear aa;unfold xx at h;split at h
 ·exact h.cc.elim
 rename_i hlen;have hlen:=gB hlen;have lh:=bg.cells;have fA:(a.eval y).cells.size=sz:=by rw[<-hlen,lh.length];simp
 have fin:∀{A:Addr}{w'},a.eval x=.pointer (some A)->(storeCells A (a.eval y).cells.toList).run aS w=.ok () w'->(do Instr.storeAt t (a.eval x) (a.eval y);pure .skip:Sem Next).run aS w=.ok .skip w':=λaa af=>by
  simp[aa,Instr.storeAt,Instr.sureAddr,storeVar,mf b6 aP,fA,af]
 split at h
 ·rename_i p;obtain⟨mE,aO,aW⟩:=id an;obtain⟨b,ah,h⟩:=np h;split at h
  ·rename_i cs;split at h
   ·rename_i hle;have hle:=Nat.le_of_ble_eq_true hle;obtain⟨w',aa,af,ax⟩:=bf.ax5 (aS:=aS) ah aO hle lh;cases bW with
    |none=>
     obtain rfl:=h.eH;exact⟨m,w',⟨jR.refl _ m,ax,Nat.le_refl _,λj lf aq bF=>E6 ah (.inr (by rw[aO];simp)) aq bF _⟩,fin aW aa,af⟩
    |some q=>
     simp only at h;split at h
     ·rename_i bX;obtain⟨mG,b7,h⟩:=gT h;obtain rfl:=h.eH;rw[bX] at b7;obtain⟨m',aD,aQ,bO,cP⟩:=af.aoK (i:=p.1) (r:=mE) (by simp only[bC.T.il,bX]) aO b7;have aO7:∀(t:T B) b,(t.put p.1 b).put p.1 none=(t.put p.1 b).put p.1 none:=λ_ _=>rfl;have an5:bM m' ⟨σ.heap.put p.1 none,σ.next⟩ w':=by
       refine⟨λi aj=>?_,λi b aj=>bO.live i b ?_,λi j bi mn Qa aj aq aqP aqQ=>bO.inj i j bi mn Qa ?_ ?_ aqP aqQ,bO.own,bO.stay⟩
       ·obtain⟨f1,f2,f3,f4⟩:=bO.fresh i aj;refine⟨f1,f2,f3,?_⟩;have f4:((σ.heap.put p.1 _).put p.1 none).get i=none:=f4;rw[bC.T.m3] at f4⊢;split
        ·rfl
        ·rename_i aA;rw[if_neg aA,bC.T.eP _ _ aA] at f4;exact f4
       all_goals
        first
         |(have aj:(σ.heap.put p.1 none).get i=some b:=aj
           show((σ.heap.put p.1 _).put p.1 none).get i=some b;rw[bC.T.m3] at aj⊢;split at aj
           ·cases aj
           ·rename_i aA;rw[if_neg aA,bC.T.eP _ _ aA];exact aj)
         |(have aj:(σ.heap.put p.1 none).get i=some bi:=aj
           show((σ.heap.put p.1 _).put p.1 none).get i=some bi;rw[bC.T.m3] at aj⊢;split at aj
           ·cases aj
           ·rename_i aA;rw[if_neg aA,bC.T.eP _ _ aA];exact aj)
         |(have aq:(σ.heap.put p.1 none).get j=some mn:=aq
           show((σ.heap.put p.1 _).put p.1 none).get j=some mn;rw[bC.T.m3] at aq⊢;split at aq
           ·cases aq
           ·rename_i aA;rw[if_neg aA,bC.T.eP _ _ aA];exact aq)
      have RG:hJ m σ w m' ⟨σ.heap.put p.1 none,σ.next⟩ w':=by
       have:=ax.trans cP;refine⟨this.os,this.tape,this.output,this.size,this.fz,λb ah bX=>?_,this.own⟩;obtain⟨bA,bI,c9,ei⟩:=this.kept b ah bX;refine⟨bA,bI,c9,?_⟩;rintro⟨R,u3,i,x,m8,mA,K4⟩;refine ei ⟨R,u3,i,x,m8,?_,K4⟩;have mA:(σ.heap.put p.1 none).get i=some x:=mA;show((σ.heap.put p.1 _).put p.1 none).get i=some x;rw[bC.T.m3] at mA⊢;split at mA
       ·cases mA
       ·rename_i aA;rw[if_neg aA,bC.T.eP _ _ aA];exact mA
      refine⟨m',w',⟨aD,RG,Nat.le_refl _,λj lf aq bF=>E6 ah (.inr (by rw[aO];simp)) aq bF _⟩,fin aW aa,an5,?_⟩;have ay:=ai q rfl;subst ay;show dv m' (.cH q.2 mG 0) (a.eval (.tmp q.1));rw[aW,bX];exact⟨mE,0,rfl,aQ⟩
     ·exact h.cc.elim
   ·exact h.cc.elim
  ·exact h.cc.elim
 ·rename_i id k xz f;obtain⟨b,len,cp,pM,aW⟩:=an;obtain⟨Q6,ah,aa⟩:=np h;clear h;have h:=aa;clear aa;split at h
  ·rename_i t' a1 l bX c7;split at h
   ·exact h.cc.elim
   ·rename_i pR;have pR:=gB pR;subst pR;split at h
    ·exact h.cc.elim
    ·rename_i hle;have hle:=Nat.le_of_ble_eq_true hle;split at h
     ·rename_i Z9;split at h
      ·obtain⟨e,he,h⟩:=h.m9;obtain⟨e',fu,h⟩:=gT h;obtain rfl:=h.eH;obtain⟨w',aa,af,ax⟩:=bf.ax4 (aS:=aS) ah pM he fu hle (adK Z9) lh;exact⟨m,w',⟨jR.refl _ m,ax,Nat.le_refl _,λj lf aq bF=>E6 ah (.inl (by simp)) aq bF _⟩,fin aW aa,af⟩
      ·exact h.cc.elim
     ·rename_i Z9;cases d with
      |agg xb=>exact h.cc.elim
      |c pz=>
      cases pz with
      |row t1 az oA=>
       cases oA with
       |dW bA auc aMV=>
       simp only at h;split at h
       ·rename_i t2 t3 aaI aqY aOc;split at h
        ·rename_i heq;simp only[gR] at heq;have cr:=kC heq.1;have cI:=kC heq.2;subst cr cI;obtain⟨e,he,h⟩:=h.m9;obtain⟨e',fu,h⟩:=gT h;have SA:(a.eval y).cells.toList=[a.eval y]:=by
          have:=bC.I6 (dv.one (m:=m) (x:=.row t1 az (.dW bA auc aMV)) bg).1;rw[this]
         have k2:dQ m.fz (.aR t1) az (a.eval y)/\m.bg bA=some (a.eval y):=⟨bg.1,bg.2.1⟩;have main:(bX=none\/bX=some (k,f))->r=.skip ⟨(σ.heap.put bA none).put id (some (.arr t' a1 (dO l k e') none (c7+1))),σ.next⟩->Good aS m σ w (λt=>a.tmps.getD t undef) (do Instr.storeAt t (a.eval x) (a.eval y);pure .skip) r:=by
          intro sm aO;subst aO;obtain⟨m',w',aa,af,ax,a8⟩:=bf.fill (aS:=aS) ah sm pM aaI k2.2 aqY he k2.1 fu;refine⟨m',w',⟨af,a8,Nat.le_refl _,λj lf aq bF=>?_⟩,fin aW (by rw[SA];exact aa),ax⟩;have bx:j≠id:=λq=>by rw[q,ah] at aq;cases aq
          have cX:j≠bA:=λq=>by rw[q,aaI] at aq;cases aq
          show((σ.heap.put bA none).put id _).get j=_;rw[bC.T.eP _ _ bx,bC.T.eP _ _ cX];exact aq
         split at h
         ·exact main (.inl rfl) h.eH
         ·rename_i aPF;split at h
          ·rename_i SE;have SE:=gB SE;rcases h.vR with⟨i1,i2⟩|⟨_,i2⟩
           ·have i1:=of_decide_eq_true i1;exact main (.inr (by rw[<-i1,<-SE])) i2.eH
           ·exact i2.cc.elim
          ·exact h.cc.elim
        ·exact h.cc.elim
       ·exact h.cc.elim
       |_=>exact h.cc.elim
      |_=>exact h.cc.elim
  ·exact h.cc.elim
 ·exact h.cc.elim
end
open bC (T cL under size kL fx jP hO mf qC qD ib mQ oz)
def wO (cw:T TypeInfo)(t f:Nat):Option (Nat×Nat):=match under cw t with
 |some (.struct fs)=>match fs[f]? with
  |some g=>some (g.type,g.offset)
  |none=>none
 |_=>none
def Tt (g:Operand)(F:Fr):Q V:=.ret (jx g F)
def pick (c a b:Operand)(F:Fr):Q V:=match lO (jx c F) with
 |some (.bool x)=>.ite x (.ret (jx a F)) (.ret (jx b F))
 |_=>.fail
def adN (c:C):Q V:=match c with
 |.ptr (some _)=>iZ c
 |.cH _ _ _=>iZ c
 |.jW _ _ _ _=>iZ c
 |.fn _ _ _=>iZ c
 |_=>.fail
def RV (g:Operand)(i:Nat)(F:Fr):Q V:=match jx g F with
 |.Qr l=>match l[i]? with
  |some x=>.ret (.p x)
  |none=>.fail
 |_=>.fail
def CC (F:Fr):List Operand->Option (List (Nat×Nat))
 |[]=>some []
 |g::l=>match lO (jx g F) with
  |some (.ptr (some a))=>match CC F l with
   |some r=>some (a::r)
   |none=>none
  |_=>none
def acg (f:Nat)(first cap:List Operand)(F:Fr):Q V:=Q.lift (CC F first) λus=>Q.lift (CC F cap) λvs=>iZ (.fn f us vs)
section
variable{aS:Program}{w:World}{m m':M}{σ bb:bV}{F:Fr}{a:Go.Act}{n:Nat}{v:V}{α:Type}{t:TypeId}{x y z:Operand}{cw:T TypeInfo}
theorem Tv {c:C}{u:Value}{k:Int->Q α}{z:α}(h:cU (Ef c k) z)(an:dv m c u):∃qv n,u=.int qv n/\qv.min<=n/\n<=qv.max/\cU (k n) z:=by
 unfold Ef at h;split at h
 ·rename_i qv i;exact⟨qv,i.1,an,i.2.1,i.2.2,h⟩
 ·exact h.cc.elim
theorem ary {l:L α}{i:Int}{e:α}(h:aX l i=some e):0<=i/\l.1[i.toNat]?=some e/\i<l.1.length:=by
 obtain⟨aa,af⟩:=CO h;have aa:=of_decide_eq_true aa;have:=(eu.1 af).1;exact⟨aa,af,ab⟩
theorem arz {e sz:Nat}(b6:fx aS cw)(a2:dB m n F a)(hu:under cw t=some (.slice e))(aP:size cw e=some sz):jD aS m w (Instr.indexAt t (a.eval x) (a.eval y)) (iY x y (abG sz) F):=by
 intro v a6;obtain⟨c,d,an,bg,aa⟩:=uR a2 a6;obtain⟨qv,i,b7,_,_,h⟩:=Tv aa bg;clear a6 aa;have fin:∀{A:Addr}{len cap:Nat},a.eval x=.slice (some A) len cap->0<=i->i<len->(Instr.indexAt t (a.eval x) (a.eval y)).run aS w=.ok (.pointer (some (A.add (i.toNat*sz)))) w:=λaW a6 af=>by
  have sj:(0:Int)<=i/\i<(_:Int):=⟨a6,af⟩;simp only[aW,b7,Instr.indexAt,asIntOf,iI,jT,jq,hO b6 hu,if_pos sj,mf b6 aP]
 cases c with
 |row t' l oA=>
  simp only at h;split at h
  ·rename_i aZ;have aZ:=gB aZ;subst aZ;obtain⟨e',he,h⟩:=h.m9;obtain rfl:=i_ h;obtain⟨a6,aa,af⟩:=ary he;have k2:=an.1;simp only[dQ] at k2;obtain⟨A,cp,aW,hle,Dl⟩:=k2;obtain⟨b,o,dH,Sj⟩:=Dl (λaA=>by rw[aA] at aa;simp at aa);subst dH;exact⟨.pointer (some ⟨b,o+i.toNat*t'.length,none⟩),by rw[fin aW a6 af,bC.add_eq],b,o+i.toNat*t'.length,by simp,Sj _ _ aa⟩
  ·exact h.cc.elim
 |aR id len=>
  obtain⟨A,cp,aW,fM,dH,hle⟩:=an;rcases h.vR with⟨aa,af⟩|⟨_,af⟩
  ·obtain rfl:=i_ af;simp only[gR,decide_eq_true_eq] at aa;obtain⟨b,rfl⟩:=dH ab;rw[aW] at fM;exact⟨.pointer (some ⟨b,i.toNat*sz,none⟩),by rw[fin aW aa.1 aa.2,bC.add_eq,fW],b,len,cp,fM,by simp⟩
  ·exact af.cc.elim
 |_=>exact h.cc.elim
theorem Yq {off:Nat}{c:C}{u:Value}(h:cU (CB off c) v)(an:dv m c u):∃b o,u=.pointer (some ⟨b,o,none⟩)/\en m v (.pointer (some ⟨b,o+off,none⟩)):=by
 cases c with
 |ptr p=>cases p with
  |none=>exact h.cc.elim
  |some p=>
   obtain rfl:=i_ h;obtain⟨r,aO,aW⟩:=an;exact⟨r,_,aW,r,aO,rfl⟩
 |cH t' jn o=>
  obtain rfl:=i_ h;obtain⟨b,r2,aW,Dl⟩:=an;exact⟨b,_,aW,b,r2,by rw[Nat.add_assoc],Dl⟩
 |jW id n sz f=>
  obtain rfl:=i_ h;obtain⟨b,k,c,fM,aW⟩:=an;exact⟨b,_,aW,b,k,c,fM,by rw[Nat.add_assoc]⟩
 |_=>exact h.cc.elim
theorem am9 {f pI off k:Nat}(b6:fx aS cw)(a2:dB m n F a)(bB:wO cw t f=some (pI,off))(aP:size cw pI=some (k+1)):jD aS m w (Instr.fieldAt t (a.eval x) f) (m_ x (CB off) F):=by
 intro v h;obtain⟨c,an,aU⟩:=uQ a2 h;obtain⟨b,o,aW,aL⟩:=Yq aU an;unfold wO at bB;split at bB
 ·rename_i fs hu;split at bB
  ·rename_i g cm;cases bB;exact⟨.pointer (some ⟨b,o+g.offset,none⟩),
    by simp[aW,Instr.fieldAt,Instr.sureAddr,hO b6 hu,cm,fieldPlace,mf b6 aP,bC.add_eq],aL⟩
  ·cases bB
 ·cases bB
theorem arx {e k sz:Nat}{j:Int}{qv:IntKind}(b6:fx aS cw)(a2:dB m n F a)(hu:under cw t=some (.array k e))(aP:size cw e=some sz)(a6:0<=j)(aa:j<k):
 jD aS m w (Instr.indexAt t (a.eval x) (.int qv j)) (m_ x (CB (j.toNat*sz)) F):=by
 intro v h;obtain⟨c,an,aU⟩:=uQ a2 h;obtain⟨b,o,aW,aL⟩:=Yq aU an;have sj:(0:Int)<=j/\j<(k:Int):=⟨a6,aa⟩;exact⟨.pointer (some ⟨b,o+j.toNat*sz,none⟩),
  by simp only[aW,Instr.indexAt,Instr.sureAddr,asIntOf,iI,jT,jq,hO b6 hu,if_pos sj,mf b6 aP,bC.add_eq],aL⟩
theorem arA (b6:fx aS cw)(a2:dB m n F a)(aP:under cw t=some .string):jD aS m w (Instr.index t (a.eval x) (a.eval y)) (iY x y abH F):=by
 intro v a6;obtain⟨c,d,an,bg,aa⟩:=uR a2 a6;obtain⟨qv,i,b7,_,_,h⟩:=Tv aa bg;clear a6 aa;cases c with
 |str s=>
  have aW:a.eval x=.string s.1:=an;obtain⟨b,ah,rfl⟩:=Bd h;obtain⟨aa,af⟩:=CO ah;have aa:=of_decide_eq_true aa;have hu:∃u,s.1.data[i.toNat]?=some u/\b.1=(u.toNat:Int):=by
   cases ay:s.1.data[i.toNat]? with
   |none=>rw[ay] at af;cases af
   |some u=>rw[ay] at af;cases af;exact⟨u,rfl,rfl⟩
  obtain⟨u,hu,apL⟩:=hu;obtain⟨bn,w8⟩:=n7.1 hu;have ay:s.1[i.toNat]?=some u:=by
   have oZ:i.toNat<s.1.size:=bn;rw[getElem?_pos s.1 i.toNat oZ];exact congrArg some w8
  have sj:i.toNat<s.1.size:=bn;exact⟨.int .u8 (u.toNat:Int),by
   have:(0:Int)<=i/\i<(s.1.size:Int):=⟨aa,ab⟩;have aa4:s.1[i.toNat]'sj=u:=w8
   simp[aW,b7,Instr.index,asIntOf,hO b6 aP,ay,this,aa,aa4],by show Value.int .u8 _=.int .u8 b.1;rw[apL]⟩
 |_=>exact h.cc.elim
theorem ar3 (b6:fx aS cw)(a2:dB m n F a)(aP:under cw t=some .string){ty:TypeId}:jD aS m w (Builtin.len_ #[t] ty #[a.eval x]) (m_ x ab4 F):=by
 intro v h;obtain⟨c,an,h⟩:=uQ a2 h;cases c with
 |str s=>
  obtain rfl:=i_ h;have aW:a.eval x=.string s.1:=an;exact⟨goInt s.1.size,by simp[aW,Builtin.len_,hO b6 aP],rfl⟩
 |_=>exact h.cc.elim
theorem ar2 (b6:fx aS cw)(a2:dB m n F a){e ty:TypeId}(aP:under cw t=some (.slice e)):jD aS m w (Builtin.len_ #[t] ty #[a.eval x]) (m_ x ab3 F):=by
 intro v h;obtain⟨c,an,h⟩:=uQ a2 h;cases c with
 |dt=>
  obtain rfl:=i_ h;have an:a.eval x=.slice none 0 0:=an;exact⟨goInt 0,by simp[an,Builtin.len_,hO b6 aP],rfl⟩
 |row t' l oA=>
  obtain rfl:=i_ h;have k2:=an.1;simp only[dQ] at k2;obtain⟨A,cp,aW,_⟩:=k2;exact⟨goInt l.1.length,by simp[aW,Builtin.len_,hO b6 aP],rfl⟩
 |u1 id dx k sz=>
  obtain rfl:=i_ h;obtain⟨A,cp,aW,aa,hle,af⟩:=an;refine⟨goInt k,by simp[aW,Builtin.len_,hO b6 aP],?_⟩;show Value.int .i64 (k:Int)=.int .i64 (IntKind.i64.wrap k);rw[Ce];simp[IntKind.min,IntKind.max,IntKind.bits,IntKind.signed];omega
 |aR id k=>
  obtain rfl:=i_ h;obtain⟨A,cp,aW,fM,dH,hle⟩:=an;refine⟨goInt k,by simp[aW,Builtin.len_,hO b6 aP],?_⟩;show Value.int .i64 (k:Int)=.int .i64 (IntKind.i64.wrap k);rw[Ce];simp[IntKind.min,IntKind.max,IntKind.bits,IntKind.signed];omega
 |_=>exact h.cc.elim
def QI (a:Go.Act)(b:Option Operand)(d h:Nat):Prop:=match b with
 |none=>h=d
 |some x=>∃qv,a.eval x=.int qv (h:Nat)
theorem Rj {b:Bool}{len cap l h:Nat}{dx aj:Option Operand}(fM:QI a aj len h)(aZ:QI a dx 0 l)(aa:l<=h)(af:h<=cap):
 (Instr.sliceBounds b len cap (dx.map a.eval) (aj.map a.eval) none).run aS w=.ok (l,h,cap) w:=by
 have i1:(0:Int)<=(h:Int)/\(h:Int)<=(cap:Int):=⟨ab,ab⟩;have i2:(0:Int)<=(l:Int)/\(l:Int)<=(h:Int):=⟨ab,ab⟩;cases aj with
 |none=>
  have fM:h=len:=fM;cases dx with
  |none=>have aZ:l=0:=aZ;subst fM aZ;simp[Instr.sliceBounds]
  |some y=>
   obtain⟨bI,aQ⟩:=aZ;subst fM;simp only[Instr.sliceBounds,Instr.sliceBound,asIntOf,aQ,Option.map_some,Option.map_none,iI,jT,jq,if_pos i2,Int.toNat_natCast]
 |some x=>
  obtain⟨bA,aD⟩:=fM;cases dx with
  |none=>
   have aZ:l=0:=aZ;subst aZ;simp only[Instr.sliceBounds,Instr.sliceBound,asIntOf,aD,Option.map_some,Option.map_none,iI,jT,jq,if_pos i1,Int.toNat_natCast]
  |some y=>
   obtain⟨bI,aQ⟩:=aZ;simp only[Instr.sliceBounds,Instr.sliceBound,asIntOf,aD,aQ,Option.map_some,Option.map_none,iI,jT,jq,if_pos i1,if_pos i2,Int.toNat_natCast]
theorem alG {e sz:Nat}(b6:fx aS cw)(hu:under cw t=some (.slice e))(aP:size cw e=some sz){A:Option Addr}{len cap l h xj:Nat}{c4 fD ij:Option Value}(ah:(Instr.sliceBounds true len cap c4 fD ij).run aS w=.ok (l,h,xj) w):
 (Instr.sliceAt t (.slice A len cap) c4 fD ij).run aS w=.ok (.slice (if xj=l then A else A.map (·.add (l*sz))) (h-l) (xj-l)) w:=by
 simp only[Instr.sliceAt,Instr.slice,iI,jT,jq,hO b6 hu,ah,mf b6 aP]
theorem AO {g:Option Operand}{d:Int}{k:Int->Q α}{z:α}(a2:dB m n F a)(h:cU (y2 g d F k) z):∃i,cU (k i) z/\∀e:Nat,d=e->0<=i->QI a g e i.toNat:=by
 cases g with
 |none=>exact⟨d,h,λe he aj=>by show d.toNat=e;omega⟩
 |some g=>
  obtain⟨c,an,h⟩:=gT h;obtain⟨qv,i,b7,_,_,h⟩:=Tv h (qa an (lY a2 g));exact⟨i,h,λe _ aj=>⟨qv,by rw[b7,Int.toNat_of_nonneg aj]⟩⟩
theorem an0 {dx aj:Option Operand}(b6:fx aS cw)(a2:dB m n F a)(hu:under cw t=some .string):jD aS m w (Instr.sliceAt t (a.eval x) (dx.map a.eval) (aj.map a.eval) none) (Rt x dx aj F):=by
 intro v a6;unfold Rt at a6;split at a6
 ·rename_i s aP;have aW:a.eval x=.string s.1:=qa aP (lY a2 x);obtain⟨j,aa,aq⟩:=AO a2 a6;obtain⟨i,af,ur⟩:=AO a2 aa;obtain⟨r,aO,rfl⟩:=Bd af;unfold pF at aO;split at aO
  ·rename_i an;cases aO;simp only[gR,decide_eq_true_eq] at an;refine⟨.string (s.1.extract i.toNat j.toNat),?_,rfl⟩;simp[aW,Instr.sliceAt,Instr.slice,hO b6 hu,Rj (b:=false) (aq _ rfl ab) (ur 0 rfl ab) (show i.toNat<=j.toNat by omega) (show j.toNat<=s.1.size by omega)]
  ·cases aO
 ·exact a6.cc.elim
theorem anZ {e sz:Nat}{dx aj:Option Operand}(b6:fx aS cw)(a2:dB m n F a)(hu:under cw t=some (.slice e))(aP:size cw e=some sz):jD aS m w (Instr.sliceAt t (a.eval x) (dx.map a.eval) (aj.map a.eval) none) (Rs sz x dx aj F):=by
 intro v a6;unfold Rs at a6;split at a6
 ·rename_i t' l oA aZ;have k2:=(show dv m (.row t' l oA) (a.eval x) from qa aZ (lY a2 x)).1;obtain⟨_,fA,aa⟩:=gT a6;have fA:t'.length=sz:=by
   split at fA
   ·rename_i ay;exact gB ay
   ·cases fA
  obtain⟨j,aa,aq⟩:=AO a2 aa;obtain⟨i,af,ur⟩:=AO a2 aa;obtain⟨r,aO,rfl⟩:=Bd af;obtain⟨an,aO⟩:=CO aO;cases aO;simp only[gR,decide_eq_true_eq] at an;simp only[dQ] at k2;obtain⟨A,cp,aW,hle,Dl⟩:=k2;have ah:=Rj (aS:=aS) (w:=w) (a:=a) (b:=true) (cap:=cp) (aq _ rfl ab) (ur 0 rfl ab) (show i.toNat<=j.toNat by omega) (show j.toNat<=cp by omega);refine⟨_,by rw[aW];exact alG b6 hu aP ah,?_,trivial⟩;have hlen:((l.1.drop i.toNat).take (j-i).toNat).length=j.toNat-i.toNat:=by
   rw[List.length_take,List.length_drop];omega
  simp only[dQ];refine⟨_,_,by rw[hlen],by rw[hlen];omega,λaA=>?_⟩;have lW:0<((l.1.drop i.toNat).take (j-i).toNat).length:=List.length_pos_iff.2 aA;rw[hlen] at lW;obtain⟨b,o,rfl,Sj⟩:=Dl (λq=>by rw[q] at an;simp at an;omega);refine⟨b,o+i.toNat*sz,by rw[if_neg ab];simp[bC.add_eq],λk e' aU=>?_⟩;have pN:l.1[i.toNat+k]?=some e':=by
   rw[List.getElem?_take] at aU;split at aU
   ·rwa [List.getElem?_drop] at aU
   ·cases aU
  have:=Sj _ _ pN;rw[iR] at this;rw[fA] at this⊢;rw[Nat.add_assoc];exact this
 ·rename_i id n' aZ;obtain⟨A,cp,aW,fM,dH,hle,DF⟩:=(show dv m (.aR id n') (a.eval x) from qa aZ (lY a2 x));obtain⟨j,aa,aq⟩:=AO a2 a6;obtain⟨i,af,ur⟩:=AO a2 aa;rcases af.vR with⟨an,ax⟩|⟨_,ax⟩
  ·obtain rfl:=i_ ax;simp only[gR,decide_eq_true_eq] at an;have ah:=Rj (aS:=aS) (w:=w) (a:=a) (b:=true) (cap:=cp) (aq _ rfl ab) (ur 0 rfl ab) (show i.toNat<=j.toNat by omega) (show j.toNat<=cp by omega);have hlen:(j-i).toNat=j.toNat-i.toNat:=ab;refine⟨_,by rw[aW];exact alG b6 hu aP ah,_,_,by rw[hlen],by rw[hlen];omega,ab,λaA=>?_⟩;rw[hlen] at aA;obtain⟨b,rfl⟩:=dH ab;refine⟨b,n',cp,by rw[fM,aW],?_,ab⟩;rw[if_neg ab];simp[bC.add_eq]
  ·exact ax.cc.elim
 ·exact a6.cc.elim
theorem adB (a2:dB m n F a)(h:cU (Tt x F) v):en m v (a.eval x):=by
 obtain rfl:=h.eH;exact lY a2 x
theorem axH (a2:dB m n F a)(h:cU (pick x y z F) v):
 ∃ej,(do pure (.value (if<-asBool (a.eval x) then a.eval y else a.eval z)):Sem Next).run aS w=.ok (.value ej) w/\en m v ej:=by
 unfold pick at h;split at h
 ·rename_i b ah;have aW:a.eval x=.bool b:=qa ah (lY a2 x);rcases h.vR with⟨aa,af⟩|⟨aa,af⟩
  ·obtain rfl:=af.eH;exact⟨a.eval y,by simp[aW,asBool,aa],lY a2 y⟩
  ·obtain rfl:=af.eH;exact⟨a.eval z,by simp[aW,asBool,aa],lY a2 z⟩
 ·exact h.cc.elim
theorem aon {i:Nat}(a2:dB m n F a):jD aS m w (Instr.extract (a.eval x) i) (RV x i F):=by
 intro v h;unfold RV at h;have aW:=lY a2 x;split at h
 ·rename_i l aZ;rw[aZ] at aW;obtain⟨vs,aL,af⟩:=aW;split at h
  ·rename_i p bF;obtain rfl:=h.eH;obtain⟨u,ax,a8⟩:=af.get bF;exact⟨u,by simp[aL,Instr.extract,show vs[i]?=some u by simpa using ax],a8⟩
  ·exact h.cc.elim
 ·exact h.cc.elim
theorem aM8 (a2:dB m n F a):jD aS m w (Op.unary .not (a.eval x)) (m_ x ame F):=by
 intro v h;obtain⟨c,an,h⟩:=uQ a2 h;cases c with
 |bool b=>
  obtain rfl:=i_ h;have an:a.eval x=.bool b:=an;exact⟨.bool (!b),by simp[an,Op.unary],rfl⟩
 |_=>exact h.cc.elim
theorem aM7 (a2:dB m n F a):jD aS m w (Op.unary .neg (a.eval x)) (m_ x amd F):=by
 intro v h;obtain⟨c,an,h⟩:=uQ a2 h;cases c with
 |int k i=>
  obtain rfl:=i_ h;have an:a.eval x=.int k i.1:=an;exact⟨.int k (k.wrap (0-i.1)),by simp[an,Op.unary,Op.intArith],rfl⟩
 |_=>exact h.cc.elim
theorem aM9 (a2:dB m n F a):jD aS m w (Op.unary .xor (a.eval x)) (m_ x amf F):=by
 intro v h;obtain⟨c,an,h⟩:=uQ a2 h;cases c with
 |int k i=>
  obtain rfl:=i_ h;have an:a.eval x=.int k i.1:=an;exact⟨.int k (DS i).1,by simp[an,Op.unary,Op.intBits,DS,bc.w],rfl⟩
 |_=>exact h.cc.elim
theorem auh (a2:dB m n F a){o:Oper}(bX:o.op=.nilCheck x)(h:cU (m_ x adN F) v):∃ej,(execOp a.eval o).run aS w=.ok (.value ej) w/\en m v ej:=by
 obtain⟨c,an,h⟩:=uQ a2 h;cases c with
 |ptr p=>cases p with
  |none=>exact h.cc.elim
  |some p=>
   obtain rfl:=i_ h;obtain⟨q,ay,aW⟩:=id an;exact⟨a.eval x,by simp[execOp,bX,aW],an⟩
 |cH t' jn o=>
  obtain rfl:=i_ h;obtain⟨b,r2,aW,_⟩:=id an;exact⟨a.eval x,by simp[execOp,bX,aW],an⟩
 |jW yW k sz f=>
  obtain rfl:=i_ h;obtain⟨b,_,_,_,aW⟩:=id an;exact⟨a.eval x,by simp[execOp,bX,aW],an⟩
 |fn f us vs=>
  obtain rfl:=i_ h;obtain⟨us,vs,aW,_⟩:=id an;exact⟨a.eval x,by simp[execOp,bX,aW],an⟩
 |_=>exact h.cc.elim
theorem anQ {s d:TypeId}{k:IntKind}{ds:TypeDesc}(b6:fx aS cw)(a2:dB m n F a)(aP:under cw s=some ds)(bg:under cw d=some (.int k)):jD aS m w (Go.convert s d (a.eval x)) (m_ x (Y3 k) F):=by
 intro v h;obtain⟨c,an,h⟩:=uQ a2 h;cases c with
 |int cv i=>
  obtain rfl:=i_ h;have an:a.eval x=.int cv i.1:=an;exact⟨.int k (k.wrap i.1),by simp[an,Go.convert,hO b6 aP,hO b6 bg,Conv.intToInt],rfl⟩
 |_=>exact h.cc.elim
theorem anT {s d:TypeId}(b6:fx aS cw)(a2:dB m n F a)(aP:under cw s=some .string)(bg:under cw d=some .string):jD aS m w (Go.convert s d (a.eval x)) (m_ x Y4 F):=by
 intro v h;obtain⟨c,an,h⟩:=uQ a2 h;cases c with
 |str eA=>
  obtain rfl:=i_ h;have aW:a.eval x=.string eA.1:=an;exact⟨.string eA.1,by simp[aW,Go.convert,hO b6 aP,hO b6 bg],rfl⟩
 |_=>exact h.cc.elim
theorem axE {c:P}{u:Value}{k off:Nat}{pI:TypeId}(b6:fx aS cw)(cm:bC.isAgg cw pI=some true)(aP:size cw pI=some k)(an:mU m c u)(h:cU (T5 k off c) v):∃cs,u=.agg cs/\∃e7,(Go.part pI cs off).run aS w=.ok e7 w/\en m v e7:=by
 cases c with
 |agg l=>
  obtain⟨r,aO,h⟩:=gT h;obtain rfl:=h.eH;obtain⟨rfl,_⟩:=I9 aO;obtain⟨cs,rfl,af⟩:=an;refine⟨cs,rfl,.agg (cs.extract off (off+k)),by simp only[part,iI,jT,jq,qC b6 cm,mf b6 aP,if_true],_,rfl,?_⟩;have:=(af.drop off).take k;simpa using this
 |c _=>exact h.cc.elim
theorem axF {c:P}{u:Value}{off:Nat}{pI:TypeId}(b6:fx aS cw)(cm:bC.isAgg cw pI=some false)(an:mU m c u)(h:cU (T6 off c) v):∃cs,u=.agg cs/\∃e7,(Go.part pI cs off).run aS w=.ok e7 w/\en m v e7:=by
 cases c with
 |agg l=>
  obtain⟨r,aO,h⟩:=K2 h;obtain rfl:=i_ h;obtain⟨cs,rfl,af⟩:=an;obtain⟨u,a8,cy⟩:=af.get aO;rw[Array.getElem?_toList] at a8;exact⟨cs,rfl,u,by simp only[part,iI,jT,jq,qC b6 cm,Bool.false_eq_true,if_false,a8],cy⟩
 |c _=>exact h.cc.elim
theorem aow {f pI off k:Nat}(b6:fx aS cw)(a2:dB m n F a)(bB:wO cw t f=some (pI,off))(cm:bC.isAgg cw pI=some true)(aP:size cw pI=some k):jD aS m w (Instr.field t (a.eval x) f) (uS x (T5 k off) F):=by
 intro v h;obtain⟨c,an,aU⟩:=LU a2 h;unfold wO at bB;split at bB
 ·rename_i fs hu;split at bB
  ·rename_i g Dq;cases bB;obtain⟨cs,aW,e7,aa,af⟩:=axE (aS:=aS) (w:=w) b6 cm aP an aU;exact⟨e7,by simp only[aW,Instr.field,asAgg,iI,jT,jq,hO b6 hu,Dq,aa],af⟩
  ·cases bB
 ·cases bB
theorem aox {f pI off:Nat}(b6:fx aS cw)(a2:dB m n F a)(bB:wO cw t f=some (pI,off))(cm:bC.isAgg cw pI=some false):jD aS m w (Instr.field t (a.eval x) f) (uS x (T6 off) F):=by
 intro v h;obtain⟨c,an,aU⟩:=LU a2 h;unfold wO at bB;split at bB
 ·rename_i fs hu;split at bB
  ·rename_i g Dq;cases bB;obtain⟨cs,aW,e7,aa,af⟩:=axF (aS:=aS) (w:=w) b6 cm an aU;exact⟨e7,by simp only[aW,Instr.field,asAgg,iI,jT,jq,hO b6 hu,Dq,aa],af⟩
  ·cases bB
 ·cases bB
theorem QZ (a2:dB m n F a):∀(l:List Operand){r:List (Nat×Nat)},CC F l=some r->cL (qK m) r (l.map a.eval)
 |[],r,h=>by cases h;trivial
 |g::l,r,h=>by
  rw[CC] at h;split at h
  ·rename_i p bF;split at h
   ·rename_i q ay;cases h;exact⟨qa bF (lY a2 g),QZ a2 l ay⟩
   ·cases h
  ·cases h
theorem asl {f:Nat}{first cap:Array Operand}(a2:dB m n F a):jD aS m w (Instr.makeFunc (.func f) (first.map a.eval) (cap.map a.eval)) (acg f first.toList cap.toList F):=by
 intro v h;obtain⟨us,hu,h⟩:=gT h;obtain⟨vs,aL,h⟩:=gT h;obtain rfl:=i_ h;exact⟨.func (.func f) (first.map a.eval) (cap.map a.eval),by simp[Instr.makeFunc],_,_,rfl,by simpa using QZ a2 _ hu,by simpa using QZ a2 _ aL⟩
end
theorem ZL (off:Nat):∀(vs:List Value)(i:Nat)(cur:Array Value),(vs.zipIdx i).foldl (λcs (x:Value×Nat)=>cs.setIfInBounds (off+x.2) x.1) cur=ib cur (off+i) vs
 |[],_,_=>rfl
 |v::vs,i,cur=>by
  rw[List.zipIdx_cons,List.foldl_cons,ZL off vs (i+1),ib];rfl
section
variable{aS:Program}{w:World}{m m':M}{σ bb:bV}{F:Fr}{a:Go.Act}{n:Nat}{v:V}{α:Type}{t:TypeId}{x y z:Operand}{cw:T TypeInfo}
theorem axD {cs l:List C}{cur vs:Array Value}{off:Nat}(aa:cL (dv m) cs cur.toList)(af:cL (dv m) l vs.toList)(hle:off+l.length<=cs.length):
 cL (dv m) (rP cs off l) (ib cur off vs.toList).toList:=by
 have kT:=aa.length;have nO:=af.length;simp only[Array.length_toList] at kT;refine cL.LQ (by rw[TW hle,kT,Array.length_toList,mQ]) λj c u aq hu=>?_;rw[TV hle] at aq;rw[Array.getElem?_toList,oz _ _ _ _ ab] at hu;by_cases lU:off<=j/\j<off+l.length
 ·rw[if_pos lU] at aq;rw[if_pos ab] at hu;obtain⟨e7,aG,aN⟩:=af.get aq;rw[hu] at aG;cases aG;exact aN
 ·rw[if_neg lU] at aq;rw[if_neg ab] at hu;obtain⟨e7,aG,aN⟩:=aa.get aq;rw[Array.getElem?_toList,hu] at aG;cases aG;exact aN
theorem Jm (a2:dB m n F a)(place:Nat->Option (Nat×Nat)):∀(ck:List (Nat×Operand)){cs l:List C}{cur:Array Value},cL (dv m) cs cur.toList->yg place F ck cs=some l->
 ∃cells,Instr.fill place cur (ck.map λp=>(p.1,a.eval p.2))=some cells/\cL (dv m) l cells.toList
 |[],cs,l,cur,aa,h=>by cases h;exact⟨cur,rfl,aa⟩
 |p::ck,cs,l,cur,aa,h=>by
  simp only[yg] at h;split at h
  ·cases h
  ·rename_i u hu;have hu:=CF hu (lY a2 p.2);split at h
   ·cases h
   ·rename_i pl w7;split at h
    ·rename_i af;split at h
     ·rename_i ax;have af:=gB af;have ax:=Nat.le_of_ble_eq_true ax;have JS:=aa.length;have DD:=hu.cells.length;simp only[Array.length_toList] at JS DD;obtain⟨cells,aG,aN⟩:=Jm a2 place ck (axD aa hu.cells ab) h;refine⟨cells,?_,aN⟩;rw[List.map_cons,Instr.fill];simp only[w7];have aA:((a.eval p.2).cells.size≠pl.2||pl.1+(a.eval p.2).cells.size>cur.size)=false:=by
       simp only[ne_eq,Bool.or_eq_false_iff,decide_eq_false_iff_not,Decidable.not_not,gt_iff_lt,Nat.not_lt];omega
      rw[aA];simp only[Bool.false_eq_true,if_false];rw[<-Array.foldl_toList,Array.toList_zipIdx,ZL pl.1 _ 0,cq];exact aG
     ·cases h
    ·cases h
theorem agi (b6:fx aS cw):∀{fs:List Field}{pl:List (Nat×Nat)},E4 cw fs=some pl->
 (fs.mapM (m:=Sem) λf=>do pure (f.offset,<-sizeOf f.type)).run aS w=.ok pl w
 |[],pl,h=>by cases h;simp
 |f::fs,pl,h=>by
  simp only[E4] at h;split at h
  ·rename_i k aU;split at h
   ·rename_i r aO;cases h;have cj:=agi b6 aO;simp only[List.mapM_cons,iI,mf b6 aU,jq,jT,cj]
   ·cases h
  ·cases h
theorem aMs {α β:Type}(f:α->Sem β)(xs:Array α){l:List β}(h:(xs.toList.mapM f).run aS w=.ok l w):(xs.mapM f).run aS w=.ok l.toArray w:=by
 rw[Array.mapM_eq_mapM_toList];simp[h]
theorem ant {fs:Array Field}{pl:List (Nat×Nat)}{ck:Array (Nat×Operand)}{p1:P}(b6:fx aS cw)(a2:dB m n F a)(ai:zero cw t=some p1)(hu:under cw t=some (.struct fs))(bF:E4 cw fs.toList=some pl):
 jD aS m w (Instr.build t (ck.map λ(i,x)=>(i,a.eval x))) (Ab (λi=>pl[i]?) p1.cells ck.toList F):=by
 intro v h;unfold Ab at h;split at h
 ·rename_i cs lh;obtain rfl:=h.eH;obtain⟨gK,aa,af⟩:=Qb b6 (w:=w) m ai;obtain⟨cells,ax,a8⟩:=Jm a2 _ _ af.cells lh;refine⟨.agg cells,?_,cells,rfl,a8⟩;have cy:=aMs (aS:=aS) (w:=w) _ fs (agi b6 bF);have dm:Instr.fill (pl.toArray[·]?) gK.cells (ck.map λ(i,x)=>(i,a.eval x)).toList=some cells:=by
   rw[<-ax,Array.toList_map];congr 1;funext i;simp
  simp only[Instr.build,iI,aa,jq,hO b6 hu,cy,dm,jT]
 ·exact h.cc.elim
theorem ans {e k len:Nat}{ck:Array (Nat×Operand)}{p1:P}(b6:fx aS cw)(a2:dB m n F a)(ai:zero cw t=some p1)(hu:under cw t=some (.array len e))(aP:size cw e=some k):
 jD aS m w (Instr.build t (ck.map λ(i,x)=>(i,a.eval x))) (Ab (L7 k) p1.cells ck.toList F):=by
 intro v h;unfold Ab at h;split at h
 ·rename_i cs lh;obtain rfl:=h.eH;obtain⟨gK,aa,af⟩:=Qb b6 (w:=w) m ai;obtain⟨cells,ax,a8⟩:=Jm a2 _ _ af.cells lh;refine⟨.agg cells,?_,cells,rfl,a8⟩;have dm:Instr.fill (λi=>some (i*k,k)) gK.cells (ck.map λ(i,x)=>(i,a.eval x)).toList=some cells:=by
   rw[<-ax,Array.toList_map];rfl
  simp only[Instr.build,iI,aa,jq,hO b6 hu,mf b6 aP,dm,jT]
 ·exact h.cc.elim
theorem alJ:∀(us:List UInt8)(s:ByteArray),
 (forIn (m:=Sem) (us.map λu=>Value.int .u8 (u.toNat:Int)) s λc r=>do
  match c with
  |.int .u8 n=>pure (ForInStep.yield (r.push (UInt8.ofNat n.toNat)))
  |_=>do
   stuck "bytesToString: byte expected"
   pure (ForInStep.yield r)).run aS w=.ok (s++⟨us.toArray⟩) w
 |[],s=>by
  simp only[List.map_nil,List.forIn_nil,jT];congr 1;apply ByteArray.ext;simp[ByteArray.data_append]
 |u::us,s=>by
  simp only[List.map_cons,List.forIn_cons,iI,jT,jq];rw[alJ us];congr 1;apply ByteArray.ext;simp[ByteArray.data_append]
end
def nf {α:Type}(l:L α)(dx n:Nat):L α:=⟨(l.1.drop dx).take n,by have:=l.2;simp;omega⟩
def cD {α:Type}(l:List α):L α:=if h:l.length<=140737488355328 then⟨l,h⟩ else L.nil
theorem fI {α:Type}{l:List α}(h:l.length<=140737488355328):(cD l).1=l:=by simp[cD,h]
def elemOf (cw:T TypeInfo)(e:Nat):Option (Nat×Nat×List C):=match size cw e with
 |none=>none
 |some sz=>match kL cw e with
  |none=>none
  |some eZ=>match zero cw e with
   |none=>none
   |some z=>match Nat.ble 1 sz&&Nat.ble eZ 1048576&&Nat.beq z.cells.length sz with
    |true=>some (sz,eZ,z.cells)
    |false=>none
def AQ:C->Bool
 |.dt=>true
 |_=>false
def z1:List Bool->List C->Bool
 |_,[]=>true
 |a1,c::cs=>(bif a1.headD false then AQ c else true)&&z1 a1.tail cs
def IM (a1:List Bool)(sz:Nat):Nat->List C->Bool
 |0,_=>true
 |k+1,cs=>z1 a1 (cs.take sz)&&IM a1 sz k (cs.drop sz)
def uh:List Bool->List Bool->List Bool
 |a::l,b::r=>(a&&b)::uh l r
 |_,_=>[]
def Ej (sz:Nat):Nat->List C->List Bool
 |0,_=>[]
 |1,cs=>(cs.take sz).map AQ
 |k+2,cs=>uh ((cs.take sz).map AQ) (Ej sz (k+1) (cs.drop sz))
def zn (b:B)(c:C)(σ:bV):Q R:=.ret (.val (.p (.c c)) ⟨σ.heap.put σ.next (some b),σ.next+1⟩)
def YM (t:dh)(x:P):Q V:=Q.lift (mM t x.cells) λy=>iZ (.cH t y 0)
def YN (x:P)(σ:bV):Q R:=zn (.box x.cells) (.ptr (some (σ.next,0))) σ
def Ia (t:dh)(len sz:Nat)(z:List C)(l:List (Nat×Operand))(F:Fr):Option (List C×List (D t)):=match Nat.beq t.length sz&&Nat.ble (len*sz) 100000 with
 |true=>match yg (L7 sz) F l (rl z len) with
  |some cs=>match x8 t len cs with
   |some xs=>some (cs,xs)
   |none=>none
  |none=>none
 |false=>none
def alU (t:dh)(len sz:Nat)(z:List C)(l:List (Nat×Operand))(F:Fr):Q V:=Q.lift (Ia t len sz z l F) λy=>iZ (.row t (cD y.2) (.nl (Ej sz len y.1) sz))
def Xg (t:dh)(len sz:Nat)(z:List C)(l:List (Nat×Operand))(F:Fr)(σ:bV):Q R:=Q.lift (Ia t len sz z l F) λy=>zn (.bG t) (.row t (cD y.2) (.dW σ.next [] 0)) σ
def Xf (a1:List Bool)(t:dh)(len sz:Nat)(z:List C)(l:List (Nat×Operand))(F:Fr)(σ:bV):Q R:=Q.lift (Ia t len sz z l F) λy=>match IM a1 sz len y.1 with
 |true=>zn (.arr t a1 (cD y.2) none 0) (.aR σ.next len) σ
 |false=>.fail
def zb (a1:List Bool)(t:dh)(sz eZ:Nat)(z:List C)(c:C)(σ:bV):Q R:=match Nat.beq t.length sz&&z1 a1 z with
 |true=>match mM t z with
  |some e=>match c with
   |.int .i64 n=>.bind (q9 eZ n e) λl=>zn (.arr t a1 l none 0) (.aR σ.next l.1.length) σ
   |_=>.fail
  |none=>.fail
 |false=>.fail
def s6 (s:ee):Option (L (D [.int .u8])):=if h:s.1.size<=140737488355328 then some ⟨s.1.data.toList.map λu=>(⟨u.toNat,by have:=u.toNat_lt;simp[IntKind.min,IntKind.max,IntKind.bits,IntKind.signed];omega⟩,()),by simpa using h⟩ else none
def Qm (c:C)(σ:bV):Q R:=match c with
 |.str s=>.bind (s6 s) λl=>zn (.arr [.int .u8] [] l none 0) (.aR σ.next l.1.length) σ
 |_=>.fail
def CN (c:C)(σ:bV):Q R:=match c with
 |.row t l (.dW k nl sz)=>og σ k λb=>match b with
  |.bG t'=>match kB t' t with
   |true=>match Nat.beq l.1.length 0 with
    |true=>.fail
    |false=>.ret (.val (.p (.c (.row t l (.dW k nl sz)))) σ)
   |false=>.fail
  |_=>.fail
 |_=>.fail
def QL (aS:Program)(m:M)(σ:bV)(w:World)(s:Sem Value)(q:Q V):Prop:=∀v,cU q v->∃m' ej w',Step m σ w m' σ w'/\s.run aS w=.ok ej w'/\bM m' σ w'/\en m' v ej
def mT (aS:Program)(m:M)(σ:bV)(w:World)(s:Sem Value):R->Prop
 |.val v bb=>∃m' ej w',Step m σ w m' bb w'/\s.run aS w=.ok ej w'/\bM m' bb w'/\en m' v ej
 |_=>False
section
variable{aS:Program}{w:World}{m m':M}{σ bb:bV}{F:Fr}{a:Go.Act}{n:Nat}{v:V}{α:Type}{t:TypeId}{x y z:Operand}{cw:T TypeInfo}{r:R}
theorem mT.R6 {s:Sem Value}{aR:Nat->Value}(h:mT aS m σ w s r):Good aS m σ w aR (do pure (.value (<-s))) r:=by
 cases r with
 |val v bb=>
  obtain⟨m',ej,w',aa,af,ax,a8⟩:=h;exact⟨m',ej,w',aa,by simp[af],ax,a8⟩
 |_=>exact h.elim
theorem Step.put {m':M}{b:B}{w':World}(h:bM m σ w)(e:jR σ.next m m')(k:hJ m σ w m' ⟨σ.heap.put σ.next (some b),σ.next+1⟩ w'):Step m σ w m' ⟨σ.heap.put σ.next (some b),σ.next+1⟩ w':=
 ⟨e,k,Nat.le_succ _,λi cs aj _=>(bC.T.eP _ _ λe=>by subst e;rw[(h.fresh _ (Nat.le_refl _)).2.2.2] at aj;cases aj).trans aj⟩
structure xO (aS:Program)(cw:T TypeInfo)(e sz eZ:Nat)(z:List C):Prop where
  size:bC.size cw e=some sz
  pos:0<sz
  info:∃i gK,aS.info? e=some i/\i.size=sz/\i.bytes=eZ/\i.bytes<=1048576/\i.zero=some gK/\(∀m,cL (dv m) z gK.cells.toList)
  len:z.length=sz
theorem yb (b6:fx aS cw){e:Nat}{q:Nat×Nat×List C}(h:elemOf cw e=some q):xO aS cw e q.1 q.2.1 q.2.2:=by
 unfold elemOf at h;split at h
 ·cases h
 ·rename_i sz fA;split at h
  ·cases h
  ·rename_i eZ qm;split at h
   ·cases h
   ·rename_i z ai;split at h
    ·rename_i ah;cases h;simp only[gR] at ah;obtain⟨⟨aa,af⟩,ax⟩:=ah;have aa:=Nat.le_of_ble_eq_true aa;have af:=Nat.le_of_ble_eq_true af;have ax:=gB ax;refine⟨fA,aa,?_,ax⟩;unfold bC.size at fA;unfold kL at qm;unfold zero at ai;split at fA
     ·rename_i i aj;rw[aj] at qm ai;cases fA;cases qm;simp only at ai;split at ai
      ·rename_i gK arc;exact⟨i,gK,b6.info _ _ aj,rfl,rfl,af,arc,λm=>(TO m ai).cells⟩
      ·cases ai
     ·cases fA
    ·cases h
theorem P_ (z:List C):∀n,(rl z n).length=n*z.length
 |0=>by simp[rl]
 |n+1=>by simp[rl,P_ z n,iR,Nat.add_comm]
theorem alu (z:List C):∀(n j:Nat),j<n*z.length->(rl z n)[j]?=z[j%z.length]?
 |0,j,h=>by simp at h
 |n+1,j,h=>by
  rw[rl];by_cases aq:j<z.length
  ·rw[ml aq,Nat.mod_eq_of_lt aq]
  ·rw[iR,Nat.one_mul] at h;rw[mm ab,alu z n _ ab];congr 1;rw[<-Nat.mod_eq_sub_mod ab]
theorem amz {z:List C}{gK:Array Value}{sz k:Nat}(h:cL (dv m) z gK.toList)(aP:z.length=sz):cL (dv m) (rl z k) ((Array.range (k*sz)).map (λi=>gK[i%gK.size]!)).toList:=by
 have aZ:=h.length;simp only[Array.length_toList] at aZ;subst aP;refine cL.LQ (by simp[P_]) λj c u aq hu=>?_;have bn:j<k*z.length:=by
  rw[<-P_];exact(eu.1 aq).1
 rw[alu z k j bn] at aq;obtain⟨e7,aG,aN⟩:=h.get aq;have aaQ:j%z.length<gK.size:=by
  rw[<-aZ];refine Nat.mod_lt _ ?_;rcases Nat.eq_zero_or_pos z.length with a6|a6
  ·rw[a6] at bn;simp at bn
  ·exact a6
 have:u=e7:=by
  rw[Array.getElem?_toList] at hu aG;rw[Array.getElem?_map,Array.getElem?_range,if_pos bn] at hu;simp only[Option.map_some,Option.some.injEq] at hu;rw[<-hu,<-aZ];rw[Array.getElem?_eq_getElem aaQ] at aG;injection aG with aG
  rw[<-aG,getElem!_pos gK _ aaQ]
 rw[this];exact aN
theorem Ru {t:dh}:∀{k:Nat}{cs:List C}{xs:List (D t)}{vs:List Value},x8 t k cs=some xs->cL (dv m) cs vs->cs.length=k*t.length->xs.length=k/\jo m.fz t xs vs
 |0,cs,xs,vs,h,an,aZ=>by
  cases h;have:cs=[]:=pw (by simpa using aZ);subst this;cases vs with
  |nil=>exact⟨rfl,rfl⟩
  |cons v vs=>exact an.elim
 |k+1,cs,xs,vs,h,an,aZ=>by
  rw[x8] at h;split at h
  ·rename_i x aW;split at h
   ·rename_i r aO;cases h;rw[iR,Nat.one_mul] at aZ;obtain⟨aa,af⟩:=Ru aO (an.drop t.length) (by rw[List.length_drop];omega);exact⟨by simp[aa],vs.take t.length,vs.drop t.length,(List.take_append_drop _ _).symm,Zd aW (an.take t.length),af⟩
   ·cases h
  ·cases h
theorem amb {t:dh}:∀{a1:List Bool}{cs:List C}{x:D t}{vs:List Value},mM t cs=some x->cL (dv m) cs vs->z1 a1 cs=true->oO m.fz t a1 x vs:=by
 induction t with
 |nil=>
  intro a1 cs x vs h an _;cases cs with
  |nil=>cases vs with
   |nil=>rfl
   |cons v vs=>exact an.elim
  |cons c cs=>rw[I_] at h;cases h
 |cons l t cj=>
  intro a1 cs x vs h an cf;cases cs with
  |nil=>rw[CV] at h;cases h
  |cons c cs=>cases vs with
   |nil=>exact an.elim
   |cons v vs=>
    obtain⟨aa,af⟩:=CU h;rw[z1,gR] at cf;refine⟨v,vs,rfl,CT aa an.1,λah t' _=>?_,cj af an.2 cf.2⟩;have cf:=cf.1;rw[ah] at cf;cases c with
    |dt=>exact an.1
    |_=>cases cf
theorem Zc {t:dh}{a1:List Bool}:∀{k:Nat}{cs:List C}{xs:List (D t)}{vs:List Value},x8 t k cs=some xs->cL (dv m) cs vs->cs.length=k*t.length->IM a1 t.length k cs=true->xs.length=k/\j6 m.fz t a1 xs vs
 |0,cs,xs,vs,h,an,aZ,_=>by
  cases h;have:cs=[]:=pw (by simpa using aZ);subst this;cases vs with
  |nil=>exact⟨rfl,rfl⟩
  |cons v vs=>exact an.elim
 |k+1,cs,xs,vs,h,an,aZ,cf=>by
  rw[x8] at h;rw[IM,gR] at cf;split at h
  ·rename_i x aW;split at h
   ·rename_i r aO;cases h;rw[iR,Nat.one_mul] at aZ;obtain⟨aa,af⟩:=Zc aO (an.drop t.length) (by rw[List.length_drop];omega) cf.2;exact⟨by simp[aa],vs.take t.length,vs.drop t.length,(List.take_append_drop _ _).symm,amb aW (an.take t.length) cf.1,af⟩
   ·cases h
  ·cases h
theorem amA {t:dh}{a1:List Bool}{z:List C}{e:D t}(ai:mM t z=some e)(cf:z1 a1 z=true):∀{k:Nat}{vs:List Value},cL (dv m) (rl z k) vs->j6 m.fz t a1 (List.replicate k e) vs
 |0,vs,h=>by
  cases vs with
  |nil=>rfl
  |cons v vs=>exact h.elim
 |k+1,vs,h=>by
  rw[rl] at h;have aa:=h.take z.length;have af:=h.drop z.length;rw[List.take_left] at aa;rw[List.drop_left] at af;exact⟨vs.take z.length,vs.drop z.length,(List.take_append_drop _ _).symm,amb ai aa cf,amA ai cf af⟩
theorem anr (a2:dB m n F a)(bf:bM m σ w)(h:cU (uS x (λy=>YN y σ) F) r):mT aS m σ w (Instr.box t (a.eval x)) r:=by
 obtain⟨c,an,h⟩:=LU a2 h;obtain rfl:=h.eH;obtain⟨ax,a8⟩:=bf.adE (ty:=t) an.cells;have e:=M.RS (m:=m) (r:=w.heap.size) (bf.fresh σ.next (Nat.le_refl _)).1;exact⟨_,.pointer (some ⟨w.heap.size,0,none⟩),_,.put bf e a8,by simp[Instr.box,newVar,Go.newRow,newObj,Sem.run],ax,w.heap.size,by simp[M.jE],rfl⟩
theorem Step.same {m':M}{w':World}(e:jR σ.next m m')(k:hJ m σ w m' σ w'):Step m σ w m' σ w':=⟨e,k,Nat.le_refl _,λ_ _ h _=>h⟩
theorem anq {ty:dh}(a2:dB m n F a)(bf:bM m σ w):QL aS m σ w (Instr.box t (a.eval x)) (uS x (YM ty) F):=by
 intro v h;obtain⟨c,an,h⟩:=LU a2 h;obtain⟨y,b7,h⟩:=gT h;obtain rfl:=i_ h;obtain⟨e,aa,af⟩:=bf.adG (cur:=(a.eval x).cells) (vs:=(a.eval x).cells.toList) (ty:=t) λj v aq=>by simpa using aq
 refine⟨_,.pointer (some ⟨w.heap.size,0,none⟩),_,.same ⟨e,λ_ _=>rfl⟩ af,by simp[Instr.box,newVar,Go.newRow,newObj,Sem.run],aa,w.heap.size,0,rfl,?_⟩;exact Rw (m:=m.lN w.heap.size (a.eval x).cells.toList) b7 (an.cells.imp λ_ _=>dv.ext e) λj v aq=>by simpa[M.lN] using aq
theorem Rk {e len sz eZ:Nat}{ty:dh}{nX:List C}{ck:Array (Nat×Operand)}{q:List C×List (D ty)}(b6:fx aS cw)(a2:dB m n F a)(hu:under cw t=some (.slice e))(he:xO aS cw e sz eZ nX)(h:Ia ty len sz nX ck.toList F=some q):ty.length=sz/\len<=100000/\q.1.length=len*sz/\x8 ty len q.1=some q.2/\
  ∃cells,(Instr.buildSlice t len (ck.map λ(i,x)=>(i,a.eval x))).run aS w=.ok (.slice (some ⟨w.heap.size,0,none⟩) len len) (w.alloc (.cells cells e))/\cL (dv m) q.1 cells.toList/\cells.size=len*sz:=by
 unfold Ia at h;split at h
 ·rename_i ah;simp only[gR] at ah;have aC:=gB ah.1;have aV:=Nat.le_of_ble_eq_true ah.2;split at h
  ·rename_i cs lh;split at h
   ·rename_i xs aq7;cases h;obtain⟨i,gK,aj,aa,af,Dd,ax,a8⟩:=he.info;have SS:(zeroValue e).run aS w=.ok gK w:=by simp[zeroValue,typeInfo,aj,ax]
    have ai:cL (dv m) (rl nX len) ((Array.range (len*sz)).map (λi=>(if len*sz=0 then#[] else gK.cells)[i%(if len*sz=0 then(#[]:Array Value) else gK.cells).size]!)).toList:=by
     by_cases a6:len*sz=0
     ·have:len=0:=by
       rcases Nat.mul_eq_zero.1 a6 with h|h
       ·exact h
       ·exact absurd he.pos ab
      subst this;simp[rl];trivial
     ·simp only[if_neg a6];exact amz (a8 m) he.len
    obtain⟨cells,aG,aN⟩:=Jm a2 _ _ ai lh;have hlen:cs.length=len*sz:=by
     have key:∀(l:List (Nat×Operand)){I7 cs:List C},yg (L7 sz) F l I7=some cs->cs.length=I7.length:=by
      intro l;induction l with
      |nil=>intro I7 cs h;cases h;rfl
      |cons p l cj=>
       intro I7 cs h;simp only[yg] at h;split at h
       ·cases h
       ·split at h
        ·cases h
        ·split at h
         ·split at h
          ·rename_i hle;rw[cj h,TW (by have:=Nat.le_of_ble_eq_true hle;rename_i tl _;have:=gB tl;omega)]
          ·cases h
         ·cases h
     rw[key _ lh,P_,he.len]
    have lW:=he.pos;have aOq:len<=len*sz:=Nat.le_mul_of_pos_right _ lW;refine⟨aC,ab,hlen,aq7,cells,?_,aN,by rw[<-Array.length_toList,<-aN.length,hlen]⟩;have dm:Instr.fill (λi=>some (i*sz,sz)) ((Array.range (len*sz)).map (λi=>(if len*sz=0 then#[] else gK.cells)[i%(if len*sz=0 then(#[]:Array Value) else gK.cells).size]!)) (ck.map λ(i,x)=>(i,a.eval x)).toList=some cells:=by
     rw[<-aG,Array.toList_map];rfl
    have dL:¬(len*sz>2^24):=by
     have:(2:Nat)^24=16777216:=by decide
     omega
    by_cases a6:len*sz=0
    ·simp only[if_pos a6] at dm;simp only[Instr.buildSlice,iI,hO b6 hu,jq,mf b6 he.size,if_neg dL,if_pos a6,jT,dm,Go.newRow,newObj,Sem.run];rfl
    ·simp only[if_neg a6] at dm;simp only[Instr.buildSlice,iI,hO b6 hu,jq,mf b6 he.size,if_neg dL,if_neg a6,jT,SS,dm,Go.newRow,newObj,Sem.run];rfl
   ·cases h
  ·cases h
 ·cases h
theorem IL:∀{l r:List Bool}{f:Nat},(uh l r)[f]?.getD false=true->l[f]?.getD false=true/\r[f]?.getD false=true
 |[],r,f,h=>by simp[uh] at h
 |a::l,[],f,h=>by simp[uh] at h
 |a::l,b::r,0,h=>by simpa[uh] using h
 |a::l,b::r,f+1,h=>by
  have:=IL (l:=l) (r:=r) (f:=f) (by simpa[uh] using h);simpa using this
theorem abA {c:C}(h:AQ c=true):c=.dt:=by
 cases c<;>first|rfl|cases h
theorem adJ {sz:Nat}:∀{k:Nat}{cs:List C}{f:Nat},(Ej sz k cs)[f]?.getD false=true->f<sz->∀i,i<k->cs[i*sz+f]?=some .dt
 |0,cs,f,h,_,i,aj=>by omega
 |1,cs,f,h,bB,i,aj=>by
  have:i=0:=ab;subst this;rw[Ej] at h;rw[Nat.zero_mul,fW];cases an:cs[f]? with
  |none=>simp[List.getElem?_take,bB,an] at h
  |some c=>simp[List.getElem?_take,bB,an] at h;rw[abA h]
 |k+2,cs,f,h,bB,i,aj=>by
  rw[Ej] at h;obtain⟨aa,af⟩:=IL h;cases i with
  |zero=>
   rw[Nat.zero_mul,fW];cases an:cs[f]? with
   |none=>simp[List.getElem?_take,bB,an] at aa
   |some c=>simp[List.getElem?_take,bB,an] at aa;rw[abA aa]
  |succ i=>
   have:=adJ af bB i ab;rw[List.getElem?_drop] at this;rw[<-this];congr 1;rw[iR];omega
theorem aMM {e len sz eZ:Nat}{ty:dh}{nX:List C}{ck:Array (Nat×Operand)}(b6:fx aS cw)(a2:dB m n F a)(bf:bM m σ w)(hu:under cw t=some (.slice e))(he:xO aS cw e sz eZ nX):
 QL aS m σ w (Instr.buildSlice t len (ck.map λ(i,x)=>(i,a.eval x))) (alU ty len sz nX ck.toList F):=by
 intro v h;obtain⟨q,ay,h⟩:=gT h;obtain rfl:=i_ h;obtain⟨aa,af,ax,a8,cells,cy,dm,dL⟩:=Rk (aS:=aS) (w:=w) b6 a2 hu he ay;obtain⟨aG,aN⟩:=Ru a8 dm (by rw[aa];exact ax);obtain⟨aD,aQ,bO⟩:=bf.adG (cur:=cells) (vs:=cells.toList) (ty:=e) λj v aq=>by simpa using aq
 have aZ:(cD q.2).1=q.2:=fI ab;refine⟨_,_,_,.same ⟨aD,λ_ _=>rfl⟩ bO,cy,aQ,?_,λb o aPp c aL i f aj bB cf=>?_⟩
 rotate_left
 ·cases aL;have an:=adJ cf bB i aj;obtain⟨u,j3,kW⟩:=dm.get an;have kW:u=.slice none 0 0:=kW;simp only[M.lN,if_true];rw[fW,j3,kW]
 have:=Jc (fz:=(m.lN w.heap.size cells.toList).fz) (x:=cD q.2) (b:=w.heap.size) (o:=0) (c:=len) (vs:=cells.toList) (by rw[aZ];exact aN.ext aD.fz) (λj v aq=>by simpa[M.lN] using aq) (by rw[aZ];omega)
 rwa [aZ,aG] at this
theorem aMO {e len sz eZ:Nat}{ty:dh}{nX:List C}{ck:Array (Nat×Operand)}(b6:fx aS cw)(a2:dB m n F a)(bf:bM m σ w)(hu:under cw t=some (.slice e))(he:xO aS cw e sz eZ nX)(h:cU (Xg ty len sz nX ck.toList F σ) r):mT aS m σ w (Instr.buildSlice t len (ck.map λ(i,x)=>(i,a.eval x))) r:=by
 obtain⟨q,ay,h⟩:=gT h;obtain rfl:=h.eH;obtain⟨aa,af,ax,a8,cells,cy,dm,dL⟩:=Rk (aS:=aS) (w:=w) b6 a2 hu he ay;obtain⟨aG,aN⟩:=Ru a8 dm (by rw[aa];exact ax);obtain⟨m',aD,aQ,bO,cP,dP⟩:=bf.adH (t:=ty) (vs:=cells.toList) (n:=len) (c:=len) (cur:=cells) (ty:=e) (by rw[aa,Array.length_toList,dL]) (Nat.le_refl _) (by rw[aa,dL];exact Nat.le_refl _) λj v aq=>by simpa using aq
 have aZ:(cD q.2).1=q.2:=fI ab;refine⟨m',_,_,.put bf aD bO,cy,aQ,?_,cP,n4.none⟩;have:=Jc (fz:=m'.fz) (x:=cD q.2) (b:=w.heap.size) (o:=0) (c:=len) (vs:=cells.toList) (by rw[aZ];exact aN.ext aD.ext.fz) dP (by rw[aZ];omega)
 rwa [aZ,aG] at this
theorem aML {a1:List Bool}{e len sz eZ:Nat}{ty:dh}{nX:List C}{ck:Array (Nat×Operand)}(b6:fx aS cw)(a2:dB m n F a)(bf:bM m σ w)(hu:under cw t=some (.slice e))(he:xO aS cw e sz eZ nX)(h:cU (Xf a1 ty len sz nX ck.toList F σ) r):mT aS m σ w (Instr.buildSlice t len (ck.map λ(i,x)=>(i,a.eval x))) r:=by
 obtain⟨q,ay,h⟩:=gT h;split at h
 ·rename_i cf;obtain rfl:=h.eH;obtain⟨aa,af,ax,a8,cells,cy,dm,dL⟩:=Rk (aS:=aS) (w:=w) b6 a2 hu he ay;subst aa;obtain⟨aG,aN⟩:=Zc a8 dm ax cf;have aZ:(cD q.2).1=q.2:=fI ab;obtain⟨m',aD,aQ,bO,cP⟩:=bf.Tw (0,0) ⟨λ_ _=>by omega,Nat.le_refl _⟩ (t:=ty) (a1:=a1) (l:=cD q.2) (vs:=cells.toList) (c:=len) (cur:=cells) (ty:=e) (by rw[aZ];exact aN) (by rw[aZ];omega) (by rw[dL];exact Nat.le_refl _) λj v aq=>by simpa using aq
  rw[aZ,aG] at cP;exact⟨m',_,_,.put bf aD bO,cy,aQ,_,_,rfl,cP,λ_=>⟨_,rfl⟩,ab⟩
 ·exact h.cc.elim
theorem alz {eZ n:Nat}(h:room eZ n=true):n*eZ<=140737488355328/\n<=1048576000:=by
 simpa[room] using h
theorem acd {a1:List Bool}{e sz eZ:Nat}{ty:dh}{nX:List C}(b6:fx aS cw)(a2:dB m n F a)(bf:bM m σ w)(hu:under cw t=some (.slice e))(he:xO aS cw e sz eZ nX)(h:cU (mC x (zb a1 ty sz eZ nX) F σ) r):mT aS m σ w (Instr.makeSlice t (a.eval x) (a.eval x)) r:=by
 obtain⟨c,an,aa⟩:=A5 a2 h;clear h;unfold zb at aa;split at aa
 ·rename_i ah;simp only[gR] at ah;have pR:=gB ah.1;subst pR;split at aa
  ·rename_i cn q5;cases c with
   |int k uN=>
    cases k with
    |i64=>
     obtain⟨l,aZ,h⟩:=aa.m9;obtain rfl:=h.eH;unfold q9 at aZ;split at aZ
     ·rename_i aO;cases aZ;simp only[gR,decide_eq_true_eq] at aO;obtain⟨fQ,eQ⟩:=alz aO.2;have aW:a.eval x=.int .i64 uN.1:=an;obtain⟨i,gK,aj,aG,aN,Js,bo,cE⟩:=he.info;have SS:(zeroValue e).run aS w=.ok gK w:=by simp[zeroValue,typeInfo,aj,bo]
      obtain⟨k,aU⟩:∃k,uN.1.toNat=k:=⟨_,rfl⟩;have AG:=aO.1;rw[aU] at fQ eQ;have aaW:uN.1=(k:Int):=ab;have ai:cL (dv m) (rl nX k) ((Array.range (k*ty.length)).map (λi=>(if k*ty.length=0 then#[] else gK.cells)[i%(if k*ty.length=0 then(#[]:Array Value) else gK.cells).size]!)).toList:=by
       by_cases a6:k*ty.length=0
       ·have:k=0:=by
         rcases Nat.mul_eq_zero.1 a6 with h|h
         ·exact h
         ·exact absurd he.pos ab
        subst this;simp[rl];trivial
       ·simp only[if_neg a6];exact amz (cE m) he.len
      generalize wW:((Array.range (k*ty.length)).map (λi=>(if k*ty.length=0 then#[] else gK.cells)[i%(if k*ty.length=0 then(#[]:Array Value) else gK.cells).size]!))=cells at ai;have lh:cells.size=k*ty.length:=by rw[<-wW];simp
      have ny:IntKind.i64.wrap (k:Int)=k:=Ce (by simp[IntKind.min,IntKind.max,IntKind.bits,IntKind.signed];omega);have aOh:((i.bytes:Int)*(k:Int))<=140737488355328:=by
       have:((k*eZ:Nat):Int)<=140737488355328:=ab;rw[aN,Int.mul_comm];simpa using this
      have abb:(typeInfo e).run aS w=.ok i w:=by simp[typeInfo,aj]
      have aae:((decide ((k:Int)<0)||decide (((i.bytes:Nat):Int)*(k:Int)>2^48))||decide ((k:Int)<0)||decide ((k:Int)>(k:Int)))=false:=by
       have:(2:Int)^48=281474976710656:=by decide
       simp only[Bool.or_eq_false_iff,decide_eq_false_iff_not];omega
      have Z':(askRoom (k*i.bytes)).run aS w=.ok () w:=by unfold askRoom;split<;>simp
      have DL:(Instr.makeSlice t (a.eval x) (a.eval x)).run aS w=.ok (.slice (some ⟨w.heap.size,0,none⟩) k k) (w.alloc (.cells cells e)):=by
       rw[<-wW];by_cases a6:k*ty.length=0
       ·simp only[Instr.makeSlice,aW,aaW,asInt,asIntOf,iI,jT,jq,hO b6 hu,abb,ny,aae,Bool.false_eq_true,if_false,Int.toNat_natCast,Z',mf b6 he.size,if_pos a6,Go.newRow,newObj,Sem.run];rfl
       ·simp only[Instr.makeSlice,aW,aaW,asInt,asIntOf,iI,jT,jq,hO b6 hu,abb,ny,aae,Bool.false_eq_true,if_false,Int.toNat_natCast,Z',mf b6 he.size,if_neg a6,SS,Go.newRow,newObj,Sem.run];rfl
      obtain⟨m',aD,aQ,bO,cP⟩:=bf.Tw (0,0) ⟨λ_ _=>by omega,Nat.le_refl _⟩ (t:=ty) (a1:=a1) (l:=⟨List.replicate uN.1.toNat cn,by simp;omega⟩) (vs:=cells.toList) (c:=k) (cur:=cells) (ty:=e) (by rw[<-aU] at ai;exact amA q5 ah.2 ai) (by simp[aU]) (by rw[lh];exact Nat.le_refl _) λj v aq=>by simpa using aq
      have an7:m'.bg σ.next=some (.slice (some ⟨w.heap.size,0,none⟩) k k):=by rw[cP];simp[aU]
      refine⟨m',_,_,.put bf aD bO,DL,aQ,some ⟨w.heap.size,0,none⟩,k,?_,an7,λ_=>⟨w.heap.size,rfl⟩,?_⟩
      ·simp[aU]
      ·simp[aU];omega
     ·cases aZ
    |_=>exact aa.cc.elim
   |_=>exact aa.cc.elim
  ·exact aa.cc.elim
 ·exact aa.cc.elim
open bC (iq oC) in
theorem aoL (w:World){r:Nat}{cur:Array Value}{ty:TypeId}{b_:Nat×Nat}(h:w.heap[r]?=some (.cells cur ty b_)):
 w.freeze ⟨r,cur.size,none⟩ 1=iq w r (.cells cur ty (if b_.1==b_.2 then(cur.size,cur.size+1) else(min b_.1 cur.size,max b_.2 (cur.size+1)))):=by
 have bn:r<w.heap.size:=(n7.1 h).1;have cm:w.heap[r]=.cells cur ty b_:=by rw[Array.getElem?_eq_getElem bn] at h;exact eD h
 unfold World.freeze iq;rw[if_neg bk];congr 1;apply Array.ext
 ·simp
 ·intro i aa af;rw[Array.getElem_modify];by_cases aj:r=i
  ·subst aj;simp[cm]
  ·rw[if_neg aj,Array.getElem_setIfInBounds_ne _ aj]
theorem anS {s d e e':TypeId}(b6:fx aS cw)(a2:dB m n F a)(bf:bM m σ w)(aP:under cw s=some (.slice e))(bg:under cw d=some (.slice e'))(SI:s=d)(he:under cw e'=some (.int .u8))(h:cU (mC x CN F σ) r):mT aS m σ w (Go.convert s d (a.eval x)) r:=by
 subst SI;obtain⟨c,an,aa⟩:=A5 a2 h;clear h;unfold CN at aa;split at aa
 ·rename_i t l k nl sz;obtain⟨b,ah,af⟩:=np aa;clear aa;split at af
  ·split at af
   ·rename_i ay;obtain rfl:=kC ay;split at af
    ·exact af.cc.elim
    ·rename_i eJ;obtain rfl:=af.eH;obtain⟨k2,pM,oo⟩:=an;obtain⟨A,cv,c',aG,aN,bo⟩:=bf.live k _ ah;rw[pM] at aG;have aW:a.eval x=.slice A cv c':=eD aG;rcases bo with⟨rfl,rfl,_⟩|⟨q,cur,ty,b_,rfl,cI,dw,fe,_⟩
     ·obtain⟨eW,dA,ed,eX,_⟩:=k2;rw[aW] at ed;cases ed;have a6:l.1.length=0:=ab;rw[a6] at eJ;cases eJ
     ·rw[aW] at pM;have sk:oH cur b_->oH cur (if b_.1==b_.2 then(cur.size,cur.size+1) else(min b_.1 cur.size,max b_.2 (cur.size+1))):=by
       intro⟨f1,f2⟩;split
       ·exact⟨λj aq=>by simp only;omega,Nat.le_succ _⟩
       ·rename_i aA;have aA:b_.1≠b_.2:=by simpa using aA
        have mu:cur.size<=b_.1:=by
         rcases ky b_.1 cur.size with g|g
         ·exact absurd ⟨Nat.le_refl _,ab⟩ (f1 b_.1 g)
         ·exact g
        exact⟨λj aq=>by simp only;omega,by simp only;omega⟩
      obtain⟨ga,dc,fw⟩:=bf.ash ah pM dw sk;have aqU:w.shape? q=some (ty,cur.size):=by unfold World.shape?;rw[dw]
      refine⟨m,a.eval x,_,⟨ga,fw,Nat.le_refl _,λi cs aj bF=>aj⟩,?_,dc,k2,by rw[aW];exact pM,oo⟩;rw[aW];simp[Go.convert,hO b6 bg,hO b6 he,markStringish,aqU];simpa using aoL w dw
   ·exact af.cc.elim
  ·exact af.cc.elim
 ·exact aa.cc.elim
theorem aMU {s d e:TypeId}(b6:fx aS cw)(a2:dB m n F a)(bf:bM m σ w)(aP:under cw s=some .string)(bg:under cw d=some (.slice e))(he:under cw e=some (.int .u8))(h:cU (mC x Qm F σ) r):mT aS m σ w (Go.convert s d (a.eval x)) r:=by
 obtain⟨c,an,aa⟩:=A5 a2 h;clear h;cases c with
 |str eA=>
  obtain⟨l,aZ,h⟩:=aa.m9;obtain rfl:=h.eH;have aW:a.eval x=.string eA.1:=an;have aO:=run_bytes_of_string (P:=aS) w s d e eA.1 (jP b6 aP) (jP b6 bg) (jP b6 he);have mu:=grownCap_ge w eA.1.size 0 e;unfold s6 at aZ;split at aZ
  ·rename_i hle;cases aZ;have rA:=bf.vS (w':=w.drew) ⟨rfl,rfl,rfl,Nat.le_refl _,λ_ _=>rfl⟩;have hlen:∀g:UInt8->D [.int .u8],(eA.1.data.toList.map g).length=eA.1.size:=λg=>by rw[List.length_map,Array.length_toList];rfl
   have apK:(bytesRow eA.1 (grownCap w eA.1.size 0 e)).size=grownCap w eA.1.size 0 e:=by
    unfold bytesRow;have:eA.1.data.size=eA.1.size:=rfl;simp[this];omega
   obtain⟨m',aG,aN,bo,cE⟩:=rA.Tw ((bytesRow eA.1 (grownCap w eA.1.size 0 e)).size,(bytesRow eA.1 (grownCap w eA.1.size 0 e)).size+1) ⟨λj aq=>by simp only;omega,Nat.le_succ _⟩ (t:=[.int .u8]) (a1:=[])
    (l:=⟨eA.1.data.toList.map λu=>((⟨u.toNat,by have:=u.toNat_lt;simp[IntKind.min,IntKind.max,IntKind.bits,IntKind.signed];omega⟩,()):D [.int .u8]),by simpa using hle⟩) (vs:=eA.1.data.toList.map λb=>Value.int .u8 b.toNat)
    (c:=grownCap w eA.1.size 0 e) (cur:=bytesRow eA.1 (grownCap w eA.1.size 0 e)) (ty:=e) (by
     refine j6.afW (λi=>by simp) ?_;show jo m.fz [.int .u8] (List.map _ eA.1.data.toList) (List.map _ eA.1.data.toList);induction eA.1.data.toList with
     |nil=>rfl
     |cons b l cj=>exact⟨[.int .u8 b.toNat],_,rfl,⟨_,[],rfl,by simp only[dQ],rfl⟩,cj⟩) (by
     show(eA.1.data.toList.map _).length<=_;rw[hlen];exact mu) (by rw[apK];simp) (λj v aq=>by
     unfold bytesRow;rw[Array.getElem?_append_left (by
      have:=(eu.1 aq).1;simpa using this)]
     rw[<-Array.getElem?_toList,Array.toList_map];exact aq)
   refine⟨m',_,_,.put bf aG ((hJ.vS (w':=w.drew) bf ⟨rfl,rfl,rfl,Nat.le_refl _,λ_ _=>rfl⟩).trans bo),by rw[aW];exact aO,aN,some ⟨w.heap.size,0,none⟩,grownCap w eA.1.size 0 e,?_,?_,λ_=>⟨_,rfl⟩,?_,?_⟩
   ·show Value.slice _ _ _=.slice _ (eA.1.data.toList.map _).length _;rw[hlen]
   ·rw[cE];show some (Value.slice _ (eA.1.data.toList.map _).length _)=_;rw[hlen];rfl
   ·show(eA.1.data.toList.map _).length<=_;rw[hlen];exact hle
   ·show(eA.1.data.toList.map _).length<=_;rw[hlen];exact mu
  ·cases aZ
 |_=>exact aa.cc.elim
end
def rT (t:dh)(d:C)(σ:bV)(k:L (D t)->List Bool->Q R):Q R:=match d with
 |.dt=>k L.nil (t.map λ_=>true)
 |.u1 id dx n sz=>og σ id λb=>match b with
  |.arr t' a1 l none c7=>if h:kB t' t=true then(match Nat.beq t'.length sz with
   |true=>k (cast (congrArg (λt=>L (D t)) (kC h)) (nf l dx n)) []
   |false=>.fail) else .fail
  |_=>.fail
 |.row t' l oA=>if h:kB t' t=true then k (cast (congrArg (λt=>L (D t)) (kC h)) l) (match oA with
  |.nl a1 sz=>match Nat.beq t'.length sz with
   |true=>a1
   |false=>[]
  |.dW _ a1 sz=>match Nat.beq t'.length sz with
   |true=>a1
   |false=>[]
  |_=>[]) else .fail
 |.aR id n=>og σ id λb=>match b with
  |.arr t' a1 l none c7=>if h:kB t' t=true then k (cast (congrArg (λt=>L (D t)) (kC h)) l) [] else .fail
  |_=>.fail
 |.str s=>if h:kB [.int .u8] t=true then .bind (s6 s) λl=>k (cast (congrArg (λt=>L (D t)) (kC h)) l) [] else .fail
 |_=>.fail
def xZ:List Bool->List Bool->Bool
 |[],_=>true
 |a::a1,dC=>(bif a then dC.headD false else true)&&xZ a1 dC.tail
def z2 (t:dh)(eZ:Nat)(k:Nat)(l:L (D t))(nl:List Bool)(r:L (D t))(dC:List Bool)(σ:bV):Q R:=.bind (c8 eZ l r) λgh=>.ret (.val (.p (.c (.row t gh (.dW σ.next (uh nl dC) t.length)))) ⟨(σ.heap.put k none).put σ.next (some (.bG t)),σ.next+1⟩)
def IN (t:dh)(a1:List Bool)(eZ:Nat)(k:Nat)(l:L (D t))(r:L (D t))(σ:bV):Q R:=.bind (c8 eZ l r) λgh=>.ret (.val (.p (.c (.aR σ.next gh.1.length))) ⟨(σ.heap.put k none).put σ.next (some (.arr t a1 gh none 0)),σ.next+1⟩)
def app (eZ sz:Nat)(ty:Option dh)(jN:Option wo)(c d:C)(σ:bV):Q R:=match c with
 |.dt=>match ty with
  |some t=>match Nat.beq t.length sz with
   |true=>match jN with
    |some (.arr a1)=>rT t d σ λr dC=>match xZ a1 dC with
     |true=>IN t a1 eZ σ.next L.nil r ⟨σ.heap.put σ.next (some (.arr t a1 L.nil none 0)),σ.next+1⟩
     |false=>.fail
    |_=>rT t d σ λr dC=>z2 t eZ σ.next L.nil (t.map λ_=>true) r dC ⟨σ.heap.put σ.next (some (.bG t)),σ.next+1⟩
   |false=>.fail
  |none=>.fail
 |.row t l (.dW k nl al6)=>og σ k λb=>match b with
  |.bG t'=>match kB t' t&&Nat.beq t.length sz with
   |true=>rT t d σ λr dC=>z2 t eZ k l (match Nat.beq t.length al6 with
    |true=>nl
    |false=>[]) r dC σ
   |false=>.fail
  |_=>.fail
 |.row t l (.at_ id c7 n xz f)=>og σ id λb=>match b with
  |.arr t0 a1 xb none j4=>match Nat.beq c7 j4&&Nat.beq t0.length xz&&Nat.beq t.length sz with
   |true=>match t0[f]? with
    |some (.aR t1)=>match kB t1 t with
     |true=>rT t d σ λr dC=>z2 t eZ σ.next l [] r dC ⟨(σ.heap.put id (some (.arr t0 a1 xb (some (n,f)) j4))).put σ.next (some (.bG t)),σ.next+1⟩
     |false=>.fail
    |_=>.fail
   |false=>.fail
  |_=>.fail
 |.aR id n=>og σ id λb=>match b with
  |.arr t a1 l none c7=>match Nat.beq t.length sz with
   |true=>rT t d σ λr dC=>match xZ a1 dC with
    |true=>IN t a1 eZ id l r σ
    |false=>.fail
   |false=>.fail
  |_=>.fail
 |_=>.fail
section
variable{aS:Program}{w:World}{m m':M}{σ bb:bV}{F:Fr}{a:Go.Act}{n:Nat}{v:V}{α:Type}{t:TypeId}{x y z:Operand}{cw:T TypeInfo}{r:R}
theorem z8 (w:World):Below w.heap.size w w.drew:=⟨rfl,rfl,rfl,Nat.le_refl _,λ_ _=>rfl⟩
theorem TS {vs:List Value}(h:∀v∈vs,(∀cs,v≠.agg cs)/\∀cs,v≠.tuple cs):∀u∈vs,u.oneCell'=true:=by
 intro u hu;obtain⟨aa,af⟩:=h u hu;cases u with
 |agg cs=>exact absurd rfl (aa cs)
 |tuple cs=>exact absurd rfl (af cs)
 |_=>rfl
theorem I6 {vs:List Value}(h:∀u∈vs,u.oneCell'=true):∀v∈vs,(∀cs,v≠.agg cs)/\∀cs,v≠.tuple cs:=by
 intro v aL;have:=h v aL;constructor<;>(intro cs an;subst an;simp[Value.oneCell'] at this)
theorem bM.aMQ (bf:bM m σ w){b o:Nat}{vs:List Value}(h:Cells m.fz b o vs):∀(j:Nat) u,vs[j]?=some u->w.cell? ⟨b,o+j,none⟩=some u:=λj u hu=>by
 obtain⟨cur,ty,b_,aa,af⟩:=bf.stay _ _ _ (h j u hu);rw[bC.CM aa,af]
theorem aoC {fz:Nat->List Value}{t:dh}{a1:List Bool}:∀{l:List (D t)}{vs:List Value},jo fz t l vs->(∀i f,i<l.length->f<t.length->a1[f]?.getD false=true->vs[i*t.length+f]?=some (.slice none 0 0))->j6 fz t a1 l vs:=by
 have one:∀{t:List eL}{a1:List Bool}{x:D t}{vs:List Value},j5 fz t x vs->(∀f,f<t.length->a1[f]?.getD false=true->vs[f]?=some (.slice none 0 0))->oO fz t a1 x vs:=by
  intro t;induction t with
  |nil=>intro a1 x vs h _;exact h
  |cons l t cj=>
   intro a1 x vs ⟨v,r,aa,af,ax⟩ bB;subst aa;refine⟨v,r,rfl,af,λah t' _=>?_,cj ax λf qW wZ=>?_⟩
   ·rw[Dp] at ah;simpa using bB 0 (by simp) ah
   ·rw[Ih] at wZ;simpa using bB (f+1) (by simpa using qW) wZ
 intro l;induction l with
 |nil=>intro vs h _;exact h
 |cons e l cj=>
  intro vs ⟨v,r,aa,af,ax⟩ bB;subst aa;have aZ:=af.length;refine⟨v,r,rfl,one af λf qW wZ=>?_,cj ax λi f aj qW wZ=>?_⟩
  ·have:=bB 0 f (by simp) qW wZ;rw[Nat.zero_mul,fW,ml ab] at this;exact this
  ·have:=bB (i+1) f (by simpa using aj) qW wZ;rw[iR,Nat.one_mul,mm ab,aZ] at this;rw[<-this];congr 1;omega
theorem Q2:∀{a1 dC:List Bool},xZ a1 dC=true->∀f:Nat,a1[f]?.getD false=true->dC[f]?.getD false=true
 |[],dC,_,f,h=>by simp at h
 |a::a1,dC,h,f,bB=>by
  rw[xZ,gR] at h;cases f with
  |zero=>
   simp at bB;rw[bB] at h;rw[<-Dp];exact h.1
  |succ f=>
   rw[<-Ih];exact Q2 h.2 f (by simpa using bB)
theorem YD {h:Array Obj}{q:Nat}{cur:Array Value}{t1:dh}{a1:List Bool}{l:List (D t1)}{o:Nat}(aZ:∀(n:Nat) e,l[n]?=some e->∃n',gP m h q none n' cur (o+n*t1.length) t1 a1 e 0):∃vs,jo m.fz t1 l vs/\∀(j:Nat) v,vs[j]?=some v->cur[o+j]?=some v:=by
 have aob:∀{t:List eL}{a1:List Bool}{x:D t}{f n base:Nat},gP m h q none n cur base t a1 x f->∃vs,j5 m.fz t x vs/\∀(j:Nat) v,vs[j]?=some v->cur[base+(f+j)]?=some v:=by
  intro t;induction t with
  |nil=>intro a1 x f n base _;exact⟨[],rfl,λj v h=>by simp at h⟩
  |cons l t cj=>
   intro a1 x f n base ⟨⟨v,bA,bI⟩,c9⟩;obtain⟨vs,bx,cX⟩:=cj c9;refine⟨v::vs,⟨v,vs,rfl,bI.RB (by simp),bx⟩,λj u hu=>?_⟩;cases j with
   |zero=>simp at hu;subst hu;exact bA
   |succ j=>rw[show f+(j+1)=f+1+j by omega];exact cX j u (by simpa using hu)
 induction l generalizing o with
 |nil=>exact⟨[],rfl,λj v h=>by simp at h⟩
 |cons e l cj=>
  obtain⟨n',tu⟩:=aZ 0 e rfl;obtain⟨v,bA,bI⟩:=aob tu;obtain⟨vs,bx,cX⟩:=cj (o:=o+t1.length) λn e' fu=>by
   obtain⟨n',tu⟩:=aZ (n+1) e' (by simpa using fu);rw[iR,Nat.one_mul] at tu;exact⟨n',by rw[Nat.add_assoc,Nat.add_comm t1.length];exact tu⟩
  refine⟨v++vs,⟨v,vs,rfl,bA,bx⟩,λj u hu=>?_⟩;have J5:=bA.length;by_cases aq:j<v.length
  ·rw[ml aq] at hu;have:=bI j u hu
   rwa [Nat.zero_mul,cq,fW] at this
  ·rw[mm ab] at hu;have:=cX _ u hu;rw[<-this];congr 1;omega
theorem YC {h:Array Obj}{q:Nat}{cur:Array Value}{t1:dh}{a1:List Bool}{l:List (D t1)}(hM:∀(n:Nat) e,l[n]?=some e->gP m h q none n cur (n*t1.length) t1 a1 e 0):∃vs,jo m.fz t1 l vs/\∀(j:Nat) v,vs[j]?=some v->cur[j]?=some v:=by
 obtain⟨vs,bA,bI⟩:=YD (m:=m) (h:=h) (q:=q) (cur:=cur) (a1:=a1) (l:=l) (o:=0) λn e he=>⟨n,by rw[fW];exact hM n e he⟩;exact⟨vs,bA,λj v aL=>by have:=bI j v aL;rwa [fW] at this⟩
theorem Ic {ty:dh}{d:C}{u:Value}{k:L (D ty)->List Bool->Q R}{t' e':TypeId}(aU:(∃e',aS.underlying t'=some (.slice e'))\/aS.underlying t'=some .string)(bf:bM m σ w)(bg:dv m d u)(vB:aS.underlying t'=some .string->∃s,d=.str s)(sq:(∃e',aS.underlying t'=some (.slice e'))->∀s,d≠.str s)(h:cU (rT ty d σ k) r):
 ∃l dC vs,cU (k l dC) r/\Src aS ty.length t' u l.1.length vs w/\jo m.fz ty l.1 vs/\(∀i f,i<l.1.length->f<ty.length->dC[f]?.getD false=true->vs[i*ty.length+f]?=some (.slice none 0 0)):=by
 have ux:(∀s,d≠.str s)->∃e',aS.underlying t'=some (.slice e'):=λaA=>aU.resolve_right λq=>by obtain⟨s,aP⟩:=vB q;exact aA s aP
 cases d with
 |dt=>
  obtain⟨e',fu⟩:=ux (by simp);have hu:u=.slice none 0 0:=bg;subst hu;exact⟨L.nil,_,[],h,Src.ofNil w fu 0,rfl,λi f aj=>by simp[L.nil] at aj⟩
 |row t1 l oA=>
  obtain⟨e',fu⟩:=ux (by simp);unfold rT at h;simp only at h;split at h
  ·rename_i heq;have ay:=kC heq;subst ay;obtain⟨k2,aa3⟩:=bg;obtain⟨A,c,vs,rfl,hle,aa,af,ax⟩:=Xe k2;have oq:Src aS t1.length t' (.slice A l.1.length c) l.1.length vs w:=by
    by_cases aA:l.1=[]
    ·have aL:vs=[]:=by rw[aA] at aa;exact aa
     subst aL;rw[aA];cases A with
     |none=>exact Src.ofNil w fu c
     |some A=>exact Src.ofSlice w fu A 0 c [] (by simp) (λj u hu=>by simp at hu) (λu hu=>by simp at hu)
    ·obtain⟨b,o,rfl⟩:=ax aA;refine Src.ofSlice w fu _ _ c vs aa.length (λj u hu=>?_) (TS aa.pX);have vG:vs≠[]:=λq=>by rw[q] at hu;simp at hu
     obtain⟨f_,fC,aD,aQ⟩:=af vG;cases aD;rw[bC.add_eq];exact bf.aMQ aQ j u hu
   refine⟨l,_,vs,h,oq,aa,λi f aj bB cf=>?_⟩;cases oA with
   |nl a1 sz=>
    simp only at cf;split at cf
    ·rename_i fA;have fA:=gB fA;subst fA;have hlen:=aa.length;have vG:vs≠[]:=λq=>by
      rw[q] at hlen;have:0<l.1.length*t1.length:=Nat.mul_pos ab ab;simp at hlen;omega
     obtain⟨b,o,rfl,aQ⟩:=af vG;have a8:=aa3 b o _ _ rfl i f aj bB cf;have bn:i*t1.length+f<vs.length:=by
      have:(i+1)*t1.length<=l.1.length*t1.length:=nk _ aj;rw[iR,Nat.one_mul] at this;omega
     have cy:=aQ _ _ (fy bn);rw[fy bn,<-cy];rw[Nat.add_assoc o] at a8;exact a8
    ·simp at cf
   |dW qu a1 sz=>
    simp only at cf;split at cf
    ·rename_i fA;have fA:=gB fA;subst fA;have hlen:=aa.length;have vG:vs≠[]:=λq=>by
      rw[q] at hlen;have:0<l.1.length*t1.length:=Nat.mul_pos ab ab;simp at hlen;omega
     obtain⟨b,o,rfl,aQ⟩:=af vG;have a8:=aa3.2 b o _ _ rfl i f aj bB cf;have bn:i*t1.length+f<vs.length:=by
      have:(i+1)*t1.length<=l.1.length*t1.length:=nk _ aj;rw[iR,Nat.one_mul] at this;omega
     have cy:=aQ _ _ (fy bn);rw[fy bn,<-cy];rw[Nat.add_assoc o] at a8;exact a8
    ·simp at cf
   |_=>simp at cf
  ·exact h.cc.elim
 |u1 id dx n sz=>
  obtain⟨e',fu⟩:=ux (by simp);unfold rT at h;simp only at h;obtain⟨b,ah,aa⟩:=np h;clear h;split at aa
  ·rename_i t1 a1 l c7;split at aa
   ·rename_i heq;have ay:=kC heq;subst ay;split at aa
    ·rename_i fA;have fA:=gB fA;subst fA;obtain⟨A,c,rfl,DF,_,dH⟩:=bg;by_cases aaU:n=0
     ·subst aaU;have aA:(nf l dx 0).1=[]:=by simp[nf]
      refine⟨nf l dx 0,[],[],aa,?_,by rw[aA];rfl,λi f aj=>by simp[aA] at aj⟩;rw[aA];cases A with
      |none=>exact Src.ofNil w fu c
      |some A=>exact Src.ofSlice w fu A 0 c [] (by simp) (λj u hu=>by simp at hu) (λu hu=>by simp at hu)
     ·obtain⟨b,qu,pz,aG,rfl,aN⟩:=dH aaU;obtain⟨eW,c',aD,aQ,bO,cP⟩:=bf.live id _ ah;rw[aG] at aD;cases aD;rcases cP with⟨tL,_⟩|⟨q,cur,ty,b_,tL,bo,cE,eM,fH,gz,hM,iV,_⟩
      ·cases tL
      ·cases tL;have hlen:(nf l dx n).1.length=n:=by
        show((l.1.drop dx).take n).length=n;rw[List.length_take,List.length_drop];omega
       obtain⟨vs,bA,bI⟩:=YD (m:=m) (h:=w.heap) (q:=b) (cur:=cur) (a1:=a1) (l:=(nf l dx n).1) (o:=dx*t1.length) λi e he=>by
        refine⟨dx+i,?_⟩;have fu:((l.1.drop dx).take n)[i]?=some e:=he;have bn:i<n:=by
         have:=(eu.1 fu).1;rw[List.length_take] at this;omega
        rw[List.getElem?_take,if_pos bn,List.getElem?_drop] at fu;have:=iV (dx+i) e fu
        rwa [iR] at this
       refine⟨nf l dx n,[],vs,aa,?_,bA,λi f _ _ cf=>by simp at cf⟩;rw[hlen];refine Src.ofSlice w fu _ n c vs (by rw[bA.length,hlen]) (λj u hu=>?_) (TS bA.pX);rw[bC.add_eq,bC.CM cE];exact bI j u hu
    ·exact aa.cc.elim
   ·exact aa.cc.elim
  ·exact aa.cc.elim
 |aR id n=>
  obtain⟨e',fu⟩:=ux (by simp);unfold rT at h;simp only at h;obtain⟨b,ah,aa⟩:=np h;clear h;split at aa
  ·rename_i t1 a1 l c7;split at aa
   ·rename_i heq;have ay:=kC heq;subst ay;obtain⟨A,c,rfl,pM,dH,_⟩:=bg;obtain⟨eW,c',aD,aQ,bO,cP⟩:=bf.live id _ ah;rw[pM] at aD;cases aD;rcases cP with⟨rfl,rfl,_⟩|⟨q,cur,ty,b_,rfl,aN,bo,cE,eM,fH,gz,hM,iV⟩
    ·have aA:l.1=[]:=pw ab;refine⟨l,[],[],aa,?_,by rw[aA];rfl,λi f aj=>by simp[aA] at aj⟩;rw[aA];exact Src.ofNil w fu 0
    ·have hex:=YC hM;obtain⟨vs,bA,bI⟩:=hex;refine⟨l,[],vs,aa,?_,bA,λi f _ _ cf=>by simp at cf⟩;refine Src.ofSlice w fu _ _ c vs bA.length (λj u hu=>?_) (TS bA.pX);rw[bC.add_eq,bC.CM bo,fW];exact bI j u hu
   ·exact aa.cc.elim
  ·exact aa.cc.elim
 |str s=>
  rcases aU with aU|aU
  ·exact absurd rfl (sq aU s)
  unfold rT at h;simp only at h;split at h
  ·rename_i heq;have ay:=kC heq;subst ay;obtain⟨l,aZ,h⟩:=h.m9;unfold s6 at aZ;split at aZ
   ·cases aZ;have hu:u=.string s.1:=bg;subst hu;refine⟨_,[],byteCells s.1,h,?_,?_,λi f _ _ cf=>by simp at cf⟩
    ·have:=Src.ofString (P:=aS) w aU s.1;have hlen:∀g:UInt8->D [.int .u8],(s.1.data.toList.map g).length=s.1.size:=λg=>by rw[List.length_map,Array.length_toList];rfl
     show Src aS 1 t' _ (List.map _ s.1.data.toList).length _ w;rw[hlen];exact this
    ·unfold byteCells;show jo m.fz [.int .u8] (List.map _ s.1.data.toList) (List.map _ s.1.data.toList);induction s.1.data.toList with
     |nil=>rfl
     |cons b l cj=>exact⟨[.int .u8 b.toNat],_,rfl,⟨_,[],rfl,by simp only[dQ],rfl⟩,cj⟩
   ·cases aZ
  ·exact h.cc.elim
 |_=>exact h.cc.elim
end
section
variable{aS:Program}{w:World}{m m':M}{σ bb:bV}{F:Fr}{a:Go.Act}{n:Nat}{v:V}{α:Type}{t t':TypeId}{x y z:Operand}{cw:T TypeInfo}{r:R}{e mh eZ:Nat}{i:TypeInfo}{gK u:Value}{ty:dh}
theorem alE (hu:aS.underlying t=some (.slice e))(aj:aS.info? e=some i){news:List Value}(oq:Src aS i.size t' u 0 news w){A:Option Addr}{len cap:Nat}(hle:len<=cap):
 (Builtin.append_ #[t,t'] mh #[.slice A len cap,u]).run aS w=.ok (.slice A len cap) w:=by
 have aA:news=[]:=pw (by simpa using oq.newsLen);have an:=oq.cells;rw[aA] at an;rcases oq.kind with⟨e',aU⟩|aU<;>cases A<;>simp[Builtin.append_,run_underlying hu,run_underlying aU,sizeOf,typeInfo,aj,oq.len,hle,an,storeCells]
theorem alF (hu:aS.underlying t=some (.slice e))(aj:aS.info? e=some i){k:Nat}{news:List Value}(oq:Src aS i.size t' u k news w){b o len cap:Nat}{w':World}(hle:len+k<=cap)(gY:(storeCells ⟨b,o+len*i.size,none⟩ news).run aS w=.ok () w'):
 (Builtin.append_ #[t,t'] mh #[.slice (some ⟨b,o,none⟩) len cap,u]).run aS w=.ok (.slice (some ⟨b,o,none⟩) (len+k) cap) w':=by
 rcases oq.kind with⟨e',aU⟩|aU<;>simp[Builtin.append_,run_underlying hu,run_underlying aU,sizeOf,typeInfo,aj,oq.len,hle,oq.cells,bC.add_eq,gY]
structure QK (aS:Program)(e eZ:Nat)(ty:dh)(i:TypeInfo)(gK:Value):Prop where
  info:aS.info? e=some i
  size:i.size=ty.length
  bytes:i.bytes=eZ
  zero:i.zero=some gK
  amB:gK.cells.size=ty.length
theorem Yx {l eC gh:L α}(h:c8 eZ l eC=some gh):gh.1=l.1++eC.1/\(l.1.length+eC.1.length)*eZ<=140737488355328/\l.1.length+eC.1.length<=1048576000:=by
 unfold c8 at h;split at h
 ·rename_i aO;cases h;exact⟨rfl,alz aO⟩
 ·cases h
theorem ZV {w:World}{iX news:List Value}{sz Eg cap e:Nat}{nX:Array Value}(aZ:(iX++news).length=Eg*sz)(ai:nX.size=sz):
 ((iX++news).toArray++Builtin.zeroCells nX (grownCap w Eg cap e-Eg)).size=grownCap w Eg cap e*sz:=by
 have:=grownCap_ge w Eg cap e;rw[Array.size_append,size_zeroCells,ai,List.size_toArray,aZ,<-iR];congr 1;omega
theorem Step.tok {m':M}{k:Nat}{b f_:B}{w':World}(h:bM m σ w)(aU:σ.heap.get k=some f_)(ah:∀cs,f_≠.box cs)(e:jR σ.next m m')(gE:hJ m σ w m' ⟨(σ.heap.put k none).put σ.next (some b),σ.next+1⟩ w'):Step m σ w m' ⟨(σ.heap.put k none).put σ.next (some b),σ.next+1⟩ w':=
 ⟨e,gE,Nat.le_succ _,λj cs aq _=>by
  have aa:j≠σ.next:=λq=>by subst q;rw[(h.fresh _ (Nat.le_refl _)).2.2.2] at aq;cases aq
  have af:j≠k:=λq=>by subst q;rw[aU] at aq;cases aq;exact ah _ rfl
  show((σ.heap.put k none).put σ.next (some b)).get j=_;rw[bC.T.eP _ _ aa,bC.T.eP _ _ af];exact aq⟩
theorem hJ.drop (h:bM m σ w){k:Nat}{m':M}{bb:bV}{w':World}(gE:hJ m ⟨σ.heap.put k none,σ.next⟩ w m' bb w'):hJ m σ w m' bb w':=(h.drop k).2.trans gE
theorem aud {iX vs:List Value}{k4 qy sz:Nat}{nl dC:List Bool}(bX:iX.length=k4*sz)(aa:∀i f,i<k4->f<sz->nl[f]?.getD false=true->iX[i*sz+f]?=some (.slice none 0 0))(af:∀i f,i<qy->f<sz->dC[f]?.getD false=true->vs[i*sz+f]?=some (.slice none 0 0)):∀i f,i<k4+qy->f<sz->(uh nl dC)[f]?.getD false=true->(iX++vs)[i*sz+f]?=some (.slice none 0 0):=by
 intro i f aj bB cf;obtain⟨dM,di⟩:=IL cf;by_cases bn:i<k4
 ·have:(i+1)*sz<=k4*sz:=nk _ bn;rw[iR,Nat.one_mul] at this;rw[ml ab];exact aa i f bn bB dM
 ·have e:i*sz=k4*sz+(i-k4)*sz:=by rw[<-iR];congr 1;omega
  rw[mm ab];have:=af (i-k4) f ab bB di;rw[<-this];congr 1;omega
theorem Q4 {k:Nat}{nl dC:List Bool}{l eC:L (D ty)}{v0:Value}{vs:List Value}(g4:QK aS e eZ ty i gK)(hu:aS.underlying t=some (.slice e))(bf:bM m σ w)(aU:σ.heap.get k=some (.bG ty))(fM:m.bg k=some v0)(k2:dQ m.fz (.aR ty) l v0)(oq:Src aS ty.length t' u eC.1.length vs w)(vH:jo m.fz ty eC.1 vs)(oo:n4 m.fz nl ty.length v0)(qX:∀i f,i<eC.1.length->f<ty.length->dC[f]?.getD false=true->vs[i*ty.length+f]?=some (.slice none 0 0))(h:cU (z2 ty eZ k l nl eC dC σ) r):mT aS m σ w (Builtin.append_ #[t,t'] mh #[v0,u]) r:=by
 obtain⟨gh,nr,h⟩:=h.m9;obtain rfl:=h.eH;obtain⟨aD,aQ,bO⟩:=Yx nr;have hlen:gh.1.length=l.1.length+eC.1.length:=by rw[aD,bl]
 obtain⟨A,c,iX,rfl,hle,m8,mA,K4⟩:=Xe k2;have vF:=oq;rw[<-g4.size] at vF;obtain⟨eW,cv,c',cr,cI,dw⟩:=bf.live k _ aU;rw[fM] at cr;cases cr;have qU:=bf.drop k;have aaJ:∀{m' w'},hJ m ⟨σ.heap.put k none,σ.next⟩ w m' ⟨(σ.heap.put k none).put σ.next (some (.bG ty)),σ.next+1⟩ w'->jR σ.next m m'->Step m σ w m' ⟨(σ.heap.put k none).put σ.next (some (.bG ty)),σ.next+1⟩ w':=λgE ex=>.tok bf aU (by simp) ex (gE.drop bf);have grow:∀(iX:List Value),jo m.fz ty l.1 iX->c<l.1.length+eC.1.length->(Builtin.firstCells ty.length l.1.length (.slice A l.1.length c)).run aS w.drew=.ok iX.toArray w.drew->
  (∀i f,i<l.1.length->f<ty.length->nl[f]?.getD false=true->iX[i*ty.length+f]?=some (.slice none 0 0))->
  mT aS m σ w (Builtin.append_ #[t,t'] mh #[.slice A l.1.length c,u]) (.val (.p (.c (.row ty gh (.dW σ.next (uh nl dC) ty.length)))) ⟨(σ.heap.put k none).put σ.next (some (.bG ty)),σ.next+1⟩):=by
  intro iX bX cm bB aqD;have aO:=run_append_grow_src (P:=aS) w t t' mh e i gK hu g4.info g4.zero A l.1.length c iX (by rw[g4.size];exact bB) u eC.1.length vs vF cm ab (growslice_fits cm (by rw[g4.bytes];exact aQ));have DG:(iX++vs).length=(l.1.length+eC.1.length)*ty.length:=by rw[bl,bX.length,oq.newsLen,iR]
  have mu:=grownCap_ge w (l.1.length+eC.1.length) c e;obtain⟨m',aG,aN,bo,cE,eM⟩:=(qU.1.vS (z8 w)).adH (t:=ty) (vs:=iX++vs) (n:=l.1.length+eC.1.length) (c:=grownCap w (l.1.length+eC.1.length) c e)
   (cur:=(iX++vs).toArray++Builtin.zeroCells gK.cells (grownCap w (l.1.length+eC.1.length) c e-(l.1.length+eC.1.length))) (ty:=e) DG mu (by rw[ZV DG g4.amB];exact Nat.le_refl _)
   (λj v aq=>by rw[Array.getElem?_append_left (by rw[List.size_toArray];exact(eu.1 aq).1)];simpa using aq)
  refine⟨m',_,_,aaJ ((hJ.vS qU.1 (z8 w)).trans bo) aG,aO,aN,?_,cE,λb o len anE aL i f aj bB cf=>?_⟩
  rotate_left
  ·cases aL;have:=eM _ _ (aud bX.length aqD qX i f aj bB cf);rw[fW] at this⊢;exact this
  have:=Jc (fz:=m'.fz) (x:=gh) (b:=w.heap.size) (o:=0) (c:=grownCap w (l.1.length+eC.1.length) c e) (vs:=iX++vs) (by rw[aD];exact(bX.append vH).ext aG.ext.fz) eM (by rw[hlen];exact mu)
  rwa [hlen] at this
 rcases dw with⟨rfl,rfl,kV⟩|⟨b,cur,Ij,b_,rfl,kV,mD,Bc,gF,jO,ax6,ax7⟩
 ·have qY:l.1=[]:=pw ab;by_cases aA:eC.1.length=0
  ·have Sw:gh.1=[]:=pw (by rw[hlen,qY,aA];rfl);obtain⟨aG,aN,bo⟩:=qU.1.Tz ty;have aO:=alE (aS:=aS) (w:=w) (t':=t') (u:=u) (mh:=mh) hu g4.info (by rw[<-aA];exact vF) (A:=none) (len:=l.1.length) (cap:=0) ab;refine⟨_,_,_,aaJ bo aG,aO,aN,?_,?_,n4.nil⟩
   ·rw[qY];have:=dQ.nil (m.eE σ.next none (.slice none 0 0) m.fz m.dy).fz ty;have ay:gh=L.nil:=Subtype.ext Sw;rw[ay];exact this
   ·rw[qY];show(m.eE σ.next none (.slice none 0 0) m.fz m.dy).bg σ.next=_;simp[M.eE]
  ·refine grow [] (by rw[qY];rfl) ab ?_ λi f aj=>by simp[qY] at aj
   rw[qY];simp[Builtin.firstCells]
 ·have wW:∀(j:Nat) u,iX[j]?=some u->(m.fz b)[j]?=some u:=λj u hu=>by
   obtain⟨f_,fC,ed,eX⟩:=mA λq=>by rw[q] at hu;simp at hu
   cases ed;have:=eX j u hu
   rwa [fW] at this
  by_cases AI:l.1.length+eC.1.length<=c
  ·obtain⟨m',w',jX,aG,aN,bo,cE,eM⟩:=bf.ao4 (aS:=aS) aU fM (n:=eC.1.length) (vs:=vs) oq.newsLen AI (I6 oq.one);have aO:=alF (aS:=aS) (w:=w) (mh:=mh) (o:=0) (w':=w') hu g4.info vF AI (by rw[g4.size,fW];exact jX);refine⟨m',_,w',.tok bf aU (by simp) aG bo,aO,aN,?_,cE,λf_ o len anE aL i f aj bB cf=>?_⟩
   rotate_left
   ·cases aL;obtain⟨dM,di⟩:=IL cf;rw[fW];by_cases bn:i<l.1.length
    ·have:=oo _ _ _ _ rfl i f bn bB dM;rw[fW] at this;exact aG.ext.fz _ _ _ this
    ·have e:i*ty.length=l.1.length*ty.length+(i-l.1.length)*ty.length:=by rw[<-iR];congr 1;omega
     have:=eM _ _ (qX (i-l.1.length) f ab bB di);rw[<-this];congr 1;omega
   have:=Jc (fz:=m'.fz) (x:=gh) (b:=b) (o:=0) (c:=c) (vs:=iX++vs) (by rw[aD];exact(m8.append vH).ext aG.ext.fz) (λj u hu=>?_) (by rw[hlen];exact AI)
   ·rwa [hlen] at this
   ·have DG:=m8.length;by_cases aq:j<iX.length
    ·rw[ml aq] at hu;rw[fW];exact aG.ext.fz _ _ _ (wW j u hu)
    ·rw[mm ab] at hu;have:=eM _ u hu;rw[<-this];congr 1;omega
  ·refine grow iX m8 ab ?_ λi f aj bB cf=>?_
   rotate_left
   ·have aa:=oo _ _ _ _ rfl i f aj bB cf;rw[fW] at aa;have bn:i*ty.length+f<iX.length:=by
     have:(i+1)*ty.length<=l.1.length*ty.length:=nk _ aj;rw[iR,Nat.one_mul] at this;rw[m8.length];omega
    have af:=wW _ _ (fy bn);rw[fy bn,<-af,aa]
   have:(loadCells ⟨b,0,none⟩ iX.length).run aS w.drew=.ok iX.toArray w.drew:=by
    refine bC.run_loadCells (w:=w.drew) mD iX λj aq=>?_;obtain⟨h_,jm,jG,ed,eX⟩:=bf.stay _ _ _ (wW j _ (fy aq));rw[mD] at ed;cases ed;rw[fW,eX,fy aq]
   rw[m8.length] at this;exact this
theorem Yw {k c7:Nat}{a1:List Bool}{l eC:L (D ty)}{v0:Value}{vs:List Value}(g4:QK aS e eZ ty i gK)(hu:aS.underlying t=some (.slice e))(bf:bM m σ w)(aU:σ.heap.get k=some (.arr ty a1 l none c7))(fM:m.bg k=some v0)(oq:Src aS ty.length t' u eC.1.length vs w)(vH:j6 m.fz ty a1 eC.1 vs)(h:cU (IN ty a1 eZ k l eC σ) r):mT aS m σ w (Builtin.append_ #[t,t'] mh #[v0,u]) r:=by
 obtain⟨gh,nr,h⟩:=h.m9;obtain rfl:=h.eH;obtain⟨aD,aQ,bO⟩:=Yx nr;have hlen:gh.1.length=l.1.length+eC.1.length:=by rw[aD,bl]
 have vF:=oq;rw[<-g4.size] at vF;obtain⟨A,c,cr,cI,tL,dw⟩:=bf.live k _ aU;rw[fM] at cr;cases cr;have grow:∀(iX:List Value),iX.length=l.1.length*ty.length->c<l.1.length+eC.1.length->(Builtin.firstCells ty.length l.1.length (.slice A l.1.length c)).run aS w.drew=.ok iX.toArray w.drew->
  (∀r n9 ty b_,A=some ⟨r,0,none⟩->w.heap[r]?=some (.cells n9 ty b_)->∀j,j<iX.length->iX[j]?=n9[j]?)->
  mT aS m σ w (Builtin.append_ #[t,t'] mh #[.slice A l.1.length c,u]) (.val (.p (.c (.aR σ.next gh.1.length))) ⟨(σ.heap.put k none).put σ.next (some (.arr ty a1 gh none 0)),σ.next+1⟩):=by
  intro iX bX cm bB hold;have aO:=run_append_grow_src (P:=aS) w t t' mh e i gK hu g4.info g4.zero A l.1.length c iX (by rw[g4.size];exact bB) u eC.1.length vs vF cm ab (growslice_fits cm (by rw[g4.bytes];exact aQ));have DG:(iX++vs).length=(l.1.length+eC.1.length)*ty.length:=by rw[bl,bX,oq.newsLen,iR]
  have mu:=grownCap_ge w (l.1.length+eC.1.length) c e;have oh:∀j,j<(iX++vs).length->((iX++vs).toArray++Builtin.zeroCells gK.cells (grownCap w (l.1.length+eC.1.length) c e-(l.1.length+eC.1.length)))[j]?=(iX++vs)[j]?:=λj aq=>by
   rw[Array.getElem?_append_left (by rw[List.size_toArray];exact aq)];simp
  obtain⟨m',aG,aN,bo,cE⟩:=(bf.vS (z8 w)).aL5 (gh:=gh) (dg:=eC.1) (vs:=vs) (c':=grownCap w (l.1.length+eC.1.length) c e)
   (cur:=(iX++vs).toArray++Builtin.zeroCells gK.cells (grownCap w (l.1.length+eC.1.length) c e-(l.1.length+eC.1.length))) (ty:=e) aU fM vH aD (by rw[hlen];exact mu) (by rw[ZV DG g4.amB];exact Nat.le_refl _)
   (λr n9 Ij b_ dH Sk j aq=>by
    rw[oh j (by rw[bl];omega),ml ab];exact hold r n9 Ij b_ dH Sk j ab)
   (λj v aq=>by
    have:=(eu.1 aq).1;rw[oh _ (by rw[bl];omega),mm ab,bX,Nat.add_sub_cancel_left];exact aq)
  refine⟨m',_,_,.tok bf aU (by simp) aG ((hJ.vS bf (z8 w)).trans bo),aO,aN,_,_,by rw[hlen],by rw[cE,hlen];rfl,λ_=>⟨_,rfl⟩,gh.2,by rw[hlen];omega⟩
 rcases dw with⟨rfl,rfl,kV,mD⟩|⟨b,cur,Ij,b_,rfl,kV,mD,Bc,gF,jO,ax6,ax7,aPz⟩
 ·have qY:l.1=[]:=pw ab;by_cases aA:eC.1.length=0
  ·have Sw:gh=L.nil:=Subtype.ext (pw (by rw[hlen,qY,aA];rfl));subst Sw;have qU:=bf.drop k;obtain⟨m',aG,aN,bo,cE⟩:=qU.1.Tx ty a1;have aO:=alE (aS:=aS) (w:=w) (t':=t') (u:=u) (mh:=mh) hu g4.info (by rw[<-aA];exact vF) (A:=none) (len:=l.1.length) (cap:=0) ab;refine⟨m',_,_,.tok bf aU (by simp) aG (bo.drop bf),aO,aN,none,0,?_,?_,λai=>absurd rfl ai,by simp[L.nil]⟩
   ·rw[qY];rfl
   ·rw[qY];exact cE
  ·refine grow [] (by rw[qY];simp) ab (by rw[qY];simp[Builtin.firstCells]) λr n9 ty b_ dH=>by cases dH
 ·by_cases AI:l.1.length+eC.1.length<=c
  ·obtain⟨m',w',jX,aG,aN,bo,cE⟩:=bf.ao3 (aS:=aS) (gh:=gh) (dg:=eC.1) (vs:=vs) aU fM vH AI aD;have aO:=alF (aS:=aS) (w:=w) (mh:=mh) (o:=0) (w':=w') hu g4.info vF AI (by rw[g4.size,fW];exact jX);exact⟨m',_,w',.tok bf aU (by simp) aG bo,aO,aN,_,_,by rw[hlen],by rw[cE,hlen],λ_=>⟨_,rfl⟩,gh.2,by rw[hlen];omega⟩
  ·have fA:l.1.length*ty.length<=cur.size:=jd (nk _ cI) gF;have qp:(cur.toList.take (l.1.length*ty.length)).length=l.1.length*ty.length:=by simp;omega
   refine grow (cur.toList.take (l.1.length*ty.length)) qp ab ?_ λr n9 aPH Am dH an j aq=>?_
   ·have:(loadCells ⟨b,0,none⟩ (cur.toList.take (l.1.length*ty.length)).length).run aS w.drew=.ok (cur.toList.take (l.1.length*ty.length)).toArray w.drew:=
     bC.run_loadCells (w:=w.drew) mD _ λj aq=>by rw[List.getElem?_take,if_pos ab];simp
    rw[qp] at this;exact this
   ·cases dH;rw[mD] at an;cases an;rw[List.getElem?_take,if_pos ab];simp
end
section
variable{aS:Program}{w:World}{m m':M}{σ bb:bV}{F:Fr}{a:Go.Act}{n:Nat}{v:V}{α:Type}{t t':TypeId}{x y z:Operand}{cw:T TypeInfo}{r:R}{e mh eZ sz:Nat}
theorem mT.trans {s:Sem Value}(bf:bM m σ w)(st:Step m σ w m' bb w)(h:mT aS m' bb w s r):mT aS m σ w s r:=by
 cases r with
 |val v fh=>
  obtain⟨dc,ej,w',aa,af,ax,a8⟩:=h;exact⟨dc,ej,w',Step.trans bf st aa,af,ax,a8⟩
 |_=>exact h.elim
theorem j6.adI {fz:Nat->List Value}{t:dh}{a1 dC:List Bool}{l:List (D t)}{vs:List Value}(h:jo fz t l vs)(cf:xZ a1 dC=true)(bB:∀i f,i<l.length->f<t.length->dC[f]?.getD false=true->vs[i*t.length+f]?=some (.slice none 0 0)):j6 fz t a1 l vs:=aoC h λi f aa af ax=>bB i f aa af (Q2 cf f ax)
theorem Yz {cn:List C}{ty:Option dh}{jN:Option wo}{d':TypeDesc}(b6:fx aS cw)(a2:dB m n F a)(bf:bM m σ w)(hu:under cw t=some (.slice e))(w8:under cw t'=some d')(vw:(∃e',d'=.slice e')\/d'=.string)(he:xO aS cw e sz eZ cn)(gY:d'=.string->∀d,lO (jx y F)=some d->∃s,d=.str s)(ux:(∃e',d'=.slice e')->∀d,lO (jx y F)=some d->∀s,d≠.str s)(h:cU (zw x y (app eZ sz ty jN) F σ) r):mT aS m σ w (Builtin.append_ #[t,t'] mh #[a.eval x,a.eval y]) r:=by
 obtain⟨c,As,dH⟩:=gT h;obtain⟨d,yD,aa⟩:=gT dH;clear dH;have an:=qa As (lY a2 x);have bg:=qa yD (lY a2 y);have Dg:=jP b6 hu;have JG:=jP b6 w8;obtain⟨i,gK,i1,i2,i3,i4,i5,i6⟩:=he.info;have Dv:(∃e',aS.underlying t'=some (.slice e'))\/aS.underlying t'=some .string:=by
  rcases vw with⟨e',rfl⟩|rfl
  ·exact .inl ⟨e',JG⟩
  ·exact .inr JG
 have vB:aS.underlying t'=some .string->∃s,d=.str s:=λay=>by
  rw[JG] at ay;exact gY (eD ay) d yD
 have sq:(∃e',aS.underlying t'=some (.slice e'))->∀s,d≠.str s:=λ⟨e',ay⟩=>by
  rw[JG] at ay;exact ux ⟨e',eD ay⟩ d yD
 have yG:∀{ty:dh},ty.length=sz->QK aS e eZ ty i gK:=λaZ=>⟨i1,i2.trans aZ.symm,i3,i5,by
  have:=(i6 m).length;rw[he.len] at this;simp at this
  omega⟩
 clear h As yD gY ux;have h:=aa;clear aa;cases c with
 |dt=>
  have aW:a.eval x=.slice none 0 0:=an;rw[aW];simp only[app] at h;cases ty with
  |none=>exact h.cc.elim
  |some t0=>
   simp only at h;split at h
   ·rename_i aZ;have aZ:=gB aZ;have tok:cU (rT t0 d σ λr dC=>z2 t0 eZ σ.next L.nil (t0.map λ_=>true) r dC ⟨σ.heap.put σ.next (some (.bG t0)),σ.next+1⟩) r->mT aS m σ w (Builtin.append_ #[t,t'] mh #[.slice none 0 0,a.eval y]) r:=by
     intro h;obtain⟨l,dC,vs,bA,bI,c9,ei⟩:=Ic (e':=0) Dv bf bg vB sq h;obtain⟨aG,aN,bo⟩:=bf.Tz t0;refine mT.trans bf (.put bf aG bo) ?_;refine Q4 (i:=i) (gK:=gK) (yG aZ) Dg aN (by simp only[bC.T.il]) (by simp[M.eE]) (dQ.nil _ _) bI (c9.ext aG.ext.fz) n4.nil ei bA
    cases jN with
    |none=>exact tok h
    |some p=>
     cases p with
     |arr a1=>
      simp only at h;obtain⟨l,dC,vs,bA,bI,c9,ei⟩:=Ic (e':=0) Dv bf bg vB sq h;split at bA
      ·rename_i cf;obtain⟨m',aG,aN,bo,cE⟩:=bf.Tx t0 a1;refine mT.trans bf (.put bf aG bo) ?_;exact Yw (c7:=0) (i:=i) (gK:=gK) (yG aZ) Dg aN (by simp only[bC.T.il]) cE bI ((j6.adI c9 cf ei).ext aG.ext.fz) bA
      ·exact bA.cc.elim
     |_=>exact tok h
   ·exact h.cc.elim
 |row t0 l oA=>
  cases oA with
  |dW k aPv al6=>
   simp only[app] at h;obtain⟨b,ah,aa⟩:=np h;clear h;split at aa
   ·rename_i t1;split at aa
    ·rename_i ay;simp only[gR] at ay;have cr:=kC ay.1;have cI:=gB ay.2;subst cr;obtain⟨eC,dC,vs,bA,bI,c9,ei⟩:=Ic (e':=0) Dv bf bg vB sq aa;refine Q4 (i:=i) (gK:=gK) (yG cI) Dg bf ah an.2.1 an.1 bI c9 ?_ ei bA;split
     ·rename_i fA;rw[gB fA];exact an.2.2
     ·exact n4.none
    ·exact aa.cc.elim
   ·exact aa.cc.elim
  |at_ id c7 ke xz f=>
   simp only[app] at h;obtain⟨b,ah,aa⟩:=np h;clear h;split at aa
   ·rename_i t1 a1 xb j4;split at aa
    ·rename_i ay;simp only[gR] at ay;have cr:=gB ay.1.1;have cI:=gB ay.1.2;have dw:=gB ay.2;subst cr cI;split at aa
     ·rename_i t2 aqX;split at aa
      ·rename_i heq;have heq:=kC heq;subst heq;obtain⟨eC,dC,vs,bA,bI,c9,ei⟩:=Ic (e':=0) Dv bf bg vB sq aa;obtain⟨m',aG,aN,bo,cE⟩:=bf.take ah aqX an.2;refine mT.trans bf ⟨aG,bo,Nat.le_succ _,λj cs aq _=>?_⟩ ?_
       ·have bx:j≠id:=λq=>by subst q;rw[ah] at aq;cases aq
        have cX:j≠σ.next:=λq=>by subst q;rw[(bf.fresh _ (Nat.le_refl _)).2.2.2] at aq;cases aq
        show((σ.heap.put id _).put σ.next _).get j=_;rw[bC.T.eP _ _ cX,bC.T.eP _ _ bx];exact aq
       ·exact Q4 (i:=i) (gK:=gK) (yG dw) Dg aN (by simp only[bC.T.il]) cE (an.1.ext aG.ext.fz) bI (c9.ext aG.ext.fz) n4.none ei bA
      ·exact aa.cc.elim
     ·exact aa.cc.elim
    ·exact aa.cc.elim
   ·exact aa.cc.elim
  |_=>exact h.cc.elim
 |aR id ke=>
  simp only[app] at h;obtain⟨b,ah,aa⟩:=np h;clear h;split at aa
  ·rename_i t1 a1 l c7;split at aa
   ·rename_i aZ;have aZ:=gB aZ;obtain⟨eC,dC,vs,bA,bI,c9,ei⟩:=Ic (e':=0) Dv bf bg vB sq aa;split at bA
    ·rename_i cf;obtain⟨A,cp,aW,fM,_⟩:=an;exact Yw (c7:=c7) (i:=i) (gK:=gK) (yG aZ) Dg bf ah fM bI (j6.adI c9 cf ei) bA
    ·exact bA.cc.elim
   ·exact aa.cc.elim
  ·exact aa.cc.elim
 |_=>exact h.cc.elim
theorem anz {l:List (D [.int .u8])}{fz:Nat->List Value}:∀{vs:List Value},jo fz [.int .u8] l vs->vs=(l.map λx=>UInt8.ofNat x.1.1.toNat).map λu=>Value.int .u8 (u.toNat:Int):=by
 induction l with
 |nil=>intro vs h;exact h
 |cons x l cj=>
  intro vs ⟨v,r,aa,af,ax⟩;obtain⟨v0,E7,aD,aQ,bO⟩:=af;have bO:E7=[]:=bO;subst bO aD aa;simp only[dQ] at aQ;subst aQ;rw[cj ax];simp only[List.map_cons,List.cons_append,List.nil_append,List.cons.injEq,and_true];have sL:IntKind.u8.min<=x.1.1:=x.1.2.1;have nW:x.1.1<=IntKind.u8.max:=x.1.2.2;have aPP:IntKind.u8.min=0:=by decide
  have aNy:IntKind.u8.max=255:=by decide
  congr 1;have:(UInt8.ofNat x.1.1.toNat).toNat=x.1.1.toNat:=by simp;omega
  rw[this];omega
theorem anO {s d:TypeId}(b6:fx aS cw)(a2:dB m n F a)(bf:bM m σ w)(aP:under cw s=some (.slice e))(bg:under cw d=some .string)(he:under cw e=some (.int .u8)):
 jD aS m w (Go.convert s d (a.eval x)) (mC x x7 F σ):=by
 intro v h;obtain⟨c,an,aa⟩:=A5 a2 h;clear h;have fin:∀{l:L (D [.int .u8])}{vs:List Value}{A:Option Addr}{cp:Nat},a.eval x=.slice A l.1.length cp->jo m.fz [.int .u8] l.1 vs->(∀eW,A=some eW->(loadCells eW l.1.length).run aS w=.ok vs.toArray w)->(A=none->l.1=[])->
  (Go.convert s d (a.eval x)).run aS w=.ok (.string (py l).1) w:=λ{l vs A cp} aW aL aZ aA=>by
  have vH:=anz aL;cases A with
  |none=>
   have:l=L.nil:=Subtype.ext (aA rfl);subst this;simp[aW,Go.convert,hO b6 aP,hO b6 bg,hO b6 he,Conv.bytesToString,py,L.nil];rfl
  |some A=>
   have aa:=aZ A rfl;have:=alJ (aS:=aS) (w:=w) (l.1.map λx=>UInt8.ofNat x.1.1.toNat) .empty;rw[vH] at aa;simp only[aW,Go.convert,iI,jT,jq,hO b6 aP,hO b6 bg,hO b6 he,Conv.bytesToString,aa];rw[List.forIn_toArray];refine(congrArg (λr=>Result.andThen r λa w'=>Result.ok (Value.string a) w') this).trans ?_;simp only[jq];congr 2
 cases c with
 |dt=>
  obtain rfl:=i_ aa;have aW:a.eval x=.slice none 0 0:=an;exact⟨_,fin (l:=L.nil) (vs:=[]) (A:=none) (cp:=0) aW rfl (λ_ h=>by cases h) λ_=>rfl,rfl⟩
 |row t0 l oA=>
  simp only[x7] at aa;split at aa
  ·rename_i ay;have ay:=kC ay;subst ay;obtain rfl:=i_ aa;obtain⟨A,cp,vs,aW,hle,aG,aN,bo⟩:=Xe an.1;refine⟨_,fin aW aG (λeW dH=>?_) (λdH=>?_),rfl⟩
   ·subst dH;have hlen:=aG.length;simp only[List.length_singleton,Nat.mul_one] at hlen;rw[<-hlen];by_cases aA:vs=[]
    ·subst aA;simp[loadCells,loadCellsFrom]
    ·obtain⟨b,o,aD,aQ⟩:=aN aA;cases aD;obtain⟨cur,ty,b_,bA,bI⟩:=bf.stay b (o+0) (vs[0]'(List.length_pos_iff.2 aA)) (aQ 0 _ (fy _))
     refine bC.run_loadCells bA vs λj aq=>?_;obtain⟨h_,jm,jG,bx,cX⟩:=bf.stay _ _ _ (aQ j _ (fy aq));rw[bA] at bx;cases bx;rw[cX,fy aq]
   ·by_cases aA:l.1=[]
    ·exact aA
    ·obtain⟨b,o,aD⟩:=bo aA;rw[dH] at aD;cases aD
  ·exact aa.cc.elim
 |aR id k=>
  simp only[x7] at aa;obtain⟨b,ah,af⟩:=np aa;clear aa;split at af
  ·rename_i t0 a1 l c7;split at af
   ·rename_i ay;have ay:=kC ay;subst ay;obtain rfl:=i_ af;obtain⟨A,cp,aW,fM,_⟩:=an;obtain⟨eW,c',cr,cI,_,dw⟩:=bf.live id _ ah;rw[fM,aW] at cr;cases cr;rcases dw with⟨rfl,rfl,_⟩|⟨q,cur,ty,b_,rfl,aN,bo,cE,eM,fH,gz,hM,iV⟩
    ·have aA:l.1=[]:=pw ab;exact⟨_,fin (vs:=[]) aW (by rw[aA];rfl) (λ_ h=>by cases h) λ_=>aA,rfl⟩
    ·obtain⟨vs,bA,bI⟩:=YC hM;refine⟨_,fin aW bA (λeW dH=>?_) (λdH=>by cases dH),rfl⟩;cases dH;have hlen:=bA.length;simp only[List.length_singleton,Nat.mul_one] at hlen;rw[<-hlen];exact bC.run_loadCells bo vs λj aq=>by rw[fW,fy aq];exact bI j _ (fy aq)
   ·exact af.cc.elim
  ·exact af.cc.elim
 |_=>exact aa.cc.elim
end
end cx
end Go.Proofs.YtgmdfchkljaooaaGreat
