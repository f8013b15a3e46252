/- Typed values. -/
import Derived.Laws.StructEq
import Derived.ChangeKeysEq
import Derived.Laws.IdiomStrings
import Derived.Laws.BytesArg
import Derived.Deep.AppendSrc
import Derived.Test.YtgmdfchkljaooaaGreatM01
noncomputable section
namespace Go.Proofs.YtgmdfchkljaooaaGreat
open Go.RowKit
namespace cF
open bI (T cO under size kM)
set_option linter.unusedVariables false
inductive Q (ρ:Type):Type 1
  |ret (x:ρ)
  |fail
  |bind {α:Type} (o:Option α) (f:α->Q ρ)
  |ite (b:Bool) (x y:Q ρ)
  |alt {α β:Type} (s:α⊕β) (f:α->Q ρ) (g:β->Q ρ)
section
variable{ρ ga β:Type}
def Q.lB (q:Q ρ)(f:ρ->Q ga):Q ga:=Q.rec (motive:=λ_=>Q ga) f .fail (λo _ cu=>.bind o cu) (λb _ _ x y=>.ite b x y) (λs _ _ cu D8=>.alt s cu D8) q
def Q.opt (q:Q (Option β)):Option β:=Q.rec (motive:=λ_=>Option β) (λx=>x) none (λo _ cu=>Option.bind o cu) (λb _ _ x y=>cond b x y) (λs _ _ cu D8=>Sum.elim cu D8 s) q
inductive cV:Q ρ->ρ->Prop
  |ret (x:ρ):cV (.ret x) x
  |bind {α:Type} {o:Option α} {f:α->Q ρ} {a:α} {x:ρ}:o=some a->cV (f a) x->cV (.bind o f) x
  |cC {b:Bool} {p q:Q ρ} {x:ρ}:b=true->cV p x->cV (.ite b p q) x
  |Su {b:Bool} {p q:Q ρ} {x:ρ}:b=false->cV q x->cV (.ite b p q) x
  |inl {α β:Type} {s:α⊕β} {f:α->Q ρ} {g:β->Q ρ} {a:α} {x:ρ}:s=.inl a->cV (f a) x->cV (.alt s f g) x
  |inr {α β:Type} {s:α⊕β} {f:α->Q ρ} {g:β->Q ρ} {b:β} {x:ρ}:s=.inr b->cV (g b) x->cV (.alt s f g) x
theorem cV.eJ {x y:ρ}(h:cV (.ret x) y):y=x:=by cases h;rfl
theorem cV.cq {y:ρ}(h:cV .fail y):False:=by cases h
theorem cV.nh {α:Type}{o:Option α}{f:α->Q ρ}{x:ρ}(h:cV (.bind o f) x):∃a,o=some a/\cV (f a) x:=by
 cases h with
 |bind aa af=>exact⟨_,aa,af⟩
theorem cV.vU {b:Bool}{p q:Q ρ}{x:ρ}(h:cV (.ite b p q) x):(b=true/\cV p x)\/(b=false/\cV q x):=by
 cases h with
 |cC aa af=>exact .inl ⟨aa,af⟩
 |Su aa af=>exact .inr ⟨aa,af⟩
theorem cV.agE {α β:Type}{s:α⊕β}{f:α->Q ρ}{g:β->Q ρ}{x:ρ}(h:cV (.alt s f g) x):(∃a,s=.inl a/\cV (f a) x)\/∃b,s=.inr b/\cV (g b) x:=by
 cases h with
 |inl aa af=>exact .inl ⟨_,aa,af⟩
 |inr aa af=>exact .inr ⟨_,aa,af⟩
theorem cV.lT {q:Q ρ}{f:ρ->Q ga}{y:ga}(h:cV (q.lB f) y):∃x,cV q x/\cV (f x) y:=by
 induction q with
 |ret x=>exact⟨x,.ret x,h⟩
 |fail=>exact h.cq.elim
 |bind o g cu=>
  obtain⟨a,aa,af⟩:=cV.nh h;obtain⟨x,ax,a8⟩:=cu a af;exact⟨x,.bind aa ax,a8⟩
 |ite b p q yY yZ=>
  rcases cV.vU h with⟨aa,af⟩|⟨aa,af⟩
  ·obtain⟨x,ax,a8⟩:=yY af;exact⟨x,.cC aa ax,a8⟩
  ·obtain⟨x,ax,a8⟩:=yZ af;exact⟨x,.Su aa ax,a8⟩
 |alt s p q yY yZ=>
  rcases cV.agE h with⟨a,aa,af⟩|⟨b,aa,af⟩
  ·obtain⟨x,ax,a8⟩:=yY a af;exact⟨x,.inl aa ax,a8⟩
  ·obtain⟨x,ax,a8⟩:=yZ b af;exact⟨x,.inr aa ax,a8⟩
theorem cV.Mp {q:Q (Option β)}{r:β}(h:q.opt=some r):cV q (some r):=by
 induction q with
 |ret x=>
  have h:x=some r:=h;rw[h];exact .ret _
 |fail=>cases h
 |bind o g cu=>
  have h:Option.bind o (λa=>(g a).opt)=some r:=h;cases b6:o with
  |none=>rw[b6] at h;cases h
  |some a=>rw[b6] at h;exact .bind rfl (cu a h)
 |ite b p q yY yZ=>
  have h:cond b p.opt q.opt=some r:=h;cases b with
  |true=>exact .cC rfl (yY h)
  |false=>exact .Su rfl (yZ h)
 |alt s p q yY yZ=>
  have h:Sum.elim (λa=>(p a).opt) (λb=>(q b).opt) s=some r:=h;cases s with
  |inl a=>exact .inl rfl (yY a h)
  |inr b=>exact .inr rfl (yZ b h)
end
def iY (c:C):Q V:=.ret (.p (.c c))
def zz {α:Type}(o:Option α)(f:α->C):Q V:=.bind o λa=>.ret (.p (.c (f a)))
def Q.lift {α ρ:Type}(o:Option α)(f:α->Q ρ):Q ρ:=match o with
 |some a=>f a
 |none=>.fail
abbrev Fr:=List (Nat×V)
def gN (F:Fr)(t:Nat):V:=List.rec (motive:=λ_=>V) .any (λx _ cu=>cond (Nat.beq t x.1) x.2 cu) F
def rp (F:Fr)(t:Nat)(v:V):Fr:=(t,v)::F
theorem vu (F:Fr)(t k:Nat)(v:V):gN (rp F t v) k=if k=t then v else gN F k:=by
 show cond (Nat.beq k t) v (gN F k)=_;by_cases h:k=t
 ·subst h;rw[Nat.beq_refl,if_pos rfl];rfl
 ·have:Nat.beq k t=false:=by
   cases ah:Nat.beq k t with
   |false=>rfl
   |true=>exact absurd (gB ah) h
  rw[this,if_neg h];rfl
def jw (x:Operand)(F:Fr):V:=match x with
 |.tmp t=>gN F t
 |.const v=>match A3 v with
  |some x=>.p x
  |none=>.any
 |.global g=>.any
 |.func f=>.c (.fn f [] [])
def lI (v:V):Option C:=match v with
 |.p (.c c)=>some c
 |_=>none
def wG (v:V):Option P:=match v with
 |.p x=>some x
 |_=>none
inductive R
  |val (v:V) (σ:bU)
  |skip (σ:bU)
  |qL (t:Nat) (v:V) (σ:bU)
  |call (f:Nat) (args:List V) (σ:bU)
inductive np
  |pure (f:Fr->Q V)
  |made (f:Fr->Q V)
  |read (f:Fr->bU->Q V)
  |alloc (z:List C)
  |jt (f:Fr->bU->Q R)
  |bad
section
variable{α:Type}
def ni (g:Operand)(k:C->Q α)(F:Fr):Q α:=Q.lift (lI (jw g F)) k
def iX (g h:Operand)(k:C->C->Q α)(F:Fr):Q α:=Q.lift (lI (jw g F)) λc=>Q.lift (lI (jw h F)) λd=>k c d
def uX (g:Operand)(k:P->Q α)(F:Fr):Q α:=Q.lift (wG (jw g F)) k
def Up (g h:Operand)(k:P->P->Q α)(F:Fr):Q α:=Q.lift (wG (jw g F)) λc=>Q.lift (wG (jw h F)) λd=>k c d
def mD (g:Operand)(k:C->bU->Q α)(F:Fr)(σ:bU):Q α:=Q.lift (lI (jw g F)) λc=>k c σ
def zu (g h:Operand)(k:C->C->bU->Q α)(F:Fr)(σ:bU):Q α:=Q.lift (lI (jw g F)) λc=>Q.lift (lI (jw h F)) λd=>k c d σ
def A5 (g h:Operand)(k:C->P->bU->Q α)(F:Fr)(σ:bU):Q α:=Q.lift (lI (jw g F)) λc=>Q.lift (wG (jw h F)) λd=>k c d σ
end
def ow (f:(k:IntKind)->a_ k->a_ k->C)(c d:C):Q V:=match c,d with
 |.int k a,.int cB b=>if h:cB=k then iY (f k a (h▸b)) else .fail
 |_,_=>.fail
def KI (f:(k:IntKind)->a_ k->a_ k->Option (a_ k))(c d:C):Q V:=match c,d with
 |.int k a,.int cB b=>if h:cB=k then zz (f k a (h▸b)) (.int k) else .fail
 |_,_=>.fail
def QT (f:(k cB:IntKind)->a_ k->a_ cB->Option (a_ k))(c d:C):Q V:=match c,d with
 |.int k a,.int cB b=>zz (f k cB a b) (.int k)
 |_,_=>.fail
def mkInt (op:BinOp)(x y:Operand):np:=match op with
 |.add=>.pure (iX x y (ow λk a b=>.int k (bc a b)))
 |.sub=>.pure (iX x y (ow λk a b=>.int k (gf a b)))
 |.mul=>.pure (iX x y (ow λk a b=>.int k (sC a b)))
 |.quo=>.pure (iX x y (KI λk a b=>AO a b))
 |.rem=>.pure (iX x y (KI λk a b=>sE a b))
 |.and=>.pure (iX x y (ow λk a b=>.int k (rM a b)))
 |.or=>.pure (iX x y (ow λk a b=>.int k (ox a b)))
 |.xor=>.pure (iX x y (ow λk a b=>.int k (rb a b)))
 |.shl=>.pure (iX x y (QT λk cB a b=>y3 a b))
 |.shr=>.pure (iX x y (QT λk cB a b=>ra a b))
 |.eql=>.pure (iX x y (ow λk a b=>.bool (bb a b)))
 |.neq=>.pure (iX x y (ow λk a b=>.bool (!bb a b)))
 |.lss=>.pure (iX x y (ow λk a b=>.bool (bg a b)))
 |.leq=>.pure (iX x y (ow λk a b=>.bool (f_ a b)))
 |.gtr=>.pure (iX x y (ow λk a b=>.bool (bg b a)))
 |.geq=>.pure (iX x y (ow λk a b=>.bool (f_ b a)))
 |_=>.bad
def xD (f:dY->dY->C)(c d:C):Q V:=match c,d with
 |.str s,.str t=>iY (f s t)
 |_,_=>.fail
def am1 (c d:C):Q V:=match c,d with
 |.str s,.str t=>zz (fE s t) .str
 |_,_=>.fail
def mkStr (op:BinOp)(x y:Operand):np:=match op with
 |.add=>.pure (iX x y am1)
 |.eql=>.pure (iX x y (xD λs t=>.bool (cz s t)))
 |.neq=>.pure (iX x y (xD λs t=>.bool (!cz s t)))
 |.lss=>.pure (iX x y (xD λs t=>.bool (oA s t)))
 |.leq=>.pure (iX x y (xD λs t=>.bool (oA s t||cz s t)))
 |.gtr=>.pure (iX x y (xD λs t=>.bool (!(oA s t||cz s t))))
 |.geq=>.pure (iX x y (xD λs t=>.bool (!oA s t)))
 |_=>.bad
def fits (d:TypeDesc)(a b:C):Option Bool:=match d,a,b with
 |.int _,.int k x,.int cB y=>if h:cB=k then some (bb x (h▸y)) else none
 |.string,.str s,.str t=>some (cz s t)
 |.bool,.bool x,.bool y=>some (x==y)
 |_,_,_=>none
def vt:List TypeDesc->List C->List C->Option Bool
 |[],[],[]=>some true
 |d::ds,a::l,b::r=>match fits d a b with
  |some x=>match vt ds l r with
   |some y=>some (x&&y)
   |none=>none
  |none=>none
 |_,_,_=>none
inductive sY
  |leaf (d:TypeDesc)
  |flat (ds:List TypeDesc)
def KL (k:sY)(x y:P):Option Bool:=match k,x,y with
 |.leaf d,.c a,.c b=>fits d a b
 |.flat ds,.agg l,.agg r=>vt ds l r
 |_,_,_=>none
def AT (k:sY)(op:BinOp)(x y:Operand):np:=match op with
 |.eql=>.pure (Up x y λp q=>Q.lift (KL k p q) λb=>iY (.bool b))
 |.neq=>.pure (Up x y λp q=>Q.lift (KL k p q) λb=>iY (.bool (!b)))
 |_=>.bad
def JO (c d:C):Option Bool:=match c,d with
 |.ptr none,.ptr none=>some true
 |.ptr none,.ptr (some _)=>some false
 |.ptr (some _),.ptr none=>some false
 |.cJ _ _ _,.ptr none=>some false
 |.ptr none,.cJ _ _ _=>some false
 |_,_=>none
def Ei (op:BinOp)(x y:Operand):np:=match op with
 |.eql=>.pure (iX x y λp q=>Q.lift (JO p q) λb=>iY (.bool b))
 |.neq=>.pure (iX x y λp q=>Q.lift (JO p q) λb=>iY (.bool (!b)))
 |_=>.bad
def mkBin (cC:T TypeInfo)(gr:T (List TypeDesc))(op:BinOp)(t:Nat)(x y:Operand):np:=match under cC t with
 |some d=>match d with
  |.int _=>mkInt op x y
  |.string=>mkStr op x y
  |.bool=>AT (.leaf .bool) op x y
  |.pointer _=>Ei op x y
  |_=>match gr.get t with
   |some ds=>AT (.flat ds) op x y
   |none=>.bad
 |none=>.bad
def vM {k:IntKind}(n:a_ k):a_ k:=a_.w k (BitVec.ofInt k.bits (if k.signed then-1 else k.max)^^^BitVec.ofInt k.bits n.1).toNat
def anp (c:C):Q V:=match c with
 |.int k n=>iY (.int k (uI n))
 |_=>.fail
def anq (c:C):Q V:=match c with
 |.bool b=>iY (.bool (!b))
 |_=>.fail
def anr (c:C):Q V:=match c with
 |.int k n=>iY (.int k (vM n))
 |_=>.fail
def atD (op:UnOp)(x:Operand):np:=match op with
 |.neg=>.pure (ni x anp)
 |.not=>.pure (ni x anq)
 |.xor=>.pure (ni x anr)
 |_=>.bad
def oq {α:Type}(σ:bU)(i:Nat)(k:B->Q α):Q α:=match σ.heap.get i with
 |some b=>k b
 |none=>.fail
def zq {α:Type}(l:List C)(o:Nat)(k:C->Q α):Q α:=match l[o]? with
 |some c=>k c
 |none=>.fail
def X_ (ap:Bool)(c:C)(id c_ n sz f:Nat):C:=match ap,c with
 |true,.row t l _=>.row t l (.at_ id c_ n sz f)
 |_,c=>c
def z5 {α:Type}(σ:bU)(id n sz:Nat)(k:(t:dk)->List Bool->L (D t)->Nat->D t->Q α):Q α:=oq σ id λb=>match b with
 |.arr t a3 l none c_=>match Nat.beq t.length sz with
  |true=>.bind (fq l n) λe=>k t a3 l c_ e
  |false=>.fail
 |_=>.fail
def vQ (c:C)(σ:bU):Q V:=match c with
 |.cJ t x o=>zq (lN t x) o iY
 |.ptr (some x)=>oq σ x.1 λb=>match b with
  |.box cs=>zq cs x.2 iY
  |_=>.fail
 |.jZ id n sz f=>z5 σ id n sz λt a3 l c_ e=>zq (lN t e) f λc=>iY (X_ (a3[f]?.getD false) c id c_ n sz f)
 |_=>.fail
def y7 (k:Nat)(c:C)(σ:bU):Q V:=match c with
 |.cJ t x o=>match k with
  |0=>.fail
  |_=>Q.lift (cut (lN t x) o k) λl=>.ret (.p (.agg l))
 |.ptr (some x)=>oq σ x.1 λb=>match b with
  |.box cs=>Q.lift (cut cs x.2 k) λl=>.ret (.p (.agg l))
  |_=>.fail
 |.jZ id n sz f=>match k with
  |0=>.fail
  |_=>z5 σ id n sz λt a3 l c_ e=>Q.lift (cut (lN t e) f k) λl=>.ret (.p (.agg l))
 |_=>.fail
def Lu (a3:List Bool)(f:Nat):Nat->Bool
 |0=>true
 |n+1=>match a3[f]?.getD false with
  |true=>false
  |false=>Lu a3 (f+1) n
inductive wz
  |bY
  |tok
  |arr (a3:List Bool)
def xC (k:Nat)(bY:Option (Nat×dk))(c:C)(x:P)(σ:bU):Q R:=match Nat.beq x.cells.length k with
 |false=>.fail
 |true=>match c with
  |.ptr (some a)=>oq σ a.1 λb=>match b with
   |.box cs=>match Nat.ble (a.2+x.cells.length) cs.length with
    |true=>match bY with
     |none=>.ret (.skip ⟨σ.heap.put a.1 (some (.box (rT cs a.2 x.cells))),σ.next⟩)
     |some q=>match a.2 with
      |0=>Q.lift (mR q.2 (rT cs a.2 x.cells)) λy=>.ret (.qL q.1 (.c (.cJ q.2 y 0)) ⟨σ.heap.put a.1 none,σ.next⟩)
      |_=>.fail
    |false=>.fail
   |_=>.fail
  |.jZ id n sz f=>oq σ id λb=>match b with
   |.arr t a3 l b6 c_=>match Nat.beq t.length sz with
    |false=>.fail
    |true=>match Nat.ble (f+x.cells.length) t.length with
     |false=>.fail
     |true=>match Lu a3 f x.cells.length with
      |true=>match b6 with
       |none=>.bind (fq l n) λe=>Q.lift (mR t (rT (lN t e) f x.cells)) λe'=>.ret (.skip ⟨σ.heap.put id (some (.arr t a3 (ej l n e') none c_)),σ.next⟩)
       |some _=>.fail
      |false=>match x with
       |.c (.row t' y (.dV cB _ _))=>match σ.heap.get cB,t[f]?,a3[f]? with
        |some (.bC aOy),some (.a4 t3),some true=>match kB aOy t3&&kB t' t3 with
         |true=>.bind (fq l n) λe=>Q.lift (mR t ((lN t e).set f (.row t' y .no))) λe'=>
          (match b6 with
           |none=>.ret (.skip ⟨(σ.heap.put cB none).put id (some (.arr t a3 (ej l n e') none (c_+1))),σ.next⟩)
           |some q=>match Nat.beq q.2 f with
            |true=>.ite (decide (q.1=n)) (.ret (.skip ⟨(σ.heap.put cB none).put id (some (.arr t a3 (ej l n e') none (c_+1))),σ.next⟩)) .fail
            |false=>.fail)
         |false=>.fail
        |_,_,_=>.fail
       |_=>.fail
   |_=>.fail
  |_=>.fail
def Ew {α:Type}(c:C)(k:Int->Q α):Q α:=match c with
 |.int _ n=>k n.1
 |_=>.fail
def CK (off:Nat)(c:C):Q V:=match c with
 |.ptr (some x)=>iY (.ptr (some (x.1,x.2+off)))
 |.cJ t x o=>iY (.cJ t x (o+off))
 |.jZ id n sz f=>iY (.jZ id n sz (f+off))
 |_=>.fail
def UD (off:Nat)(x:P):Q V:=match x with
 |.agg l=>zq l off iY
 |.c _=>.fail
def UC (n off:Nat)(x:P):Q V:=match x with
 |.agg l=>Q.lift (cut l off n) λr=>.ret (.p (.agg r))
 |.c _=>.fail
def a1 {α:Type}(l:L α)(i:Int):Option α:=bif decide (0<=i) then l.1[i.toNat]? else none
def acw (sz:Nat)(c i:C):Q V:=Ew i λn=>match c with
 |.row t l _=>match Nat.beq t.length sz with
  |true=>.bind (a1 l n) λe=>iY (.cJ t e 0)
  |false=>.fail
 |.a4 id len=>.ite (decide (0<=n)&&decide (n<len)) (iY (.jZ id n.toNat sz 0)) .fail
 |_=>.fail
def sF (s:dY)(i:Int):Option (a_ .u8):=bif decide (0<=i) then(s.1.data[i.toNat]?).map λu=>⟨u.toNat,by have:=u.toNat_lt;simp[IntKind.min,IntKind.max,IntKind.bits,IntKind.signed];omega⟩ else none
def acx (c i:C):Q V:=Ew i λn=>match c with
 |.str s=>zz (sF s n) (.int .u8)
 |_=>.fail
def acT (c:C):Q V:=match c with
 |.str s=>iY (.int .i64 (kf s))
 |_=>.fail
def acS (c:C):Q V:=match c with
 |.dm=>iY (.int .i64 (a_.w .i64 0))
 |.row t l _=>iY (.int .i64 (bf l))
 |.a4 id n=>iY (.int .i64 (a_.w .i64 n))
 |.u7 id dA n sz=>iY (.int .i64 (a_.w .i64 n))
 |_=>.fail
def y2 {α:Type}(g:Option Operand)(d:Int)(F:Fr)(k:Int->Q α):Q α:=match g with
 |none=>k d
 |some g=>Q.lift (lI (jw g F)) λc=>Ew c k
def R4 (x:Operand)(dA aj:Option Operand)(F:Fr):Q V:=match lI (jw x F) with
 |some (.str s)=>y2 aj s.1.size F λh=>y2 dA 0 F λl=>zz (lM s l h) .str
 |_=>.fail
def R3 (sz:Nat)(x:Operand)(dA aj:Option Operand)(F:Fr):Q V:=match lI (jw x F) with
 |some (.row t s _)=>Q.lift (match Nat.beq t.length sz with|true=>some ()|false=>none) λ_=>y2 aj s.1.length F λh=>y2 dA 0 F λl=>zz (nM s l h) λr=>.row t r .no
 |some (.a4 id n)=>y2 aj n F λh=>y2 dA 0 F λl=>.ite (decide (0<=l)&&decide (l<=h)&&decide (h<=n)) (iY (.u7 id l.toNat (h-l).toNat sz)) .fail
 |_=>.fail
def yl (place:Nat->Option (Nat×Nat))(F:Fr):List (Nat×Operand)->List C->Option (List C)
 |[],cells=>some cells
 |x::rest,cells=>match wG (jw x.2 F) with
  |none=>none
  |some v=>match place x.1 with
   |none=>none
   |some y=>match Nat.beq v.cells.length y.2 with
    |true=>match Nat.ble (y.1+y.2) cells.length with
     |true=>yl place F rest (rT cells y.1 v.cells)
     |false=>none
    |false=>none
def Fq (cC:T TypeInfo):List Field->Option (List (Nat×Nat))
 |[]=>some []
 |f::l=>match size cC f.type with
  |some n=>match Fq cC l with
   |some r=>some ((f.offset,n)::r)
   |none=>none
  |none=>none
def MB (n i:Nat):Option (Nat×Nat):=some (i*n,n)
def ru (z:List C):Nat->List C
 |0=>[]
 |n+1=>z++ru z n
def Ab (place:Nat->Option (Nat×Nat))(z:List C)(l:List (Nat×Operand))(F:Fr):Q V:=match yl place F l z with
 |some cs=>.ret (.p (.agg cs))
 |none=>.fail
def x_ (t:dk):Nat->List C->Option (List (D t))
 |0,_=>some []
 |k+1,l=>match mR t (l.take t.length) with
  |some x=>match x_ t k (l.drop t.length) with
   |some r=>some (x::r)
   |none=>none
  |none=>none
def ZD (k:IntKind)(c:C):Q V:=match c with
 |.int _ n=>iY (.int k (ey k n))
 |_=>.fail
def ZE (c:C):Q V:=match c with
 |.str s=>iY (.str s)
 |_=>.fail
def nK (l:L (D [.int .u8])):dY:=⟨⟨(l.1.map λx=>UInt8.ofNat x.1.1.toNat).toArray⟩,by
 have:=l.2;show((l.1.map λx=>UInt8.ofNat x.1.1.toNat).toArray).size<=_;simp;omega⟩
def x9 (c:C)(σ:bU):Q V:=match c with
 |.dm=>iY (.str (nK L.nil))
 |.row t l _=>if h:kB t [.int .u8]=true then iY (.str (nK (cast (congrArg (λt=>L (D t)) (kC h)) l))) else .fail
 |.a4 id n=>oq σ id λb=>match b with
  |.arr t a3 l none c_=>if h:kB t [.int .u8]=true then iY (.str (nK (cast (congrArg (λt=>L (D t)) (kC h)) l))) else .fail
  |_=>.fail
 |_=>.fail
open bI (T cO under size kM fC jP hN mh qM)
set_option linter.unusedSimpArgs false
structure dC (m:M)(n:Nat)(F:Fr)(a:Go.Act):Prop where
  size:n<=a.tmps.size
  defers:a.defers=[]
  slot:∀t,eo m (gN F t) (a.tmps.getD t undef)
def jC (aV:Program)(m:M)(w:World)(s:Sem Value)(q:Q V):Prop:=∀v,cV q v->∃en,s.run aV w=.ok en w/\eo m v en
section
variable{aV:Program}{w:World}{m m':M}{σ bd:bU}{F:Fr}{a:Go.Act}{n:Nat}{v:V}{α:Type}{z:α}
theorem dC.ext (a5:dC m n F a)(e:Ext m m'):dC m' n F a:=⟨a5.size,a5.defers,λt=>(a5.slot t).ext e⟩
theorem ql {v:V}{c:C}{x:Value}(h:lI v=some c)(aT:eo m v x):dz m c x:=by
 unfold lI at h;split at h
 ·cases h;exact aT
 ·cases h
theorem CN {v:V}{c:P}{x:Value}(h:wG v=some c)(aT:eo m v x):mY m c x:=by
 unfold wG at h;split at h
 ·cases h;exact aT
 ·cases h
theorem lU (a5:dC m n F a)(x:Operand):eo m (jw x F) (a.eval x):=by
 cases x with
 |tmp t=>exact a5.slot t
 |const v=>
  show eo m (match A3 v with|some x=>V.p x|none=>.any) v;cases h:A3 v with
  |none=>trivial
  |some x=>exact Um m h
 |global g=>trivial
 |func f=>exact⟨#[],#[],rfl,trivial,trivial⟩
theorem gR {β:Type}{o:Option β}{k:β->Q α}(h:cV (Q.lift o k) z):∃x,o=some x/\cV (k x) z:=by
 cases o with
 |none=>exact h.cq.elim
 |some x=>exact⟨x,rfl,h⟩
theorem uV {x:Operand}{k:C->Q α}(a5:dC m n F a)(h:cV (ni x k F) z):∃c,dz m c (a.eval x)/\cV (k c) z:=by
 obtain⟨c,an,h⟩:=gR h;exact⟨c,ql an (lU a5 x),h⟩
theorem uW {x y:Operand}{k:C->C->Q α}(a5:dC m n F a)(h:cV (iX x y k F) z):∃c d,dz m c (a.eval x)/\dz m d (a.eval y)/\cV (k c d) z:=by
 obtain⟨c,an,h⟩:=gR h;obtain⟨d,bj,h⟩:=gR h;exact⟨c,d,ql an (lU a5 x),ql bj (lU a5 y),h⟩
theorem Mr {x:Operand}{k:P->Q α}(a5:dC m n F a)(h:cV (uX x k F) z):∃c,mY m c (a.eval x)/\cV (k c) z:=by
 obtain⟨c,an,h⟩:=gR h;exact⟨c,CN an (lU a5 x),h⟩
theorem agH {x y:Operand}{k:P->P->Q α}(a5:dC m n F a)(h:cV (Up x y k F) z):∃c d,mY m c (a.eval x)/\mY m d (a.eval y)/\cV (k c d) z:=by
 obtain⟨c,an,h⟩:=gR h;obtain⟨d,bj,h⟩:=gR h;exact⟨c,d,CN an (lU a5 x),CN bj (lU a5 y),h⟩
theorem A4 {x:Operand}{k:C->bU->Q α}(a5:dC m n F a)(h:cV (mD x k F σ) z):∃c,dz m c (a.eval x)/\cV (k c σ) z:=by
 obtain⟨c,an,h⟩:=gR h;exact⟨c,ql an (lU a5 x),h⟩
theorem ayx {x y:Operand}{k:C->P->bU->Q α}(a5:dC m n F a)(h:cV (A5 x y k F σ) z):∃c d,dz m c (a.eval x)/\mY m d (a.eval y)/\cV (k c d σ) z:=by
 obtain⟨c,an,h⟩:=gR h;obtain⟨d,bj,h⟩:=gR h;exact⟨c,d,ql an (lU a5 x),CN bj (lU a5 y),h⟩
theorem iZ {c:C}(h:cV (iY c) v):v=.p (.c c):=h.eJ
theorem Bd {β:Type}{o:Option β}{f:β->C}(h:cV (zz o f) v):∃x,o=some x/\v=.p (.c (f x)):=by
 obtain⟨x,aa,af⟩:=h.nh;exact⟨x,aa,af.eJ⟩
variable{op:BinOp}{t:TypeId}{x y:Operand}
theorem SF (k cB:IntKind)(i j:Int):(eqGuard op t x y (.int k i) (.int cB j)).run aV w=.ok () w:=by
 unfold eqGuard;cases op<;>simp
theorem aaM (s eE:ByteArray):(eqGuard op t x y (.string s) (.string eE)).run aV w=.ok () w:=by
 unfold eqGuard;cases op<;>simp
theorem sD {f:(k:IntKind)->a_ k->a_ k->C}(a5:dC m n F a)(bE:∀k (i j:a_ k),∃v,(Go.binOp op t (.int k i.1) (.int k j.1)).run aV w=.ok v w/\dz m (f k i j) v):
 jC aV m w (do eqGuard op t x y (a.eval x) (a.eval y);Go.binOp op t (a.eval x) (a.eval y)) (iX x y (ow f) F):=by
 intro v h;obtain⟨c,d,an,bj,h⟩:=uW a5 h;unfold ow at h;split at h
 ·split at h
  ·rename_i k i cB j aX;subst aX;have an:a.eval x=.int cB i.1:=an;have bj:a.eval y=.int cB j.1:=bj;obtain rfl:=iZ h;obtain⟨u,aa,af⟩:=bE cB i j;exact⟨u,by rw[an,bj,iH,SF];exact aa,af⟩
  ·exact h.cq.elim
 ·exact h.cq.elim
theorem acm {f:(k:IntKind)->a_ k->a_ k->Option (a_ k)}(a5:dC m n F a)(bE:∀k (i j:a_ k) z,f k i j=some z->(Go.binOp op t (.int k i.1) (.int k j.1)).run aV w=.ok (.int k z.1) w):
 jC aV m w (do eqGuard op t x y (a.eval x) (a.eval y);Go.binOp op t (a.eval x) (a.eval y)) (iX x y (KI f) F):=by
 intro v h;obtain⟨c,d,an,bj,h⟩:=uW a5 h;unfold KI at h;split at h
 ·split at h
  ·rename_i k i cB j aX;subst aX;have an:a.eval x=.int cB i.1:=an;have bj:a.eval y=.int cB j.1:=bj;obtain⟨z,aa,rfl⟩:=Bd h;exact⟨.int cB z.1,by rw[an,bj,iH,SF];exact bE cB i j z aa,rfl⟩
  ·exact h.cq.elim
 ·exact h.cq.elim
theorem am5 {f:(k cB:IntKind)->a_ k->a_ cB->Option (a_ k)}(a5:dC m n F a)(bE:∀k cB (i:a_ k)(j:a_ cB) z,f k cB i j=some z->(Go.binOp op t (.int k i.1) (.int cB j.1)).run aV w=.ok (.int k z.1) w):
 jC aV m w (do eqGuard op t x y (a.eval x) (a.eval y);Go.binOp op t (a.eval x) (a.eval y)) (iX x y (QT f) F):=by
 intro v h;obtain⟨c,d,an,bj,h⟩:=uW a5 h;unfold QT at h;split at h
 ·rename_i k i cB j;have an:a.eval x=.int k i.1:=an;have bj:a.eval y=.int cB j.1:=bj;obtain⟨z,aa,rfl⟩:=Bd h;exact⟨.int k z.1,by rw[an,bj,iH,SF];exact bE k cB i j z aa,rfl⟩
 ·exact h.cq.elim
theorem ZF {β:Type}{b:Bool}{o:Option β}{z:β}(h:cond b none o=some z):b=false/\o=some z:=by
 cases b with
 |true=>cases h
 |false=>exact⟨rfl,h⟩
theorem CX {β:Type}{b:Bool}{o:Option β}{z:β}(h:cond b o none=some z):b=true/\o=some z:=by
 cases b with
 |true=>exact⟨rfl,h⟩
 |false=>cases h
theorem atw (a5:dC m n F a):match mkInt op x y with
 |.pure f=>jC aV m w (do eqGuard op t x y (a.eval x) (a.eval y);Go.binOp op t (a.eval x) (a.eval y)) (f F)
 |.bad=>True
 |_=>False:=by
 cases op with
 |add=>exact sD a5 λk i j=>⟨_,by simp[Go.binOp,Op.intArith];rfl,rfl⟩
 |sub=>exact sD a5 λk i j=>⟨_,by simp[Go.binOp,Op.intArith];rfl,rfl⟩
 |mul=>exact sD a5 λk i j=>⟨_,by simp[Go.binOp,Op.intArith];rfl,rfl⟩
 |quo=>
  refine acm a5 λk i j z h=>?_;obtain⟨aa,af⟩:=ZF h;cases af;have:j.1≠0:=of_decide_eq_false aa;simp[Go.binOp,Op.intDiv,this,a_.w]
 |rem=>
  refine acm a5 λk i j z h=>?_;obtain⟨aa,af⟩:=ZF h;cases af;have aw:j.1≠0:=of_decide_eq_false aa;have hw:k.wrap (i.1.tmod j.1)=i.1.tmod j.1:=by
   refine Co ?_;have af:=i.2;have abz:k.min<=0/\0<=k.max:=by cases k<;>decide
   have ax:=Int.natAbs_tmod i.1 j.1;have a8:i.1.natAbs%j.1.natAbs<=i.1.natAbs:=Nat.mod_le _ _;rcases Int.le_total 0 i.1 with h|h
   ·have:=Int.tmod_nonneg j.1 h;omega
   ·have cn:i.1.tmod j.1<=0:=by
     have:=Int.tmod_nonneg j.1 (a:=-i.1) ab;rw[Int.neg_tmod] at this;omega
    omega
  simp[Go.binOp,Op.intDiv,aw,a_.w,hw]
 |and=>exact sD a5 λk i j=>⟨_,by simp[Go.binOp,Op.intBits];rfl,by simp[rM,a_.w,dz]⟩
 |or=>exact sD a5 λk i j=>⟨_,by simp[Go.binOp,Op.intBits];rfl,by simp[ox,a_.w,dz]⟩
 |xor=>exact sD a5 λk i j=>⟨_,by simp[Go.binOp,Op.intBits];rfl,by simp[rb,a_.w,dz]⟩
 |shl=>
  refine am5 a5 λk cB i j z h=>?_;obtain⟨aa,af⟩:=CX h;cases af;have:¬(j.1<0):=by have:=of_decide_eq_true aa;omega
  simp[Go.binOp,Op.shift,this,a_.w,Int.natCast_pow]
 |shr=>
  refine am5 a5 λk cB i j z h=>?_;obtain⟨aa,af⟩:=CX h;cases af;have az:¬(j.1<0):=by have:=of_decide_eq_true aa;omega
  have hw:k.wrap (i.1.fdiv (2^(min j.1.toNat k.bits):Nat))=i.1.fdiv (2^(min j.1.toNat k.bits):Nat):=by
   refine Co ?_;have af:=i.2;have abz:k.min<=0/\0<=k.max:=by cases k<;>decide
   have bL:(0:Int)<(2^(min j.1.toNat k.bits):Nat):=by
    have:0<2^(min j.1.toNat k.bits):=Nat.pow_pos bu;omega
   have yQ:(1:Int)<=(2^(min j.1.toNat k.bits):Nat):=ab;rw[Int.fdiv_eq_ediv_of_nonneg _ ab];generalize((2^(min j.1.toNat k.bits):Nat):Int)=p at bL yQ⊢;rcases Int.le_total 0 i.1 with h|h
   ·have dK:=Int.ediv_nonneg h (by omega:0<=p);have dh:=Int.ediv_le_self p h;omega
   ·have dK:i.1/p<=0:=by
     have:=Int.ediv_le_ediv bL h;simpa using this
    have dh:i.1<=i.1/p:=by
     rw[Int.le_ediv_iff_mul_le bL];have:i.1*p<=i.1*1:=Int.mul_le_mul_of_nonpos_left h yQ;omega
    omega
  simp only[a_.w,hw];simp[Go.binOp,Op.shift,az,Int.natCast_pow]
 |eql=>exact sD a5 λk i j=>⟨.bool (i.1==j.1),by simp[Go.binOp,Op.intCmp],rfl⟩
 |neq=>exact sD a5 λk i j=>⟨.bool (i.1!=j.1),by simp[Go.binOp,Op.intCmp],rfl⟩
 |lss=>exact sD a5 λk i j=>⟨.bool (decide (i.1<j.1)),by simp[Go.binOp,Op.intCmp],rfl⟩
 |leq=>exact sD a5 λk i j=>⟨.bool (decide (i.1<=j.1)),by simp[Go.binOp,Op.intCmp],rfl⟩
 |gtr=>exact sD a5 λk i j=>⟨.bool (decide (i.1>j.1)),by simp[Go.binOp,Op.intCmp],rfl⟩
 |geq=>exact sD a5 λk i j=>⟨.bool (decide (i.1>=j.1)),by simp[Go.binOp,Op.intCmp],rfl⟩
 |andNot=>trivial
theorem Jq (s eE:dY):(s.1.toList==eE.1.toList)=cz s eE:=by
 unfold cz;rw[anj,Bool.eq_iff_iff,decide_eq_true_iff,decide_eq_true_iff];exact Subtype.ext_iff.symm
theorem Ch {f:dY->dY->C}(a5:dC m n F a)(bE:∀s eE:dY,∃v,(Go.binOp op t (.string s.1) (.string eE.1)).run aV w=.ok v w/\dz m (f s eE) v):
 jC aV m w (do eqGuard op t x y (a.eval x) (a.eval y);Go.binOp op t (a.eval x) (a.eval y)) (iX x y (xD f) F):=by
 intro v h;obtain⟨c,d,an,bj,h⟩:=uW a5 h;unfold xD at h;split at h
 ·rename_i s eE;have an:a.eval x=.string s.1:=an;have bj:a.eval y=.string eE.1:=bj;obtain rfl:=iZ h;obtain⟨u,aa,af⟩:=bE s eE;exact⟨u,by rw[an,bj,iH,aaM];exact aa,af⟩
 ·exact h.cq.elim
theorem atC (a5:dC m n F a):match mkStr op x y with
 |.pure f=>jC aV m w (do eqGuard op t x y (a.eval x) (a.eval y);Go.binOp op t (a.eval x) (a.eval y)) (f F)
 |.bad=>True
 |_=>False:=by
 cases op with
 |add=>
  intro v h;obtain⟨c,d,an,bj,h⟩:=uW a5 h;unfold am1 at h;split at h
  ·rename_i s eE;have an:a.eval x=.string s.1:=an;have bj:a.eval y=.string eE.1:=bj;obtain⟨z,aa,rfl⟩:=Bd h;unfold fE at aa;split at aa
   ·rename_i hle;cases aa;refine⟨.string (s.1++eE.1),?_,rfl⟩;have aa:¬(((s.1.size+eE.1.size:Nat):Int)>IntKind.i64.max):=by
     have:IntKind.i64.max=9223372036854775807:=by decide
     omega
    rw[an,bj,iH,aaM];simp only[Go.binOp,Op.stringOp,if_neg aa,jT,jq]
   ·cases aa
  ·exact h.cq.elim
 |eql=>exact Ch a5 λs eE=>⟨.bool (cz s eE),by simp only[Go.binOp,Op.stringOp,Jq,jT],rfl⟩
 |neq=>exact Ch a5 λs eE=>⟨.bool (!cz s eE),by simp only[Go.binOp,Op.stringOp,Jq,jT],rfl⟩
 |lss=>exact Ch a5 λs eE=>⟨.bool (oA s eE),by simp only[Go.binOp,Op.stringOp,oA,jT],rfl⟩
 |leq=>exact Ch a5 λs eE=>⟨.bool (oA s eE||cz s eE),by simp only[Go.binOp,Op.stringOp,oA,Jq,jT],rfl⟩
 |gtr=>exact Ch a5 λs eE=>⟨.bool (!(oA s eE||cz s eE)),by simp only[Go.binOp,Op.stringOp,oA,Jq,jT],rfl⟩
 |geq=>exact Ch a5 λs eE=>⟨.bool (!oA s eE),by simp only[Go.binOp,Op.stringOp,oA,jT],rfl⟩
 |_=>trivial
end
def Form (d:TypeDesc)(u e_:Value)(r:Bool):Prop:=(∃q k i j,d=.int q/\u=.int k i/\e_=.int k j/\r=decide (i=j))\/(∃s eE,d=.string/\u=.string s/\e_=.string eE/\r=decide (s=eE))\/(∃x y,d=.bool/\u=.bool x/\e_=.bool y/\r=decide (x=y))
section
variable{aV:Program}{w:World}{m:M}{F:Fr}{a:Go.Act}{n:Nat}{v:V}{t:TypeId}{x y z:Operand}{cC:T TypeInfo}
theorem Form.run {d:TypeDesc}{u e_:Value}{r:Bool}{k:Nat}(bR:aV.underlying t=some d)(h:Form d u e_ r):(Op.equalIn (k+1) t u e_).run aV w=.ok r w:=by
 rcases h with⟨q,cB,i,j,rfl,rfl,rfl,rfl⟩|⟨s,eE,rfl,rfl,rfl,rfl⟩|⟨x,y,rfl,rfl,rfl,rfl⟩
 ·rw[run_equalIn_int w _ _ _ _ _ _ bR];rfl
 ·rw[run_equalIn_string w _ _ _ _ bR,anj]
 ·rw[run_equalIn_bool w _ _ _ _ bR];rfl
theorem Form.part {d:TypeDesc}{u e_:Value}{r:Bool}{cs:Array Value}{off:Nat}(bR:aV.underlying t=some d)(h:Form d u e_ r){b:Value}(ah:cs[off]?=some b):(Go.part t cs off).run aV w=.ok b w:=by
 have cj:(Go.isAgg t).run aV w=.ok false w:=by
  rcases h with⟨q,cB,i,j,rfl,rfl,rfl,rfl⟩|⟨s,eE,rfl,rfl,rfl,rfl⟩|⟨x,y,rfl,rfl,rfl,rfl⟩<;>simp[Go.isAgg,run_underlying bR]
 simp only[Go.part,iH,cj,jq,Bool.false_eq_true,if_false,ah,jT]
def sW:List TypeDesc->List Value->List Value->Bool->Prop
 |[],[],[],r=>r=true
 |d::ds,u::us,e_::nk,r=>∃x,Form d u e_ x/\(x=true->sW ds us nk r)/\(x=false->r=false)
 |_,_,_,_=>False
theorem sW.split:∀{mq yc:List TypeDesc}{us nk:List Value}{b:Bool},sW (mq++yc) us nk b->
 ∃cY,sW mq (us.take mq.length) (nk.take mq.length) cY/\(cY=true->sW yc (us.drop mq.length) (nk.drop mq.length) b)/\(cY=false->b=false)
 |[],yc,us,nk,b,h=>⟨true,rfl,λ_=>h,λq=>by cases q⟩
 |d::mq,yc,u::us,e_::nk,b,⟨x,aa,af,ax⟩=>by
  cases x with
  |true=>
   obtain⟨cY,aI,aQ,bq⟩:=sW.split (af rfl);exact⟨cY,⟨true,aa,λ_=>aI,λq=>by cases q⟩,aQ,bq⟩
  |false=>exact⟨false,⟨false,aa,(λq=>by cases q),λ_=>rfl⟩,(λq=>by cases q),ax⟩
 |d::mq,yc,[],l,b,h=>by cases l<;>exact h.elim
 |d::mq,yc,u::us,[],b,h=>h.elim
def sX (aV:Program)(t:TypeId)(k:Nat)(ds:List TypeDesc):Prop:=∀(w:World)(d:Nat)(xs jz:Array Value)(b:Bool),sW ds xs.toList jz.toList b->(Op.equalIn (d+k) t (.agg xs) (.agg jz)).run aV w=.ok b w
inductive xQ (aV:Program)(k:Nat):Nat->List Field->List TypeDesc->Prop
  |nil (i:Nat):xQ aV k i [] []
  |leaf {i:Nat} {f:Field} {j8:List Field} {d:TypeDesc} {ds:List TypeDesc}:f.name≠ "_"->f.offset=i->aV.underlying f.type=some d->xQ aV k (i+1) j8 ds->xQ aV k i (f::j8) (d::ds)
  |row {i:Nat} {f:Field} {j8:List Field} {mq ds:List TypeDesc} {fs':Array Field}:f.name≠ "_"->f.offset=i->aV.underlying f.type=some (.struct fs')->aV.cellsOf f.type=mq.length->sX aV f.type k mq->xQ aV k (i+mq.length) j8 ds->xQ aV k i (f::j8) (mq++ds)
theorem Kg {l:List Value}{i:Nat}{u:Value}{us:List Value}(h:l.drop i=u::us):l[i]?=some u/\l.drop (i+1)=us:=by
 refine⟨?_,by rw[<-List.drop_drop,h];rfl⟩;have:=congrArg List.head? h;simpa using this
theorem aOb {k:Nat}(d:Nat)(xs jz:Array Value){b:Bool}{i:Nat}{j8:List Field}{ds:List TypeDesc}(bE:xQ aV k i j8 ds):sW ds (xs.toList.drop i) (jz.toList.drop i) b->
 (Op.eqFields (d+(k+1)) xs jz j8).run aV w=.ok b w:=by
 induction bE generalizing b with
 |nil i=>
  intro h;have:b=true:=by
   generalize xs.toList.drop i=p at h;generalize jz.toList.drop i=q at h;cases p<;>cases q<;>first|exact h|exact h.elim
  simp[Op.eqFields,this]
 |@leaf i f j8 dd ds aa af ax a8 cu=>
  intro h
  match bL:xs.toList.drop i,aA:jz.toList.drop i,h with
  |u::us,e_::nk,h=>
   obtain⟨x,aI,aQ,bq⟩:=h;obtain⟨aE,t1⟩:=Kg bL;obtain⟨aP,t2⟩:=Kg aA;have aE:xs[f.offset]?=some u:=by rw[af];simpa using aE
   have aP:jz[f.offset]?=some e_:=by rw[af];simpa using aP
   have SE:=aI.run (w:=w) (k:=d+k) ax;simp only[Op.eqFields,if_pos aa,iH,aI.part ax aE,aI.part ax aP,jq];rw[show d+(k+1)=d+k+1 by omega,SE];cases x with
   |true=>
    simp only[jq,Bool.not_true,Bool.false_eq_true,if_false];rw[show d+k+1=d+(k+1) by omega];refine cu ?_;rw[t1,t2];exact aQ rfl
   |false=>simp[bq rfl]
  |[],l,h=>cases l<;>exact h.elim
  |u::us,[],h=>exact h.elim
 |@row i f j8 mq ds fs' aa af ax a8 cn da cu=>
  intro h;obtain⟨cY,aI,aQ,bq⟩:=h.split;have cj:(Go.isAgg f.type).run aV w=.ok true w:=by simp[Go.isAgg,run_underlying ax]
  have aM:(sizeOf f.type).run aV w=.ok mq.length w:=by
   unfold Program.cellsOf at a8;unfold Program.underlying at ax;cases aj:aV.info? f.type with
   |none=>rw[aj] at ax;cases ax
   |some i=>rw[aj] at a8;simp at a8;simp[sizeOf,typeInfo,aj,a8]
  have arQ:∀xs:Array Value,(Go.part f.type xs f.offset).run aV w=.ok (.agg (xs.extract i (i+mq.length))) w:=λxs=>by
   simp only[Go.part,iH,cj,jq,if_true,aM,jT,af]
  have aO:∀xs:Array Value,(xs.extract i (i+mq.length)).toList=(xs.toList.drop i).take mq.length:=λxs=>by simp
  have SE:=cn w (d+1) (xs.extract i (i+mq.length)) (jz.extract i (i+mq.length)) cY (by rw[aO,aO];exact aI);simp only[Op.eqFields,if_pos aa,iH,arQ,jq];rw[show d+(k+1)=d+1+k by omega,SE];cases cY with
  |true=>
   simp only[jq,Bool.not_true,Bool.false_eq_true,if_false];rw[show d+1+k=d+(k+1) by omega];refine cu ?_;rw[<-List.drop_drop,<-List.drop_drop];exact aQ rfl
  |false=>simp[bq rfl]
theorem Sw {k:Nat}{j8:Array Field}{ds:List TypeDesc}(hu:aV.underlying t=some (.struct j8))(aM:aV.stoodInHeld t=false)(bE:xQ aV k 0 j8.toList ds):sX aV t (k+2) ds:=by
 have abo:aV.fieldsOf t=j8:=by simp[Program.fieldsOf,hu]
 intro w d xs jz b h;rw[show d+(k+2)=d+(k+1)+1 by omega,run_equalIn_struct w (d+(k+1)) t xs jz (by rw[abo];exact hu) aM,abo];exact aOb d xs jz bE (by simpa using h)
theorem amX (d:Nat){e:TypeId}{dd:TypeDesc}(he:aV.underlying e=some dd)(xs jz:Array Value){b:Bool}:∀{k i:Nat},sW (List.replicate k dd) (xs.toList.drop i) (jz.toList.drop i) b->
 (Op.eqItems (d+1) e 1 xs jz (List.range' i k)).run aV w=.ok b w
 |0,i,h=>by
  have:b=true:=by
   generalize xs.toList.drop i=p at h;generalize jz.toList.drop i=q at h;cases p<;>cases q<;>first|exact h|exact h.elim
  simp[Op.eqItems,this]
 |k+1,i,h=>by
  rw[List.replicate_succ] at h
  match bL:xs.toList.drop i,aA:jz.toList.drop i,h with
  |u::us,e_::nk,h=>
   obtain⟨x,aI,aQ,bq⟩:=h;obtain⟨aE,t1⟩:=Kg bL;obtain⟨aP,t2⟩:=Kg aA;rw[List.range'_succ,Op.eqItems];have aE:xs[i*1]?=some u:=by simpa using aE
   have aP:jz[i*1]?=some e_:=by simpa using aP
   simp only[iH,aI.part he aE,aI.part he aP,jq,aI.run he];cases x with
   |true=>
    simp only[Bool.not_true,Bool.false_eq_true,if_false];refine amX d he xs jz ?_;rw[t1,t2];exact aQ rfl
   |false=>simp[bq rfl]
  |[],l,h=>cases l<;>exact h.elim
  |u::us,[],h=>exact h.elim
theorem apJ {k:Nat}{e:TypeId}{dd:TypeDesc}{i:TypeInfo}(hu:aV.underlying t=some (.array k e))(he:aV.underlying e=some dd)(aj:aV.info? e=some i)(aa:aV.cellsOf e=1):
 sX aV t 2 (List.replicate k dd):=by
 intro w d xs jz b h;rw[run_equalIn_array w (d+1) xs jz hu aj,aa,List.range_eq_range'];exact amX d he xs jz (by simpa using h)
def ue (aV:Program)(t:TypeId):sY->Prop
 |.leaf d=>aV.underlying t=some d
 |.flat ds=>(∃k,k<=9000/\sX aV t k ds)/\aV.eqGuardType aV.depth t=false
def xS (k:sY)(u e_:Value)(r:Bool):Prop:=match k with
 |.leaf d=>Form d u e_ r
 |.flat ds=>∃xs jz,u=.agg xs/\e_=.agg jz/\sW ds xs.toList jz.toList r
theorem xS.run {k:sY}{u e_:Value}{r:Bool}(aX:ue aV t k)(h:xS k u e_ r):(Op.equal t u e_).run aV w=.ok r w:=by
 cases k with
 |leaf d=>exact Form.run (k:=9999) aX h
 |flat ds=>
  obtain⟨xs,jz,rfl,rfl,h⟩:=h;obtain⟨⟨k,aa,af⟩,_⟩:=aX;have:=af w (10000-k) xs jz r h
  rwa [Nat.sub_add_cancel ab] at this
theorem xS.guard {k:sY}{u e_:Value}{r:Bool}{op:BinOp}(aX:ue aV t k)(h:xS k u e_ r):(eqGuard op t x y u e_).run aV w=.ok () w:=by
 cases k with
 |leaf d=>
  rcases h with⟨q,cB,i,j,_,rfl,rfl,_⟩|⟨s,eE,_,rfl,rfl,_⟩|⟨x,y,_,rfl,rfl,_⟩<;>(unfold eqGuard;cases op<;>simp)
 |flat ds=>
  obtain⟨xs,jz,rfl,rfl,h⟩:=h;exact run_eqGuard_agg w op t x y xs jz aX.2
theorem xS.bin {k:sY}{u e_:Value}{r:Bool}(aX:ue aV t k)(az:(∀q,k≠.leaf (.int q))/\k≠.leaf .string)(h:xS k u e_ r):
 (Go.binOp .eql t u e_).run aV w=.ok (.bool r) w/\(Go.binOp .neq t u e_).run aV w=.ok (.bool (!r)) w:=by
 have aU:=h.run (w:=w) aX;cases k with
 |leaf d=>
  rcases h with⟨q,cB,i,j,rfl,rfl,rfl,_⟩|⟨s,eE,rfl,rfl,rfl,_⟩|⟨x,y,rfl,rfl,rfl,_⟩
  ·exact absurd rfl (az.1 q)
  ·exact absurd rfl az.2
  ·simp only[Go.binOp,iH,aU,jq,jT,and_self]
 |flat ds=>
  obtain⟨xs,jz,rfl,rfl,h⟩:=h;simp only[Go.binOp,iH,aU,jq,jT,and_self]
theorem amW {e:TypeId}(hu:aV.underlying t=some (.pointer e)){A eZ:Option Addr}{b:Bool}(h:A=none/\b=eZ.isNone\/eZ=none/\b=A.isNone):
 (Op.equal t (.pointer A) (.pointer eZ)).run aV w=.ok b w:=by
 show(Op.equalIn (9999+1) t (.pointer A) (.pointer eZ)).run aV w=.ok b w;generalize 9999=d;rcases h with⟨rfl,rfl⟩|⟨rfl,rfl⟩
 ·simp[Op.equalIn,run_underlying hu]
 ·cases A<;>simp[Op.equalIn,run_underlying hu]
theorem aaz {d:TypeDesc}{c c':C}{u e_:Value}{r:Bool}(h:fits d c c'=some r)(an:dz m c u)(kp:dz m c' e_):Form d u e_ r:=by
 unfold fits at h;split at h
 ·split at h
  ·rename_i q k i cB j aX;subst aX;cases h;exact .inl ⟨q,_,_,_,rfl,an,kp,rfl⟩
  ·cases h
 ·rename_i s eE;cases h;refine .inr (.inl ⟨_,_,rfl,an,kp,?_⟩);unfold cz;rw[Bool.eq_iff_iff,decide_eq_true_iff,decide_eq_true_iff];exact Subtype.ext_iff
 ·rename_i x y;cases h;exact .inr (.inr ⟨_,_,rfl,an,kp,by cases x<;>cases y<;>rfl⟩)
 ·cases h
theorem Z8:∀{ds:List TypeDesc}{l r:List C}{us nk:List Value}{b:Bool},vt ds l r=some b->cO (dz m) l us->cO (dz m) r nk->sW ds us nk b
 |[],[],[],[],[],b,h,_,_=>by simp[vt] at h;subst h;exact rfl
 |d::ds,c::l,c'::r,u::us,e_::nk,b,h,⟨aa,af⟩,⟨ax,a8⟩=>by
  rw[vt] at h;split at h
  ·rename_i x aO;have bE:=aaz aO aa ax;split at h
   ·rename_i y cf;cases h;refine⟨x,bE,λq=>?_,λq=>?_⟩
    ·rw[q,Bool.true_and];exact Z8 cf af a8
    ·rw[q,Bool.false_and]
   ·cases h
  ·cases h
 |[],c::l,_,_,_,b,h,_,_=>by simp[vt] at h
 |[],[],c::r,_,_,b,h,_,_=>by simp[vt] at h
 |d::ds,[],_,_,_,b,h,_,_=>by simp[vt] at h
 |d::ds,c::l,[],_,_,b,h,_,_=>by simp[vt] at h
theorem acE {k:sY}{p p':P}{u e_:Value}{r:Bool}(h:KL k p p'=some r)(bL:mY m p u)(yP:mY m p' e_):xS k u e_ r:=by
 unfold KL at h;split at h
 ·exact aaz h bL yP
 ·obtain⟨xs,rfl,aa⟩:=bL;obtain⟨jz,rfl,af⟩:=yP;exact⟨xs,jz,rfl,rfl,Z8 h aa af⟩
 ·cases h
theorem ac8 {k:sY}{op:BinOp}(a5:dC m n F a)(aX:ue aV t k)(az:(∀q,k≠.leaf (.int q))/\k≠.leaf .string):match AT k op x y with
 |.pure f=>jC aV m w (do eqGuard op t x y (a.eval x) (a.eval y);Go.binOp op t (a.eval x) (a.eval y)) (f F)
 |.bad=>True
 |_=>False:=by
 cases op with
 |eql=>
  intro v h;obtain⟨c,d,an,bj,h⟩:=agH a5 h;obtain⟨b,aa,af⟩:=gR h;obtain rfl:=iZ af;have bE:=acE aa an bj;exact⟨.bool b,by rw[iH,bE.guard aX];exact(bE.bin aX az).1,rfl⟩
 |neq=>
  intro v h;obtain⟨c,d,an,bj,h⟩:=agH a5 h;obtain⟨b,aa,af⟩:=gR h;obtain rfl:=iZ af;have bE:=acE aa an bj;exact⟨.bool (!b),by rw[iH,bE.guard aX];exact(bE.bin aX az).2,rfl⟩
 |_=>trivial
theorem Z9 {c d:C}{u e_:Value}{b:Bool}(h:JO c d=some b)(an:dz m c u)(bj:dz m d e_):
 ∃A eZ:Option Addr,u=.pointer A/\e_=.pointer eZ/\(A=none/\b=eZ.isNone\/eZ=none/\b=A.isNone):=by
 have key:∀{a:Nat×Nat}{u:Value},dz m (.ptr (some a)) u->∃A,u=.pointer (some A):=λ{a u} h=>by
  obtain⟨r,_,rfl⟩:∃r,m.pl a.1=some r/\u=.pointer (some ⟨r,a.2,none⟩):=h;exact⟨_,rfl⟩
 have acD:∀{t:dk}{x:D t}{o:Nat}{u:Value},dz m (.cJ t x o) u->∃A,u=.pointer (some A):=λ{t x o u} h=>by
  obtain⟨b,a,rfl,_⟩:=h;exact⟨_,rfl⟩
 have nil:∀{u:Value},dz m (.ptr none) u->u=.pointer none:=λh=>h;unfold JO at h;split at h
 ·cases h;obtain rfl:=nil an;obtain rfl:=nil bj;exact⟨none,none,rfl,rfl,.inl ⟨rfl,rfl⟩⟩
 ·cases h;obtain rfl:=nil an;obtain⟨A,rfl⟩:=key bj;exact⟨none,some A,rfl,rfl,.inl ⟨rfl,rfl⟩⟩
 ·cases h;obtain rfl:=nil bj;obtain⟨A,rfl⟩:=key an;exact⟨some A,none,rfl,rfl,.inr ⟨rfl,rfl⟩⟩
 ·cases h;obtain rfl:=nil bj;obtain⟨A,rfl⟩:=acD an;exact⟨some A,none,rfl,rfl,.inr ⟨rfl,rfl⟩⟩
 ·cases h;obtain rfl:=nil an;obtain⟨A,rfl⟩:=acD bj;exact⟨none,some A,rfl,rfl,.inl ⟨rfl,rfl⟩⟩
 ·cases h
theorem atz {op:BinOp}{e:TypeId}(a5:dC m n F a)(hu:aV.underlying t=some (.pointer e)):match Ei op x y with
 |.pure f=>jC aV m w (do eqGuard op t x y (a.eval x) (a.eval y);Go.binOp op t (a.eval x) (a.eval y)) (f F)
 |.bad=>True
 |_=>False:=by
 cases op with
 |eql=>
  intro v h;obtain⟨c,d,an,bj,h⟩:=uW a5 h;obtain⟨b,aa,af⟩:=gR h;obtain rfl:=iZ af;obtain⟨A,eZ,aE,aP,af⟩:=Z9 aa an bj;exact⟨.bool b,by rw[aE,aP];simp[eqGuard,Go.binOp,amW hu af],rfl⟩
 |neq=>
  intro v h;obtain⟨c,d,an,bj,h⟩:=uW a5 h;obtain⟨b,aa,af⟩:=gR h;obtain rfl:=iZ af;obtain⟨A,eZ,aE,aP,af⟩:=Z9 aa an bj;exact⟨.bool (!b),by rw[aE,aP];simp[eqGuard,Go.binOp,amW hu af],rfl⟩
 |_=>trivial
end
open bI (T cO under size kM fC jP hN mh qM qN)
structure Step (m:M)(σ:bU)(w:World)(m':M)(bd:bU)(w':World):Prop where
  iK:jR σ.next m m'
  gF:hG m σ w m' bd w'
  next:σ.next<=bd.next
  CS:∀i cs,σ.heap.get i=some (.box cs)->m.pl i=none->bd.heap.get i=some (.box cs)
def Good (aV:Program)(m:M)(σ:bU)(w:World)(a4:Nat->Value)(s:Sem Next):R->Prop
 |.val v bd=>∃m' en w',Step m σ w m' bd w'/\s.run aV w=.ok (.value en) w'/\bQ m' bd w'/\eo m' v en
 |.skip bd=>∃m' w',Step m σ w m' bd w'/\s.run aV w=.ok .skip w'/\bQ m' bd w'
 |.qL t v bd=>∃m' w',Step m σ w m' bd w'/\s.run aV w=.ok .skip w'/\bQ m' bd w'/\eo m' v (a4 t)
 |.call f args bd=>bd=σ/\∃vs:Array Value,cO (eo m) args vs.toList/\s.run aV w=(callFunc f vs).run aV w
section
variable{aV:Program}{w:World}{m m':M}{σ bd:bU}{F:Fr}{a:Go.Act}{n:Nat}{v:V}{α:Type}{z:α}{t:TypeId}{x y:Operand}{cC:T TypeInfo}
theorem Step.refl (m:M)(σ:bU)(w:World):Step m σ w m σ w:=⟨jR.refl _ m,hG.refl m σ w,Nat.le_refl _,λ_ _ h _=>h⟩
theorem Step.trans {qG:M}{xK:bU}{w' u9:World}(h:bQ m σ w)(k:Step m σ w m' bd w')(l:Step m' bd w' qG xK u9):Step m σ w qG xK u9:=
 ⟨k.iK.trans l.iK k.next,k.gF.trans l.gF,jF k.next l.next,λi cs aa af=>l.CS i cs (k.CS i cs aa af) ((k.iK.pl i (by
  rcases kz i σ.next with ax|ax
  ·exact ax
  ·rw[(h.fresh i ax).2.2.2] at aa;cases aa)).trans af)⟩
theorem nx {i:Nat}{k:B->Q α}(h:cV (oq σ i k) z):∃b,σ.heap.get i=some b/\cV (k b) z:=by
 unfold oq at h;split at h
 ·exact⟨_,by assumption,h⟩
 ·exact h.cq.elim
theorem Lz {l:List C}{o:Nat}{k:C->Q α}(h:cV (zq l o k) z):∃c,l[o]?=some c/\cV (k c) z:=by
 unfold zq at h;split at h
 ·exact⟨_,by assumption,h⟩
 ·exact h.cq.elim
theorem Zc {id n sz:Nat}{k:(t:dk)->List Bool->L (D t)->Nat->D t->Q α}(h:cV (z5 σ id n sz k) z):
 ∃t a3 l c_ e,σ.heap.get id=some (.arr t a3 l none c_)/\t.length=sz/\l.1[n]?=some e/\cV (k t a3 l c_ e) z:=by
 unfold z5 at h;obtain⟨b,ah,h⟩:=nx h;split at h
 ·rename_i t a3 l c_;split at h
  ·rename_i aW;obtain⟨e,aa,af⟩:=h.nh;exact⟨t,a3,l,c_,e,ah,gB aW,aa,af⟩
  ·exact h.cq.elim
 ·exact h.cq.elim
theorem aOS {ap:Bool}{c:C}{u:Value}{id c_ k sz f:Nat}(an:dz m c u)(h:ap=true->m.hO id c_ (k*sz+f)=some u):dz m (X_ ap c id c_ k sz f) u:=by
 cases ap with
 |false=>unfold X_;exact an
 |true=>cases c with
  |row t l oD=>exact⟨an.1,h rfl⟩
  |_=>exact an
theorem acY (b9:fC aV cC)(a5:dC m n F a)(bh:bQ m σ w)(cj:bI.isAgg cC t=some false):jC aV m w (Instr.loadAt t (a.eval x)) (mD x vQ F σ):=by
 intro v h;obtain⟨c,an,h⟩:=A4 a5 h;have fin:∀{A:Addr}{u:Value},a.eval x=.pointer (some A)->(Go.load A).run aV w=.ok u w->(Instr.loadAt t (a.eval x)).run aV w=.ok u w:=λaa af=>by
  simp only[aa,Instr.loadAt,Instr.sureAddr,loadVar,iH,jT,jq,qM b9 cj,Bool.false_eq_true,if_false,af]
 unfold vQ at h;split at h
 ·rename_i t' jn o;obtain⟨b,r7,aO,bj⟩:=an;obtain⟨c,an,h⟩:=Lz h;obtain rfl:=iZ h;obtain⟨u,hu,yC⟩:=bj.cell o c an;obtain⟨cur,ty,cm,aI,aQ⟩:=bh.stay _ _ _ hu;exact⟨u,fin aO (qN aI aQ),yC⟩
 ·rename_i p;obtain⟨r,aU,aO⟩:=an;obtain⟨b,ah,h⟩:=nx h;split at h
  ·obtain⟨c,an,h⟩:=Lz h;obtain rfl:=iZ h;obtain⟨u,aa,af⟩:=bh.aoB (aV:=aV) ah aU an;exact⟨u,fin aO aa,af⟩
  ·exact h.cq.elim
 ·rename_i id k sz f;obtain⟨b,len,cp,pR,aO⟩:=an;obtain⟨t',a3,l,c_,e,aj,rfl,he,h⟩:=Zc h;obtain⟨c,an,h⟩:=Lz h;obtain rfl:=iZ h;obtain⟨aI,aQ,bq,cur,ty,cm,cA,eP,fy,gz,hJ,ic,q2,kn⟩:=bh.arr aj pR;obtain⟨u,hu,yC⟩:=(q2 k e he).cell f c an (by simp);rw[gd] at hu;refine⟨u,fin aO (qN eP hu),?_⟩;have q5:f<t'.length:=by
   have:=(ep.1 an).1
   rwa [Db] at this
  refine aOS yC λbZ=>(kn _ _).2 ⟨hu,?_,?_⟩
  ·rw[(yb q5 rfl).2];cases aA:a3[f]? with
   |none=>rw[aA] at bZ;cases bZ
   |some b=>rw[aA] at bZ;simp at bZ;rw[bZ]
  ·rw[(yb q5 rfl).1];exact(ep.1 he).1
 ·exact h.cq.elim
theorem acX {sz:Nat}(b9:fC aV cC)(a5:dC m n F a)(bh:bQ m σ w)(cj:bI.isAgg cC t=some true)(aM:size cC t=some sz):jC aV m w (Instr.loadAt t (a.eval x)) (mD x (y7 sz) F σ):=by
 intro v h;obtain⟨c,an,h⟩:=A4 a5 h;have fin:∀{A:Addr}{vs:List Value},a.eval x=.pointer (some A)->(loadCells A sz).run aV w=.ok vs.toArray w->(Instr.loadAt t (a.eval x)).run aV w=.ok (.agg vs.toArray) w:=λaa af=>by
  simp[aa,Instr.loadAt,Instr.sureAddr,loadVar,qM b9 cj,mh b9 aM,af]
 unfold y7 at h;split at h
 ·rename_i t' jn o;obtain⟨b,r7,aO,bj⟩:=an;split at h
  ·exact h.cq.elim
  ·rename_i k aX;obtain⟨l,aW,h⟩:=gR h;obtain rfl:=h.eJ;obtain⟨rfl,hle⟩:=JD aW;obtain⟨vs,aI,aQ,bq⟩:=Mx (m:=m) (g:=λj=>(m.fz b)[r7+j]?) (λj c an=>bj.cell j c an) sz o hle;have lR:0<sz:=Nat.pos_of_ne_zero λq=>aX q;have hu:(m.fz b)[r7+o]?=some (vs[0]'ab):=by
    have:=aQ 0 ab;simpa using this.trans (fG ab)
   obtain⟨cur,ty,cm,bn,bB⟩:=bh.stay _ _ _ hu;refine⟨_,fin aO (vs:=vs) ?_,_,rfl,by simpa using bq⟩;rw[<-aI];refine bI.run_loadCells bn vs λj aw=>?_;have hu:=aQ j aw;rw[fG aw] at hu;have hu:(m.fz b)[r7+(o+j)]?=some vs[j]:=hu;obtain⟨hU,jm,jI,bD,cZ⟩:=bh.stay _ _ _ hu;rw[bn] at bD;cases bD;rw[Nat.add_assoc,cZ,fG aw]
 ·rename_i p;obtain⟨r,aU,aO⟩:=an;obtain⟨b,ah,h⟩:=nx h;split at h
  ·obtain⟨l,aW,h⟩:=gR h;obtain rfl:=h.eJ;obtain⟨vs,aI,aQ,bq⟩:=bh.aoC (aV:=aV) ah aU aW;exact⟨_,fin aO aQ,_,rfl,by simpa using bq⟩
  ·exact h.cq.elim
 ·rename_i id k xE f;obtain⟨b,len,cp,pR,aO⟩:=an;split at h
  ·exact h.cq.elim
  ·rename_i aX;obtain⟨t',a3,l,c_,e,aj,rfl,he,h⟩:=Zc h;obtain⟨eG,aW,h⟩:=gR h;obtain rfl:=h.eJ;obtain⟨rfl,hle⟩:=JD aW;obtain⟨aI,aQ,bq,cur,ty,cm,cA,eP,fy,gz,hJ,ic,q2,kn⟩:=bh.arr aj pR;obtain⟨vs,bn,bB,dc⟩:=Mx (m:=m) (g:=λj=>cur[k*t'.length+j]?) (λj c an=>by
    obtain⟨u,hu,yC⟩:=(q2 k e he).cell j c an (by simp);rw[gd] at hu;exact⟨u,hu,yC⟩) sz f hle
   refine⟨_,fin aO (vs:=vs) ?_,_,rfl,by simpa using dc⟩;rw[<-bn];exact bI.run_loadCells eP vs λj aw=>by rw[Nat.add_assoc];exact bB j aw
 ·exact h.cq.elim
theorem aeu {a3:List Bool}:∀{k f:Nat},Lu a3 f k=true->∀j,f<=j->j<f+k->a3[j]?.getD false=false
 |0,f,_,j,aa,af=>by omega
 |k+1,f,h,j,aa,af=>by
  rw[Lu] at h;split at h
  ·cases h
  ·rename_i bE;by_cases aw:j=f
   ·rw[aw];exact bE
   ·exact aeu h j ab ab
theorem Ft {i:Nat}{b:B}{j:Nat}{cs:List C}(aj:σ.heap.get i=some b)(az:(∀q,b≠.box q)\/m.pl i≠none)(aw:σ.heap.get j=some (.box cs))(bL:m.pl j=none)(o:Option B):(σ.heap.put i o).get j=some (.box cs):=by
 rw[bI.T.eQ _ _ ?_]
 ·exact aw
 ·intro e;subst e;rw[aj] at aw;cases aw;rcases az with az|az
  ·exact az _ rfl
  ·exact az bL
theorem XY {sz:Nat}{bY:Option (Nat×dk)}(b9:fC aV cC)(a5:dC m n F a)(bh:bQ m σ w)(aM:size cC t=some sz)(ai:∀q,bY=some q->x=.tmp q.1){r:R}(h:cV (A5 x y (xC sz bY) F σ) r):
 Good aV m σ w (λt=>a.tmps.getD t undef) (do Instr.storeAt t (a.eval x) (a.eval y);pure .skip) r:=by
 obtain⟨c,d,an,bj,aa⟩:=ayx a5 h;clear h;have h:=aa;clear aa;unfold xC at h;split at h
 ·exact h.cq.elim
 rename_i hlen;have hlen:=gB hlen;have lg:=bj.cells;have fD:(a.eval y).cells.size=sz:=by rw[<-hlen,lg.length];simp
 have fin:∀{A:Addr}{w'},a.eval x=.pointer (some A)->(storeCells A (a.eval y).cells.toList).run aV w=.ok () w'->(do Instr.storeAt t (a.eval x) (a.eval y);pure .skip:Sem Next).run aV w=.ok .skip w':=λaa af=>by
  simp[aa,Instr.storeAt,Instr.sureAddr,storeVar,mh b9 aM,fD,af]
 split at h
 ·rename_i p;obtain⟨mF,aU,aO⟩:=id an;obtain⟨b,ah,h⟩:=nx h;split at h
  ·rename_i cs;split at h
   ·rename_i hle;have hle:=Nat.le_of_ble_eq_true hle;obtain⟨w',aa,af,ax⟩:=bh.ay0 (aV:=aV) ah aU hle lg;cases bY with
    |none=>
     obtain rfl:=h.eJ;exact⟨m,w',⟨jR.refl _ m,ax,Nat.le_refl _,λj lL aw bL=>Ft ah (.inr (by rw[aU];simp)) aw bL _⟩,fin aO aa,af⟩
    |some q=>
     simp only at h;split at h
     ·rename_i b6;obtain⟨mI,cf,h⟩:=gR h;obtain rfl:=h.eJ;rw[b6] at cf;obtain⟨m',aE,aP,bS,cR⟩:=af.apQ (i:=p.1) (r:=mF) (by simp only[bI.T.ij,b6]) aU cf;have Tb:∀(t:T B) b,(t.put p.1 b).put p.1 none=(t.put p.1 b).put p.1 none:=λ_ _=>rfl;have apc:bQ m' ⟨σ.heap.put p.1 none,σ.next⟩ w':=by
       refine⟨λi aj=>?_,λi b aj=>bS.live i b ?_,λi j bi mo QL aj aw arZ ar0=>bS.inj i j bi mo QL ?_ ?_ arZ ar0,bS.own,bS.stay⟩
       ·obtain⟨f1,f2,f3,f4⟩:=bS.fresh i aj;refine⟨f1,f2,f3,?_⟩;have f4:((σ.heap.put p.1 _).put p.1 none).get i=none:=f4;rw[bI.T.m8] at f4⊢;split
        ·rfl
        ·rename_i az;rw[if_neg az,bI.T.eQ _ _ az] at f4;exact f4
       all_goals
        first
         |(have aj:(σ.heap.put p.1 none).get i=some b:=aj
           show((σ.heap.put p.1 _).put p.1 none).get i=some b;rw[bI.T.m8] at aj⊢;split at aj
           ·cases aj
           ·rename_i az;rw[if_neg az,bI.T.eQ _ _ az];exact aj)
         |(have aj:(σ.heap.put p.1 none).get i=some bi:=aj
           show((σ.heap.put p.1 _).put p.1 none).get i=some bi;rw[bI.T.m8] at aj⊢;split at aj
           ·cases aj
           ·rename_i az;rw[if_neg az,bI.T.eQ _ _ az];exact aj)
         |(have aw:(σ.heap.put p.1 none).get j=some mo:=aw
           show((σ.heap.put p.1 _).put p.1 none).get j=some mo;rw[bI.T.m8] at aw⊢;split at aw
           ·cases aw
           ·rename_i az;rw[if_neg az,bI.T.eQ _ _ az];exact aw)
      have Da:hG m σ w m' ⟨σ.heap.put p.1 none,σ.next⟩ w':=by
       have:=ax.trans cR;refine⟨this.os,this.tape,this.output,this.size,this.fz,λb ah b6=>?_,this.own⟩;obtain⟨bn,bB,dc,ek⟩:=this.kept b ah b6;refine⟨bn,bB,dc,?_⟩;rintro⟨R,u_,i,x,ng,mB,LC⟩;refine ek ⟨R,u_,i,x,ng,?_,LC⟩;have mB:(σ.heap.put p.1 none).get i=some x:=mB;show((σ.heap.put p.1 _).put p.1 none).get i=some x;rw[bI.T.m8] at mB⊢;split at mB
       ·cases mB
       ·rename_i az;rw[if_neg az,bI.T.eQ _ _ az];exact mB
      refine⟨m',w',⟨aE,Da,Nat.le_refl _,λj lL aw bL=>Ft ah (.inr (by rw[aU];simp)) aw bL _⟩,fin aO aa,apc,?_⟩;have aA:=ai q rfl;subst aA;show dz m' (.cJ q.2 mI 0) (a.eval (.tmp q.1));rw[aO,b6];exact⟨mF,0,rfl,aP⟩
     ·exact h.cq.elim
   ·exact h.cq.elim
  ·exact h.cq.elim
 ·rename_i id k xE f;obtain⟨b,len,cp,pR,aO⟩:=an;obtain⟨RG,ah,aa⟩:=nx h;clear h;have h:=aa;clear aa;split at h
  ·rename_i t' a3 l b6 c_;split at h
   ·exact h.cq.elim
   ·rename_i pX;have pX:=gB pX;subst pX;split at h
    ·exact h.cq.elim
    ·rename_i hle;have hle:=Nat.le_of_ble_eq_true hle;split at h
     ·rename_i aaZ;split at h
      ·obtain⟨e,he,h⟩:=h.nh;obtain⟨e',fA,h⟩:=gR h;obtain rfl:=h.eJ;obtain⟨w',aa,af,ax⟩:=bh.ayZ (aV:=aV) ah pR he fA hle (aeu aaZ) lg;exact⟨m,w',⟨jR.refl _ m,ax,Nat.le_refl _,λj lL aw bL=>Ft ah (.inl (by simp)) aw bL _⟩,fin aO aa,af⟩
      ·exact h.cq.elim
     ·rename_i aaZ;cases d with
      |agg xe=>exact h.cq.elim
      |c pI=>
      cases pI with
      |row t1 aq oD=>
       cases oD with
       |dV bn avg aOx=>
       simp only at h;split at h
       ·rename_i t2 t3 abA ar_ aPy;split at h
        ·rename_i heq;simp only[gQ] at heq;have cx:=kC heq.1;have cI:=kC heq.2;subst cx cI;obtain⟨e,he,h⟩:=h.nh;obtain⟨e',fA,h⟩:=gR h;have S_:(a.eval y).cells.toList=[a.eval y]:=by
          have:=bI.JB (dz.one (m:=m) (x:=.row t1 aq (.dV bn avg aOx)) bj).1;rw[this]
         have k3:dU m.fz (.a4 t1) aq (a.eval y)/\m.bj bn=some (a.eval y):=⟨bj.1,bj.2.1⟩;have main:(b6=none\/b6=some (k,f))->r=.skip ⟨(σ.heap.put bn none).put id (some (.arr t' a3 (ej l k e') none (c_+1))),σ.next⟩->Good aV m σ w (λt=>a.tmps.getD t undef) (do Instr.storeAt t (a.eval x) (a.eval y);pure .skip) r:=by
          intro sq aU;subst aU;obtain⟨m',w',aa,af,ax,a8⟩:=bh.fill (aV:=aV) ah sq pR abA k3.2 ar_ he k3.1 fA;refine⟨m',w',⟨af,a8,Nat.le_refl _,λj lL aw bL=>?_⟩,fin aO (by rw[S_];exact aa),ax⟩;have bD:j≠id:=λq=>by rw[q,ah] at aw;cases aw
          have cZ:j≠bn:=λq=>by rw[q,abA] at aw;cases aw
          show((σ.heap.put bn none).put id _).get j=_;rw[bI.T.eQ _ _ bD,bI.T.eQ _ _ cZ];exact aw
         split at h
         ·exact main (.inl rfl) h.eJ
         ·rename_i aQX;split at h
          ·rename_i Td;have Td:=gB Td;rcases h.vU with⟨i1,i2⟩|⟨_,i2⟩
           ·have i1:=of_decide_eq_true i1;exact main (.inr (by rw[<-i1,<-Td])) i2.eJ
           ·exact i2.cq.elim
          ·exact h.cq.elim
        ·exact h.cq.elim
       ·exact h.cq.elim
       |_=>exact h.cq.elim
      |_=>exact h.cq.elim
  ·exact h.cq.elim
 ·exact h.cq.elim
end
open bI (T cO under size kM fC jP hN mh qM qN ia mU oC)
def wS (cC:T TypeInfo)(t f:Nat):Option (Nat×Nat):=match under cC t with
 |some (.struct j8)=>match j8[f]? with
  |some g=>some (g.type,g.offset)
  |none=>none
 |_=>none
def T4 (g:Operand)(F:Fr):Q V:=.ret (jw g F)
def pick (c a b:Operand)(F:Fr):Q V:=match lI (jw c F) with
 |some (.bool x)=>.ite x (.ret (jw a F)) (.ret (jw b F))
 |_=>.fail
def aex (c:C):Q V:=match c with
 |.ptr (some _)=>iY c
 |.cJ _ _ _=>iY c
 |.jZ _ _ _ _=>iY c
 |.fn _ _ _=>iY c
 |_=>.fail
def St (g:Operand)(i:Nat)(F:Fr):Q V:=match jw g F with
 |.Q2 l=>match l[i]? with
  |some x=>.ret (.p x)
  |none=>.fail
 |_=>.fail
def CL (F:Fr):List Operand->Option (List (Nat×Nat))
 |[]=>some []
 |g::l=>match lI (jw g F) with
  |some (.ptr (some a))=>match CL F l with
   |some r=>some (a::r)
   |none=>none
  |_=>none
def ac5 (f:Nat)(first cap:List Operand)(F:Fr):Q V:=Q.lift (CL F first) λus=>Q.lift (CL F cap) λvs=>iY (.fn f us vs)
section
variable{aV:Program}{w:World}{m m':M}{σ bd:bU}{F:Fr}{a:Go.Act}{n:Nat}{v:V}{α:Type}{t:TypeId}{x y z:Operand}{cC:T TypeInfo}
theorem T6 {c:C}{u:Value}{k:Int->Q α}{z:α}(h:cV (Ew c k) z)(an:dz m c u):∃qF n,u=.int qF n/\qF.min<=n/\n<=qF.max/\cV (k n) z:=by
 unfold Ew at h;split at h
 ·rename_i qF i;exact⟨qF,i.1,an,i.2.1,i.2.2,h⟩
 ·exact h.cq.elim
theorem asE {l:L α}{i:Int}{e:α}(h:a1 l i=some e):0<=i/\l.1[i.toNat]?=some e/\i<l.1.length:=by
 obtain⟨aa,af⟩:=CX h;have aa:=of_decide_eq_true aa;have:=(ep.1 af).1;exact⟨aa,af,ab⟩
theorem asF {e sz:Nat}(b9:fC aV cC)(a5:dC m n F a)(hu:under cC t=some (.slice e))(aM:size cC e=some sz):jC aV m w (Instr.indexAt t (a.eval x) (a.eval y)) (iX x y (acw sz) F):=by
 intro v ba;obtain⟨c,d,an,bj,aa⟩:=uW a5 ba;obtain⟨qF,i,cf,_,_,h⟩:=T6 aa bj;clear ba aa;have fin:∀{A:Addr}{len cap:Nat},a.eval x=.slice (some A) len cap->0<=i->i<len->(Instr.indexAt t (a.eval x) (a.eval y)).run aV w=.ok (.pointer (some (A.add (i.toNat*sz)))) w:=λaO ba af=>by
  have uA:(0:Int)<=i/\i<(_:Int):=⟨ba,af⟩;simp only[aO,cf,Instr.indexAt,asIntOf,iH,jT,jq,hN b9 hu,if_pos uA,mh b9 aM]
 cases c with
 |row t' l oD=>
  simp only at h;split at h
  ·rename_i aW;have aW:=gB aW;subst aW;obtain⟨e',he,h⟩:=h.nh;obtain rfl:=iZ h;obtain⟨ba,aa,af⟩:=asE he;have k3:=an.1;simp only[dU] at k3;obtain⟨A,cp,aO,hle,DD⟩:=k3;obtain⟨b,o,dH,SQ⟩:=DD (λaz=>by rw[az] at aa;simp at aa);subst dH;exact⟨.pointer (some ⟨b,o+i.toNat*t'.length,none⟩),by rw[fin aO ba af,bI.add_eq],b,o+i.toNat*t'.length,by simp,SQ _ _ aa⟩
  ·exact h.cq.elim
 |a4 id len=>
  obtain⟨A,cp,aO,fP,dH,hle⟩:=an;rcases h.vU with⟨aa,af⟩|⟨_,af⟩
  ·obtain rfl:=iZ af;simp only[gQ,decide_eq_true_eq] at aa;obtain⟨b,rfl⟩:=dH ab;rw[aO] at fP;exact⟨.pointer (some ⟨b,i.toNat*sz,none⟩),by rw[fin aO aa.1 aa.2,bI.add_eq,gd],b,len,cp,fP,by simp⟩
  ·exact af.cq.elim
 |_=>exact h.cq.elim
theorem Y3 {off:Nat}{c:C}{u:Value}(h:cV (CK off c) v)(an:dz m c u):∃b o,u=.pointer (some ⟨b,o,none⟩)/\eo m v (.pointer (some ⟨b,o+off,none⟩)):=by
 cases c with
 |ptr p=>cases p with
  |none=>exact h.cq.elim
  |some p=>
   obtain rfl:=iZ h;obtain⟨r,aU,aO⟩:=an;exact⟨r,_,aO,r,aU,rfl⟩
 |cJ t' jn o=>
  obtain rfl:=iZ h;obtain⟨b,r7,aO,DD⟩:=an;exact⟨b,_,aO,b,r7,by rw[Nat.add_assoc],DD⟩
 |jZ id n sz f=>
  obtain rfl:=iZ h;obtain⟨b,k,c,fP,aO⟩:=an;exact⟨b,_,aO,b,k,c,fP,by rw[Nat.add_assoc]⟩
 |_=>exact h.cq.elim
theorem aol {f pM off k:Nat}(b9:fC aV cC)(a5:dC m n F a)(bE:wS cC t f=some (pM,off))(aM:size cC pM=some (k+1)):jC aV m w (Instr.fieldAt t (a.eval x) f) (ni x (CK off) F):=by
 intro v h;obtain⟨c,an,aX⟩:=uV a5 h;obtain⟨b,o,aO,aT⟩:=Y3 aX an;unfold wS at bE;split at bE
 ·rename_i j8 hu;split at bE
  ·rename_i g cj;cases bE;exact⟨.pointer (some ⟨b,o+g.offset,none⟩),
    by simp[aO,Instr.fieldAt,Instr.sureAddr,hN b9 hu,cj,fieldPlace,mh b9 aM,bI.add_eq],aT⟩
  ·cases bE
 ·cases bE
theorem asD {e k sz:Nat}{j:Int}{qF:IntKind}(b9:fC aV cC)(a5:dC m n F a)(hu:under cC t=some (.array k e))(aM:size cC e=some sz)(ba:0<=j)(aa:j<k):
 jC aV m w (Instr.indexAt t (a.eval x) (.int qF j)) (ni x (CK (j.toNat*sz)) F):=by
 intro v h;obtain⟨c,an,aX⟩:=uV a5 h;obtain⟨b,o,aO,aT⟩:=Y3 aX an;have uA:(0:Int)<=j/\j<(k:Int):=⟨ba,aa⟩;exact⟨.pointer (some ⟨b,o+j.toNat*sz,none⟩),
  by simp only[aO,Instr.indexAt,Instr.sureAddr,asIntOf,iH,jT,jq,hN b9 hu,if_pos uA,mh b9 aM,bI.add_eq],aT⟩
theorem asG (b9:fC aV cC)(a5:dC m n F a)(aM:under cC t=some .string):jC aV m w (Instr.index t (a.eval x) (a.eval y)) (iX x y acx F):=by
 intro v ba;obtain⟨c,d,an,bj,aa⟩:=uW a5 ba;obtain⟨qF,i,cf,_,_,h⟩:=T6 aa bj;clear ba aa;cases c with
 |str s=>
  have aO:a.eval x=.string s.1:=an;obtain⟨b,ah,rfl⟩:=Bd h;obtain⟨aa,af⟩:=CX ah;have aa:=of_decide_eq_true aa;have hu:∃u,s.1.data[i.toNat]?=some u/\b.1=(u.toNat:Int):=by
   cases aA:s.1.data[i.toNat]? with
   |none=>rw[aA] at af;cases af
   |some u=>rw[aA] at af;cases af;exact⟨u,rfl,rfl⟩
  obtain⟨u,hu,aqS⟩:=hu;obtain⟨bl,w8⟩:=oc.1 hu;have aA:s.1[i.toNat]?=some u:=by
   have o6:i.toNat<s.1.size:=bl;rw[getElem?_pos s.1 i.toNat o6];exact congrArg some w8
  have uA:i.toNat<s.1.size:=bl;exact⟨.int .u8 (u.toNat:Int),by
   have:(0:Int)<=i/\i<(s.1.size:Int):=⟨aa,ab⟩;have abY:s.1[i.toNat]'uA=u:=w8
   simp[aO,cf,Instr.index,asIntOf,hN b9 aM,aA,this,aa,abY],by show Value.int .u8 _=.int .u8 b.1;rw[aqS]⟩
 |_=>exact h.cq.elim
theorem as9 (b9:fC aV cC)(a5:dC m n F a)(aM:under cC t=some .string){ty:TypeId}:jC aV m w (Builtin.len_ #[t] ty #[a.eval x]) (ni x acT F):=by
 intro v h;obtain⟨c,an,h⟩:=uV a5 h;cases c with
 |str s=>
  obtain rfl:=iZ h;have aO:a.eval x=.string s.1:=an;exact⟨goInt s.1.size,by simp[aO,Builtin.len_,hN b9 aM],rfl⟩
 |_=>exact h.cq.elim
theorem as8 (b9:fC aV cC)(a5:dC m n F a){e ty:TypeId}(aM:under cC t=some (.slice e)):jC aV m w (Builtin.len_ #[t] ty #[a.eval x]) (ni x acS F):=by
 intro v h;obtain⟨c,an,h⟩:=uV a5 h;cases c with
 |dm=>
  obtain rfl:=iZ h;have an:a.eval x=.slice none 0 0:=an;exact⟨goInt 0,by simp[an,Builtin.len_,hN b9 aM],rfl⟩
 |row t' l oD=>
  obtain rfl:=iZ h;have k3:=an.1;simp only[dU] at k3;obtain⟨A,cp,aO,_⟩:=k3;exact⟨goInt l.1.length,by simp[aO,Builtin.len_,hN b9 aM],rfl⟩
 |u7 id dA k sz=>
  obtain rfl:=iZ h;obtain⟨A,cp,aO,aa,hle,af⟩:=an;refine⟨goInt k,by simp[aO,Builtin.len_,hN b9 aM],?_⟩;show Value.int .i64 (k:Int)=.int .i64 (IntKind.i64.wrap k);rw[Co];simp[IntKind.min,IntKind.max,IntKind.bits,IntKind.signed];omega
 |a4 id k=>
  obtain rfl:=iZ h;obtain⟨A,cp,aO,fP,dH,hle⟩:=an;refine⟨goInt k,by simp[aO,Builtin.len_,hN b9 aM],?_⟩;show Value.int .i64 (k:Int)=.int .i64 (IntKind.i64.wrap k);rw[Co];simp[IntKind.min,IntKind.max,IntKind.bits,IntKind.signed];omega
 |_=>exact h.cq.elim
def Rh (a:Go.Act)(b:Option Operand)(d h:Nat):Prop:=match b with
 |none=>h=d
 |some x=>∃qF,a.eval x=.int qF (h:Nat)
theorem RU {b:Bool}{len cap l h:Nat}{dA aj:Option Operand}(fP:Rh a aj len h)(aW:Rh a dA 0 l)(aa:l<=h)(af:h<=cap):
 (Instr.sliceBounds b len cap (dA.map a.eval) (aj.map a.eval) none).run aV w=.ok (l,h,cap) w:=by
 have i1:(0:Int)<=(h:Int)/\(h:Int)<=(cap:Int):=⟨ab,ab⟩;have i2:(0:Int)<=(l:Int)/\(l:Int)<=(h:Int):=⟨ab,ab⟩;cases aj with
 |none=>
  have fP:h=len:=fP;cases dA with
  |none=>have aW:l=0:=aW;subst fP aW;simp[Instr.sliceBounds]
  |some y=>
   obtain⟨bB,aP⟩:=aW;subst fP;simp only[Instr.sliceBounds,Instr.sliceBound,asIntOf,aP,Option.map_some,Option.map_none,iH,jT,jq,if_pos i2,Int.toNat_natCast]
 |some x=>
  obtain⟨bn,aE⟩:=fP;cases dA with
  |none=>
   have aW:l=0:=aW;subst aW;simp only[Instr.sliceBounds,Instr.sliceBound,asIntOf,aE,Option.map_some,Option.map_none,iH,jT,jq,if_pos i1,Int.toNat_natCast]
  |some y=>
   obtain⟨bB,aP⟩:=aW;simp only[Instr.sliceBounds,Instr.sliceBound,asIntOf,aE,aP,Option.map_some,Option.map_none,iH,jT,jq,if_pos i1,if_pos i2,Int.toNat_natCast]
theorem amV {e sz:Nat}(b9:fC aV cC)(hu:under cC t=some (.slice e))(aM:size cC e=some sz){A:Option Addr}{len cap l h xm:Nat}{cY eT gY:Option Value}(ah:(Instr.sliceBounds true len cap cY eT gY).run aV w=.ok (l,h,xm) w):
 (Instr.sliceAt t (.slice A len cap) cY eT gY).run aV w=.ok (.slice (if xm=l then A else A.map (·.add (l*sz))) (h-l) (xm-l)) w:=by
 simp only[Instr.sliceAt,Instr.slice,iH,jT,jq,hN b9 hu,ah,mh b9 aM]
theorem AN {g:Option Operand}{d:Int}{k:Int->Q α}{z:α}(a5:dC m n F a)(h:cV (y2 g d F k) z):∃i,cV (k i) z/\∀e:Nat,d=e->0<=i->Rh a g e i.toNat:=by
 cases g with
 |none=>exact⟨d,h,λe he aj=>by show d.toNat=e;omega⟩
 |some g=>
  obtain⟨c,an,h⟩:=gR h;obtain⟨qF,i,cf,_,_,h⟩:=T6 h (ql an (lU a5 g));exact⟨i,h,λe _ aj=>⟨qF,by rw[cf,Int.toNat_of_nonneg aj]⟩⟩
theorem ao9 {dA aj:Option Operand}(b9:fC aV cC)(a5:dC m n F a)(hu:under cC t=some .string):jC aV m w (Instr.sliceAt t (a.eval x) (dA.map a.eval) (aj.map a.eval) none) (R4 x dA aj F):=by
 intro v ba;unfold R4 at ba;split at ba
 ·rename_i s aM;have aO:a.eval x=.string s.1:=ql aM (lU a5 x);obtain⟨j,aa,aw⟩:=AN a5 ba;obtain⟨i,af,uD⟩:=AN a5 aa;obtain⟨r,aU,rfl⟩:=Bd af;unfold lM at aU;split at aU
  ·rename_i an;cases aU;simp only[gQ,decide_eq_true_eq] at an;refine⟨.string (s.1.extract i.toNat j.toNat),?_,rfl⟩;simp[aO,Instr.sliceAt,Instr.slice,hN b9 hu,RU (b:=false) (aw _ rfl ab) (uD 0 rfl ab) (show i.toNat<=j.toNat by omega) (show j.toNat<=s.1.size by omega)]
  ·cases aU
 ·exact ba.cq.elim
theorem ao8 {e sz:Nat}{dA aj:Option Operand}(b9:fC aV cC)(a5:dC m n F a)(hu:under cC t=some (.slice e))(aM:size cC e=some sz):jC aV m w (Instr.sliceAt t (a.eval x) (dA.map a.eval) (aj.map a.eval) none) (R3 sz x dA aj F):=by
 intro v ba;unfold R3 at ba;split at ba
 ·rename_i t' l oD aW;have k3:=(show dz m (.row t' l oD) (a.eval x) from ql aW (lU a5 x)).1;obtain⟨_,fD,aa⟩:=gR ba;have fD:t'.length=sz:=by
   split at fD
   ·rename_i aA;exact gB aA
   ·cases fD
  obtain⟨j,aa,aw⟩:=AN a5 aa;obtain⟨i,af,uD⟩:=AN a5 aa;obtain⟨r,aU,rfl⟩:=Bd af;obtain⟨an,aU⟩:=CX aU;cases aU;simp only[gQ,decide_eq_true_eq] at an;simp only[dU] at k3;obtain⟨A,cp,aO,hle,DD⟩:=k3;have ah:=RU (aV:=aV) (w:=w) (a:=a) (b:=true) (cap:=cp) (aw _ rfl ab) (uD 0 rfl ab) (show i.toNat<=j.toNat by omega) (show j.toNat<=cp by omega);refine⟨_,by rw[aO];exact amV b9 hu aM ah,?_,trivial⟩;have hlen:((l.1.drop i.toNat).take (j-i).toNat).length=j.toNat-i.toNat:=by
   rw[List.length_take,List.length_drop];omega
  simp only[dU];refine⟨_,_,by rw[hlen],by rw[hlen];omega,λaz=>?_⟩;have lR:0<((l.1.drop i.toNat).take (j-i).toNat).length:=List.length_pos_iff.2 az;rw[hlen] at lR;obtain⟨b,o,rfl,SQ⟩:=DD (λq=>by rw[q] at an;simp at an;omega);refine⟨b,o+i.toNat*sz,by rw[if_neg ab];simp[bI.add_eq],λk e' aX=>?_⟩;have pS:l.1[i.toNat+k]?=some e':=by
   rw[List.getElem?_take] at aX;split at aX
   ·rwa [List.getElem?_drop] at aX
   ·cases aX
  have:=SQ _ _ pS;rw[iQ] at this;rw[fD] at this⊢;rw[Nat.add_assoc];exact this
 ·rename_i id n' aW;obtain⟨A,cp,aO,fP,dH,hle,DV⟩:=(show dz m (.a4 id n') (a.eval x) from ql aW (lU a5 x));obtain⟨j,aa,aw⟩:=AN a5 ba;obtain⟨i,af,uD⟩:=AN a5 aa;rcases af.vU with⟨an,ax⟩|⟨_,ax⟩
  ·obtain rfl:=iZ ax;simp only[gQ,decide_eq_true_eq] at an;have ah:=RU (aV:=aV) (w:=w) (a:=a) (b:=true) (cap:=cp) (aw _ rfl ab) (uD 0 rfl ab) (show i.toNat<=j.toNat by omega) (show j.toNat<=cp by omega);have hlen:(j-i).toNat=j.toNat-i.toNat:=ab;refine⟨_,by rw[aO];exact amV b9 hu aM ah,_,_,by rw[hlen],by rw[hlen];omega,ab,λaz=>?_⟩;rw[hlen] at az;obtain⟨b,rfl⟩:=dH ab;refine⟨b,n',cp,by rw[fP,aO],?_,ab⟩;rw[if_neg ab];simp[bI.add_eq]
  ·exact ax.cq.elim
 ·exact ba.cq.elim
theorem ael (a5:dC m n F a)(h:cV (T4 x F) v):eo m v (a.eval x):=by
 obtain rfl:=h.eJ;exact lU a5 x
theorem ayK (a5:dC m n F a)(h:cV (pick x y z F) v):
 ∃en,(do pure (.value (if<-asBool (a.eval x) then a.eval y else a.eval z)):Sem Next).run aV w=.ok (.value en) w/\eo m v en:=by
 unfold pick at h;split at h
 ·rename_i b ah;have aO:a.eval x=.bool b:=ql ah (lU a5 x);rcases h.vU with⟨aa,af⟩|⟨aa,af⟩
  ·obtain rfl:=af.eJ;exact⟨a.eval y,by simp[aO,asBool,aa],lU a5 y⟩
  ·obtain rfl:=af.eJ;exact⟨a.eval z,by simp[aO,asBool,aa],lU a5 z⟩
 ·exact h.cq.elim
theorem apw {i:Nat}(a5:dC m n F a):jC aV m w (Instr.extract (a.eval x) i) (St x i F):=by
 intro v h;unfold St at h;have aO:=lU a5 x;split at h
 ·rename_i l aW;rw[aW] at aO;obtain⟨vs,aT,af⟩:=aO;split at h
  ·rename_i p bL;obtain rfl:=h.eJ;obtain⟨u,ax,a8⟩:=af.get bL;exact⟨u,by simp[aT,Instr.extract,show vs[i]?=some u by simpa using ax],a8⟩
  ·exact h.cq.elim
 ·exact h.cq.elim
theorem aOG (a5:dC m n F a):jC aV m w (Op.unary .not (a.eval x)) (ni x anq F):=by
 intro v h;obtain⟨c,an,h⟩:=uV a5 h;cases c with
 |bool b=>
  obtain rfl:=iZ h;have an:a.eval x=.bool b:=an;exact⟨.bool (!b),by simp[an,Op.unary],rfl⟩
 |_=>exact h.cq.elim
theorem aOF (a5:dC m n F a):jC aV m w (Op.unary .neg (a.eval x)) (ni x anp F):=by
 intro v h;obtain⟨c,an,h⟩:=uV a5 h;cases c with
 |int k i=>
  obtain rfl:=iZ h;have an:a.eval x=.int k i.1:=an;exact⟨.int k (k.wrap (0-i.1)),by simp[an,Op.unary,Op.intArith],rfl⟩
 |_=>exact h.cq.elim
theorem aOH (a5:dC m n F a):jC aV m w (Op.unary .xor (a.eval x)) (ni x anr F):=by
 intro v h;obtain⟨c,an,h⟩:=uV a5 h;cases c with
 |int k i=>
  obtain rfl:=iZ h;have an:a.eval x=.int k i.1:=an;exact⟨.int k (vM i).1,by simp[an,Op.unary,Op.intBits,vM,a_.w],rfl⟩
 |_=>exact h.cq.elim
theorem avl (a5:dC m n F a){o:Oper}(b6:o.op=.nilCheck x)(h:cV (ni x aex F) v):∃en,(execOp a.eval o).run aV w=.ok (.value en) w/\eo m v en:=by
 obtain⟨c,an,h⟩:=uV a5 h;cases c with
 |ptr p=>cases p with
  |none=>exact h.cq.elim
  |some p=>
   obtain rfl:=iZ h;obtain⟨q,aA,aO⟩:=id an;exact⟨a.eval x,by simp[execOp,b6,aO],an⟩
 |cJ t' jn o=>
  obtain rfl:=iZ h;obtain⟨b,r7,aO,_⟩:=id an;exact⟨a.eval x,by simp[execOp,b6,aO],an⟩
 |jZ yW k sz f=>
  obtain rfl:=iZ h;obtain⟨b,_,_,_,aO⟩:=id an;exact⟨a.eval x,by simp[execOp,b6,aO],an⟩
 |fn f us vs=>
  obtain rfl:=iZ h;obtain⟨us,vs,aO,_⟩:=id an;exact⟨a.eval x,by simp[execOp,b6,aO],an⟩
 |_=>exact h.cq.elim
theorem aoZ {s d:TypeId}{k:IntKind}{ds:TypeDesc}(b9:fC aV cC)(a5:dC m n F a)(aM:under cC s=some ds)(bj:under cC d=some (.int k)):jC aV m w (Go.convert s d (a.eval x)) (ni x (ZD k) F):=by
 intro v h;obtain⟨c,an,h⟩:=uV a5 h;cases c with
 |int cB i=>
  obtain rfl:=iZ h;have an:a.eval x=.int cB i.1:=an;exact⟨.int k (k.wrap i.1),by simp[an,Go.convert,hN b9 aM,hN b9 bj,Conv.intToInt],rfl⟩
 |_=>exact h.cq.elim
theorem ao2 {s d:TypeId}(b9:fC aV cC)(a5:dC m n F a)(aM:under cC s=some .string)(bj:under cC d=some .string):jC aV m w (Go.convert s d (a.eval x)) (ni x ZE F):=by
 intro v h;obtain⟨c,an,h⟩:=uV a5 h;cases c with
 |str eE=>
  obtain rfl:=iZ h;have aO:a.eval x=.string eE.1:=an;exact⟨.string eE.1,by simp[aO,Go.convert,hN b9 aM,hN b9 bj],rfl⟩
 |_=>exact h.cq.elim
theorem ayH {c:P}{u:Value}{k off:Nat}{pM:TypeId}(b9:fC aV cC)(cj:bI.isAgg cC pM=some true)(aM:size cC pM=some k)(an:mY m c u)(h:cV (UC k off c) v):∃cs,u=.agg cs/\∃e_,(Go.part pM cs off).run aV w=.ok e_ w/\eo m v e_:=by
 cases c with
 |agg l=>
  obtain⟨r,aU,h⟩:=gR h;obtain rfl:=h.eJ;obtain⟨rfl,_⟩:=JD aU;obtain⟨cs,rfl,af⟩:=an;refine⟨cs,rfl,.agg (cs.extract off (off+k)),by simp only[part,iH,jT,jq,qM b9 cj,mh b9 aM,if_true],_,rfl,?_⟩;have:=(af.drop off).take k;simpa using this
 |c _=>exact h.cq.elim
theorem ayI {c:P}{u:Value}{off:Nat}{pM:TypeId}(b9:fC aV cC)(cj:bI.isAgg cC pM=some false)(an:mY m c u)(h:cV (UD off c) v):∃cs,u=.agg cs/\∃e_,(Go.part pM cs off).run aV w=.ok e_ w/\eo m v e_:=by
 cases c with
 |agg l=>
  obtain⟨r,aU,h⟩:=Lz h;obtain rfl:=iZ h;obtain⟨cs,rfl,af⟩:=an;obtain⟨u,a8,cn⟩:=af.get aU;rw[Array.getElem?_toList] at a8;exact⟨cs,rfl,u,by simp only[part,iH,jT,jq,qM b9 cj,Bool.false_eq_true,if_false,a8],cn⟩
 |c _=>exact h.cq.elim
theorem apE {f pM off k:Nat}(b9:fC aV cC)(a5:dC m n F a)(bE:wS cC t f=some (pM,off))(cj:bI.isAgg cC pM=some true)(aM:size cC pM=some k):jC aV m w (Instr.field t (a.eval x) f) (uX x (UC k off) F):=by
 intro v h;obtain⟨c,an,aX⟩:=Mr a5 h;unfold wS at bE;split at bE
 ·rename_i j8 hu;split at bE
  ·rename_i g yH;cases bE;obtain⟨cs,aO,e_,aa,af⟩:=ayH (aV:=aV) (w:=w) b9 cj aM an aX;exact⟨e_,by simp only[aO,Instr.field,asAgg,iH,jT,jq,hN b9 hu,yH,aa],af⟩
  ·cases bE
 ·cases bE
theorem apF {f pM off:Nat}(b9:fC aV cC)(a5:dC m n F a)(bE:wS cC t f=some (pM,off))(cj:bI.isAgg cC pM=some false):jC aV m w (Instr.field t (a.eval x) f) (uX x (UD off) F):=by
 intro v h;obtain⟨c,an,aX⟩:=Mr a5 h;unfold wS at bE;split at bE
 ·rename_i j8 hu;split at bE
  ·rename_i g yH;cases bE;obtain⟨cs,aO,e_,aa,af⟩:=ayI (aV:=aV) (w:=w) b9 cj an aX;exact⟨e_,by simp only[aO,Instr.field,asAgg,iH,jT,jq,hN b9 hu,yH,aa],af⟩
  ·cases bE
 ·cases bE
theorem RA (a5:dC m n F a):∀(l:List Operand){r:List (Nat×Nat)},CL F l=some r->cO (qT m) r (l.map a.eval)
 |[],r,h=>by cases h;trivial
 |g::l,r,h=>by
  rw[CL] at h;split at h
  ·rename_i p bL;split at h
   ·rename_i q aA;cases h;exact⟨ql bL (lU a5 g),RA a5 l aA⟩
   ·cases h
  ·cases h
theorem atq {f:Nat}{first cap:Array Operand}(a5:dC m n F a):jC aV m w (Instr.makeFunc (.func f) (first.map a.eval) (cap.map a.eval)) (ac5 f first.toList cap.toList F):=by
 intro v h;obtain⟨us,hu,h⟩:=gR h;obtain⟨vs,aT,h⟩:=gR h;obtain rfl:=iZ h;exact⟨.func (.func f) (first.map a.eval) (cap.map a.eval),by simp[Instr.makeFunc],_,_,rfl,by simpa using RA a5 _ hu,by simpa using RA a5 _ aT⟩
end
theorem aaB (off:Nat):∀(vs:List Value)(i:Nat)(cur:Array Value),(vs.zipIdx i).foldl (λcs (x:Value×Nat)=>cs.setIfInBounds (off+x.2) x.1) cur=ia cur (off+i) vs
 |[],_,_=>rfl
 |v::vs,i,cur=>by
  rw[List.zipIdx_cons,List.foldl_cons,aaB off vs (i+1),ia];rfl
section
variable{aV:Program}{w:World}{m m':M}{σ bd:bU}{F:Fr}{a:Go.Act}{n:Nat}{v:V}{α:Type}{t:TypeId}{x y z:Operand}{cC:T TypeInfo}
theorem ayG {cs l:List C}{cur vs:Array Value}{off:Nat}(aa:cO (dz m) cs cur.toList)(af:cO (dz m) l vs.toList)(hle:off+l.length<=cs.length):
 cO (dz m) (rT cs off l) (ia cur off vs.toList).toList:=by
 have kU:=aa.length;have nR:=af.length;simp only[Array.length_toList] at kU;refine cO.Mo (by rw[Ut hle,kU,Array.length_toList,mU]) λj c u aw hu=>?_;rw[Us hle] at aw;rw[Array.getElem?_toList,oC _ _ _ _ ab] at hu;by_cases ma:off<=j/\j<off+l.length
 ·rw[if_pos ma] at aw;rw[if_pos ab] at hu;obtain⟨e_,aI,aQ⟩:=af.get aw;rw[hu] at aI;cases aI;exact aQ
 ·rw[if_neg ma] at aw;rw[if_neg ab] at hu;obtain⟨e_,aI,aQ⟩:=aa.get aw;rw[Array.getElem?_toList,hu] at aI;cases aI;exact aQ
theorem JR (a5:dC m n F a)(place:Nat->Option (Nat×Nat)):∀(ct:List (Nat×Operand)){cs l:List C}{cur:Array Value},cO (dz m) cs cur.toList->yl place F ct cs=some l->
 ∃cells,Instr.fill place cur (ct.map λp=>(p.1,a.eval p.2))=some cells/\cO (dz m) l cells.toList
 |[],cs,l,cur,aa,h=>by cases h;exact⟨cur,rfl,aa⟩
 |p::ct,cs,l,cur,aa,h=>by
  simp only[yl] at h;split at h
  ·cases h
  ·rename_i u hu;have hu:=CN hu (lU a5 p.2);split at h
   ·cases h
   ·rename_i pl DY;split at h
    ·rename_i af;split at h
     ·rename_i ax;have af:=gB af;have ax:=Nat.le_of_ble_eq_true ax;have Kl:=aa.length;have DU:=hu.cells.length;simp only[Array.length_toList] at Kl DU;obtain⟨cells,aI,aQ⟩:=JR a5 place ct (ayG aa hu.cells ab) h;refine⟨cells,?_,aQ⟩;rw[List.map_cons,Instr.fill];simp only[DY];have az:((a.eval p.2).cells.size≠pl.2||pl.1+(a.eval p.2).cells.size>cur.size)=false:=by
       simp only[ne_eq,Bool.or_eq_false_iff,decide_eq_false_iff_not,Decidable.not_not,gt_iff_lt,Nat.not_lt];omega
      rw[az];simp only[Bool.false_eq_true,if_false];rw[<-Array.foldl_toList,Array.toList_zipIdx,aaB pl.1 _ 0,cv];exact aI
     ·cases h
    ·cases h
theorem agR (b9:fC aV cC):∀{j8:List Field}{pl:List (Nat×Nat)},Fq cC j8=some pl->
 (j8.mapM (m:=Sem) λf=>do pure (f.offset,<-sizeOf f.type)).run aV w=.ok pl w
 |[],pl,h=>by cases h;simp
 |f::j8,pl,h=>by
  simp only[Fq] at h;split at h
  ·rename_i k aX;split at h
   ·rename_i r aU;cases h;have cu:=agR b9 aU;simp only[List.mapM_cons,iH,mh b9 aX,jq,jT,cu]
   ·cases h
  ·cases h
theorem aOc {α β:Type}(f:α->Sem β)(xs:Array α){l:List β}(h:(xs.toList.mapM f).run aV w=.ok l w):(xs.mapM f).run aV w=.ok l.toArray w:=by
 rw[Array.mapM_eq_mapM_toList];simp[h]
theorem aoG {j8:Array Field}{pl:List (Nat×Nat)}{ct:Array (Nat×Operand)}{qb:P}(b9:fC aV cC)(a5:dC m n F a)(ai:zero cC t=some qb)(hu:under cC t=some (.struct j8))(bL:Fq cC j8.toList=some pl):
 jC aV m w (Instr.build t (ct.map λ(i,x)=>(i,a.eval x))) (Ab (λi=>pl[i]?) qb.cells ct.toList F):=by
 intro v h;unfold Ab at h;split at h
 ·rename_i cs lg;obtain rfl:=h.eJ;obtain⟨gM,aa,af⟩:=QM b9 (w:=w) m ai;obtain⟨cells,ax,a8⟩:=JR a5 _ _ af.cells lg;refine⟨.agg cells,?_,cells,rfl,a8⟩;have cn:=aOc (aV:=aV) (w:=w) _ j8 (agR b9 bL);have da:Instr.fill (pl.toArray[·]?) gM.cells (ct.map λ(i,x)=>(i,a.eval x)).toList=some cells:=by
   rw[<-ax,Array.toList_map];congr 1;funext i;simp
  simp only[Instr.build,iH,aa,jq,hN b9 hu,cn,da,jT]
 ·exact h.cq.elim
theorem aoF {e k len:Nat}{ct:Array (Nat×Operand)}{qb:P}(b9:fC aV cC)(a5:dC m n F a)(ai:zero cC t=some qb)(hu:under cC t=some (.array len e))(aM:size cC e=some k):
 jC aV m w (Instr.build t (ct.map λ(i,x)=>(i,a.eval x))) (Ab (MB k) qb.cells ct.toList F):=by
 intro v h;unfold Ab at h;split at h
 ·rename_i cs lg;obtain rfl:=h.eJ;obtain⟨gM,aa,af⟩:=QM b9 (w:=w) m ai;obtain⟨cells,ax,a8⟩:=JR a5 _ _ af.cells lg;refine⟨.agg cells,?_,cells,rfl,a8⟩;have da:Instr.fill (λi=>some (i*k,k)) gM.cells (ct.map λ(i,x)=>(i,a.eval x)).toList=some cells:=by
   rw[<-ax,Array.toList_map];rfl
  simp only[Instr.build,iH,aa,jq,hN b9 hu,mh b9 aM,da,jT]
 ·exact h.cq.elim
theorem amY:∀(us:List UInt8)(s:ByteArray),
 (forIn (m:=Sem) (us.map λu=>Value.int .u8 (u.toNat:Int)) s λc r=>do
  match c with
  |.int .u8 n=>pure (ForInStep.yield (r.push (UInt8.ofNat n.toNat)))
  |_=>do
   stuck "bytesToString: byte expected"
   pure (ForInStep.yield r)).run aV w=.ok (s++⟨us.toArray⟩) w
 |[],s=>by
  simp only[List.map_nil,List.forIn_nil,jT];congr 1;apply ByteArray.ext;simp[ByteArray.data_append]
 |u::us,s=>by
  simp only[List.map_cons,List.forIn_cons,iH,jT,jq];rw[amY us];congr 1;apply ByteArray.ext;simp[ByteArray.data_append]
end
def oG {α:Type}(l:L α)(dA n:Nat):L α:=⟨(l.1.drop dA).take n,by have:=l.2;simp;omega⟩
def cD {α:Type}(l:List α):L α:=if h:l.length<=140737488355328 then⟨l,h⟩ else L.nil
theorem fu {α:Type}{l:List α}(h:l.length<=140737488355328):(cD l).1=l:=by simp[cD,h]
def elemOf (cC:T TypeInfo)(e:Nat):Option (Nat×Nat×List C):=match size cC e with
 |none=>none
 |some sz=>match kM cC e with
  |none=>none
  |some e5=>match zero cC e with
   |none=>none
   |some z=>match Nat.ble 1 sz&&Nat.ble e5 1048576&&Nat.beq z.cells.length sz with
    |true=>some (sz,e5,z.cells)
    |false=>none
def AP:C->Bool
 |.dm=>true
 |_=>false
def z2:List Bool->List C->Bool
 |_,[]=>true
 |a3,c::cs=>(bif a3.headD false then AP c else true)&&z2 a3.tail cs
def Jj (a3:List Bool)(sz:Nat):Nat->List C->Bool
 |0,_=>true
 |k+1,cs=>z2 a3 (cs.take sz)&&Jj a3 sz k (cs.drop sz)
def uo:List Bool->List Bool->List Bool
 |a::l,b::r=>(a&&b)::uo l r
 |_,_=>[]
def EA (sz:Nat):Nat->List C->List Bool
 |0,_=>[]
 |1,cs=>(cs.take sz).map AP
 |k+2,cs=>uo ((cs.take sz).map AP) (EA sz (k+1) (cs.drop sz))
def zl (b:B)(c:C)(σ:bU):Q R:=.ret (.val (.p (.c c)) ⟨σ.heap.put σ.next (some b),σ.next+1⟩)
def Zn (t:dk)(x:P):Q V:=Q.lift (mR t x.cells) λy=>iY (.cJ t y 0)
def Zo (x:P)(σ:bU):Q R:=zl (.box x.cells) (.ptr (some (σ.next,0))) σ
def IL (t:dk)(len sz:Nat)(z:List C)(l:List (Nat×Operand))(F:Fr):Option (List C×List (D t)):=match Nat.beq t.length sz&&Nat.ble (len*sz) 100000 with
 |true=>match yl (MB sz) F l (ru z len) with
  |some cs=>match x_ t len cs with
   |some xs=>some (cs,xs)
   |none=>none
  |none=>none
 |false=>none
def am6 (t:dk)(len sz:Nat)(z:List C)(l:List (Nat×Operand))(F:Fr):Q V:=Q.lift (IL t len sz z l F) λy=>iY (.row t (cD y.2) (.nl (EA sz len y.1) sz))
def XV (t:dk)(len sz:Nat)(z:List C)(l:List (Nat×Operand))(F:Fr)(σ:bU):Q R:=Q.lift (IL t len sz z l F) λy=>zl (.bC t) (.row t (cD y.2) (.dV σ.next [] 0)) σ
def XU (a3:List Bool)(t:dk)(len sz:Nat)(z:List C)(l:List (Nat×Operand))(F:Fr)(σ:bU):Q R:=Q.lift (IL t len sz z l F) λy=>match Jj a3 sz len y.1 with
 |true=>zl (.arr t a3 (cD y.2) none 0) (.a4 σ.next len) σ
 |false=>.fail
def y_ (a3:List Bool)(t:dk)(sz e5:Nat)(z:List C)(c:C)(σ:bU):Q R:=match Nat.beq t.length sz&&z2 a3 z with
 |true=>match mR t z with
  |some e=>match c with
   |.int .i64 n=>.bind (rh e5 n e) λl=>zl (.arr t a3 l none 0) (.a4 σ.next l.1.length) σ
   |_=>.fail
  |none=>.fail
 |false=>.fail
def sc (s:dY):Option (L (D [.int .u8])):=if h:s.1.size<=140737488355328 then some ⟨s.1.data.toList.map λu=>(⟨u.toNat,by have:=u.toNat_lt;simp[IntKind.min,IntKind.max,IntKind.bits,IntKind.signed];omega⟩,()),by simpa using h⟩ else none
def QY (c:C)(σ:bU):Q R:=match c with
 |.str s=>.bind (sc s) λl=>zl (.arr [.int .u8] [] l none 0) (.a4 σ.next l.1.length) σ
 |_=>.fail
def CW (c:C)(σ:bU):Q R:=match c with
 |.row t l (.dV k nl sz)=>oq σ k λb=>match b with
  |.bC t'=>match kB t' t with
   |true=>match Nat.beq l.1.length 0 with
    |true=>.fail
    |false=>.ret (.val (.p (.c (.row t l (.dV k nl sz)))) σ)
   |false=>.fail
  |_=>.fail
 |_=>.fail
def Rk (aV:Program)(m:M)(σ:bU)(w:World)(s:Sem Value)(q:Q V):Prop:=∀v,cV q v->∃m' en w',Step m σ w m' σ w'/\s.run aV w=.ok en w'/\bQ m' σ w'/\eo m' v en
def mX (aV:Program)(m:M)(σ:bU)(w:World)(s:Sem Value):R->Prop
 |.val v bd=>∃m' en w',Step m σ w m' bd w'/\s.run aV w=.ok en w'/\bQ m' bd w'/\eo m' v en
 |_=>False
section
variable{aV:Program}{w:World}{m m':M}{σ bd:bU}{F:Fr}{a:Go.Act}{n:Nat}{v:V}{α:Type}{t:TypeId}{x y z:Operand}{cC:T TypeInfo}{r:R}
theorem mX.SD {s:Sem Value}{a4:Nat->Value}(h:mX aV m σ w s r):Good aV m σ w a4 (do pure (.value (<-s))) r:=by
 cases r with
 |val v bd=>
  obtain⟨m',en,w',aa,af,ax,a8⟩:=h;exact⟨m',en,w',aa,by simp[af],ax,a8⟩
 |_=>exact h.elim
theorem Step.put {m':M}{b:B}{w':World}(h:bQ m σ w)(e:jR σ.next m m')(k:hG m σ w m' ⟨σ.heap.put σ.next (some b),σ.next+1⟩ w'):Step m σ w m' ⟨σ.heap.put σ.next (some b),σ.next+1⟩ w':=
 ⟨e,k,Nat.le_succ _,λi cs aj _=>(bI.T.eQ _ _ λe=>by subst e;rw[(h.fresh _ (Nat.le_refl _)).2.2.2] at aj;cases aj).trans aj⟩
structure xP (aV:Program)(cC:T TypeInfo)(e sz e5:Nat)(z:List C):Prop where
  size:bI.size cC e=some sz
  pos:0<sz
  info:∃i gM,aV.info? e=some i/\i.size=sz/\i.bytes=e5/\i.bytes<=1048576/\i.zero=some gM/\(∀m,cO (dz m) z gM.cells.toList)
  len:z.length=sz
theorem yd (b9:fC aV cC){e:Nat}{q:Nat×Nat×List C}(h:elemOf cC e=some q):xP aV cC e q.1 q.2.1 q.2.2:=by
 unfold elemOf at h;split at h
 ·cases h
 ·rename_i sz fD;split at h
  ·cases h
  ·rename_i e5 qx;split at h
   ·cases h
   ·rename_i z ai;split at h
    ·rename_i ah;cases h;simp only[gQ] at ah;obtain⟨⟨aa,af⟩,ax⟩:=ah;have aa:=Nat.le_of_ble_eq_true aa;have af:=Nat.le_of_ble_eq_true af;have ax:=gB ax;refine⟨fD,aa,?_,ax⟩;unfold bI.size at fD;unfold kM at qx;unfold zero at ai;split at fD
     ·rename_i i aj;rw[aj] at qx ai;cases fD;cases qx;simp only at ai;split at ai
      ·rename_i gM asn;exact⟨i,gM,b9.info _ _ aj,rfl,rfl,af,asn,λm=>(Um m ai).cells⟩
      ·cases ai
     ·cases fD
    ·cases h
theorem QK (z:List C):∀n,(ru z n).length=n*z.length
 |0=>by simp[ru]
 |n+1=>by simp[ru,QK z n,iQ,Nat.add_comm]
theorem amJ (z:List C):∀(n j:Nat),j<n*z.length->(ru z n)[j]?=z[j%z.length]?
 |0,j,h=>by simp at h
 |n+1,j,h=>by
  rw[ru];by_cases aw:j<z.length
  ·rw[mL aw,Nat.mod_eq_of_lt aw]
  ·rw[iQ,Nat.one_mul] at h;rw[mM ab,amJ z n _ ab];congr 1;rw[<-Nat.mod_eq_sub_mod ab]
theorem anL {z:List C}{gM:Array Value}{sz k:Nat}(h:cO (dz m) z gM.toList)(aM:z.length=sz):cO (dz m) (ru z k) ((Array.range (k*sz)).map (λi=>gM[i%gM.size]!)).toList:=by
 have aW:=h.length;simp only[Array.length_toList] at aW;subst aM;refine cO.Mo (by simp[QK]) λj c u aw hu=>?_;have bl:j<k*z.length:=by
  rw[<-QK];exact(ep.1 aw).1
 rw[amJ z k j bl] at aw;obtain⟨e_,aI,aQ⟩:=h.get aw;have abI:j%z.length<gM.size:=by
  rw[<-aW];refine Nat.mod_lt _ ?_;rcases Nat.eq_zero_or_pos z.length with ba|ba
  ·rw[ba] at bl;simp at bl
  ·exact ba
 have:u=e_:=by
  rw[Array.getElem?_toList] at hu aI;rw[Array.getElem?_map,Array.getElem?_range,if_pos bl] at hu;simp only[Option.map_some,Option.some.injEq] at hu;rw[<-hu,<-aW];rw[Array.getElem?_eq_getElem abI] at aI;injection aI with aI
  rw[<-aI,getElem!_pos gM _ abI]
 rw[this];exact aQ
theorem R5 {t:dk}:∀{k:Nat}{cs:List C}{xs:List (D t)}{vs:List Value},x_ t k cs=some xs->cO (dz m) cs vs->cs.length=k*t.length->xs.length=k/\jo m.fz t xs vs
 |0,cs,xs,vs,h,an,aW=>by
  cases h;have:cs=[]:=pG (by simpa using aW);subst this;cases vs with
  |nil=>exact⟨rfl,rfl⟩
  |cons v vs=>exact an.elim
 |k+1,cs,xs,vs,h,an,aW=>by
  rw[x_] at h;split at h
  ·rename_i x aO;split at h
   ·rename_i r aU;cases h;rw[iQ,Nat.one_mul] at aW;obtain⟨aa,af⟩:=R5 aU (an.drop t.length) (by rw[List.length_drop];omega);exact⟨by simp[aa],vs.take t.length,vs.drop t.length,(List.take_append_drop _ _).symm,ZP aO (an.take t.length),af⟩
   ·cases h
  ·cases h
theorem anm {t:dk}:∀{a3:List Bool}{cs:List C}{x:D t}{vs:List Value},mR t cs=some x->cO (dz m) cs vs->z2 a3 cs=true->oR m.fz t a3 x vs:=by
 induction t with
 |nil=>
  intro a3 cs x vs h an _;cases cs with
  |nil=>cases vs with
   |nil=>rfl
   |cons v vs=>exact an.elim
  |cons c cs=>rw[JE] at h;cases h
 |cons l t cu=>
  intro a3 cs x vs h an bZ;cases cs with
  |nil=>rw[C4] at h;cases h
  |cons c cs=>cases vs with
   |nil=>exact an.elim
   |cons v vs=>
    obtain⟨aa,af⟩:=C3 h;rw[z2,gQ] at bZ;refine⟨v,vs,rfl,C2 aa an.1,λah t' _=>?_,cu af an.2 bZ.2⟩;have bZ:=bZ.1;rw[ah] at bZ;cases c with
    |dm=>exact an.1
    |_=>cases bZ
theorem ZO {t:dk}{a3:List Bool}:∀{k:Nat}{cs:List C}{xs:List (D t)}{vs:List Value},x_ t k cs=some xs->cO (dz m) cs vs->cs.length=k*t.length->Jj a3 t.length k cs=true->xs.length=k/\j6 m.fz t a3 xs vs
 |0,cs,xs,vs,h,an,aW,_=>by
  cases h;have:cs=[]:=pG (by simpa using aW);subst this;cases vs with
  |nil=>exact⟨rfl,rfl⟩
  |cons v vs=>exact an.elim
 |k+1,cs,xs,vs,h,an,aW,bZ=>by
  rw[x_] at h;rw[Jj,gQ] at bZ;split at h
  ·rename_i x aO;split at h
   ·rename_i r aU;cases h;rw[iQ,Nat.one_mul] at aW;obtain⟨aa,af⟩:=ZO aU (an.drop t.length) (by rw[List.length_drop];omega) bZ.2;exact⟨by simp[aa],vs.take t.length,vs.drop t.length,(List.take_append_drop _ _).symm,anm aO (an.take t.length) bZ.1,af⟩
   ·cases h
  ·cases h
theorem anM {t:dk}{a3:List Bool}{z:List C}{e:D t}(ai:mR t z=some e)(bZ:z2 a3 z=true):∀{k:Nat}{vs:List Value},cO (dz m) (ru z k) vs->j6 m.fz t a3 (List.replicate k e) vs
 |0,vs,h=>by
  cases vs with
  |nil=>rfl
  |cons v vs=>exact h.elim
 |k+1,vs,h=>by
  rw[ru] at h;have aa:=h.take z.length;have af:=h.drop z.length;rw[List.take_left] at aa;rw[List.drop_left] at af;exact⟨vs.take z.length,vs.drop z.length,(List.take_append_drop _ _).symm,anm ai aa bZ,anM ai bZ af⟩
theorem aoE (a5:dC m n F a)(bh:bQ m σ w)(h:cV (uX x (λy=>Zo y σ) F) r):mX aV m σ w (Instr.box t (a.eval x)) r:=by
 obtain⟨c,an,h⟩:=Mr a5 h;obtain rfl:=h.eJ;obtain⟨ax,a8⟩:=bh.aeo (ty:=t) an.cells;have e:=M.Sq (m:=m) (r:=w.heap.size) (bh.fresh σ.next (Nat.le_refl _)).1;exact⟨_,.pointer (some ⟨w.heap.size,0,none⟩),_,.put bh e a8,by simp[Instr.box,newVar,Go.newRow,newObj,Sem.run],ax,w.heap.size,by simp[M.jE],rfl⟩
theorem Step.same {m':M}{w':World}(e:jR σ.next m m')(k:hG m σ w m' σ w'):Step m σ w m' σ w':=⟨e,k,Nat.le_refl _,λ_ _ h _=>h⟩
theorem aoD {ty:dk}(a5:dC m n F a)(bh:bQ m σ w):Rk aV m σ w (Instr.box t (a.eval x)) (uX x (Zn ty) F):=by
 intro v h;obtain⟨c,an,h⟩:=Mr a5 h;obtain⟨y,cf,h⟩:=gR h;obtain rfl:=iZ h;obtain⟨e,aa,af⟩:=bh.aeq (cur:=(a.eval x).cells) (vs:=(a.eval x).cells.toList) (ty:=t) λj v aw=>by simpa using aw
 refine⟨_,.pointer (some ⟨w.heap.size,0,none⟩),_,.same ⟨e,λ_ _=>rfl⟩ af,by simp[Instr.box,newVar,Go.newRow,newObj,Sem.run],aa,w.heap.size,0,rfl,?_⟩;exact R7 (m:=m.lH w.heap.size (a.eval x).cells.toList) cf (an.cells.imp λ_ _=>dz.ext e) λj v aw=>by simpa[M.lH] using aw
theorem RV {e len sz e5:Nat}{ty:dk}{n4:List C}{ct:Array (Nat×Operand)}{q:List C×List (D ty)}(b9:fC aV cC)(a5:dC m n F a)(hu:under cC t=some (.slice e))(he:xP aV cC e sz e5 n4)(h:IL ty len sz n4 ct.toList F=some q):ty.length=sz/\len<=100000/\q.1.length=len*sz/\x_ ty len q.1=some q.2/\
  ∃cells,(Instr.buildSlice t len (ct.map λ(i,x)=>(i,a.eval x))).run aV w=.ok (.slice (some ⟨w.heap.size,0,none⟩) len len) (w.alloc (.cells cells e))/\cO (dz m) q.1 cells.toList/\cells.size=len*sz:=by
 unfold IL at h;split at h
 ·rename_i ah;simp only[gQ] at ah;have aD:=gB ah.1;have aR:=Nat.le_of_ble_eq_true ah.2;split at h
  ·rename_i cs lg;split at h
   ·rename_i xs asf;cases h;obtain⟨i,gM,aj,aa,af,Du,ax,a8⟩:=he.info;have Tr:(zeroValue e).run aV w=.ok gM w:=by simp[zeroValue,typeInfo,aj,ax]
    have ai:cO (dz m) (ru n4 len) ((Array.range (len*sz)).map (λi=>(if len*sz=0 then#[] else gM.cells)[i%(if len*sz=0 then(#[]:Array Value) else gM.cells).size]!)).toList:=by
     by_cases ba:len*sz=0
     ·have:len=0:=by
       rcases Nat.mul_eq_zero.1 ba with h|h
       ·exact h
       ·exact absurd he.pos ab
      subst this;simp[ru];trivial
     ·simp only[if_neg ba];exact anL (a8 m) he.len
    obtain⟨cells,aI,aQ⟩:=JR a5 _ _ ai lg;have hlen:cs.length=len*sz:=by
     have key:∀(l:List (Nat×Operand)){JC cs:List C},yl (MB sz) F l JC=some cs->cs.length=JC.length:=by
      intro l;induction l with
      |nil=>intro JC cs h;cases h;rfl
      |cons p l cu=>
       intro JC cs h;simp only[yl] at h;split at h
       ·cases h
       ·split at h
        ·cases h
        ·split at h
         ·split at h
          ·rename_i hle;rw[cu h,Ut (by have:=Nat.le_of_ble_eq_true hle;rename_i uz _;have:=gB uz;omega)]
          ·cases h
         ·cases h
     rw[key _ lg,QK,he.len]
    have lR:=he.pos;have aPL:len<=len*sz:=Nat.le_mul_of_pos_right _ lR;refine⟨aD,ab,hlen,asf,cells,?_,aQ,by rw[<-Array.length_toList,<-aQ.length,hlen]⟩;have da:Instr.fill (λi=>some (i*sz,sz)) ((Array.range (len*sz)).map (λi=>(if len*sz=0 then#[] else gM.cells)[i%(if len*sz=0 then(#[]:Array Value) else gM.cells).size]!)) (ct.map λ(i,x)=>(i,a.eval x)).toList=some cells:=by
     rw[<-aI,Array.toList_map];rfl
    have dS:¬(len*sz>2^24):=by
     have:(2:Nat)^24=16777216:=by decide
     omega
    by_cases ba:len*sz=0
    ·simp only[if_pos ba] at da;simp only[Instr.buildSlice,iH,hN b9 hu,jq,mh b9 he.size,if_neg dS,if_pos ba,jT,da,Go.newRow,newObj,Sem.run];rfl
    ·simp only[if_neg ba] at da;simp only[Instr.buildSlice,iH,hN b9 hu,jq,mh b9 he.size,if_neg dS,if_neg ba,jT,Tr,da,Go.newRow,newObj,Sem.run];rfl
   ·cases h
  ·cases h
 ·cases h
theorem Ji:∀{l r:List Bool}{f:Nat},(uo l r)[f]?.getD false=true->l[f]?.getD false=true/\r[f]?.getD false=true
 |[],r,f,h=>by simp[uo] at h
 |a::l,[],f,h=>by simp[uo] at h
 |a::l,b::r,0,h=>by simpa[uo] using h
 |a::l,b::r,f+1,h=>by
  have:=Ji (l:=l) (r:=r) (f:=f) (by simpa[uo] using h);simpa using this
theorem acp {c:C}(h:AP c=true):c=.dm:=by
 cases c<;>first|rfl|cases h
theorem aet {sz:Nat}:∀{k:Nat}{cs:List C}{f:Nat},(EA sz k cs)[f]?.getD false=true->f<sz->∀i,i<k->cs[i*sz+f]?=some .dm
 |0,cs,f,h,_,i,aj=>by omega
 |1,cs,f,h,bE,i,aj=>by
  have:i=0:=ab;subst this;rw[EA] at h;rw[Nat.zero_mul,gd];cases an:cs[f]? with
  |none=>simp[List.getElem?_take,bE,an] at h
  |some c=>simp[List.getElem?_take,bE,an] at h;rw[acp h]
 |k+2,cs,f,h,bE,i,aj=>by
  rw[EA] at h;obtain⟨aa,af⟩:=Ji h;cases i with
  |zero=>
   rw[Nat.zero_mul,gd];cases an:cs[f]? with
   |none=>simp[List.getElem?_take,bE,an] at aa
   |some c=>simp[List.getElem?_take,bE,an] at aa;rw[acp aa]
  |succ i=>
   have:=aet af bE i ab;rw[List.getElem?_drop] at this;rw[<-this];congr 1;rw[iQ];omega
theorem aOn {e len sz e5:Nat}{ty:dk}{n4:List C}{ct:Array (Nat×Operand)}(b9:fC aV cC)(a5:dC m n F a)(bh:bQ m σ w)(hu:under cC t=some (.slice e))(he:xP aV cC e sz e5 n4):
 Rk aV m σ w (Instr.buildSlice t len (ct.map λ(i,x)=>(i,a.eval x))) (am6 ty len sz n4 ct.toList F):=by
 intro v h;obtain⟨q,aA,h⟩:=gR h;obtain rfl:=iZ h;obtain⟨aa,af,ax,a8,cells,cn,da,dS⟩:=RV (aV:=aV) (w:=w) b9 a5 hu he aA;obtain⟨aI,aQ⟩:=R5 a8 da (by rw[aa];exact ax);obtain⟨aE,aP,bS⟩:=bh.aeq (cur:=cells) (vs:=cells.toList) (ty:=e) λj v aw=>by simpa using aw
 have aW:(cD q.2).1=q.2:=fu ab;refine⟨_,_,_,.same ⟨aE,λ_ _=>rfl⟩ bS,cn,aP,?_,λb o aQI c aT i f aj bE bZ=>?_⟩
 rotate_left
 ·cases aT;have an:=aet bZ bE i aj;obtain⟨u,j4,kW⟩:=da.get an;have kW:u=.slice none 0 0:=kW;simp only[M.lH,if_true];rw[gd,j4,kW]
 have:=JH (fz:=(m.lH w.heap.size cells.toList).fz) (x:=cD q.2) (b:=w.heap.size) (o:=0) (c:=len) (vs:=cells.toList) (by rw[aW];exact aQ.ext aE.fz) (λj v aw=>by simpa[M.lH] using aw) (by rw[aW];omega)
 rwa [aW,aI] at this
theorem aOp {e len sz e5:Nat}{ty:dk}{n4:List C}{ct:Array (Nat×Operand)}(b9:fC aV cC)(a5:dC m n F a)(bh:bQ m σ w)(hu:under cC t=some (.slice e))(he:xP aV cC e sz e5 n4)(h:cV (XV ty len sz n4 ct.toList F σ) r):mX aV m σ w (Instr.buildSlice t len (ct.map λ(i,x)=>(i,a.eval x))) r:=by
 obtain⟨q,aA,h⟩:=gR h;obtain rfl:=h.eJ;obtain⟨aa,af,ax,a8,cells,cn,da,dS⟩:=RV (aV:=aV) (w:=w) b9 a5 hu he aA;obtain⟨aI,aQ⟩:=R5 a8 da (by rw[aa];exact ax);obtain⟨m',aE,aP,bS,cR,dO⟩:=bh.aer (t:=ty) (vs:=cells.toList) (n:=len) (c:=len) (cur:=cells) (ty:=e) (by rw[aa,Array.length_toList,dS]) (Nat.le_refl _) (by rw[aa,dS];exact Nat.le_refl _) λj v aw=>by simpa using aw
 have aW:(cD q.2).1=q.2:=fu ab;refine⟨m',_,_,.put bh aE bS,cn,aP,?_,cR,n9.none⟩;have:=JH (fz:=m'.fz) (x:=cD q.2) (b:=w.heap.size) (o:=0) (c:=len) (vs:=cells.toList) (by rw[aW];exact aQ.ext aE.ext.fz) dO (by rw[aW];omega)
 rwa [aW,aI] at this
theorem aOm {a3:List Bool}{e len sz e5:Nat}{ty:dk}{n4:List C}{ct:Array (Nat×Operand)}(b9:fC aV cC)(a5:dC m n F a)(bh:bQ m σ w)(hu:under cC t=some (.slice e))(he:xP aV cC e sz e5 n4)(h:cV (XU a3 ty len sz n4 ct.toList F σ) r):mX aV m σ w (Instr.buildSlice t len (ct.map λ(i,x)=>(i,a.eval x))) r:=by
 obtain⟨q,aA,h⟩:=gR h;split at h
 ·rename_i bZ;obtain rfl:=h.eJ;obtain⟨aa,af,ax,a8,cells,cn,da,dS⟩:=RV (aV:=aV) (w:=w) b9 a5 hu he aA;subst aa;obtain⟨aI,aQ⟩:=ZO a8 da ax bZ;have aW:(cD q.2).1=q.2:=fu ab;obtain⟨m',aE,aP,bS,cR⟩:=bh.T7 (0,0) ⟨λ_ _=>by omega,Nat.le_refl _⟩ (t:=ty) (a3:=a3) (l:=cD q.2) (vs:=cells.toList) (c:=len) (cur:=cells) (ty:=e) (by rw[aW];exact aQ) (by rw[aW];omega) (by rw[dS];exact Nat.le_refl _) λj v aw=>by simpa using aw
  rw[aW,aI] at cR;exact⟨m',_,_,.put bh aE bS,cn,aP,_,_,rfl,cR,λ_=>⟨_,rfl⟩,ab⟩
 ·exact h.cq.elim
theorem amO {e5 n:Nat}(h:room e5 n=true):n*e5<=140737488355328/\n<=1048576000:=by
 simpa[room] using h
theorem ac2 {a3:List Bool}{e sz e5:Nat}{ty:dk}{n4:List C}(b9:fC aV cC)(a5:dC m n F a)(bh:bQ m σ w)(hu:under cC t=some (.slice e))(he:xP aV cC e sz e5 n4)(h:cV (mD x (y_ a3 ty sz e5 n4) F σ) r):mX aV m σ w (Instr.makeSlice t (a.eval x) (a.eval x)) r:=by
 obtain⟨c,an,aa⟩:=A4 a5 h;clear h;unfold y_ at aa;split at aa
 ·rename_i ah;simp only[gQ] at ah;have pX:=gB ah.1;subst pX;split at aa
  ·rename_i bk q_;cases c with
   |int k uS=>
    cases k with
    |i64=>
     obtain⟨l,aW,h⟩:=aa.nh;obtain rfl:=h.eJ;unfold rh at aW;split at aW
     ·rename_i aU;cases aW;simp only[gQ,decide_eq_true_eq] at aU;obtain⟨g_,gl⟩:=amO aU.2;have aO:a.eval x=.int .i64 uS.1:=an;obtain⟨i,gM,aj,aI,aQ,JV,bq,cA⟩:=he.info;have Tr:(zeroValue e).run aV w=.ok gM w:=by simp[zeroValue,typeInfo,aj,bq]
      obtain⟨k,aX⟩:∃k,uS.1.toNat=k:=⟨_,rfl⟩;have AH:=aU.1;rw[aX] at g_ gl;have abQ:uS.1=(k:Int):=ab;have ai:cO (dz m) (ru n4 k) ((Array.range (k*ty.length)).map (λi=>(if k*ty.length=0 then#[] else gM.cells)[i%(if k*ty.length=0 then(#[]:Array Value) else gM.cells).size]!)).toList:=by
       by_cases ba:k*ty.length=0
       ·have:k=0:=by
         rcases Nat.mul_eq_zero.1 ba with h|h
         ·exact h
         ·exact absurd he.pos ab
        subst this;simp[ru];trivial
       ·simp only[if_neg ba];exact anL (cA m) he.len
      generalize wZ:((Array.range (k*ty.length)).map (λi=>(if k*ty.length=0 then#[] else gM.cells)[i%(if k*ty.length=0 then(#[]:Array Value) else gM.cells).size]!))=cells at ai;have lg:cells.size=k*ty.length:=by rw[<-wZ];simp
      have p_:IntKind.i64.wrap (k:Int)=k:=Co (by simp[IntKind.min,IntKind.max,IntKind.bits,IntKind.signed];omega);have aPC:((i.bytes:Int)*(k:Int))<=140737488355328:=by
       have:((k*e5:Nat):Int)<=140737488355328:=ab;rw[aQ,Int.mul_comm];simpa using this
      have ab5:(typeInfo e).run aV w=.ok i w:=by simp[typeInfo,aj]
      have aa6:((decide ((k:Int)<0)||decide (((i.bytes:Nat):Int)*(k:Int)>2^48))||decide ((k:Int)<0)||decide ((k:Int)>(k:Int)))=false:=by
       have:(2:Int)^48=281474976710656:=by decide
       simp only[Bool.or_eq_false_iff,decide_eq_false_iff_not];omega
      have aa1:(askRoom (k*i.bytes)).run aV w=.ok () w:=by unfold askRoom;split<;>simp
      have D2:(Instr.makeSlice t (a.eval x) (a.eval x)).run aV w=.ok (.slice (some ⟨w.heap.size,0,none⟩) k k) (w.alloc (.cells cells e)):=by
       rw[<-wZ];by_cases ba:k*ty.length=0
       ·simp only[Instr.makeSlice,aO,abQ,asInt,asIntOf,iH,jT,jq,hN b9 hu,ab5,p_,aa6,Bool.false_eq_true,if_false,Int.toNat_natCast,aa1,mh b9 he.size,if_pos ba,Go.newRow,newObj,Sem.run];rfl
       ·simp only[Instr.makeSlice,aO,abQ,asInt,asIntOf,iH,jT,jq,hN b9 hu,ab5,p_,aa6,Bool.false_eq_true,if_false,Int.toNat_natCast,aa1,mh b9 he.size,if_neg ba,Tr,Go.newRow,newObj,Sem.run];rfl
      obtain⟨m',aE,aP,bS,cR⟩:=bh.T7 (0,0) ⟨λ_ _=>by omega,Nat.le_refl _⟩ (t:=ty) (a3:=a3) (l:=⟨List.replicate uS.1.toNat bk,by simp;omega⟩) (vs:=cells.toList) (c:=k) (cur:=cells) (ty:=e) (by rw[<-aX] at ai;exact anM q_ ah.2 ai) (by simp[aX]) (by rw[lg];exact Nat.le_refl _) λj v aw=>by simpa using aw
      have ape:m'.bj σ.next=some (.slice (some ⟨w.heap.size,0,none⟩) k k):=by rw[cR];simp[aX]
      refine⟨m',_,_,.put bh aE bS,D2,aP,some ⟨w.heap.size,0,none⟩,k,?_,ape,λ_=>⟨w.heap.size,rfl⟩,?_⟩
      ·simp[aX]
      ·simp[aX];omega
     ·cases aW
    |_=>exact aa.cq.elim
   |_=>exact aa.cq.elim
  ·exact aa.cq.elim
 ·exact aa.cq.elim
open bI (ik oF) in
theorem apR (w:World){r:Nat}{cur:Array Value}{ty:TypeId}{cm:Nat×Nat}(h:w.heap[r]?=some (.cells cur ty cm)):
 w.freeze ⟨r,cur.size,none⟩ 1=ik w r (.cells cur ty (if cm.1==cm.2 then(cur.size,cur.size+1) else(min cm.1 cur.size,max cm.2 (cur.size+1)))):=by
 have bl:r<w.heap.size:=(oc.1 h).1;have cj:w.heap[r]=.cells cur ty cm:=by rw[Array.getElem?_eq_getElem bl] at h;exact eF h
 unfold World.freeze ik;rw[if_neg bu];congr 1;apply Array.ext
 ·simp
 ·intro i aa af;rw[Array.getElem_modify];by_cases aj:r=i
  ·subst aj;simp[cj]
  ·rw[if_neg aj,Array.getElem_setIfInBounds_ne _ aj]
theorem ao1 {s d e e':TypeId}(b9:fC aV cC)(a5:dC m n F a)(bh:bQ m σ w)(aM:under cC s=some (.slice e))(bj:under cC d=some (.slice e'))(Ti:s=d)(he:under cC e'=some (.int .u8))(h:cV (mD x CW F σ) r):mX aV m σ w (Go.convert s d (a.eval x)) r:=by
 subst Ti;obtain⟨c,an,aa⟩:=A4 a5 h;clear h;unfold CW at aa;split at aa
 ·rename_i t l k nl sz;obtain⟨b,ah,af⟩:=nx aa;clear aa;split at af
  ·split at af
   ·rename_i aA;obtain rfl:=kC aA;split at af
    ·exact af.cq.elim
    ·rename_i eN;obtain rfl:=af.eJ;obtain⟨k3,pR,ou⟩:=an;obtain⟨A,cB,c',aI,aQ,bq⟩:=bh.live k _ ah;rw[pR] at aI;have aO:a.eval x=.slice A cB c':=eF aI;rcases bq with⟨rfl,rfl,_⟩|⟨q,cur,ty,cm,rfl,cI,dw,fh,_⟩
     ·obtain⟨eZ,dv,eg,e3,_⟩:=k3;rw[aO] at eg;cases eg;have ba:l.1.length=0:=ab;rw[ba] at eN;cases eN
     ·rw[aO] at pR;have so:oK cur cm->oK cur (if cm.1==cm.2 then(cur.size,cur.size+1) else(min cm.1 cur.size,max cm.2 (cur.size+1))):=by
       intro⟨f1,f2⟩;split
       ·exact⟨λj aw=>by simp only;omega,Nat.le_succ _⟩
       ·rename_i az;have az:cm.1≠cm.2:=by simpa using az
        have mw:cur.size<=cm.1:=by
         rcases kz cm.1 cur.size with g|g
         ·exact absurd ⟨Nat.le_refl _,ab⟩ (f1 cm.1 g)
         ·exact g
        exact⟨λj aw=>by simp only;omega,by simp only;omega⟩
      obtain⟨eB,cX,eR⟩:=bh.atn ah pR dw so;have ar5:w.shape? q=some (ty,cur.size):=by unfold World.shape?;rw[dw]
      refine⟨m,a.eval x,_,⟨eB,eR,Nat.le_refl _,λi cs aj bL=>aj⟩,?_,cX,k3,by rw[aO];exact pR,ou⟩;rw[aO];simp[Go.convert,hN b9 bj,hN b9 he,markStringish,ar5];simpa using apR w dw
   ·exact af.cq.elim
  ·exact af.cq.elim
 ·exact aa.cq.elim
theorem aOv {s d e:TypeId}(b9:fC aV cC)(a5:dC m n F a)(bh:bQ m σ w)(aM:under cC s=some .string)(bj:under cC d=some (.slice e))(he:under cC e=some (.int .u8))(h:cV (mD x QY F σ) r):mX aV m σ w (Go.convert s d (a.eval x)) r:=by
 obtain⟨c,an,aa⟩:=A4 a5 h;clear h;cases c with
 |str eE=>
  obtain⟨l,aW,h⟩:=aa.nh;obtain rfl:=h.eJ;have aO:a.eval x=.string eE.1:=an;have aU:=run_bytes_of_string (P:=aV) w s d e eE.1 (jP b9 aM) (jP b9 bj) (jP b9 he);have mw:=grownCap_ge w eE.1.size 0 e;unfold sc at aW;split at aW
  ·rename_i hle;cases aW;have rF:=bh.vV (w':=w.drew) ⟨rfl,rfl,rfl,Nat.le_refl _,λ_ _=>rfl⟩;have hlen:∀g:UInt8->D [.int .u8],(eE.1.data.toList.map g).length=eE.1.size:=λg=>by rw[List.length_map,Array.length_toList];rfl
   have aqR:(bytesRow eE.1 (grownCap w eE.1.size 0 e)).size=grownCap w eE.1.size 0 e:=by
    unfold bytesRow;have:eE.1.data.size=eE.1.size:=rfl;simp[this];omega
   obtain⟨m',aI,aQ,bq,cA⟩:=rF.T7 ((bytesRow eE.1 (grownCap w eE.1.size 0 e)).size,(bytesRow eE.1 (grownCap w eE.1.size 0 e)).size+1) ⟨λj aw=>by simp only;omega,Nat.le_succ _⟩ (t:=[.int .u8]) (a3:=[])
    (l:=⟨eE.1.data.toList.map λu=>((⟨u.toNat,by have:=u.toNat_lt;simp[IntKind.min,IntKind.max,IntKind.bits,IntKind.signed];omega⟩,()):D [.int .u8]),by simpa using hle⟩) (vs:=eE.1.data.toList.map λb=>Value.int .u8 b.toNat)
    (c:=grownCap w eE.1.size 0 e) (cur:=bytesRow eE.1 (grownCap w eE.1.size 0 e)) (ty:=e) (by
     refine j6.agF (λi=>by simp) ?_;show jo m.fz [.int .u8] (List.map _ eE.1.data.toList) (List.map _ eE.1.data.toList);induction eE.1.data.toList with
     |nil=>rfl
     |cons b l cu=>exact⟨[.int .u8 b.toNat],_,rfl,⟨_,[],rfl,by simp only[dU],rfl⟩,cu⟩) (by
     show(eE.1.data.toList.map _).length<=_;rw[hlen];exact mw) (by rw[aqR];simp) (λj v aw=>by
     unfold bytesRow;rw[Array.getElem?_append_left (by
      have:=(ep.1 aw).1;simpa using this)]
     rw[<-Array.getElem?_toList,Array.toList_map];exact aw)
   refine⟨m',_,_,.put bh aI ((hG.vV (w':=w.drew) bh ⟨rfl,rfl,rfl,Nat.le_refl _,λ_ _=>rfl⟩).trans bq),by rw[aO];exact aU,aQ,some ⟨w.heap.size,0,none⟩,grownCap w eE.1.size 0 e,?_,?_,λ_=>⟨_,rfl⟩,?_,?_⟩
   ·show Value.slice _ _ _=.slice _ (eE.1.data.toList.map _).length _;rw[hlen]
   ·rw[cA];show some (Value.slice _ (eE.1.data.toList.map _).length _)=_;rw[hlen];rfl
   ·show(eE.1.data.toList.map _).length<=_;rw[hlen];exact hle
   ·show(eE.1.data.toList.map _).length<=_;rw[hlen];exact mw
  ·cases aW
 |_=>exact aa.cq.elim
end
def rX (t:dk)(d:C)(σ:bU)(k:L (D t)->List Bool->Q R):Q R:=match d with
 |.dm=>k L.nil (t.map λ_=>true)
 |.u7 id dA n sz=>oq σ id λb=>match b with
  |.arr t' a3 l none c_=>if h:kB t' t=true then(match Nat.beq t'.length sz with
   |true=>k (cast (congrArg (λt=>L (D t)) (kC h)) (oG l dA n)) []
   |false=>.fail) else .fail
  |_=>.fail
 |.row t' l oD=>if h:kB t' t=true then k (cast (congrArg (λt=>L (D t)) (kC h)) l) (match oD with
  |.nl a3 sz=>match Nat.beq t'.length sz with
   |true=>a3
   |false=>[]
  |.dV _ a3 sz=>match Nat.beq t'.length sz with
   |true=>a3
   |false=>[]
  |_=>[]) else .fail
 |.a4 id n=>oq σ id λb=>match b with
  |.arr t' a3 l none c_=>if h:kB t' t=true then k (cast (congrArg (λt=>L (D t)) (kC h)) l) [] else .fail
  |_=>.fail
 |.str s=>if h:kB [.int .u8] t=true then .bind (sc s) λl=>k (cast (congrArg (λt=>L (D t)) (kC h)) l) [] else .fail
 |_=>.fail
def x2:List Bool->List Bool->Bool
 |[],_=>true
 |a::a3,gr=>(bif a then gr.headD false else true)&&x2 a3 gr.tail
def z3 (t:dk)(e5:Nat)(k:Nat)(l:L (D t))(nl:List Bool)(r:L (D t))(gr:List Bool)(σ:bU):Q R:=.bind (c6 e5 l r) λgh=>.ret (.val (.p (.c (.row t gh (.dV σ.next (uo nl gr) t.length)))) ⟨(σ.heap.put k none).put σ.next (some (.bC t)),σ.next+1⟩)
def Jk (t:dk)(a3:List Bool)(e5:Nat)(k:Nat)(l:L (D t))(r:L (D t))(σ:bU):Q R:=.bind (c6 e5 l r) λgh=>.ret (.val (.p (.c (.a4 σ.next gh.1.length))) ⟨(σ.heap.put k none).put σ.next (some (.arr t a3 gh none 0)),σ.next+1⟩)
def app (e5 sz:Nat)(ty:Option dk)(jN:Option wz)(c d:C)(σ:bU):Q R:=match c with
 |.dm=>match ty with
  |some t=>match Nat.beq t.length sz with
   |true=>match jN with
    |some (.arr a3)=>rX t d σ λr gr=>match x2 a3 gr with
     |true=>Jk t a3 e5 σ.next L.nil r ⟨σ.heap.put σ.next (some (.arr t a3 L.nil none 0)),σ.next+1⟩
     |false=>.fail
    |_=>rX t d σ λr gr=>z3 t e5 σ.next L.nil (t.map λ_=>true) r gr ⟨σ.heap.put σ.next (some (.bC t)),σ.next+1⟩
   |false=>.fail
  |none=>.fail
 |.row t l (.dV k nl ane)=>oq σ k λb=>match b with
  |.bC t'=>match kB t' t&&Nat.beq t.length sz with
   |true=>rX t d σ λr gr=>z3 t e5 k l (match Nat.beq t.length ane with
    |true=>nl
    |false=>[]) r gr σ
   |false=>.fail
  |_=>.fail
 |.row t l (.at_ id c_ n xE f)=>oq σ id λb=>match b with
  |.arr t0 a3 xe none j5=>match Nat.beq c_ j5&&Nat.beq t0.length xE&&Nat.beq t.length sz with
   |true=>match t0[f]? with
    |some (.a4 t1)=>match kB t1 t with
     |true=>rX t d σ λr gr=>z3 t e5 σ.next l [] r gr ⟨(σ.heap.put id (some (.arr t0 a3 xe (some (n,f)) j5))).put σ.next (some (.bC t)),σ.next+1⟩
     |false=>.fail
    |_=>.fail
   |false=>.fail
  |_=>.fail
 |.a4 id n=>oq σ id λb=>match b with
  |.arr t a3 l none c_=>match Nat.beq t.length sz with
   |true=>rX t d σ λr gr=>match x2 a3 gr with
    |true=>Jk t a3 e5 id l r σ
    |false=>.fail
   |false=>.fail
  |_=>.fail
 |_=>.fail
section
variable{aV:Program}{w:World}{m m':M}{σ bd:bU}{F:Fr}{a:Go.Act}{n:Nat}{v:V}{α:Type}{t:TypeId}{x y z:Operand}{cC:T TypeInfo}{r:R}
theorem z8 (w:World):Below w.heap.size w w.drew:=⟨rfl,rfl,rfl,Nat.le_refl _,λ_ _=>rfl⟩
theorem Uq {vs:List Value}(h:∀v∈vs,(∀cs,v≠.agg cs)/\∀cs,v≠.tuple cs):∀u∈vs,u.oneCell'=true:=by
 intro u hu;obtain⟨aa,af⟩:=h u hu;cases u with
 |agg cs=>exact absurd rfl (aa cs)
 |tuple cs=>exact absurd rfl (af cs)
 |_=>rfl
theorem JB {vs:List Value}(h:∀u∈vs,u.oneCell'=true):∀v∈vs,(∀cs,v≠.agg cs)/\∀cs,v≠.tuple cs:=by
 intro v aT;have:=h v aT;constructor<;>(intro cs an;subst an;simp[Value.oneCell'] at this)
theorem bQ.aOr (bh:bQ m σ w){b o:Nat}{vs:List Value}(h:Cells m.fz b o vs):∀(j:Nat) u,vs[j]?=some u->w.cell? ⟨b,o+j,none⟩=some u:=λj u hu=>by
 obtain⟨cur,ty,cm,aa,af⟩:=bh.stay _ _ _ (h j u hu);rw[bI.CV aa,af]
theorem apI {fz:Nat->List Value}{t:dk}{a3:List Bool}:∀{l:List (D t)}{vs:List Value},jo fz t l vs->(∀i f,i<l.length->f<t.length->a3[f]?.getD false=true->vs[i*t.length+f]?=some (.slice none 0 0))->j6 fz t a3 l vs:=by
 have one:∀{t:List fN}{a3:List Bool}{x:D t}{vs:List Value},mJ fz t x vs->(∀f,f<t.length->a3[f]?.getD false=true->vs[f]?=some (.slice none 0 0))->oR fz t a3 x vs:=by
  intro t;induction t with
  |nil=>intro a3 x vs h _;exact h
  |cons l t cu=>
   intro a3 x vs ⟨v,r,aa,af,ax⟩ bE;subst aa;refine⟨v,r,rfl,af,λah t' _=>?_,cu ax λf q4 uC=>?_⟩
   ·rw[DG] at ah;simpa using bE 0 (by simp) ah
   ·rw[IS] at uC;simpa using bE (f+1) (by simpa using q4) uC
 intro l;induction l with
 |nil=>intro vs h _;exact h
 |cons e l cu=>
  intro vs ⟨v,r,aa,af,ax⟩ bE;subst aa;have aW:=af.length;refine⟨v,r,rfl,one af λf q4 uC=>?_,cu ax λi f aj q4 uC=>?_⟩
  ·have:=bE 0 f (by simp) q4 uC;rw[Nat.zero_mul,gd,mL ab] at this;exact this
  ·have:=bE (i+1) f (by simpa using aj) q4 uC;rw[iQ,Nat.one_mul,mM ab,aW] at this;rw[<-this];congr 1;omega
theorem RC:∀{a3 gr:List Bool},x2 a3 gr=true->∀f:Nat,a3[f]?.getD false=true->gr[f]?.getD false=true
 |[],gr,_,f,h=>by simp at h
 |a::a3,gr,h,f,bE=>by
  rw[x2,gQ] at h;cases f with
  |zero=>
   simp at bE;rw[bE] at h;rw[<-DG];exact h.1
  |succ f=>
   rw[<-IS];exact RC h.2 f (by simpa using bE)
theorem Ze {h:Array Obj}{q:Nat}{cur:Array Value}{t1:dk}{a3:List Bool}{l:List (D t1)}{o:Nat}(aW:∀(n:Nat) e,l[n]?=some e->∃n',gO m h q none n' cur (o+n*t1.length) t1 a3 e 0):∃vs,jo m.fz t1 l vs/\∀(j:Nat) v,vs[j]?=some v->cur[o+j]?=some v:=by
 have apj:∀{t:List fN}{a3:List Bool}{x:D t}{f n base:Nat},gO m h q none n cur base t a3 x f->∃vs,mJ m.fz t x vs/\∀(j:Nat) v,vs[j]?=some v->cur[base+(f+j)]?=some v:=by
  intro t;induction t with
  |nil=>intro a3 x f n base _;exact⟨[],rfl,λj v h=>by simp at h⟩
  |cons l t cu=>
   intro a3 x f n base ⟨⟨v,bn,bB⟩,dc⟩;obtain⟨vs,bD,cZ⟩:=cu dc;refine⟨v::vs,⟨v,vs,rfl,bB.Sb (by simp),bD⟩,λj u hu=>?_⟩;cases j with
   |zero=>simp at hu;subst hu;exact bn
   |succ j=>rw[show f+(j+1)=f+1+j by omega];exact cZ j u (by simpa using hu)
 induction l generalizing o with
 |nil=>exact⟨[],rfl,λj v h=>by simp at h⟩
 |cons e l cu=>
  obtain⟨n',tA⟩:=aW 0 e rfl;obtain⟨v,bn,bB⟩:=apj tA;obtain⟨vs,bD,cZ⟩:=cu (o:=o+t1.length) λn e' fA=>by
   obtain⟨n',tA⟩:=aW (n+1) e' (by simpa using fA);rw[iQ,Nat.one_mul] at tA;exact⟨n',by rw[Nat.add_assoc,Nat.add_comm t1.length];exact tA⟩
  refine⟨v++vs,⟨v,vs,rfl,bn,bD⟩,λj u hu=>?_⟩;have Tn:=bn.length;by_cases aw:j<v.length
  ·rw[mL aw] at hu;have:=bB j u hu
   rwa [Nat.zero_mul,cv,gd] at this
  ·rw[mM ab] at hu;have:=cZ _ u hu;rw[<-this];congr 1;omega
theorem Zd {h:Array Obj}{q:Nat}{cur:Array Value}{t1:dk}{a3:List Bool}{l:List (D t1)}(hJ:∀(n:Nat) e,l[n]?=some e->gO m h q none n cur (n*t1.length) t1 a3 e 0):∃vs,jo m.fz t1 l vs/\∀(j:Nat) v,vs[j]?=some v->cur[j]?=some v:=by
 obtain⟨vs,bn,bB⟩:=Ze (m:=m) (h:=h) (q:=q) (cur:=cur) (a3:=a3) (l:=l) (o:=0) λn e he=>⟨n,by rw[gd];exact hJ n e he⟩;exact⟨vs,bn,λj v aT=>by have:=bB j v aT;rwa [gd] at this⟩
theorem IN {ty:dk}{d:C}{u:Value}{k:L (D ty)->List Bool->Q R}{t' e':TypeId}(aX:(∃e',aV.underlying t'=some (.slice e'))\/aV.underlying t'=some .string)(bh:bQ m σ w)(bj:dz m d u)(vF:aV.underlying t'=some .string->∃s,d=.str s)(sv:(∃e',aV.underlying t'=some (.slice e'))->∀s,d≠.str s)(h:cV (rX ty d σ k) r):
 ∃l gr vs,cV (k l gr) r/\Src aV ty.length t' u l.1.length vs w/\jo m.fz ty l.1 vs/\(∀i f,i<l.1.length->f<ty.length->gr[f]?.getD false=true->vs[i*ty.length+f]?=some (.slice none 0 0)):=by
 have rJ:(∀s,d≠.str s)->∃e',aV.underlying t'=some (.slice e'):=λaz=>aX.resolve_right λq=>by obtain⟨s,aM⟩:=vF q;exact az s aM
 cases d with
 |dm=>
  obtain⟨e',fA⟩:=rJ (by simp);have hu:u=.slice none 0 0:=bj;subst hu;exact⟨L.nil,_,[],h,Src.ofNil w fA 0,rfl,λi f aj=>by simp[L.nil] at aj⟩
 |row t1 l oD=>
  obtain⟨e',fA⟩:=rJ (by simp);unfold rX at h;simp only at h;split at h
  ·rename_i heq;have aA:=kC heq;subst aA;obtain⟨k3,abX⟩:=bj;obtain⟨A,c,vs,rfl,hle,aa,af,ax⟩:=XT k3;have ov:Src aV t1.length t' (.slice A l.1.length c) l.1.length vs w:=by
    by_cases az:l.1=[]
    ·have aT:vs=[]:=by rw[az] at aa;exact aa
     subst aT;rw[az];cases A with
     |none=>exact Src.ofNil w fA c
     |some A=>exact Src.ofSlice w fA A 0 c [] (by simp) (λj u hu=>by simp at hu) (λu hu=>by simp at hu)
    ·obtain⟨b,o,rfl⟩:=ax az;refine Src.ofSlice w fA _ _ c vs aa.length (λj u hu=>?_) (Uq aa.p7);have vK:vs≠[]:=λq=>by rw[q] at hu;simp at hu
     obtain⟨fZ,fF,aE,aP⟩:=af vK;cases aE;rw[bI.add_eq];exact bh.aOr aP j u hu
   refine⟨l,_,vs,h,ov,aa,λi f aj bE bZ=>?_⟩;cases oD with
   |nl a3 sz=>
    simp only at bZ;split at bZ
    ·rename_i fD;have fD:=gB fD;subst fD;have hlen:=aa.length;have vK:vs≠[]:=λq=>by
      rw[q] at hlen;have:0<l.1.length*t1.length:=Nat.mul_pos ab ab;simp at hlen;omega
     obtain⟨b,o,rfl,aP⟩:=af vK;have a8:=abX b o _ _ rfl i f aj bE bZ;have bl:i*t1.length+f<vs.length:=by
      have:(i+1)*t1.length<=l.1.length*t1.length:=nu _ aj;rw[iQ,Nat.one_mul] at this;omega
     have cn:=aP _ _ (fG bl);rw[fG bl,<-cn];rw[Nat.add_assoc o] at a8;exact a8
    ·simp at bZ
   |dV qE a3 sz=>
    simp only at bZ;split at bZ
    ·rename_i fD;have fD:=gB fD;subst fD;have hlen:=aa.length;have vK:vs≠[]:=λq=>by
      rw[q] at hlen;have:0<l.1.length*t1.length:=Nat.mul_pos ab ab;simp at hlen;omega
     obtain⟨b,o,rfl,aP⟩:=af vK;have a8:=abX.2 b o _ _ rfl i f aj bE bZ;have bl:i*t1.length+f<vs.length:=by
      have:(i+1)*t1.length<=l.1.length*t1.length:=nu _ aj;rw[iQ,Nat.one_mul] at this;omega
     have cn:=aP _ _ (fG bl);rw[fG bl,<-cn];rw[Nat.add_assoc o] at a8;exact a8
    ·simp at bZ
   |_=>simp at bZ
  ·exact h.cq.elim
 |u7 id dA n sz=>
  obtain⟨e',fA⟩:=rJ (by simp);unfold rX at h;simp only at h;obtain⟨b,ah,aa⟩:=nx h;clear h;split at aa
  ·rename_i t1 a3 l c_;split at aa
   ·rename_i heq;have aA:=kC heq;subst aA;split at aa
    ·rename_i fD;have fD:=gB fD;subst fD;obtain⟨A,c,rfl,DV,_,dH⟩:=bj;by_cases abO:n=0
     ·subst abO;have az:(oG l dA 0).1=[]:=by simp[oG]
      refine⟨oG l dA 0,[],[],aa,?_,by rw[az];rfl,λi f aj=>by simp[az] at aj⟩;rw[az];cases A with
      |none=>exact Src.ofNil w fA c
      |some A=>exact Src.ofSlice w fA A 0 c [] (by simp) (λj u hu=>by simp at hu) (λu hu=>by simp at hu)
     ·obtain⟨b,qE,pI,aI,rfl,aQ⟩:=dH abO;obtain⟨eZ,c',aE,aP,bS,cR⟩:=bh.live id _ ah;rw[aI] at aE;cases aE;rcases cR with⟨zy,_⟩|⟨q,cur,ty,cm,zy,bq,cA,eP,fy,gz,hJ,ic,_⟩
      ·cases zy
      ·cases zy;have hlen:(oG l dA n).1.length=n:=by
        show((l.1.drop dA).take n).length=n;rw[List.length_take,List.length_drop];omega
       obtain⟨vs,bn,bB⟩:=Ze (m:=m) (h:=w.heap) (q:=b) (cur:=cur) (a3:=a3) (l:=(oG l dA n).1) (o:=dA*t1.length) λi e he=>by
        refine⟨dA+i,?_⟩;have fA:((l.1.drop dA).take n)[i]?=some e:=he;have bl:i<n:=by
         have:=(ep.1 fA).1;rw[List.length_take] at this;omega
        rw[List.getElem?_take,if_pos bl,List.getElem?_drop] at fA;have:=ic (dA+i) e fA
        rwa [iQ] at this
       refine⟨oG l dA n,[],vs,aa,?_,bn,λi f _ _ bZ=>by simp at bZ⟩;rw[hlen];refine Src.ofSlice w fA _ n c vs (by rw[bn.length,hlen]) (λj u hu=>?_) (Uq bn.p7);rw[bI.add_eq,bI.CV cA];exact bB j u hu
    ·exact aa.cq.elim
   ·exact aa.cq.elim
  ·exact aa.cq.elim
 |a4 id n=>
  obtain⟨e',fA⟩:=rJ (by simp);unfold rX at h;simp only at h;obtain⟨b,ah,aa⟩:=nx h;clear h;split at aa
  ·rename_i t1 a3 l c_;split at aa
   ·rename_i heq;have aA:=kC heq;subst aA;obtain⟨A,c,rfl,pR,dH,_⟩:=bj;obtain⟨eZ,c',aE,aP,bS,cR⟩:=bh.live id _ ah;rw[pR] at aE;cases aE;rcases cR with⟨rfl,rfl,_⟩|⟨q,cur,ty,cm,rfl,aQ,bq,cA,eP,fy,gz,hJ,ic⟩
    ·have az:l.1=[]:=pG ab;refine⟨l,[],[],aa,?_,by rw[az];rfl,λi f aj=>by simp[az] at aj⟩;rw[az];exact Src.ofNil w fA 0
    ·have hex:=Zd hJ;obtain⟨vs,bn,bB⟩:=hex;refine⟨l,[],vs,aa,?_,bn,λi f _ _ bZ=>by simp at bZ⟩;refine Src.ofSlice w fA _ _ c vs bn.length (λj u hu=>?_) (Uq bn.p7);rw[bI.add_eq,bI.CV bq,gd];exact bB j u hu
   ·exact aa.cq.elim
  ·exact aa.cq.elim
 |str s=>
  rcases aX with aX|aX
  ·exact absurd rfl (sv aX s)
  unfold rX at h;simp only at h;split at h
  ·rename_i heq;have aA:=kC heq;subst aA;obtain⟨l,aW,h⟩:=h.nh;unfold sc at aW;split at aW
   ·cases aW;have hu:u=.string s.1:=bj;subst hu;refine⟨_,[],byteCells s.1,h,?_,?_,λi f _ _ bZ=>by simp at bZ⟩
    ·have:=Src.ofString (P:=aV) w aX s.1;have hlen:∀g:UInt8->D [.int .u8],(s.1.data.toList.map g).length=s.1.size:=λg=>by rw[List.length_map,Array.length_toList];rfl
     show Src aV 1 t' _ (List.map _ s.1.data.toList).length _ w;rw[hlen];exact this
    ·unfold byteCells;show jo m.fz [.int .u8] (List.map _ s.1.data.toList) (List.map _ s.1.data.toList);induction s.1.data.toList with
     |nil=>rfl
     |cons b l cu=>exact⟨[.int .u8 b.toNat],_,rfl,⟨_,[],rfl,by simp only[dU],rfl⟩,cu⟩
   ·cases aW
  ·exact h.cq.elim
 |_=>exact h.cq.elim
end
section
variable{aV:Program}{w:World}{m m':M}{σ bd:bU}{F:Fr}{a:Go.Act}{n:Nat}{v:V}{α:Type}{t t':TypeId}{x y z:Operand}{cC:T TypeInfo}{r:R}{e mj e5:Nat}{i:TypeInfo}{gM u:Value}{ty:dk}
theorem amT (hu:aV.underlying t=some (.slice e))(aj:aV.info? e=some i){news:List Value}(ov:Src aV i.size t' u 0 news w){A:Option Addr}{len cap:Nat}(hle:len<=cap):
 (Builtin.append_ #[t,t'] mj #[.slice A len cap,u]).run aV w=.ok (.slice A len cap) w:=by
 have az:news=[]:=pG (by simpa using ov.newsLen);have an:=ov.cells;rw[az] at an;rcases ov.kind with⟨e',aX⟩|aX<;>cases A<;>simp[Builtin.append_,run_underlying hu,run_underlying aX,sizeOf,typeInfo,aj,ov.len,hle,an,storeCells]
theorem amU (hu:aV.underlying t=some (.slice e))(aj:aV.info? e=some i){k:Nat}{news:List Value}(ov:Src aV i.size t' u k news w){b o len cap:Nat}{w':World}(hle:len+k<=cap)(gU:(storeCells ⟨b,o+len*i.size,none⟩ news).run aV w=.ok () w'):
 (Builtin.append_ #[t,t'] mj #[.slice (some ⟨b,o,none⟩) len cap,u]).run aV w=.ok (.slice (some ⟨b,o,none⟩) (len+k) cap) w':=by
 rcases ov.kind with⟨e',aX⟩|aX<;>simp[Builtin.append_,run_underlying hu,run_underlying aX,sizeOf,typeInfo,aj,ov.len,hle,ov.cells,bI.add_eq,gU]
structure Rj (aV:Program)(e e5:Nat)(ty:dk)(i:TypeInfo)(gM:Value):Prop where
  info:aV.info? e=some i
  size:i.size=ty.length
  bytes:i.bytes=e5
  zero:i.zero=some gM
  anN:gM.cells.size=ty.length
theorem Y_ {l eG gh:L α}(h:c6 e5 l eG=some gh):gh.1=l.1++eG.1/\(l.1.length+eG.1.length)*e5<=140737488355328/\l.1.length+eG.1.length<=1048576000:=by
 unfold c6 at h;split at h
 ·rename_i aU;cases h;exact⟨rfl,amO aU⟩
 ·cases h
theorem aaL {w:World}{iW news:List Value}{sz Ex cap e:Nat}{n4:Array Value}(aW:(iW++news).length=Ex*sz)(ai:n4.size=sz):
 ((iW++news).toArray++Builtin.zeroCells n4 (grownCap w Ex cap e-Ex)).size=grownCap w Ex cap e*sz:=by
 have:=grownCap_ge w Ex cap e;rw[Array.size_append,size_zeroCells,ai,List.size_toArray,aW,<-iQ];congr 1;omega
theorem Step.tok {m':M}{k:Nat}{b fZ:B}{w':World}(h:bQ m σ w)(aX:σ.heap.get k=some fZ)(ah:∀cs,fZ≠.box cs)(e:jR σ.next m m')(gF:hG m σ w m' ⟨(σ.heap.put k none).put σ.next (some b),σ.next+1⟩ w'):Step m σ w m' ⟨(σ.heap.put k none).put σ.next (some b),σ.next+1⟩ w':=
 ⟨e,gF,Nat.le_succ _,λj cs aw _=>by
  have aa:j≠σ.next:=λq=>by subst q;rw[(h.fresh _ (Nat.le_refl _)).2.2.2] at aw;cases aw
  have af:j≠k:=λq=>by subst q;rw[aX] at aw;cases aw;exact ah _ rfl
  show((σ.heap.put k none).put σ.next (some b)).get j=_;rw[bI.T.eQ _ _ aa,bI.T.eQ _ _ af];exact aw⟩
theorem hG.drop (h:bQ m σ w){k:Nat}{m':M}{bd:bU}{w':World}(gF:hG m ⟨σ.heap.put k none,σ.next⟩ w m' bd w'):hG m σ w m' bd w':=(h.drop k).2.trans gF
theorem avh {iW vs:List Value}{lS rP sz:Nat}{nl gr:List Bool}(b6:iW.length=lS*sz)(aa:∀i f,i<lS->f<sz->nl[f]?.getD false=true->iW[i*sz+f]?=some (.slice none 0 0))(af:∀i f,i<rP->f<sz->gr[f]?.getD false=true->vs[i*sz+f]?=some (.slice none 0 0)):∀i f,i<lS+rP->f<sz->(uo nl gr)[f]?.getD false=true->(iW++vs)[i*sz+f]?=some (.slice none 0 0):=by
 intro i f aj bE bZ;obtain⟨dK,dh⟩:=Ji bZ;by_cases bl:i<lS
 ·have:(i+1)*sz<=lS*sz:=nu _ bl;rw[iQ,Nat.one_mul] at this;rw[mL ab];exact aa i f bl bE dK
 ·have e:i*sz=lS*sz+(i-lS)*sz:=by rw[<-iQ];congr 1;omega
  rw[mM ab];have:=af (i-lS) f ab bE dh;rw[<-this];congr 1;omega
theorem RE {k:Nat}{nl gr:List Bool}{l eG:L (D ty)}{v0:Value}{vs:List Value}(g2:Rj aV e e5 ty i gM)(hu:aV.underlying t=some (.slice e))(bh:bQ m σ w)(aX:σ.heap.get k=some (.bC ty))(fP:m.bj k=some v0)(k3:dU m.fz (.a4 ty) l v0)(ov:Src aV ty.length t' u eG.1.length vs w)(vL:jo m.fz ty eG.1 vs)(ou:n9 m.fz nl ty.length v0)(q5:∀i f,i<eG.1.length->f<ty.length->gr[f]?.getD false=true->vs[i*ty.length+f]?=some (.slice none 0 0))(h:cV (z3 ty e5 k l nl eG gr σ) r):mX aV m σ w (Builtin.append_ #[t,t'] mj #[v0,u]) r:=by
 obtain⟨gh,pU,h⟩:=h.nh;obtain rfl:=h.eJ;obtain⟨aE,aP,bS⟩:=Y_ pU;have hlen:gh.1.length=l.1.length+eG.1.length:=by rw[aE,bw]
 obtain⟨A,c,iW,rfl,hle,ng,mB,LC⟩:=XT k3;have vJ:=ov;rw[<-g2.size] at vJ;obtain⟨eZ,cB,c',cx,cI,dw⟩:=bh.live k _ aX;rw[fP] at cx;cases cx;have q3:=bh.drop k;have abB:∀{m' w'},hG m ⟨σ.heap.put k none,σ.next⟩ w m' ⟨(σ.heap.put k none).put σ.next (some (.bC ty)),σ.next+1⟩ w'->jR σ.next m m'->Step m σ w m' ⟨(σ.heap.put k none).put σ.next (some (.bC ty)),σ.next+1⟩ w':=λgF ex=>.tok bh aX (by simp) ex (gF.drop bh);have grow:∀(iW:List Value),jo m.fz ty l.1 iW->c<l.1.length+eG.1.length->(Builtin.firstCells ty.length l.1.length (.slice A l.1.length c)).run aV w.drew=.ok iW.toArray w.drew->
  (∀i f,i<l.1.length->f<ty.length->nl[f]?.getD false=true->iW[i*ty.length+f]?=some (.slice none 0 0))->
  mX aV m σ w (Builtin.append_ #[t,t'] mj #[.slice A l.1.length c,u]) (.val (.p (.c (.row ty gh (.dV σ.next (uo nl gr) ty.length)))) ⟨(σ.heap.put k none).put σ.next (some (.bC ty)),σ.next+1⟩):=by
  intro iW b6 cj bE arL;have aU:=run_append_grow_src (P:=aV) w t t' mj e i gM hu g2.info g2.zero A l.1.length c iW (by rw[g2.size];exact bE) u eG.1.length vs vJ cj ab (growslice_fits cj (by rw[g2.bytes];exact aP));have DW:(iW++vs).length=(l.1.length+eG.1.length)*ty.length:=by rw[bw,b6.length,ov.newsLen,iQ]
  have mw:=grownCap_ge w (l.1.length+eG.1.length) c e;obtain⟨m',aI,aQ,bq,cA,eP⟩:=(q3.1.vV (z8 w)).aer (t:=ty) (vs:=iW++vs) (n:=l.1.length+eG.1.length) (c:=grownCap w (l.1.length+eG.1.length) c e)
   (cur:=(iW++vs).toArray++Builtin.zeroCells gM.cells (grownCap w (l.1.length+eG.1.length) c e-(l.1.length+eG.1.length))) (ty:=e) DW mw (by rw[aaL DW g2.anN];exact Nat.le_refl _)
   (λj v aw=>by rw[Array.getElem?_append_left (by rw[List.size_toArray];exact(ep.1 aw).1)];simpa using aw)
  refine⟨m',_,_,abB ((hG.vV q3.1 (z8 w)).trans bq) aI,aU,aQ,?_,cA,λb o len aoO aT i f aj bE bZ=>?_⟩
  rotate_left
  ·cases aT;have:=eP _ _ (avh b6.length arL q5 i f aj bE bZ);rw[gd] at this⊢;exact this
  have:=JH (fz:=m'.fz) (x:=gh) (b:=w.heap.size) (o:=0) (c:=grownCap w (l.1.length+eG.1.length) c e) (vs:=iW++vs) (by rw[aE];exact(b6.append vL).ext aI.ext.fz) eP (by rw[hlen];exact mw)
  rwa [hlen] at this
 rcases dw with⟨rfl,rfl,kJ⟩|⟨b,cur,IU,cm,rfl,kJ,mE,Bc,gG,jO,ay1,ay2⟩
 ·have q6:l.1=[]:=pG ab;by_cases az:eG.1.length=0
  ·have S6:gh.1=[]:=pG (by rw[hlen,q6,az];rfl);obtain⟨aI,aQ,bq⟩:=q3.1.T_ ty;have aU:=amT (aV:=aV) (w:=w) (t':=t') (u:=u) (mj:=mj) hu g2.info (by rw[<-az];exact vJ) (A:=none) (len:=l.1.length) (cap:=0) ab;refine⟨_,_,_,abB bq aI,aU,aQ,?_,?_,n9.nil⟩
   ·rw[q6];have:=dU.nil (m.eH σ.next none (.slice none 0 0) m.fz m.dB).fz ty;have aA:gh=L.nil:=Subtype.ext S6;rw[aA];exact this
   ·rw[q6];show(m.eH σ.next none (.slice none 0 0) m.fz m.dB).bj σ.next=_;simp[M.eH]
  ·refine grow [] (by rw[q6];rfl) ab ?_ λi f aj=>by simp[q6] at aj
   rw[q6];simp[Builtin.firstCells]
 ·have wZ:∀(j:Nat) u,iW[j]?=some u->(m.fz b)[j]?=some u:=λj u hu=>by
   obtain⟨fZ,fF,eg,e3⟩:=mB λq=>by rw[q] at hu;simp at hu
   cases eg;have:=e3 j u hu
   rwa [gd] at this
  by_cases AJ:l.1.length+eG.1.length<=c
  ·obtain⟨m',w',j0,aI,aQ,bq,cA,eP⟩:=bh.aqa (aV:=aV) aX fP (n:=eG.1.length) (vs:=vs) ov.newsLen AJ (JB ov.one);have aU:=amU (aV:=aV) (w:=w) (mj:=mj) (o:=0) (w':=w') hu g2.info vJ AJ (by rw[g2.size,gd];exact j0);refine⟨m',_,w',.tok bh aX (by simp) aI bq,aU,aQ,?_,cA,λfZ o len aoO aT i f aj bE bZ=>?_⟩
   rotate_left
   ·cases aT;obtain⟨dK,dh⟩:=Ji bZ;rw[gd];by_cases bl:i<l.1.length
    ·have:=ou _ _ _ _ rfl i f bl bE dK;rw[gd] at this;exact aI.ext.fz _ _ _ this
    ·have e:i*ty.length=l.1.length*ty.length+(i-l.1.length)*ty.length:=by rw[<-iQ];congr 1;omega
     have:=eP _ _ (q5 (i-l.1.length) f ab bE dh);rw[<-this];congr 1;omega
   have:=JH (fz:=m'.fz) (x:=gh) (b:=b) (o:=0) (c:=c) (vs:=iW++vs) (by rw[aE];exact(ng.append vL).ext aI.ext.fz) (λj u hu=>?_) (by rw[hlen];exact AJ)
   ·rwa [hlen] at this
   ·have DW:=ng.length;by_cases aw:j<iW.length
    ·rw[mL aw] at hu;rw[gd];exact aI.ext.fz _ _ _ (wZ j u hu)
    ·rw[mM ab] at hu;have:=eP _ u hu;rw[<-this];congr 1;omega
  ·refine grow iW ng ab ?_ λi f aj bE bZ=>?_
   rotate_left
   ·have aa:=ou _ _ _ _ rfl i f aj bE bZ;rw[gd] at aa;have bl:i*ty.length+f<iW.length:=by
     have:(i+1)*ty.length<=l.1.length*ty.length:=nu _ aj;rw[iQ,Nat.one_mul] at this;rw[ng.length];omega
    have af:=wZ _ _ (fG bl);rw[fG bl,<-af,aa]
   have:(loadCells ⟨b,0,none⟩ iW.length).run aV w.drew=.ok iW.toArray w.drew:=by
    refine bI.run_loadCells (w:=w.drew) mE iW λj aw=>?_;obtain⟨hU,jm,jI,eg,e3⟩:=bh.stay _ _ _ (wZ j _ (fG aw));rw[mE] at eg;cases eg;rw[gd,e3,fG aw]
   rw[ng.length] at this;exact this
theorem Y9 {k c_:Nat}{a3:List Bool}{l eG:L (D ty)}{v0:Value}{vs:List Value}(g2:Rj aV e e5 ty i gM)(hu:aV.underlying t=some (.slice e))(bh:bQ m σ w)(aX:σ.heap.get k=some (.arr ty a3 l none c_))(fP:m.bj k=some v0)(ov:Src aV ty.length t' u eG.1.length vs w)(vL:j6 m.fz ty a3 eG.1 vs)(h:cV (Jk ty a3 e5 k l eG σ) r):mX aV m σ w (Builtin.append_ #[t,t'] mj #[v0,u]) r:=by
 obtain⟨gh,pU,h⟩:=h.nh;obtain rfl:=h.eJ;obtain⟨aE,aP,bS⟩:=Y_ pU;have hlen:gh.1.length=l.1.length+eG.1.length:=by rw[aE,bw]
 have vJ:=ov;rw[<-g2.size] at vJ;obtain⟨A,c,cx,cI,zy,dw⟩:=bh.live k _ aX;rw[fP] at cx;cases cx;have grow:∀(iW:List Value),iW.length=l.1.length*ty.length->c<l.1.length+eG.1.length->(Builtin.firstCells ty.length l.1.length (.slice A l.1.length c)).run aV w.drew=.ok iW.toArray w.drew->
  (∀r oe ty cm,A=some ⟨r,0,none⟩->w.heap[r]?=some (.cells oe ty cm)->∀j,j<iW.length->iW[j]?=oe[j]?)->
  mX aV m σ w (Builtin.append_ #[t,t'] mj #[.slice A l.1.length c,u]) (.val (.p (.c (.a4 σ.next gh.1.length))) ⟨(σ.heap.put k none).put σ.next (some (.arr ty a3 gh none 0)),σ.next+1⟩):=by
  intro iW b6 cj bE hold;have aU:=run_append_grow_src (P:=aV) w t t' mj e i gM hu g2.info g2.zero A l.1.length c iW (by rw[g2.size];exact bE) u eG.1.length vs vJ cj ab (growslice_fits cj (by rw[g2.bytes];exact aP));have DW:(iW++vs).length=(l.1.length+eG.1.length)*ty.length:=by rw[bw,b6,ov.newsLen,iQ]
  have mw:=grownCap_ge w (l.1.length+eG.1.length) c e;have pP:∀j,j<(iW++vs).length->((iW++vs).toArray++Builtin.zeroCells gM.cells (grownCap w (l.1.length+eG.1.length) c e-(l.1.length+eG.1.length)))[j]?=(iW++vs)[j]?:=λj aw=>by
   rw[Array.getElem?_append_left (by rw[List.size_toArray];exact aw)];simp
  obtain⟨m',aI,aQ,bq,cA⟩:=(bh.vV (z8 w)).aNT (gh:=gh) (ea:=eG.1) (vs:=vs) (c':=grownCap w (l.1.length+eG.1.length) c e)
   (cur:=(iW++vs).toArray++Builtin.zeroCells gM.cells (grownCap w (l.1.length+eG.1.length) c e-(l.1.length+eG.1.length))) (ty:=e) aX fP vL aE (by rw[hlen];exact mw) (by rw[aaL DW g2.anN];exact Nat.le_refl _)
   (λr oe IU cm dH SR j aw=>by
    rw[pP j (by rw[bw];omega),mL ab];exact hold r oe IU cm dH SR j ab)
   (λj v aw=>by
    have:=(ep.1 aw).1;rw[pP _ (by rw[bw];omega),mM ab,b6,Nat.add_sub_cancel_left];exact aw)
  refine⟨m',_,_,.tok bh aX (by simp) aI ((hG.vV bh (z8 w)).trans bq),aU,aQ,_,_,by rw[hlen],by rw[cA,hlen];rfl,λ_=>⟨_,rfl⟩,gh.2,by rw[hlen];omega⟩
 rcases dw with⟨rfl,rfl,kJ,mE⟩|⟨b,cur,IU,cm,rfl,kJ,mE,Bc,gG,jO,ay1,ay2,aQR⟩
 ·have q6:l.1=[]:=pG ab;by_cases az:eG.1.length=0
  ·have S6:gh=L.nil:=Subtype.ext (pG (by rw[hlen,q6,az];rfl));subst S6;have q3:=bh.drop k;obtain⟨m',aI,aQ,bq,cA⟩:=q3.1.T8 ty a3;have aU:=amT (aV:=aV) (w:=w) (t':=t') (u:=u) (mj:=mj) hu g2.info (by rw[<-az];exact vJ) (A:=none) (len:=l.1.length) (cap:=0) ab;refine⟨m',_,_,.tok bh aX (by simp) aI (bq.drop bh),aU,aQ,none,0,?_,?_,λai=>absurd rfl ai,by simp[L.nil]⟩
   ·rw[q6];rfl
   ·rw[q6];exact cA
  ·refine grow [] (by rw[q6];simp) ab (by rw[q6];simp[Builtin.firstCells]) λr oe ty cm dH=>by cases dH
 ·by_cases AJ:l.1.length+eG.1.length<=c
  ·obtain⟨m',w',j0,aI,aQ,bq,cA⟩:=bh.ap' (aV:=aV) (gh:=gh) (ea:=eG.1) (vs:=vs) aX fP vL AJ aE;have aU:=amU (aV:=aV) (w:=w) (mj:=mj) (o:=0) (w':=w') hu g2.info vJ AJ (by rw[g2.size,gd];exact j0);exact⟨m',_,w',.tok bh aX (by simp) aI bq,aU,aQ,_,_,by rw[hlen],by rw[cA,hlen],λ_=>⟨_,rfl⟩,gh.2,by rw[hlen];omega⟩
  ·have fD:l.1.length*ty.length<=cur.size:=jF (nu _ cI) gG;have qA:(cur.toList.take (l.1.length*ty.length)).length=l.1.length*ty.length:=by simp;omega
   refine grow (cur.toList.take (l.1.length*ty.length)) qA ab ?_ λr oe aQY An dH an j aw=>?_
   ·have:(loadCells ⟨b,0,none⟩ (cur.toList.take (l.1.length*ty.length)).length).run aV w.drew=.ok (cur.toList.take (l.1.length*ty.length)).toArray w.drew:=
     bI.run_loadCells (w:=w.drew) mE _ λj aw=>by rw[List.getElem?_take,if_pos ab];simp
    rw[qA] at this;exact this
   ·cases dH;rw[mE] at an;cases an;rw[List.getElem?_take,if_pos ab];simp
end
section
variable{aV:Program}{w:World}{m m':M}{σ bd:bU}{F:Fr}{a:Go.Act}{n:Nat}{v:V}{α:Type}{t t':TypeId}{x y z:Operand}{cC:T TypeInfo}{r:R}{e mj e5 sz:Nat}
theorem mX.trans {s:Sem Value}(bh:bQ m σ w)(st:Step m σ w m' bd w)(h:mX aV m' bd w s r):mX aV m σ w s r:=by
 cases r with
 |val v fk=>
  obtain⟨cX,en,w',aa,af,ax,a8⟩:=h;exact⟨cX,en,w',Step.trans bh st aa,af,ax,a8⟩
 |_=>exact h.elim
theorem j6.aes {fz:Nat->List Value}{t:dk}{a3 gr:List Bool}{l:List (D t)}{vs:List Value}(h:jo fz t l vs)(bZ:x2 a3 gr=true)(bE:∀i f,i<l.length->f<t.length->gr[f]?.getD false=true->vs[i*t.length+f]?=some (.slice none 0 0)):j6 fz t a3 l vs:=apI h λi f aa af ax=>bE i f aa af (RC bZ f ax)
theorem Za {bk:List C}{ty:Option dk}{jN:Option wz}{d':TypeDesc}(b9:fC aV cC)(a5:dC m n F a)(bh:bQ m σ w)(hu:under cC t=some (.slice e))(w8:under cC t'=some d')(vC:(∃e',d'=.slice e')\/d'=.string)(he:xP aV cC e sz e5 bk)(gU:d'=.string->∀d,lI (jw y F)=some d->∃s,d=.str s)(rJ:(∃e',d'=.slice e')->∀d,lI (jw y F)=some d->∀s,d≠.str s)(h:cV (zu x y (app e5 sz ty jN) F σ) r):mX aV m σ w (Builtin.append_ #[t,t'] mj #[a.eval x,a.eval y]) r:=by
 obtain⟨c,Au,dH⟩:=gR h;obtain⟨d,yD,aa⟩:=gR dH;clear dH;have an:=ql Au (lU a5 x);have bj:=ql yD (lU a5 y);have Dy:=jP b9 hu;have J8:=jP b9 w8;obtain⟨i,gM,i1,i2,i3,i4,i5,i6⟩:=he.info;have DM:(∃e',aV.underlying t'=some (.slice e'))\/aV.underlying t'=some .string:=by
  rcases vC with⟨e',rfl⟩|rfl
  ·exact .inl ⟨e',J8⟩
  ·exact .inr J8
 have vF:aV.underlying t'=some .string->∃s,d=.str s:=λaA=>by
  rw[J8] at aA;exact gU (eF aA) d yD
 have sv:(∃e',aV.underlying t'=some (.slice e'))->∀s,d≠.str s:=λ⟨e',aA⟩=>by
  rw[J8] at aA;exact rJ ⟨e',eF aA⟩ d yD
 have yG:∀{ty:dk},ty.length=sz->Rj aV e e5 ty i gM:=λaW=>⟨i1,i2.trans aW.symm,i3,i5,by
  have:=(i6 m).length;rw[he.len] at this;simp at this
  omega⟩
 clear h Au yD gU rJ;have h:=aa;clear aa;cases c with
 |dm=>
  have aO:a.eval x=.slice none 0 0:=an;rw[aO];simp only[app] at h;cases ty with
  |none=>exact h.cq.elim
  |some t0=>
   simp only at h;split at h
   ·rename_i aW;have aW:=gB aW;have tok:cV (rX t0 d σ λr gr=>z3 t0 e5 σ.next L.nil (t0.map λ_=>true) r gr ⟨σ.heap.put σ.next (some (.bC t0)),σ.next+1⟩) r->mX aV m σ w (Builtin.append_ #[t,t'] mj #[.slice none 0 0,a.eval y]) r:=by
     intro h;obtain⟨l,gr,vs,bn,bB,dc,ek⟩:=IN (e':=0) DM bh bj vF sv h;obtain⟨aI,aQ,bq⟩:=bh.T_ t0;refine mX.trans bh (.put bh aI bq) ?_;refine RE (i:=i) (gM:=gM) (yG aW) Dy aQ (by simp only[bI.T.ij]) (by simp[M.eH]) (dU.nil _ _) bB (dc.ext aI.ext.fz) n9.nil ek bn
    cases jN with
    |none=>exact tok h
    |some p=>
     cases p with
     |arr a3=>
      simp only at h;obtain⟨l,gr,vs,bn,bB,dc,ek⟩:=IN (e':=0) DM bh bj vF sv h;split at bn
      ·rename_i bZ;obtain⟨m',aI,aQ,bq,cA⟩:=bh.T8 t0 a3;refine mX.trans bh (.put bh aI bq) ?_;exact Y9 (c_:=0) (i:=i) (gM:=gM) (yG aW) Dy aQ (by simp only[bI.T.ij]) cA bB ((j6.aes dc bZ ek).ext aI.ext.fz) bn
      ·exact bn.cq.elim
     |_=>exact tok h
   ·exact h.cq.elim
 |row t0 l oD=>
  cases oD with
  |dV k aQO ane=>
   simp only[app] at h;obtain⟨b,ah,aa⟩:=nx h;clear h;split at aa
   ·rename_i t1;split at aa
    ·rename_i aA;simp only[gQ] at aA;have cx:=kC aA.1;have cI:=gB aA.2;subst cx;obtain⟨eG,gr,vs,bn,bB,dc,ek⟩:=IN (e':=0) DM bh bj vF sv aa;refine RE (i:=i) (gM:=gM) (yG cI) Dy bh ah an.2.1 an.1 bB dc ?_ ek bn;split
     ·rename_i fD;rw[gB fD];exact an.2.2
     ·exact n9.none
    ·exact aa.cq.elim
   ·exact aa.cq.elim
  |at_ id c_ g9 xE f=>
   simp only[app] at h;obtain⟨b,ah,aa⟩:=nx h;clear h;split at aa
   ·rename_i t1 a3 xe j5;split at aa
    ·rename_i aA;simp only[gQ] at aA;have cx:=gB aA.1.1;have cI:=gB aA.1.2;have dw:=gB aA.2;subst cx cI;split at aa
     ·rename_i t2 ar9;split at aa
      ·rename_i heq;have heq:=kC heq;subst heq;obtain⟨eG,gr,vs,bn,bB,dc,ek⟩:=IN (e':=0) DM bh bj vF sv aa;obtain⟨m',aI,aQ,bq,cA⟩:=bh.take ah ar9 an.2;refine mX.trans bh ⟨aI,bq,Nat.le_succ _,λj cs aw _=>?_⟩ ?_
       ·have bD:j≠id:=λq=>by subst q;rw[ah] at aw;cases aw
        have cZ:j≠σ.next:=λq=>by subst q;rw[(bh.fresh _ (Nat.le_refl _)).2.2.2] at aw;cases aw
        show((σ.heap.put id _).put σ.next _).get j=_;rw[bI.T.eQ _ _ cZ,bI.T.eQ _ _ bD];exact aw
       ·exact RE (i:=i) (gM:=gM) (yG dw) Dy aQ (by simp only[bI.T.ij]) cA (an.1.ext aI.ext.fz) bB (dc.ext aI.ext.fz) n9.none ek bn
      ·exact aa.cq.elim
     ·exact aa.cq.elim
    ·exact aa.cq.elim
   ·exact aa.cq.elim
  |_=>exact h.cq.elim
 |a4 id g9=>
  simp only[app] at h;obtain⟨b,ah,aa⟩:=nx h;clear h;split at aa
  ·rename_i t1 a3 l c_;split at aa
   ·rename_i aW;have aW:=gB aW;obtain⟨eG,gr,vs,bn,bB,dc,ek⟩:=IN (e':=0) DM bh bj vF sv aa;split at bn
    ·rename_i bZ;obtain⟨A,cp,aO,fP,_⟩:=an;exact Y9 (c_:=c_) (i:=i) (gM:=gM) (yG aW) Dy bh ah fP bB (j6.aes dc bZ ek) bn
    ·exact bn.cq.elim
   ·exact aa.cq.elim
  ·exact aa.cq.elim
 |_=>exact h.cq.elim
theorem aoK {l:List (D [.int .u8])}{fz:Nat->List Value}:∀{vs:List Value},jo fz [.int .u8] l vs->vs=(l.map λx=>UInt8.ofNat x.1.1.toNat).map λu=>Value.int .u8 (u.toNat:Int):=by
 induction l with
 |nil=>intro vs h;exact h
 |cons x l cu=>
  intro vs ⟨v,r,aa,af,ax⟩;obtain⟨v0,Fu,aE,aP,bS⟩:=af;have bS:Fu=[]:=bS;subst bS aE aa;simp only[dU] at aP;subst aP;rw[cu ax];simp only[List.map_cons,List.cons_append,List.nil_append,List.cons.injEq,and_true];have Cp:IntKind.u8.min<=x.1.1:=x.1.2.1;have n3:x.1.1<=IntKind.u8.max:=x.1.2.2;have Cq:IntKind.u8.min=0:=by decide
  have aOW:IntKind.u8.max=255:=by decide
  congr 1;have:(UInt8.ofNat x.1.1.toNat).toNat=x.1.1.toNat:=by simp;omega
  rw[this];omega
theorem aoX {s d:TypeId}(b9:fC aV cC)(a5:dC m n F a)(bh:bQ m σ w)(aM:under cC s=some (.slice e))(bj:under cC d=some .string)(he:under cC e=some (.int .u8)):
 jC aV m w (Go.convert s d (a.eval x)) (mD x x9 F σ):=by
 intro v h;obtain⟨c,an,aa⟩:=A4 a5 h;clear h;have fin:∀{l:L (D [.int .u8])}{vs:List Value}{A:Option Addr}{cp:Nat},a.eval x=.slice A l.1.length cp->jo m.fz [.int .u8] l.1 vs->(∀eZ,A=some eZ->(loadCells eZ l.1.length).run aV w=.ok vs.toArray w)->(A=none->l.1=[])->
  (Go.convert s d (a.eval x)).run aV w=.ok (.string (nK l).1) w:=λ{l vs A cp} aO aT aW az=>by
  have vL:=aoK aT;cases A with
  |none=>
   have:l=L.nil:=Subtype.ext (az rfl);subst this;simp[aO,Go.convert,hN b9 aM,hN b9 bj,hN b9 he,Conv.bytesToString,nK,L.nil];rfl
  |some A=>
   have aa:=aW A rfl;have:=amY (aV:=aV) (w:=w) (l.1.map λx=>UInt8.ofNat x.1.1.toNat) .empty;rw[vL] at aa;simp only[aO,Go.convert,iH,jT,jq,hN b9 aM,hN b9 bj,hN b9 he,Conv.bytesToString,aa];rw[List.forIn_toArray];refine(congrArg (λr=>Result.andThen r λa w'=>Result.ok (Value.string a) w') this).trans ?_;simp only[jq];congr 2
 cases c with
 |dm=>
  obtain rfl:=iZ aa;have aO:a.eval x=.slice none 0 0:=an;exact⟨_,fin (l:=L.nil) (vs:=[]) (A:=none) (cp:=0) aO rfl (λ_ h=>by cases h) λ_=>rfl,rfl⟩
 |row t0 l oD=>
  simp only[x9] at aa;split at aa
  ·rename_i aA;have aA:=kC aA;subst aA;obtain rfl:=iZ aa;obtain⟨A,cp,vs,aO,hle,aI,aQ,bq⟩:=XT an.1;refine⟨_,fin aO aI (λeZ dH=>?_) (λdH=>?_),rfl⟩
   ·subst dH;have hlen:=aI.length;simp only[List.length_singleton,Nat.mul_one] at hlen;rw[<-hlen];by_cases az:vs=[]
    ·subst az;simp[loadCells,loadCellsFrom]
    ·obtain⟨b,o,aE,aP⟩:=aQ az;cases aE;obtain⟨cur,ty,cm,bn,bB⟩:=bh.stay b (o+0) (vs[0]'(List.length_pos_iff.2 az)) (aP 0 _ (fG _))
     refine bI.run_loadCells bn vs λj aw=>?_;obtain⟨hU,jm,jI,bD,cZ⟩:=bh.stay _ _ _ (aP j _ (fG aw));rw[bn] at bD;cases bD;rw[cZ,fG aw]
   ·by_cases az:l.1=[]
    ·exact az
    ·obtain⟨b,o,aE⟩:=bq az;rw[dH] at aE;cases aE
  ·exact aa.cq.elim
 |a4 id k=>
  simp only[x9] at aa;obtain⟨b,ah,af⟩:=nx aa;clear aa;split at af
  ·rename_i t0 a3 l c_;split at af
   ·rename_i aA;have aA:=kC aA;subst aA;obtain rfl:=iZ af;obtain⟨A,cp,aO,fP,_⟩:=an;obtain⟨eZ,c',cx,cI,_,dw⟩:=bh.live id _ ah;rw[fP,aO] at cx;cases cx;rcases dw with⟨rfl,rfl,_⟩|⟨q,cur,ty,cm,rfl,aQ,bq,cA,eP,fy,gz,hJ,ic⟩
    ·have az:l.1=[]:=pG ab;exact⟨_,fin (vs:=[]) aO (by rw[az];rfl) (λ_ h=>by cases h) λ_=>az,rfl⟩
    ·obtain⟨vs,bn,bB⟩:=Zd hJ;refine⟨_,fin aO bn (λeZ dH=>?_) (λdH=>by cases dH),rfl⟩;cases dH;have hlen:=bn.length;simp only[List.length_singleton,Nat.mul_one] at hlen;rw[<-hlen];exact bI.run_loadCells bq vs λj aw=>by rw[gd,fG aw];exact bB j _ (fG aw)
   ·exact af.cq.elim
  ·exact af.cq.elim
 |_=>exact aa.cq.elim
end
end cF
end Go.Proofs.YtgmdfchkljaooaaGreat
