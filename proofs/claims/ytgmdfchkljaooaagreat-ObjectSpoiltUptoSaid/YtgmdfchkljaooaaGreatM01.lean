/- Words for slices that are read and slices that the call itself makes. -/
import Derived.Test.YtgmdfchkljaooaaGreatRows
import Derived.WalkKit
import Derived.WalkSpells
import Derived.WalkLawsBesides
import Derived.Lib.Hide
import Derived.BigQuiet
import Derived.Deep.QuietTactic
import Derived.Deep.AppendLies
import Derived.Deep.Draws
import Derived.Maps.AppendAt
noncomputable section
namespace Go.Proofs.YtgmdfchkljaooaaGreat
theorem ab {p:Prop} (h:p:=by omega):p:=h
theorem bp {p:Prop} (h:p:=by decide):p:=h
theorem bY:type_of%@List.length_append:=@List.length_append
theorem dS:type_of%@List.setIfInBounds_toArray:=@List.setIfInBounds_toArray
theorem ed:type_of%@List.getElem?_eq_some_iff:=@List.getElem?_eq_some_iff
theorem dF:type_of%@List.append_assoc:=@List.append_assoc
theorem dw:type_of%@List.length_nil:=@List.length_nil
theorem dP:type_of%@List.set_cons_succ:=@List.set_cons_succ
theorem dU:type_of%@List.set_cons_zero:=@List.set_cons_zero
theorem e_:type_of%@List.getElem?_eq_getElem:=@List.getElem?_eq_getElem
theorem dH:type_of%@Nat.add_zero:=@Nat.add_zero
theorem gq:type_of%@Nat.eq_of_beq_eq_true:=@Nat.eq_of_beq_eq_true
theorem e6:type_of%@List.append_nil:=@List.append_nil
theorem gO:type_of%@List.length_cons:=@List.length_cons
theorem gJ:type_of%@Bool.and_eq_true:=@Bool.and_eq_true
theorem fL:type_of%@Nat.zero_add:=@Nat.zero_add
theorem iV:type_of%@Result.andThen_ok:=@Result.andThen_ok
theorem hP:type_of%@Option.some.inj:=@Option.some.inj
theorem lM:type_of%@List.getElem?_append_left:=@List.getElem?_append_left
theorem l8:type_of%@List.getElem?_append_right:=@List.getElem?_append_right
theorem iv:type_of%@Sem.run_bind:=@Sem.run_bind
theorem ij:type_of%@Nat.le_trans:=@Nat.le_trans
theorem nJ:type_of%@Array.getElem?_eq_some_iff:=@Array.getElem?_eq_some_iff
theorem oW:type_of%@List.eq_nil_of_length_eq_zero:=@List.eq_nil_of_length_eq_zero
theorem l9:type_of%@List.getElem?_set_ne:=@List.getElem?_set_ne
theorem jL:type_of%@Nat.lt_or_ge:=@Nat.lt_or_ge
theorem ju:type_of%@Sem.run_pure:=@Sem.run_pure
theorem iC:type_of%@Nat.add_mul:=@Nat.add_mul
theorem mS:type_of%@Nat.mul_le_mul_right:=@Nat.mul_le_mul_right
theorem mw:type_of%@List.mem_cons_self:=@List.mem_cons_self
theorem aY:type_of%@True.intro:=@True.intro
open Go.RowKit
theorem toList_eq {a b:ByteArray} (h:(!a.toList==b.toList)=false):a=b:=by
 rw[ByteArray.toList_eq,ByteArray.toList_eq] at h;exact WideShapes.bytes_inj (by simpa using h)
theorem aIm {a b:ByteArray} (h:(a.toList==b.toList)=true):a=b:=by
 rw[ByteArray.toList_eq,ByteArray.toList_eq] at h;exact WideShapes.bytes_inj (by simpa using h)
theorem aiE (a b:ByteArray):(a.toList==b.toList)=decide (a=b):=by
 rw[Bool.eq_iff_iff,decide_eq_true_iff];exact⟨aIm,λh=>by rw[h];simp⟩
def fP (w:World) (A:Option Addr) (xs:List Value):Prop:=xs≠[]->∃b off,A=some ⟨b,off,none⟩/\b<w.heap.size/\∀i u,xs[i]? =some u->w.cell? ⟨b,off+i,none⟩=some u
section
variable{w w':World} {A:Option Addr} {xs:List Value}
theorem fP.nil:fP w A []:=λh=>absurd rfl h
theorem fP.at_ (h:fP w A xs) {i:Nat} (aj:i<xs.length):
 ∃b off,A=some ⟨b,off,none⟩/\b<w.heap.size/\∀i u,xs[i]? =some u->w.cell? ⟨b,off+i,none⟩=some u:=h (by rintro rfl;simp at aj)
theorem fP.sY (h:fP w A xs) (ax:w.heap.size<=w'.heap.size) (aP:∀p:Addr,p.block<w.heap.size->w'.cell? p=w.cell? p):fP w' A xs:=λaA=>by
 obtain⟨b,off,e,ai,aq⟩:=h aA;exact⟨b,off,e,by omega,λi u hu=>(aP _ ai).trans (aq i u hu)⟩
theorem fP.below (h:fP w A xs) (ai:Below w.heap.size w w'):fP w' A xs:=h.sY ai.size λ_ bw=>ai.cell bw
theorem fP.drew (h:fP w A xs):fP w.drew A xs:=h
theorem fP.alloc (h:fP w A xs) (o:Obj):fP (w.alloc o) A xs:=h.below ((Below.refl _ _).alloc (Nat.le_refl _) o)
theorem fP.drop (h:fP w A xs) (k:Nat) {cap:Nat} (aq:xs.length<=cap):fP w (if cap=k then A else A.map (·.add k)) (xs.drop k):=λaA=>by
 have aP:k<xs.length:=by
  rcases Nat.lt_or_ge k xs.length with aa|aa
  ·exact aa
  ·exact absurd (List.drop_eq_nil_of_le aa) aA
 obtain⟨b,off,rfl,ai,nO⟩:=h.at_ aP;rw[if_neg (by omega)];refine⟨b,off+k, ?_,ai,λi u hu=> ?_⟩
 ·simp only[Option.map_some,Addr.add];split<;>simp_all
 ·rw[List.getElem?_drop] at hu;have:=nO _ u hu
  rwa [show off+k+i=off+(k+i) by omega]
theorem fP.take (h:fP w A xs) (k:Nat):fP w A (xs.take k):=λaA=>by
 have bl:xs≠[]:=by rintro rfl;simp at aA
 obtain⟨b,off,e,ai,aq⟩:=h bl;refine⟨b,off,e,ai,λi u hu=>aq i u ?_⟩;rw[List.getElem?_take] at hu;split at hu
 ·exact hu
 ·cases hu
def Wj (A:Option Addr) (cap k:Nat):Option Addr:=if cap=k then A else A.map (·.add k)
theorem fP.cut (h:fP w A xs) (k:Nat) {cap:Nat} (aq:xs.length<=cap):fP w (Wj A cap k) (xs.drop k):=h.drop k aq
theorem fP.ac5 {g:Nat} {cs:Array Value} {t:TypeId} {bQ:Nat×Nat} (h:w.heap[g]? =some (.cells cs t bQ)):fP w (some ⟨g,0,none⟩) cs.toList:=λ_=>by
 have bK:g<w.heap.size:=by
  rcases Nat.lt_or_ge g w.heap.size with aa|aa
  ·exact aa
  ·rw[Array.getElem?_eq_none aa] at h;cases h
 refine⟨g,0,rfl,bK,λi u hu=> ?_⟩;unfold World.cell?;simp[h];simpa using hu
theorem fP.new (w:World) (cs:Array Value) (t:TypeId):fP (w.alloc (.cells cs t)) (some ⟨w.heap.size,0,none⟩) cs.toList:=fP.ac5 (heap_alloc_new w _)
end
theorem aHT {P:Program} (t e:TypeId) (bH:P.underlying t=some (.slice e)) (i:TypeInfo) (aj:P.info? e=some i) (A:Option Addr) (n c tP:Nat) (y:Int) (bT:y=tP) (ae:tP<=c) (W:World):
 (Instr.slice t (.slice A n c) none (some (.int .i64 y)) none).run P W=.ok (.slice A tP c) W:=by
 subst bT;have he:P.elem t=e:=by simp[Program.elem,bH]
 rw[run_slice_h W t A n c (by rw[he];exact bH) .i64 tP (by omega) (by omega),he];simp[sizeOf,typeInfo,aj,sliced];cases A<;>simp[Addr.add]
section
variable{w:World} {base:Nat} {e:TypeId} {size:Nat} {v:Value} {n:Nat} {xs:List Value}
theorem ac' (h:w.ownsRow base e size v n xs):∃A c,v=.slice A n c/\n<=c:=by
 rcases h.2 with⟨rfl,rfl⟩|⟨g,cap,cur,rfl,_,_,Cg,_⟩
 ·exact⟨none,0,rfl,Nat.le_refl _⟩
 ·exact⟨_,cap,rfl,Cg⟩
theorem Kh {w':World} (h:w.ownsRow base e size v n xs) (ai:Below w.heap.size w w'):w'.ownsRow base e size v n xs:=by
 refine⟨h.1, ?_⟩;rcases h.2 with bl|⟨g,cap,cur,aa,ae,az,a9⟩
 ·exact .inl bl
 ·refine .inr ⟨g,cap,cur,aa,ae, ?_,a9⟩;have bK:g<w.heap.size:=by
   rcases Nat.lt_or_ge g w.heap.size with ay|ay
   ·exact ay
   ·rw[Array.getElem?_eq_none ay] at az;cases az
  rw[ai.block g bK];exact az
end
section
variable{P:Program} (w:World)
theorem run_append_nil (base:Nat) (t ty e:TypeId) (i:TypeInfo) (size:Nat) (bH:P.underlying t=some (.slice e)) (aj:P.info? e=some i)
 (v:Value) (n:Nat) (xs:List Value) (qB:w.ownsRow base e size v n xs) (c:Nat):(Builtin.append_ #[t,t] ty #[v,.slice none 0 c]).run P w=.ok v w:=by
 rcases qB.2 with⟨rfl,rfl⟩|⟨g,cap,cur,rfl,_,_,Cg,_⟩
 ·simp[Builtin.append_,run_underlying bH,sizeOf,typeInfo,aj,Builtin.lenOf,Builtin.firstCells]
 ·simp[Builtin.append_,run_underlying bH,sizeOf,typeInfo,aj,Builtin.lenOf,Builtin.firstCells,Cg,storeCells]
theorem aHS (base:Nat) (t ty e:TypeId) (i:TypeInfo) (z:Value) (size bytes:Nat) (bH:P.underlying t=some (.slice e)) (aj:P.info? e=some i) (ax:i.zero=some z)
 (xR:i.size=size) (p1:i.bytes=bytes) (xV:z.cells.size=size) (fh:0<size)
 (v:Value) (n:Nat) (xs:List Value) (qB:w.ownsRow base e size v n xs)
 (A:Option Addr) (m c:Nat) (news:List Value) (aJ:fP w A news) (a3:news.length=m*size) (aa:∀u∈news,u.oneCell'=true)
 (xz:(n+m)*bytes<=140737488355328) (xn:n+m<=maxLen) (rO:base<=w.heap.size):
 ∃eO c' w',(Builtin.append_ #[t,t] ty #[v,.slice A m c]).run P w=.ok (.slice eO (n+m) c') w'/\n+m<=c'/\w'.ownsRow base e size (.slice eO (n+m) c') (n+m) (xs++news)/\w.grownBy w' v.ownBlock/\
  ((Value.slice eO (n+m) c').ownBlock=v.ownBlock\/(Value.slice eO (n+m) c').ownBlock=some w.heap.size):=by
 by_cases dx:∃rA,A=some rA
 ·obtain⟨rA,rfl⟩:=dx;have vV:∀j u,news[j]? =some u->w.cell? (rA.add j)=some u:=by
   intro j u hu;have au:j<news.length:=by
    rcases Nat.lt_or_ge j news.length with h|h
    ·exact h
    ·rw[List.getElem?_eq_none h] at hu;cases hu
   obtain⟨b,off,h,_,aq⟩:=aJ.at_ au;injection h with h
   subst h;have:=aq j u hu;unfold Addr.add;split
   ·subst_vars;simpa using this
   ·exact this
  obtain⟨d_,w',Co,ae,az,_,cE⟩:=run_append_own_at (P:=P) w base t ty e i z size bytes bH aj ax xR p1 xV fh v n xs qB rA m c news a3 vV aa xn xz rO;obtain⟨eO,c',rfl,hle⟩:=ac' ae;exact⟨eO,c',w',Co,hle,ae,az,cE⟩
 ·obtain rfl:A=none:=by cases A with
   |none=>rfl
   |some a=>exact absurd ⟨a,rfl⟩ dx
  have aA:news=[]:=by
   by_cases h:news=[]
   ·exact h
   ·obtain⟨b,off,h,_⟩:=aJ h;cases h
  subst aA;have hm:m=0:=by
   rcases Nat.eq_zero_or_pos m with h|h
   ·exact h
   ·have:=Nat.mul_pos h fh;simp at a3;omega
  subst hm;obtain⟨eO,c',rfl,hle⟩:=ac' qB;exact⟨eO,c',w,run_append_nil w base t ty e i size bH aj _ n xs qB c,hle,by simpa using qB,World.grownBy.refl w _,.inl rfl⟩
theorem aiU {o:Oper} {a:Act} {K:Act->World->Prop} {Q:Exit->Act->World->Prop} (s x:Operand) (t:TypeId)
 (bR:o.op=.call {callee:=.builtin .append,args:=#[s,x],argTypes:=#[t,t]})
 (base:Nat) (e:TypeId) (i:TypeInfo) (z:Value) (size bytes:Nat) (bH:P.underlying t=some (.slice e)) (aj:P.info? e=some i) (ax:i.zero=some z)
 (xR:i.size=size) (p1:i.bytes=bytes) (xV:z.cells.size=size) (fh:0<size)
 (v:Value) (n:Nat) (xs:List Value) (aU:a.eval s=v) (qB:w.ownsRow base e size v n xs)
 (A:Option Addr) (m c:Nat) (news:List Value) (aV:a.eval x=.slice A m c) (aJ:fP w A news) (a3:news.length=m*size) (aa:∀u∈news,u.oneCell'=true)
 (xz:(n+m)*bytes<=140737488355328) (xn:n+m<=maxLen) (rO:base<=w.heap.size)
 (h:∀eO c' w',n+m<=c'->w'.ownsRow base e size (.slice eO (n+m) c') (n+m) (xs++news)->w.grownBy w' v.ownBlock->
  ((Value.slice eO (n+m) c').ownBlock=v.ownBlock\/(Value.slice eO (n+m) c').ownBlock=some w.heap.size)->K (a.put o.dst (.slice eO (n+m) c')) w'):o.wp P a w K Q:=by
 obtain⟨eO,c',w',Co,hle,ae,az,a9⟩:=aHS (P:=P) w base t o.type e i z size bytes bH aj ax xR p1 xV fh v n xs qB A m c news aJ a3 aa xz xn rO;unfold Oper.wp execOp;simp only[bR,resolve,invoke,builtin,Sem.run_bind,Sem.run_pure,Result.andThen_ok,List.map_toArray,List.map_cons,List.map_nil,aU,aV,Co];exact h eO c' w' hle ae az a9
theorem aiT {ops:Array Oper} {rest:List Oper} {o:Oper} {a:Act} {Q:Exit->Act->World->Prop} (P7:o.guard=none) (s x:Operand) (t:TypeId) (bR:o.op=.call {callee:=.builtin .append,args:=#[s,x],argTypes:=#[t,t]}) (base:Nat) (e:TypeId) (i:TypeInfo) (z:Value) (size bytes:Nat) (bH:P.underlying t=some (.slice e)) (aj:P.info? e=some i) (ax:i.zero=some z) (xR:i.size=size) (p1:i.bytes=bytes) (xV:z.cells.size=size) (fh:0<size) (v:Value) (n:Nat) (xs:List Value) (aU:a.eval s=v) (qB:w.ownsRow base e size v n xs) (A:Option Addr) (m c:Nat) (news:List Value) (aV:a.eval x=.slice A m c) (aJ:fP w A news) (a3:news.length=m*size) (aa:∀u∈news,u.oneCell'=true) (xz:(n+m)*bytes<=140737488355328) (xn:n+m<=maxLen) (rO:base<=w.heap.size) (h:∀eO c' w',n+m<=c'->w'.ownsRow base e size (.slice eO (n+m) c') (n+m) (xs++news)->w.grownBy w' v.ownBlock->((Value.slice eO (n+m) c').ownBlock=v.ownBlock\/(Value.slice eO (n+m) c').ownBlock=some w.heap.size)->wpList P ops Q rest (a.put o.dst (.slice eO (n+m) c')) w'):wpList P ops Q (o::rest) a w:=wpList_plain P7 λ_ ef=>aiU w s x t bR base e i z size bytes bH aj ax xR p1 xV fh v n xs aU qB A m c news aV aJ a3 aa xz xn rO λeO c' w' hle ae az a9=>ef _ _ (h eO c' w' hle ae az a9)
theorem Oh {ops:Array Oper} {o:Oper} {a:Act} {K:Act->World->Prop} {Q:Exit->Act->World->Prop} {E:Prop} (P7:o.guard=none) (s x:Operand) (t:TypeId)
 (bR:o.op=.call {callee:=.builtin .append,args:=#[s,x],argTypes:=#[t,t]})
 (base:Nat) (e:TypeId) (i:TypeInfo) (z:Value) (size bytes:Nat) (bH:P.underlying t=some (.slice e)) (aj:P.info? e=some i) (ax:i.zero=some z)
 (xR:i.size=size) (p1:i.bytes=bytes) (xV:z.cells.size=size) (fh:0<size)
 (v:Value) (n:Nat) (xs:List Value) (aU:a.eval s=v) (qB:w.ownsRow base e size v n xs)
 (A:Option Addr) (m c:Nat) (news:List Value) (aV:a.eval x=.slice A m c) (aJ:fP w A news) (a3:news.length=m*size) (aa:∀u∈news,u.oneCell'=true)
 (xz:(n+m)*bytes<=140737488355328) (xn:n+m<=maxLen) (rO:base<=w.heap.size)
 (h:∀eO c' w',n+m<=c'->w'.ownsRow base e size (.slice eO (n+m) c') (n+m) (xs++news)->w.grownBy w' v.ownBlock->
  ((Value.slice eO (n+m) c').ownBlock=v.ownBlock\/(Value.slice eO (n+m) c').ownBlock=some w.heap.size)->K (a.put o.dst (.slice eO (n+m) c')) w'):
 if Region.wanted o (yielded ops a.tmps)=true then Oper.wp P o a w K Q else E:=by
 have hw:Region.wanted o (yielded ops a.tmps)=true:=by simp[Region.wanted,P7]
 rw[if_pos hw];exact aiU w s x t bR base e i z size bytes bH aj ax xR p1 xV fh v n xs aU qB A m c news aV aJ a3 aa xz xn rO h
end
def mQ (w:World) (A:Option Addr) (l:List ByteArray):Prop:=fP w A (l.map Value.string)
section
variable{w w':World} {A:Option Addr} {l:List ByteArray}
theorem mQ.at_ (h:mQ w A l) {i:Nat} (a3:i<l.length):
 ∃b off,A=some ⟨b,off,none⟩/\b<w.heap.size/\∀i (h:i<l.length),w.cell? ⟨b,off+i,none⟩=some (.string l[i]):=by
 obtain⟨b,off,aa,ae,az⟩:=fP.at_ h (i:=i) (by simpa using a3);exact⟨b,off,aa,ae,λj au=>az j _ (by simp[au])⟩
theorem mQ.below (h:mQ w A l) (ai:Below w.heap.size w w'):mQ w' A l:=fP.below h ai
theorem mQ.drew (h:mQ w A l):mQ w.drew A l:=h
theorem mQ.alloc (h:mQ w A l) (o:Obj):mQ (w.alloc o) A l:=fP.alloc h o
theorem mQ.drop (h:mQ w A l) (k:Nat) {cap:Nat} (aq:l.length<=cap):mQ w (if cap=k then A else A.map (·.add k)) (l.drop k):=by
 have:=fP.drop h k (cap:=cap) (by simpa using aq)
 rwa [<-List.map_drop] at this
theorem mQ.cut (h:mQ w A l) (k:Nat) {cap:Nat} (aq:l.length<=cap):mQ w (Wj A cap k) (l.drop k):=h.drop k aq
theorem mQ.take (h:mQ w A l) (k:Nat):mQ w A (l.take k):=by
 have:=fP.take h k
 rwa [<-List.map_take] at this
end
namespace bx
set_option linter.unusedVariables false
inductive T (α:Type)
  |nil
  |node (v:Option α) (l r:T α)
  deriving DecidableEq
def T.get {α:Type}:T α->Nat->Option α
 |.nil,_=>none
 |.node v l r,k=>match k with
  |0=>v
  |k+1=>match k%2 with
   |0=>l.get (k/2)
   |_=>r.get (k/2)
def T.set {α:Type}:Nat->T α->Nat->Option α->T α
 |0,t,_,_=>t
 |d+1,.nil,k,a=>match k with
  |0=>.node a .nil .nil
  |k+1=>match k%2 with
   |0=>.node none (T.set d .nil (k/2) a) .nil
   |_=>.node none .nil (T.set d .nil (k/2) a)
 |d+1,.node v l r,k,a=>match k with
  |0=>.node a l r
  |k+1=>match k%2 with
   |0=>.node v (T.set d l (k/2) a) r
   |_=>.node v l (T.set d r (k/2) a)
def T.put {α:Type} (t:T α) (k:Nat) (a:Option α):T α:=T.set (k+1) t k a
def T.fill {α:Type} (t:T α) (k:Nat):List α->T α
 |[]=>t
 |a::l=>(t.put k (some a)).fill (k+1) l
def T.take {α:Type} (t:T α) (k:Nat):Nat->Option (List α)
 |0=>some []
 |n+1=>match t.get k with
  |none=>none
  |some a=>match t.take (k+1) n with
   |none=>none
   |some l=>some (a::l)
theorem T.Up {α:Type}:∀(d:Nat) (t:T α) (k:Nat) (a:Option α),k<d->(T.set d t k a).get k=a
 |0,_,_,_,h=>by omega
 |d+1,.nil,0,a,_=>rfl
 |d+1,.node v l r,0,a,_=>rfl
 |d+1,.nil,k+1,a,h=>by
  have aP:k/2<d:=ab;rcases Nat.mod_two_eq_zero_or_one k with e|e<;>simp only[T.set,T.get,e]<;>exact T.Up d _ _ a aP
 |d+1,.node v l r,k+1,a,h=>by
  have aP:k/2<d:=ab;rcases Nat.mod_two_eq_zero_or_one k with e|e<;>simp only[T.set,T.get,e]<;>exact T.Up d _ _ a aP
theorem T.Uo {α:Type}:∀(d:Nat) (t:T α) (k j:Nat) (a:Option α),j≠k->(T.set d t k a).get j=t.get j
 |0,_,_,_,_,_=>rfl
 |d+1,.nil,0,0,a,h=>by omega
 |d+1,.node v l r,0,0,a,h=>by omega
 |d+1,.nil,0,j+1,a,h=>by
  rcases Nat.mod_two_eq_zero_or_one j with e|e<;>simp only[T.set,T.get,e]
 |d+1,.node v l r,0,j+1,a,h=>by
  rcases Nat.mod_two_eq_zero_or_one j with e|e<;>simp only[T.set,T.get,e]
 |d+1,.nil,k+1,0,a,h=>by
  rcases Nat.mod_two_eq_zero_or_one k with e|e<;>simp only[T.set,T.get,e]
 |d+1,.node v l r,k+1,0,a,h=>by
  rcases Nat.mod_two_eq_zero_or_one k with e|e<;>simp only[T.set,T.get,e]
 |d+1,.nil,k+1,j+1,a,h=>by
  rcases Nat.mod_two_eq_zero_or_one k with e|e<;>rcases Nat.mod_two_eq_zero_or_one j with e'|e'<;>simp only[T.set,T.get,e,e']<;>
   first|rfl|(rw[T.Uo d _ _ _ a ab];rfl)
 |d+1,.node v l r,k+1,j+1,a,h=>by
  rcases Nat.mod_two_eq_zero_or_one k with e|e<;>rcases Nat.mod_two_eq_zero_or_one j with e'|e'<;>simp only[T.set,T.get,e,e']<;>
   first|rfl|(rw[T.Uo d _ _ _ a ab])
theorem T.hN {α:Type} (t:T α) (k:Nat) (a:Option α):(t.put k a).get k=a:=T.Up _ _ _ _ ab
theorem T.eB {α:Type} (t:T α) {k j:Nat} (a:Option α) (h:j≠k):(t.put k a).get j=t.get j:=T.Uo _ _ _ _ _ h
theorem T.kF {α:Type} (t:T α) (k j:Nat) (a:Option α):(t.put k a).get j=if j=k then a else t.get j:=by
 split
 ·subst_vars;exact T.hN ..
 ·exact T.eB _ _ (by assumption)
theorem T.get_nil {α:Type} (j:Nat):(T.nil:T α).get j=none:=by rw[T.get]
theorem T.Xa {α:Type}:∀(l:List α) (t:T α) (k j:Nat),(t.fill k l).get j=if k<=j/\j<k+l.length then l[j-k]? else t.get j
 |[],t,k,j=>by simp[T.fill];omega
 |a::l,t,k,j=>by
  rw[T.fill,T.Xa l _ (k+1) j,T.kF];by_cases aa:k+1<=j/\j<k+1+l.length
  ·rw[if_pos aa,if_pos (by simp;omega)];obtain⟨d,rfl⟩:∃d,j=k+1+d:=⟨j-(k+1),ab⟩;rw[show k+1+d-(k+1)=d by omega,show k+1+d-k=d+1 by omega,List.getElem?_cons_succ]
  ·rw[if_neg aa];by_cases ae:j=k
   ·subst ae;simp
   ·rw[if_neg ae,if_neg (by simp;omega)]
end bx
end Go.Proofs.YtgmdfchkljaooaaGreat
namespace Go.Proofs.YtgmdfchkljaooaaGreat
open Go.RowKit
namespace bx
set_option linter.unusedVariables false
structure l4 where
  c:Int
  a:Nat
  b:Nat
  e:Nat
  deriving DecidableEq
def aII (r:Nat):Nat:=r%9
def aIJ (r:Nat):Nat:=r/9%10
def aIK (r:Nat):Nat:=r/90%10
def l4.den (l:l4) (r:Nat):Int:=l.c+((l.a*aII r+l.b*aIJ r+l.e*aIK r:Nat):Int)
inductive C
  |int (k:IntKind) (n:Int)
  |bool (b:Bool)
  |str (s:List Nat)
  |ptr (a:Option (Nat×Nat))
  |cP
  |aH (b o len:Nat) (IF:Bool) (cap:Nat)
  |ais
  |map (r:Option Nat)
  |fn (f:Nat) (cap:List (Nat×Nat))
  |s6
  |rf
  |UD (k:IntKind) (l:l4)
  |Ux (s:List l4)
  deriving DecidableEq
inductive P
  |c (x:C)
  |agg (l:List C)
  deriving DecidableEq
inductive V
  |p (x:P)
  |yM (l:List P)
  |undef
  |any
  |sym
  deriving DecidableEq
abbrev V.c (x:C):V:=.p (.c x)
abbrev V.agg (l:List C):V:=.p (.agg l)
inductive B
  |row (t n:Nat) (cs:T C) (u:Option Nat)
  |map (es:List (P×P×Nat)) (Bk:Nat)
  |iter (s:List Nat) (pos:Nat)
  |Q1 (r since:Nat) (seen:List Nat) (last:Nat)
structure bF where
  heap:T B
  next:Nat
def P.cells:P->List C
 |.c x=>[x]
 |.agg l=>l
def bytes (s:ByteArray):List Nat:=s.data.toList.map UInt8.toNat
theorem bytes_inj {s t:ByteArray} (h:bytes s=bytes t):s=t:=by
 have aa:s.data.toList=t.data.toList:=by
  refine List.map_inj_right (f:=UInt8.toNat) (λa b h=>UInt8.toNat_inj.1 h)|>.1 h
 cases s;cases t;simp at aa;simp[aa]
def cv {α β:Type} (R:α->β->Prop):List α->List β->Prop
 |[],[]=>True
 |a::l,b::r=>R a b/\cv R l r
 |_,_=>False
section
variable{α β:Type} {R S:α->β->Prop}
theorem cv.imp (h:∀a b,R a b->S a b):∀{l:List α} {r:List β},cv R l r->cv S l r
 |[],[],_=>trivial
 |a::l,b::r,⟨aa,ae⟩=>⟨h _ _ aa,cv.imp h ae⟩
theorem cv.length:∀{l:List α} {r:List β},cv R l r->l.length=r.length
 |[],[],_=>rfl
 |a::l,b::r,⟨_,ae⟩=>by simp[cv.length ae]
theorem cv.append:∀{l:List α} {r:List β} {eu:List α} {lY:List β},cv R l r->cv R eu lY->cv R (l++eu) (r++lY)
 |[],[],_,_,_,h=>h
 |a::l,b::r,_,_,⟨aa,ae⟩,h=>⟨aa,cv.append ae h⟩
theorem cv.drop:∀(k:Nat) {l:List α} {r:List β},cv R l r->cv R (l.drop k) (r.drop k)
 |0,_,_,h=>h
 |k+1,[],[],_=>trivial
 |k+1,a::l,b::r,⟨_,ae⟩=>cv.drop k ae
theorem cv.take:∀(k:Nat) {l:List α} {r:List β},cv R l r->cv R (l.take k) (r.take k)
 |0,_,_,_=>trivial
 |k+1,[],[],_=>trivial
 |k+1,a::l,b::r,⟨aa,ae⟩=>⟨aa,cv.take k ae⟩
theorem cv.get:∀{l:List α} {r:List β},cv R l r->∀{i:Nat} {a:α},l[i]? =some a->∃b,r[i]? =some b/\R a b
 |[],[],_,i,a,h=>by simp at h
 |x::l,b::r,⟨aa,ae⟩,0,a,h=>by simp at h;subst h;exact⟨b,rfl,aa⟩
 |x::l,b::r,⟨aa,ae⟩,i+1,a,h=>by simp at h;obtain⟨c,az,a9⟩:=cv.get ae h;exact⟨c,by simpa using az,a9⟩
theorem cv.Kc:∀{l:List α} {r:List β},l.length=r.length->(∀(i:Nat) (a:α) (b:β),l[i]? =some a->r[i]? =some b->R a b)->cv R l r
 |[],[],_,_=>trivial
 |[],b::r,h,_=>by simp at h
 |a::l,[],h,_=>by simp at h
 |a::l,b::r,h,bZ=>⟨bZ 0 a b rfl rfl,cv.Kc (by simpa using h) λi a b bW ai=>bZ (i+1) a b (by simpa using bW) (by simpa using ai)⟩
end
abbrev M:=Nat->Option (Nat×Nat)
def Ext (m m':M):Prop:=∀i r,m i=some r->m' i=some r
theorem Ext.refl (m:M):Ext m m:=λ_ _ h=>h
theorem Ext.trans {m m' lF:M} (h:Ext m m') (k:Ext m' lF):Ext m lF:=λi r aj=>k i r (h i r aj)
def l5 (m:M) (a:Nat×Nat) (v:Value):Prop:=∃r,m a.1=some r/\v=.pointer (some ⟨r.1,a.2,none⟩)
def cT (m:M):C->Value->Prop
 |.int k n,v=>v=.int k n
 |.bool b,v=>v=.bool b
 |.str s,v=>∃t,v=.string t/\bytes t=s
 |.ptr none,v=>v=.pointer none
 |.ptr (some a),v=>l5 m a v
 |.cP,v=>v=.slice none 0 0
 |.aH b o len true cap,v=>∃r,m b=some r/\v=.slice (some ⟨r.1,o,none⟩) len cap
 |.aH b o len false d,v=>∃r,m b=some r/\len+d<=r.2/\v=.slice (some ⟨r.1,o,none⟩) len (r.2-d)
 |.ais,v=>∃a c,v=.slice (some a) 0 c
 |.map none,v=>v=.map none
 |.map (some b),v=>∃r,m b=some r/\v=.map (some r.1)
 |.fn f cap,v=>∃vs,v=.func (.func f) #[] vs/\cv (l5 m) cap vs.toList
 |.s6,v=>v=.nilFunc
 |.rf,v=>v=.nilIface
 |.UD k l,v=>∃r,m 63=some r/\v=.int k (l.den r.2)
 |.Ux s,v=>∃r,m 63=some r/\∃t,v=.string t/\(bytes t).map Int.ofNat=s.map λl=>l.den r.2
def iT (m:M):P->Value->Prop
 |.c x,v=>cT m x v
 |.agg l,v=>∃cs,v=.agg cs/\cv (cT m) l cs.toList
def dec (n:Nat):Int:=match n%2 with
 |0=>Int.ofNat (n/2)
 |_=>Int.negSucc (n/2)
def dW (m:M):V->Value->Prop
 |.p x,v=>iT m x v
 |.yM l,v=>∃vs,v=.tuple vs/\cv (iT m) l vs.toList
 |.undef,v=>v=undef
 |.any,_=>True
 |.sym,v=>∃r,m 63=some r/\v=.int .i64 (dec r.2)
section
variable{m m':M} (e:Ext m m')
include e
theorem l5.ext {a:Nat×Nat} {v:Value} (h:l5 m a v):l5 m' a v:=by
 obtain⟨r,aa,ae⟩:=h;exact⟨r,e _ _ aa,ae⟩
theorem cT.ext {x:C} {v:Value} (h:cT m x v):cT m' x v:=by
 cases x with
 |ptr a=>cases a with
  |none=>exact h
  |some a=>exact l5.ext e h
 |aH b o len IF cap=>cases IF with
  |true=>obtain⟨r,aa,ae⟩:=h;exact⟨r,e _ _ aa,ae⟩
  |false=>obtain⟨r,aa,ae⟩:=h;exact⟨r,e _ _ aa,ae⟩
 |map a=>cases a with
  |none=>exact h
  |some b=>obtain⟨r,aa,ae⟩:=h;exact⟨r,e _ _ aa,ae⟩
 |fn f cap=>obtain⟨vs,aa,ae⟩:=h;exact⟨vs,aa,ae.imp λ_ _=>l5.ext e⟩
 |UD k l=>obtain⟨r,aa,ae⟩:=h;exact⟨r,e _ _ aa,ae⟩
 |Ux s=>obtain⟨r,aa,ae⟩:=h;exact⟨r,e _ _ aa,ae⟩
 |_=>exact h
theorem iT.ext {x:P} {v:Value} (h:iT m x v):iT m' x v:=by
 cases x with
 |c x=>exact cT.ext e h
 |agg l=>obtain⟨cs,aa,ae⟩:=h;exact⟨cs,aa,ae.imp λ_ _=>cT.ext e⟩
theorem dW.ext {x:V} {v:Value} (h:dW m x v):dW m' x v:=by
 cases x with
 |p x=>exact iT.ext e h
 |yM l=>obtain⟨cs,aa,ae⟩:=h;exact⟨cs,aa,ae.imp λ_ _=>iT.ext e⟩
 |undef=>exact h
 |any=>trivial
 |sym=>obtain⟨r,aa,ae⟩:=h;exact⟨r,e _ _ aa,ae⟩
end
theorem cT.one {m:M} {x:C} {v:Value} (h:cT m x v):(∀cs,v≠.agg cs)/\(∀cs,v≠.tuple cs):=by
 cases x with
 |ptr a=>cases a with
  |none=>cases h;simp
  |some a=>obtain⟨r,_,rfl⟩:=h;simp
 |aH b o len IF cap=>cases IF with
  |true=>obtain⟨r,_,rfl⟩:=h;simp
  |false=>obtain⟨r,_,_,rfl⟩:=h;simp
 |map a=>cases a with
  |none=>cases h;simp
  |some b=>obtain⟨r,_,rfl⟩:=h;simp
 |fn f cap=>obtain⟨vs,rfl,_⟩:=h;simp
 |str s=>obtain⟨t,rfl,_⟩:=h;simp
 |ais=>obtain⟨a,c,rfl⟩:=h;simp
 |UD k l=>obtain⟨r,_,rfl⟩:=h;simp
 |Ux s=>obtain⟨r,_,t,rfl,_⟩:=h;simp
 |_=>cases h;simp
theorem Bj {v:Value} (h:∀cs,v≠.agg cs):v.cells=#[v]:=by
 cases v<;>first|rfl|exact absurd rfl (h _)
theorem iT.cells {m:M} {x:P} {v:Value} (h:iT m x v):cv (cT m) x.cells v.cells.toList:=by
 cases x with
 |c x=>rw[Bj (cT.one h).1];exact⟨h,trivial⟩
 |agg l=>obtain⟨cs,rfl,ae⟩:=h;exact ae
def mo (m:M) (r:Nat×Nat):B->Option Obj->Prop
 |.row t n cs u,o=>∃cur ty bQ,o=some (.cells cur ty bQ)/\(∀j,j<cur.size->¬(bQ.1<=j/\j<bQ.2))/\n<=cur.size/\
  (∀j c,j<n->cs.get j=some c->∃v,cur[j]? =some v/\cT m c v)/\(match u with|none=>cur.size=n|some sz=>cur.size=r.2*sz)
 |.map es Bk,o=>∃res,o=some (.map res Bk)/\(∀e∈es,e.2.2<Bk)/\
  cv (λ(e:P×P×Nat) (e':MapEntry)=>iT m e.1 e'.key/\iT m e.2.1 e'.val/\e'.born=e.2.2) es res.toList
 |.iter s pos,o=>∃t,o=some (.stringIter t pos)/\bytes t=s
 |.Q1 b since seen last,o=>∃q,m b=some q/\o=some (.mapIter (some q.1) since seen.toArray last)
theorem mo.ext {m m':M} (e:Ext m m') {r:Nat×Nat} {b:B} {o:Option Obj} (h:mo m r b o):mo m' r b o:=by
 cases b with
 |row t n cs u=>obtain⟨cur,ty,bQ,aa,ae,az,a9,cE⟩:=h;exact⟨cur,ty,bQ,aa,ae,az,λj c au aq=>let⟨v,dm,er⟩:=a9 j c au aq;⟨v,dm,er.ext e⟩,cE⟩
 |map es Bk=>obtain⟨res,aa,ae,az⟩:=h;exact⟨res,aa,ae,az.imp λ_ _ h=>⟨h.1.ext e,h.2.1.ext e,h.2.2⟩⟩
 |iter s pos=>exact h
 |Q1 b since seen last=>obtain⟨q,aa,ae⟩:=h;exact⟨q,e _ _ aa,ae⟩
structure bt (w0:World) (m:M) (σ:bF) (w:World):Prop where
  below:Below w0.heap.size w0 w
  zv:∀g,g<63->m g=some (g,0)
  sym:m 63=some (63,w0.drawn)
  yn:64<=σ.next
  fresh:∀i,σ.next<=i->m i=none
  own:∀i r,64<=i->m i=some r->w0.heap.size<=r.1/\r.1<w.heap.size
  live:∀i b r,σ.heap.get i=some b->m i=some r->mo m r b w.heap[r.1]?
  inj:∀i j bi iM r q,σ.heap.get i=some bi->σ.heap.get j=some iM->m i=some r->m j=some q->r.1=q.1->i=j
def M.add (m:M) (i:Nat) (r:Nat×Nat):M:=λj=>if j=i then some r else m j
theorem M.WT {m:M} {i:Nat} (r:Nat×Nat) (h:m i=none):Ext m (m.add i r):=λj q au=>by
 unfold M.add;split
 ·subst_vars;rw[h] at au;cases au
 ·exact au
theorem M.add_same (m:M) (i:Nat) (r:Nat×Nat):m.add i r i=some r:=by simp[M.add]
theorem M.tI (m:M) {i j:Nat} (r:Nat×Nat) (h:j≠i):m.add i r j=m j:=by simp[M.add,h]
theorem mo.some {m:M} {r:Nat×Nat} {b:B} {o:Option Obj} (h:mo m r b o):∃x,o=some x:=by
 cases b with
 |row t n cs u=>obtain⟨cur,ty,bQ,aa,_⟩:=h;exact⟨_,aa⟩
 |map es Bk=>obtain⟨res,aa,_⟩:=h;exact⟨_,aa⟩
 |iter s pos=>obtain⟨t,aa,_⟩:=h;exact⟨_,aa⟩
 |Q1 b since seen last=>obtain⟨q,_,aa⟩:=h;exact⟨_,aa⟩
theorem mo.lt {m:M} {r:Nat×Nat} {b:B} {w:World} {g:Nat} (h:mo m r b w.heap[g]?):g<w.heap.size:=by
 obtain⟨x,aV⟩:=h.some;rcases jL g w.heap.size with aa|aa
 ·exact aa
 ·rw[Array.getElem?_eq_none aa] at aV;cases aV
structure oQ (m:M) (σ:bF) (w:World) (m':M) (a8:bF) (w':World):Prop where
  ext:Ext m m'
  fresh:∀i,σ.next<=i->m i=none
  next:σ.next<=a8.next
  size:w.heap.size<=w'.heap.size
  news:∀i r,m' i=some r->m i=some r\/(m i=none/\σ.next<=i/\(w.heap.size<=r.1\/∃j x q,σ.heap.get j=some x/\m j=some q/\q.1=r.1))
  sY:∀i,i<σ.next->m i=none->a8.heap.get i=σ.heap.get i
  dead:∀i,i<σ.next->σ.heap.get i=none->a8.heap.get i=none
  kept:∀b,b<w.heap.size->(∀i x r,σ.heap.get i=some x->m i=some r->r.1≠b)->w'.heap[b]? =w.heap[b]?
section
variable{w0 w w' qh:World} {m m' lF:M} {σ a8 tk:bF}
theorem oQ.refl (h:bt w0 m σ w):oQ m σ w m σ w:=⟨Ext.refl m,h.fresh,Nat.le_refl _,Nat.le_refl _,λ_ _ h=>.inl h,λ_ _ _=>rfl,λ_ _ h=>h,λ_ _ _=>rfl⟩
theorem oQ.r_ (h:oQ m σ w m' a8 w') {i:Nat} {x:B} {r:Nat×Nat} (aj:a8.heap.get i=some x) (aJ:m i=some r):∃y,σ.heap.get i=some y:=by
 have bK:i<σ.next:=by
  rcases jL i σ.next with aa|aa
  ·exact aa
  ·rw[h.fresh i aa] at aJ;cases aJ
 cases bT:σ.heap.get i with
 |none=>rw[h.dead i bK bT] at aj;cases aj
 |some y=>exact⟨y,rfl⟩
theorem oQ.trans (h:oQ m σ w m' a8 w') (k:oQ m' a8 w' lF tk qh):oQ m σ w lF tk qh where
 ext:=h.ext.trans k.ext
 fresh:=h.fresh
 next:=ij h.next k.next
 size:=ij h.size k.size
 news i r aJ:=by
  have aA:=h.next;have aU:=h.size;rcases k.news i r aJ with aa|⟨aa,ae,az⟩
  ·exact h.news i r aa
  ·have hm:m i=none:=by
    cases hm:m i with
    |none=>rfl
    |some q=>rw[h.ext i q hm] at aa;cases aa
   refine .inr ⟨hm,ab, ?_⟩;rcases az with az|⟨j,x,q,a9,cE,dm⟩
   ·exact .inl ab
   ·rcases h.news j q cE with er|⟨er,eS,fR⟩
    ·obtain⟨y,bT⟩:=h.r_ a9 er;exact .inr ⟨j,y,q,bT,er,dm⟩
    ·rcases fR with fR|⟨iY,g9,f_,aF,aQ,bn⟩
     ·exact .inl ab
     ·exact .inr ⟨iY,g9,f_,aF,aQ,ab⟩
 sY i aj hm:=by
  have aA:=h.next;rw[k.sY i ab,h.sY i aj hm];cases q4:m' i with
  |none=>rfl
  |some r=>
   rcases h.news i r q4 with aa|⟨_,ae,_⟩
   ·rw[hm] at aa;cases aa
   ·omega
 dead i aj bb:=by
  have aA:=h.next;exact k.dead i ab (h.dead i aj bb)
 kept b ai a3:=by
  have aU:=h.size;rw[k.kept b ab,h.kept b ai a3];intro i x r aj aJ he;rcases h.news i r aJ with aa|⟨_,_,ae|⟨j,y,q,az,a9,cE⟩⟩
  ·obtain⟨y,bT⟩:=h.r_ aj aa;exact a3 i y r bT aa he
  ·omega
  ·exact a3 j y q az a9 ab
theorem bt.tc (h:bt w0 m σ w) (ai:Below w.heap.size w w'):bt w0 m σ w' where
 below:=h.below.trans (ai.mono h.below.size)
 zv:=h.zv
 sym:=h.sym
 yn:=h.yn
 fresh:=h.fresh
 own i r aj aJ:=by
  have:=h.own i r aj aJ;have:=ai.size;omega
 live i b r aj aJ:=by
  have az:=h.live i b r aj aJ;rw[ai.block _ az.lt];exact az
 inj:=h.inj
theorem oQ.tc (h:bt w0 m σ w) (ai:Below w.heap.size w w'):oQ m σ w m σ w':=⟨Ext.refl m,h.fresh,Nat.le_refl _,ai.size,λ_ _ h=>.inl h,λ_ _ _=>rfl,λ_ _ h=>h,λb aa _=>ai.block b aa⟩
theorem bt.add (h:bt w0 m σ w) {x k:Nat} {o:Obj} (HW:64<=x) (aA:m x=none) (aV:x<σ.next) (ai:∀b,σ.heap.get x=some b->mo (m.add x (w.heap.size,k)) (w.heap.size,k) b (some o)):
 bt w0 (m.add x (w.heap.size,k)) σ (w.alloc o):=by
 have e:=M.WT (w.heap.size,k) aA;refine⟨h.below.alloc h.below.size o,λg bZ=>by rw[M.tI _ _ ab];exact h.zv g bZ,by rw[M.tI _ _ ab];exact h.sym,h.yn,λi aj=>by rw[M.tI _ _ ab];exact h.fresh i aj,
  λi r aj aJ=> ?_,λi b r aj aJ=> ?_,λi j bi iM r q aj au aJ ay Cn=> ?_⟩
 ·by_cases he:i=x
  ·subst he;rw[M.add_same] at aJ;injection aJ with aJ
   subst aJ;exact⟨h.below.size,by simp⟩
  ·rw[M.tI _ _ he] at aJ;have:=h.own i r aj aJ;exact⟨this.1,by simp;omega⟩
 ·by_cases he:i=x
  ·subst he;rw[M.add_same] at aJ;injection aJ with aJ
   subst aJ;rw[heap_alloc_new];exact ai b aj
  ·rw[M.tI _ _ he] at aJ;have az:=h.live i b r aj aJ;rw[Below.heap_alloc _ _ _ az.lt];exact az.ext e
 ·by_cases aa:i=x<;>by_cases ae:j=x
  ·rw[aa,ae]
  ·subst aa;rw[M.add_same] at aJ;rw[M.tI _ _ ae] at ay;injection aJ with aJ
   have:=(h.live j iM q au ay).lt;rw[<-Cn,<-aJ] at this;simp at this
  ·subst ae;rw[M.add_same] at ay;rw[M.tI _ _ aa] at aJ;injection ay with ay
   have:=(h.live i bi r aj aJ).lt;rw[Cn,<-ay] at this;simp at this
  ·rw[M.tI _ _ aa] at aJ;rw[M.tI _ _ ae] at ay;exact h.inj i j bi iM r q aj au aJ ay Cn
theorem bt.lay (h:bt w0 m σ w) {x:Nat} (b:Option B) (aA:m x=none):bt w0 m ⟨σ.heap.put x b,σ.next⟩ w:=by
 refine⟨h.below,h.zv,h.sym,h.yn,h.fresh,h.own,λi c r aj aJ=> ?_,λi j bi iM r q aj au aJ ay Cn=> ?_⟩
 ·simp only[T.kF] at aj;split at aj
  ·subst_vars;rw[aA] at aJ;cases aJ
  ·exact h.live i c r aj aJ
 ·simp only[T.kF] at aj au;split at aj
  ·subst_vars;rw[aA] at aJ;cases aJ
  ·split at au
   ·subst_vars;rw[aA] at ay;cases ay
   ·exact h.inj i j bi iM r q aj au aJ ay Cn
theorem bt.room (h:bt w0 m σ w) {n:Nat} (aA:σ.next<=n):bt w0 m ⟨σ.heap,n⟩ w:=⟨h.below,h.zv,h.sym,ij h.yn aA,λi aj=>h.fresh i (ij aA aj),h.own,h.live,h.inj⟩
def bF.new (σ:bF) (b:B):Nat×bF:=(σ.next,⟨σ.heap.put σ.next (some b),σ.next+1⟩)
theorem bt.new (h:bt w0 m σ w) (o:Obj) (b:B) (k:Nat) (ai:mo (m.add σ.next (w.heap.size,k)) (w.heap.size,k) b (some o)):
 bt w0 (m.add σ.next (w.heap.size,k)) (σ.new b).2 (w.alloc o):=by
 have aA:m σ.next=none:=h.fresh _ (Nat.le_refl _);refine((h.lay (some b) aA).room (Nat.le_succ _)).add (k:=k) (o:=o) h.yn aA (Nat.lt_succ_self _) λc aq=> ?_;simp only[T.kF,if_true] at aq;cases aq;exact ai
theorem oQ.new (h:bt w0 m σ w) (o:Obj) (b:B) (k:Nat):oQ m σ w (m.add σ.next (w.heap.size,k)) (σ.new b).2 (w.alloc o):=by
 have aA:m σ.next=none:=h.fresh _ (Nat.le_refl _);refine⟨M.WT _ aA,h.fresh,Nat.le_succ _,by simp,λi r aJ=> ?_,λi aj _=> ?_,λi aj bb=> ?_,λc aq _=>Below.heap_alloc _ _ _ aq⟩
 ·by_cases he:i=σ.next
  ·subst he;rw[M.add_same] at aJ;injection aJ with aJ
   subst aJ;exact .inr ⟨aA,Nat.le_refl _,.inl (Nat.le_refl _)⟩
  ·rw[M.tI _ _ he] at aJ;exact .inl aJ
 ·simp only[bF.new];exact T.eB _ _ ab
 ·simp only[bF.new];rw[T.eB _ _ ab];exact bb
def g2 (w:World) (i:Nat) (o:Obj):World:={w with heap:=w.heap.setIfInBounds i o}
theorem l1 (w:World) (i:Nat) (o:Obj):(g2 w i o).heap.size=w.heap.size:=by simp[g2]
theorem kJ (w:World) {i j:Nat} (o:Obj) (h:j≠i):(g2 w i o).heap[j]? =w.heap[j]? :=by
 simp[g2,Array.getElem?_setIfInBounds_ne (Ne.symm h)]
theorem nw (w:World) {i:Nat} (o:Obj) (h:i<w.heap.size):(g2 w i o).heap[i]? =some o:=by
 simp[g2,h]
theorem bt.set (h:bt w0 m σ w) {i:Nat} {b fG:B} {r:Nat×Nat} (HW:64<=i) (aj:σ.heap.get i=some b) (aJ:m i=some r) (o:Obj) (ai:mo m r fG (some o)):
 bt w0 m ⟨σ.heap.put i (some fG),σ.next⟩ (g2 w r.1 o):=by
 have xQ:=(h.live i b r aj aJ).lt;have xP:=(h.own i r HW aJ).1;refine⟨⟨h.below.os,h.below.tape,h.below.output,by rw[l1];exact h.below.size,λk aP=> ?_⟩,h.zv,h.sym,h.yn,h.fresh,λj q au ay=>by rw[l1];exact h.own j q au ay,λj c q au ay=> ?_,λj k iM mT q f_ au aP ay zK Qq=> ?_⟩
 ·rw[kJ _ _ ab];exact h.below.block k aP
 ·simp only[T.kF] at au;split at au
  ·subst_vars
   injection au with au
   subst au;rw[aJ] at ay;injection ay with ay
   subst ay;rw[nw _ _ xQ];exact ai
  ·rename_i eD;have az:=h.live j c q au ay;rw[kJ]
   ·exact az
   ·intro am3;exact eD (h.inj j i c b q r au aj ay aJ am3)
 ·have key:∀j iM,(σ.heap.put i (some fG)).get j=some iM->∃c,σ.heap.get j=some c:=by
   intro j iM au;rw[T.kF] at au;split at au
   ·subst_vars;exact⟨b,aj⟩
   ·exact⟨iM,au⟩
  obtain⟨c,aq⟩:=key j iM au;obtain⟨c',jN⟩:=key k mT aP;exact h.inj j k c c' q f_ aq jN ay zK Qq
theorem oQ.set (h:bt w0 m σ w) {i:Nat} {b:B} {r:Nat×Nat} (fG:Option B) (aj:σ.heap.get i=some b) (aJ:m i=some r) (o:Obj):oQ m σ w m ⟨σ.heap.put i fG,σ.next⟩ (g2 w r.1 o):=by
 refine⟨Ext.refl m,h.fresh,Nat.le_refl _,Nat.le_of_eq (l1 ..).symm,λ_ _ h=>.inl h,λj _ au=> ?_,λj _ au=> ?_,λc _ aq=>kJ _ _ λhe=>aq i b r aj aJ he.symm⟩
 ·exact T.eB _ _ λhe=>by rw[he,aJ] at au;cases au
 ·exact(T.eB _ _ λhe=>by rw[he,aj] at au;cases au).trans au
end
def ve:Value->Option C
 |.int k n=>some (.int k n)
 |.bool b=>some (.bool b)
 |.string s=>some (.str (bytes s))
 |.pointer none=>some (.ptr none)
 |.slice none 0 0=>some .cP
 |.map none=>some (.map none)
 |.func (.func f) first cap=>match first.toList,cap.toList with
  |[],[]=>some (.fn f [])
  |_,_=>none
 |.nilFunc=>some .s6
 |.nilIface=>some .rf
 |_=>none
def vf:List Value->Option (List C)
 |[]=>some []
 |v::l=>match ve v with
  |none=>none
  |some c=>match vf l with
   |none=>none
   |some r=>some (c::r)
def uh:Value->Option P
 |.agg cs=>match vf cs.toList with
  |some l=>some (.agg l)
  |none=>none
 |v=>match ve v with
  |some c=>some (.c c)
  |none=>none
theorem DA (m:M) {v:Value} {c:C} (h:ve v=some c):cT m c v:=by
 unfold ve at h;split at h
 all_goals first
  |(cases h;done)
  |(cases h;first|rfl|exact⟨_,rfl,rfl⟩)
  |(split at h
    ·rename_i aa ae;cases h;rw[show _=(#[]:Array Value) from Array.toList_inj.1 aa,show _=(#[]:Array Value) from Array.toList_inj.1 ae];exact⟨#[],rfl,trivial⟩
    ·cases h)
theorem DB (m:M):∀{l:List Value} {r:List C},vf l=some r->cv (cT m) r l
 |[],r,h=>by cases h;trivial
 |v::l,r,h=>by
  rw[vf] at h;split at h
  ·cases h
  ·rename_i c aq;split at h
   ·cases h
   ·rename_i q ay;cases h;exact⟨DA m aq,DB m ay⟩
theorem Dz (m:M) {v:Value} {x:P} (h:uh v=some x):iT m x v:=by
 unfold uh at h;split at h
 ·split at h
  ·rename_i a3;cases h;exact⟨_,rfl,DB m a3⟩
  ·cases h
 ·split at h
  ·rename_i aq;cases h;exact DA m aq
  ·cases h
structure ff (aS:Program) (cg:T TypeInfo):Prop where
  info:∀t i,cg.get t=some i->aS.info? t=some i
section
variable(cg:T TypeInfo)
def under (t:Nat):Option TypeDesc:=match cg.get t with
 |some i=>match i.desc with
  |.named _ u=>match cg.get u with
   |some j=>some j.desc
   |none=>none
  |d=>some d
 |none=>none
def size (t:Nat):Option Nat:=match cg.get t with
 |some i=>some i.size
 |none=>none
def j3 (t:Nat):Option Nat:=match cg.get t with
 |some i=>some i.bytes
 |none=>none
def zero (t:Nat):Option P:=match cg.get t with
 |some i=>match i.zero with
  |some v=>uh v
  |none=>none
 |none=>none
def isAgg (t:Nat):Option Bool:=match under cg t with
 |some (.struct _)=>some true
 |some (.array _ _)=>some true
 |some _=>some false
 |none=>none
end
section
variable{cg:T TypeInfo} {aS:Program} (bS:ff aS cg) {w:World} {m:M}
include bS
theorem jr {t:Nat} {d:TypeDesc} (h:under cg t=some d):aS.underlying t=some d:=by
 unfold under at h;unfold Program.underlying;split at h
 ·rename_i i aj;rw[bS.info _ _ aj];split at h
  ·rename_i n u bb;split at h
   ·rename_i j au;injection h with h
    obtain⟨⟩:=i;simp only at bb;subst bb;simp[bS.info _ _ au,h]
   ·cases h
  ·rename_i d' aA;injection h with h
   obtain⟨⟩:=i;simp only at h aA;subst h;split
   ·rename_i he;injection he with he
    injection he with he
    subst he;exact absurd rfl (aA _ _)
   ·rename_i he;injection he with he
    subst he;rfl
   ·rename_i he;cases he
 ·cases h
theorem gZ {t:Nat} {d:TypeDesc} (h:under cg t=some d):(underlying t).run aS w=.ok d w:=run_underlying (jr bS h) w
theorem lH {t n:Nat} (h:size cg t=some n):(sizeOf t).run aS w=.ok n w:=by
 unfold size at h;split at h
 ·rename_i i aj;cases h;simp[sizeOf,typeInfo,bS.info _ _ aj]
 ·cases h
theorem GK {t:Nat} {x:P} (m:M) (h:zero cg t=some x):∃v,(zeroValue t).run aS w=.ok v w/\iT m x v:=by
 unfold zero at h;split at h
 ·rename_i i aj;split at h
  ·rename_i v aM;exact⟨v,by simp[zeroValue,typeInfo,bS.info _ _ aj,aM],Dz m h⟩
  ·cases h
 ·cases h
theorem qd {t:Nat} {b:Bool} (h:isAgg cg t=some b):(Go.isAgg t).run aS w=.ok b w:=by
 unfold isAgg at h;split at h
 ·rename_i hu;cases h;simp[Go.isAgg,gZ bS hu]
 ·rename_i hu;cases h;simp[Go.isAgg,gZ bS hu]
 ·rename_i d sS amK hu;cases h;simp only[Go.isAgg,iv,gZ bS hu,iV]
  first|done|rfl|simp
 ·cases h
end
def g8 (cur:Array Value) (k:Nat):List Value->Array Value
 |[]=>cur
 |v::vs=>g8 (cur.setIfInBounds k v) (k+1) vs
theorem lh:∀(vs:List Value) (cur:Array Value) (k:Nat),(g8 cur k vs).size=cur.size
 |[],_,_=>rfl
 |v::vs,cur,k=>by rw[g8,lh vs];simp
theorem nu:∀(vs:List Value) (cur:Array Value) (k j:Nat),k+vs.length<=cur.size->
 (g8 cur k vs)[j]? =if k<=j/\j<k+vs.length then vs[j-k]? else cur[j]?
 |[],cur,k,j,h=>by simp[g8];omega
 |v::vs,cur,k,j,h=>by
  simp only[gO] at h;rw[g8,nu vs _ (k+1) j (by simp;omega)];by_cases aa:k+1<=j/\j<k+1+vs.length
  ·rw[if_pos aa,if_pos (by simp;omega)];obtain⟨d,rfl⟩:∃d,j=k+1+d:=⟨j-(k+1),ab⟩;rw[show k+1+d-(k+1)=d by omega,show k+1+d-k=d+1 by omega,List.getElem?_cons_succ]
  ·rw[if_neg aa];by_cases ae:j=k
   ·subst ae;simp[show j<cur.size by omega]
   ·rw[if_neg (by simp;omega),Array.getElem?_setIfInBounds_ne ab]
section
variable{aS:Program} {w:World} {b o:Nat} {cur:Array Value} {t:TypeId} {bQ:Nat×Nat}
theorem add_eq (b o k:Nat):(⟨b,o,none⟩:Addr).add k=⟨b,o+k,none⟩:=by
 unfold Addr.add;split<;>simp_all
theorem Bi (h:w.heap[b]? =some (.cells cur t bQ)):w.cell? ⟨b,o,none⟩=cur[o]? :=by simp[World.cell?,h]
theorem qf {v:Value} (h:w.heap[b]? =some (.cells cur t bQ)) (aM:cur[o]? =some v):(Go.load ⟨b,o,none⟩).run aS w=.ok v w:=by
 simp[Go.load,Sem.run,Bi h,aM]
theorem run_loadCellsFrom (h:w.heap[b]? =some (.cells cur t bQ)):∀(l:List Value) (i:Nat) (acc:Array Value),(∀j,j<l.length->cur[o+i+j]? =l[j]?)->
 (loadCellsFrom ⟨b,o,none⟩ i l.length acc).run aS w=.ok (acc++l.toArray) w
 |[],i,acc,_=>by simp[loadCellsFrom]
 |v::l,i,acc,a3=>by
  have bl:cur[o+i]? =some v:=by simpa using a3 0 (by simp)
  rw[gO,loadCellsFrom,add_eq,iv,qf h bl,iV,
   run_loadCellsFrom h l (i+1) _ λj au=>by simpa[Nat.add_assoc,Nat.add_comm 1] using a3 (j+1) (by simpa using au)]
  simp
theorem run_loadCells (h:w.heap[b]? =some (.cells cur t bQ)) (l:List Value) (a3:∀j,j<l.length->cur[o+j]? =l[j]?):
 (loadCells ⟨b,o,none⟩ l.length).run aS w=.ok l.toArray w:=by
 rw[loadCells,run_loadCellsFrom h l 0 #[] (by simpa using a3)];simp
theorem aH0 {ml:Obj} (h:w.heap[b]? =some ml):g2 w b ml=w:=by
 have:w.heap.setIfInBounds b ml=w.heap:=by
  apply Array.ext_getElem?;intro i;by_cases aj:i=b
  ·subst aj;have:i<w.heap.size:=by
    rcases jL i w.heap.size with aa|aa
    ·exact aa
    ·rw[Array.getElem?_eq_none aa] at h;cases h
   have ae:=(nJ.1 h).2;simp[this,ae]
  ·rw[Array.getElem?_setIfInBounds_ne (Ne.symm aj)]
 simp[g2,this]
theorem aH1 (mj lG:Obj):g2 (g2 w b mj) b lG=g2 w b lG:=by simp[g2]
theorem aH2 (h:w.heap[b]? =some (.cells cur t bQ)) (v:Value):w.setCell ⟨b,o,none⟩ v=g2 w b (.cells (cur.setIfInBounds o v) t bQ):=by
 have ai:b<w.heap.size:=by
  rcases jL b w.heap.size with aa|aa
  ·exact aa
  ·rw[Array.getElem?_eq_none aa] at h;cases h
 have ae:=(nJ.1 h).2;simp only[World.setCell,g2];congr 1;apply Array.ext_getElem?;intro i;rw[Array.getElem?_modify];by_cases aj:b=i
 ·subst aj;simp[ai,ae]
 ·rw[Array.getElem?_setIfInBounds_ne aj,if_neg aj]
theorem aHW {v:Value} (h:w.heap[b]? =some (.cells cur t bQ)) (bR:o<cur.size) (bu:¬(bQ.1<=o/\o<bQ.2)) (aa:(∀cs,v≠.agg cs)/\∀cs,v≠.tuple cs):
 (Go.store ⟨b,o,none⟩ v).run aS w=.ok () (g2 w b (.cells (cur.setIfInBounds o v) t bQ)):=by
 have aq:w.cell? ⟨b,o,none⟩=some cur[o]:=by rw[Bi h];simp[bR]
 have rQ:w.frozen? ⟨b,o,none⟩=false:=by
  simp[World.frozen?,h];omega
 unfold Go.store;rw[<-aH2 h];cases v with
 |agg cs=>exact absurd rfl (aa.1 cs)
 |tuple cs=>exact absurd rfl (aa.2 cs)
 |_=>simp only[Sem.run,aq,rQ,Bool.false_eq_true,if_false]
theorem yI:∀(vs:List Value) (i:Nat) (w:World) (cur:Array Value),w.heap[b]? =some (.cells cur t bQ)->o+i+vs.length<=cur.size->
 (∀j,j<cur.size->¬(bQ.1<=j/\j<bQ.2))->(∀v∈vs,(∀cs,v≠.agg cs)/\∀cs,v≠.tuple cs)->
 (storeCells ⟨b,o,none⟩ vs i).run aS w=.ok () (g2 w b (.cells (g8 cur (o+i) vs) t bQ))
 |[],i,w,cur,h,_,_,_=>by simp[storeCells,g8,aH0 h]
 |v::vs,i,w,cur,h,aU,bu,aa=>by
  simp only[gO] at aU;have ai:b<w.heap.size:=by
   rcases jL b w.heap.size with aa|aa
   ·exact aa
   ·rw[Array.getElem?_eq_none aa] at h;cases h
  rw[storeCells,add_eq,iv,aHW h ab (bu _ ab) (aa v (by simp)),iV,
   yI vs (i+1) _ _ (nw _ _ ai) (by simp;omega) (by simpa using bu) λu hu=>aa u (by simp[hu]),aH1]
  simp[g8,Nat.add_assoc]
end
def bF.cells (σ:bF) (b o n:Nat):Option (List C):=match σ.heap.get b with
 |some (.row _ k cs _)=>if o+n<=k then cs.take o n else none
 |_=>none
def bF.put (σ:bF) (b o:Nat) (l:List C):Option bF:=match σ.heap.get b with
 |some (.row t n cs u)=>if 64<=b/\o+l.length<=n then some ⟨σ.heap.put b (some (.row t n (cs.fill o l) u)),σ.next⟩ else none
 |_=>none
theorem VK {m:M} {cs:T C} {n:Nat} {cur:Array Value} (h:∀j c,j<n->cs.get j=some c->∃v,cur[j]? =some v/\cT m c v):
 ∀(k o:Nat) (l:List C),o+k<=n->cs.take o k=some l->∃vs:List Value,vs.length=k/\(∀j,j<vs.length->cur[o+j]? =vs[j]?)/\cv (cT m) l vs
 |0,o,l,_,bH=>by cases bH;exact⟨[],rfl,by simp,trivial⟩
 |k+1,o,l,aP,bH=>by
  rw[T.take] at bH;split at bH
  ·cases bH
  ·rename_i a bW;split at bH
   ·cases bH
   ·rename_i r aJ;cases bH;obtain⟨v,aM,aq⟩:=h o a ab bW;obtain⟨vs,aa,ae,az⟩:=VK h k (o+1) r ab aJ;refine⟨v::vs,by simp[aa],λj au=> ?_,aq,az⟩;cases j with
    |zero=>simpa using aM
    |succ j=>rw[List.getElem?_cons_succ,<-ae j (by simpa using au)];congr 1;omega
section
variable{aS:Program} {w0 w:World} {m:M} {σ a8:bF} {b o n:Nat} {l:List C} {r:Nat×Nat}
theorem bt.cells (h:bt w0 m σ w) (aq:σ.cells b o n=some l) (aJ:m b=some r):
 ∃cur t bQ vs,w.heap[r.1]? =some (.cells cur t bQ)/\vs.length=n/\(∀j,j<vs.length->cur[o+j]? =vs[j]?)/\cv (cT m) l vs:=by
 unfold bF.cells at aq;split at aq
 ·rename_i t k cs u ai;split at aq
  ·rename_i aP;obtain⟨cur,ty,bQ,aa,ae,az,a9,cE⟩:=h.live b _ r ai aJ;obtain⟨vs,aF,aQ,bn⟩:=VK a9 n o l aP aq;exact⟨cur,ty,bQ,vs,aa,aF,aQ,bn⟩
  ·cases aq
 ·cases aq
theorem bt.loadCells (h:bt w0 m σ w) (aq:σ.cells b o n=some l) (aJ:m b=some r):
 ∃vs:List Value,(Go.loadCells ⟨r.1,o,none⟩ n).run aS w=.ok vs.toArray w/\cv (cT m) l vs:=by
 obtain⟨cur,t,bQ,vs,aa,rfl,az,a9⟩:=h.cells aq aJ;exact⟨vs,run_loadCells aa vs az,a9⟩
theorem bt.put {vs:List Value} (h:bt w0 m σ w) (bw:σ.put b o l=some a8) (aJ:m b=some r) (aM:cv (cT m) l vs):
 ∃w',(storeCells ⟨r.1,o,none⟩ vs).run aS w=.ok () w'/\bt w0 m a8 w'/\oQ m σ w m a8 w':=by
 unfold bF.put at bw;split at bw
 ·rename_i t k cs u ai;split at bw
  ·rename_i aP;have Qb:=aP.2;cases bw;obtain⟨cur,ty,bQ,aa,ae,az,a9,cE⟩:=h.live b _ r ai aJ;have hlen:=aM.length;have Ci:∀v∈vs,(∀cs,v≠.agg cs)/\∀cs,v≠.tuple cs:=by
    intro v rX;obtain⟨i,aj⟩:=List.mem_iff_getElem?.1 rX;have:i<l.length:=by
     rw[hlen];exact(ed.1 aj).1
    obtain⟨d_,dm,er⟩:=aM.get (e_ this);rw[aj] at dm;cases dm;exact cT.one er
   refine⟨_,yI vs 0 w cur aa ab ae Ci, ?_,oQ.set h _ ai aJ _⟩;refine h.set aP.1 ai aJ _ ⟨_,ty,bQ,rfl,by rw[lh];exact ae,by rw[lh];exact az,λj c au aq=> ?_,by rw[lh];exact cE⟩;rw[nu _ _ _ _ ab];rw[T.Xa] at aq;by_cases jY:o<=j/\j<o+l.length
   ·rw[if_pos jY] at aq;rw[if_pos ab];exact aM.get aq
   ·rw[if_neg jY] at aq;rw[if_neg ab];exact a9 j c au aq
  ·cases bw
 ·cases bw
end
end bx
namespace cB
open bx (T cv)
set_option linter.unusedVariables false
def aO (k:IntKind):Type:={n:Int//k.min<=n/\n<=k.max}
theorem aIG (k:IntKind) (n:Int):k.min<=k.wrap n/\k.wrap n<=k.max:=by
 cases k<;>simp only[IntKind.min,IntKind.max,IntKind.wrap,IntKind.bits,IntKind.signed]<;>simp<;>omega
def aO.w (k:IntKind) (n:Int):aO k:=⟨k.wrap n,aIG k n⟩
theorem AT {k:IntKind} {n:Int} (h:k.min<=n/\n<=k.max):k.wrap n=n:=by
 cases k<;>simp[IntKind.min,IntKind.max,IntKind.wrap,IntKind.bits,IntKind.signed] at h⊢<;>omega
instance{k:IntKind}:DecidableEq (aO k):=λa b=>decidable_of_iff (a.1=b.1) Subtype.ext_iff.symm
def L (α:Type):Type:={l:List α//l.length<=140737488355328}
def ew:Type:={s:ByteArray//s.size<=9223372036854775807}
instance:DecidableEq ew:=λa b=>decidable_of_iff (a.1=b.1) Subtype.ext_iff.symm
section
variable{α:Type} {k cj:IntKind}
def L.nil:L α:=⟨[],by simp⟩
def bj (l:L α):aO .i64:=⟨l.1.length,by have:=l.2;simp[IntKind.min,IntKind.max,IntKind.bits,IntKind.signed];omega⟩
def e3 (l:L α) (i:Nat):Option α:=l.1[i]?
def ec (l:L α) (i:Nat) (x:α):L α:=⟨l.1.set i x,by simpa using l.2⟩
def room (eR n:Nat):Bool:=decide (n*eR<=140737488355328)&&decide (n<=1048576000)
def de (eR:Nat) (l r:L α):Option (L α):=if h:room eR (l.1.length+r.1.length)=true then some ⟨l.1++r.1,by simp[room] at h;simp;omega⟩ else none
def nf (l:L α) (di aj:Int):Option (L α):=bif decide (0<=di)&&decide (di<=aj)&&decide (aj<=l.1.length) then some ⟨(l.1.drop di.toNat).take (aj-di).toNat,by have:=l.2;simp;omega⟩ else none
def qE (eR:Nat) (n:aO k) (z:α):Option (L α):=if h:(decide (0<=n.1)&&room eR n.1.toNat)=true then some ⟨List.replicate n.1.toNat z,by simp[room] at h;simp;omega⟩ else none
def mF (s:ew):aO .i64:=⟨s.1.size,by have:=s.2;simp[IntKind.min,IntKind.max,IntKind.bits,IntKind.signed];omega⟩
def mg (s t:ew):Option ew:=if h:s.1.size+t.1.size<=9223372036854775807 then some ⟨s.1++t.1,by simpa using h⟩ else none
def oo (s:ew) (di aj:Int):Option ew:=if h:(decide (0<=di)&&decide (di<=aj)&&decide (aj<=s.1.size))=true then some ⟨s.1.extract di.toNat aj.toNat,by have:=s.2;simp at h;simp;omega⟩ else none
def cC (s t:ew):Bool:=decide (s=t)
def nV (s t:ew):Bool:=Op.bytesLess s.1.toList t.1.toList
def S (s:ByteArray):ew:=if h:s.size<=9223372036854775807 then⟨s,h⟩ else⟨⟨#[]⟩,bp⟩
def bg (a b:aO k):aO k:=aO.w k (a.1+b.1)
def gf (a b:aO k):aO k:=aO.w k (a.1-b.1)
def tT (a b:aO k):aO k:=aO.w k (a.1*b.1)
def x3 (a b:aO k):Option (aO k):=bif decide (b.1=0) then none else some (aO.w k (Int.tdiv a.1 b.1))
def tV (a b:aO k):Option (aO k):=bif decide (b.1=0) then none else some (aO.w k (Int.tmod a.1 b.1))
def q8 (a b:aO k):aO k:=aO.w k (BitVec.ofInt k.bits a.1&&&BitVec.ofInt k.bits b.1).toNat
def q9 (a b:aO k):aO k:=aO.w k (BitVec.ofInt k.bits a.1|||BitVec.ofInt k.bits b.1).toNat
def ph (a b:aO k):aO k:=aO.w k (BitVec.ofInt k.bits a.1^^^BitVec.ofInt k.bits b.1).toNat
def zT (a:aO k) (b:aO cj):Option (aO k):=bif decide (0<=b.1) then some (aO.w k (a.1*(2^(min b.1.toNat k.bits):Nat))) else none
def tW (a:aO k) (b:aO cj):Option (aO k):=bif decide (0<=b.1) then some (aO.w k (Int.fdiv a.1 (2^(min b.1.toNat k.bits):Nat))) else none
def zP (a b:aO k):aO k:=bif decide (a.1<=b.1) then a else b
def imax (a b:aO k):aO k:=bif decide (b.1<=a.1) then a else b
def tU (a:aO k):aO k:=aO.w k (0-a.1)
def fk (cj:IntKind) (a:aO k):aO cj:=aO.w cj a.1
def bd (a b:aO k):Bool:=decide (a.1=b.1)
def bh (a b:aO k):Bool:=decide (a.1<b.1)
def fM (a b:aO k):Bool:=decide (a.1<=b.1)
end
inductive fy
  |int (k:IntKind)
  |bool
  |str
  |aH (t:List fy)
abbrev da:=List fy
@[reducible] def nD (l:fy):Type:=fy.rec (motive_1:=λ_=>Type) (motive_2:=λ_=>Type) (λk=>aO k) Bool ew (λ_ b_=>L b_) Unit (λ_ _ a b=>a×b) l
@[reducible] def D (t:da):Type:=fy.rec_1 (motive_1:=λ_=>Type) (motive_2:=λ_=>Type) (λk=>aO k) Bool ew (λ_ b_=>L b_) Unit (λ_ _ a b=>a×b) t
mutual
def kE:fy->fy->Bool
  |.int k,.int cj=>decide (k=cj)
  |.bool,.bool=>true
  |.str,.str=>true
  |.aH t,.aH t'=>jS t t'
  |_,_=>false
def jS:List fy->List fy->Bool
  |[],[]=>true
  |l::t,eu::t'=>match kE l eu with
    |true=>jS t t'
    |false=>false
  |_,_=>false
end
mutual
theorem akL:∀{a b:fy},kE a b=true->a=b
  |.int k,.int cj,h=>by simp[kE] at h;rw[h]
  |.bool,.bool,_=>rfl
  |.str,.str,_=>rfl
  |.aH t,.aH t',h=>by simp only[kE] at h;rw[jT h]
  |.int _,.bool,h=>by simp[kE] at h
  |.int _,.str,h=>by simp[kE] at h
  |.int _,.aH _,h=>by simp[kE] at h
  |.bool,.int _,h=>by simp[kE] at h
  |.bool,.str,h=>by simp[kE] at h
  |.bool,.aH _,h=>by simp[kE] at h
  |.str,.int _,h=>by simp[kE] at h
  |.str,.bool,h=>by simp[kE] at h
  |.str,.aH _,h=>by simp[kE] at h
  |.aH _,.int _,h=>by simp[kE] at h
  |.aH _,.bool,h=>by simp[kE] at h
  |.aH _,.str,h=>by simp[kE] at h
theorem jT:∀{a b:List fy},jS a b=true->a=b
  |[],[],_=>rfl
  |l::t,eu::t',h=>by
    simp only[jS] at h
    split at h
    ·rename_i aa;rw[akL aa,jT h]
    ·cases h
  |[],_::_,h=>by simp[jS] at h
  |_::_,[],h=>by simp[jS] at h
end
inductive OO
  |no
  |nl (a4:List Bool) (sz:Nat)
  |ny (k:Nat) (nl:List Bool) (sz:Nat)
  |at_ (id cX n sz f:Nat)
inductive C
  |int (k:IntKind) (n:aO k)
  |bool (b:Bool)
  |str (s:ew)
  |ptr (a:Option (Nat×Nat))
  |cP
  |row (t:da) (l:L (D t)) (nW:OO)
  |aH (id n:Nat)
  |ux (id di n sz:Nat)
  |cW (t:da) (x:D t) (o:Nat)
  |jy (id n sz f:Nat)
  |fn (f:Nat) (first cap:List (Nat×Nat))
  |s6
  |rf
inductive P
  |c (x:C)
  |agg (l:List C)
inductive V
  |p (x:P)
  |yM (l:List P)
  |undef
  |any
abbrev V.c (x:C):V:=.p (.c x)
abbrev V.agg (l:List C):V:=.p (.agg l)
def P.cells:P->List C
 |.c x=>[x]
 |.agg l=>l
structure M where
  pl:Nat->Option Nat
  bb:Nat->Option Value
  g3:Nat->Nat->Nat->Option Value
  fz:Nat->List Value
  dn:Nat->Option (Nat×Option Nat)
def ie (f g:Nat->List Value):Prop:=∀(b j:Nat) (v:Value),(f b)[j]? =some v->(g b)[j]? =some v
theorem ie.refl (f:Nat->List Value):ie f f:=λ_ _ _ h=>h
theorem ie.trans {f g h:Nat->List Value} (e:ie f g) (e':ie g h):ie f h:=λb j v aM=>e' b j v (e b j v aM)
structure Ext (m m':M):Prop where
  pl:∀i r,m.pl i=some r->m'.pl i=some r
  bb:∀i v,m.bb i=some v->m'.bb i=some v
  g3:∀i k o v,m.g3 i k o=some v->m'.g3 i k o=some v
  fz:ie m.fz m'.fz
theorem Ext.refl (m:M):Ext m m:=⟨λ_ _ h=>h,λ_ _ h=>h,λ_ _ _ _ h=>h,ie.refl _⟩
theorem Ext.trans {m m' lF:M} (h:Ext m m') (k:Ext m' lF):Ext m lF:=⟨λi r aj=>k.pl i r (h.pl i r aj),λi r aj=>k.bb i r (h.bb i r aj),λi a b r aj=>k.g3 i a b r (h.g3 i a b r aj),h.fz.trans k.fz⟩
mutual
def dO (fz:Nat->List Value):(l:fy)->nD l->Value->Prop
  |.int k,x,v=>v=.int k x.1
  |.bool,x,v=>v=.bool x
  |.str,x,v=>v=.string x.1
  |.aH t,x,v=>∃A c,v=.slice A x.1.length c/\x.1.length<=c/\(x.1≠[]->∃b o,A=some ⟨b,o,none⟩/\∀(i:Nat) (e:D t),x.1[i]? =some e->ic fz t e b (o+i*t.length))
def ic (fz:Nat->List Value):(t:List fy)->D t->Nat->Nat->Prop
  |[],_,_,_=>True
  |l::t,x,b,o=>(∃v,(fz b)[o]? =some v/\dO fz l x.1 v)/\ic fz t x.2 b (o+1)
end
section
variable{fz nM:Nat->List Value}
mutual
theorem dO.ext (e:ie fz nM):∀{l:fy} {x:nD l} {v:Value},dO fz l x v->dO nM l x v
  |.int _,_,_,h=>by simpa only[dO] using h
  |.bool,_,_,h=>by simpa only[dO] using h
  |.str,_,_,h=>by simpa only[dO] using h
  |.aH t,x,_,h=>by
    simp only[dO] at h⊢
    obtain⟨A,c,aa,ae,az⟩:=h
    refine⟨A,c,aa,ae,λaA=> ?_⟩
    obtain⟨b,o,aF,aQ⟩:=az aA
    exact⟨b,o,aF,λi y aj=>ic.ext e (aQ i y aj)⟩
theorem ic.ext (e:ie fz nM):∀{t:List fy} {x:D t} {b o:Nat},ic fz t x b o->ic nM t x b o
  |[],_,_,_,_=>by simp only[ic]
  |l::t,x,_,_,h=>by
    simp only[ic] at h⊢
    obtain⟨⟨v,aa,ae⟩,az⟩:=h
    exact⟨⟨v,e _ _ _ aa,dO.ext e ae⟩,ic.ext e az⟩
end
end
theorem dO.nil (fz:Nat->List Value) (t:da):dO fz (.aH t) (L.nil:L (D t)) (.slice none 0 0):=by
 simp only[dO];exact⟨none,0,rfl,Nat.le_refl _,λh=>absurd rfl h⟩
def o4:(l:fy)->nD l->C
 |.int k,x=>.int k x
 |.bool,x=>.bool x
 |.str,x=>.str x
 |.aH t,x=>.row t x .no
def k6 (t:da):D t->List C:=List.rec (motive:=λt=>D t->List C) (λ_=>[]) (λl _ b_ x=>o4 l x.1::b_ x.2) t
theorem WG (x:D []):k6 [] x=[]:=rfl
theorem uO (l:fy) (t:da) (x:D (l::t)):k6 (l::t) x=o4 l x.1::k6 t x.2:=rfl
theorem Bz:∀(t:da) (x:D t),(k6 t x).length=t.length
 |[],_=>rfl
 |l::t,x=>by rw[uO,gO,Bz t,gO]
def sI (l:fy) (c:C):Option (nD l):=match l,c with
 |.int k,.int cj n=>if h:cj=k then some (h▸n) else none
 |.bool,.bool b=>some b
 |.str,.str s=>some s
 |.aH t,.row t' l _=>if h:jS t' t=true then some (cast (congrArg (λt=>L (D t)) (jT h)) l) else none
 |.aH _,.cP=>some L.nil
 |_,_=>none
def mh (t:da):List C->Option (D t):=
 List.rec (motive:=λt=>List C->Option (D t)) (λcs=>match cs with|[]=>some ()|_=>none)
  (λl t b_ cs=>match cs with
   |[]=>none
   |c::cs=>match sI l c with
    |none=>none
    |some x=>match b_ cs with
     |none=>none
     |some y=>some (x,y)) t
def l5 (m:M) (a:Nat×Nat) (v:Value):Prop:=∃r,m.pl a.1=some r/\v=.pointer (some ⟨r,a.2,none⟩)
def nG (fz:Nat->List Value) (a4:List Bool) (sz:Nat) (v:Value):Prop:=∀b o len c,v=.slice (some ⟨b,o,none⟩) len c->∀i f,i<len->f<sz->a4[f]?.getD false=true->(fz b)[o+i*sz+f]? =some (.slice none 0 0)
theorem nG.ext {fz nM:Nat->List Value} (e:ie fz nM) {a4:List Bool} {sz:Nat} {v:Value} (h:nG fz a4 sz v):nG nM a4 sz v:=λb o len c aM i f aa ae az=>e _ _ _ (h b o len c aM i f aa ae az)
theorem nG.none {fz:Nat->List Value} {sz:Nat} {v:Value}:nG fz [] sz v:=λb o len c aM i f aa ae az=>by simp at az
theorem nG.nil {fz:Nat->List Value} {a4:List Bool} {sz len c:Nat}:nG fz a4 sz (.slice .none len c):=λb o len c aM=>by cases aM
def Ha (m:M):OO->Value->Prop
 |.no,_=>True
 |.nl a4 sz,v=>∀b o len c,v=.slice (some ⟨b,o,none⟩) len c->∀i f,i<len->f<sz->a4[f]?.getD false=true->(m.fz b)[o+i*sz+f]? =some (.slice none 0 0)
 |.ny k nl sz,v=>m.bb k=some v/\nG m.fz nl sz v
 |.at_ id cX n sz f,v=>m.g3 id cX (n*sz+f)=some v
def cT (m:M):C->Value->Prop
 |.int k n,v=>v=.int k n.1
 |.bool b,v=>v=.bool b
 |.str s,v=>v=.string s.1
 |.ptr none,v=>v=.pointer none
 |.ptr (some a),v=>l5 m a v
 |.cP,v=>v=.slice none 0 0
 |.row t l nW,v=>dO m.fz (.aH t) l v/\Ha m nW v
 |.aH id n,v=>∃A c,v=.slice A n c/\m.bb id=some v/\(n≠0->∃b,A=some ⟨b,0,none⟩)/\n<=140737488355328/\n<=c
 |.ux id di n sz,v=>∃A c,v=.slice A n c/\n<=c/\n<=140737488355328/\(n≠0->∃b k oY,m.bb id=some (.slice (some ⟨b,0,none⟩) k oY)/\A=some ⟨b,di*sz,none⟩/\di+n<=k)
 |.cW t x o,v=>∃b a,v=.pointer (some ⟨b,a+o,none⟩)/\ic m.fz t x b a
 |.jy id n sz f,v=>∃b k c,m.bb id=some (.slice (some ⟨b,0,none⟩) k c)/\v=.pointer (some ⟨b,n*sz+f,none⟩)
 |.fn f first cap,v=>∃us vs,v=.func (.func f) us vs/\cv (l5 m) first us.toList/\cv (l5 m) cap vs.toList
 |.s6,v=>v=.nilFunc
 |.rf,v=>v=.nilIface
def iT (m:M):P->Value->Prop
 |.c x,v=>cT m x v
 |.agg l,v=>∃cs,v=.agg cs/\cv (cT m) l cs.toList
def dW (m:M):V->Value->Prop
 |.p x,v=>iT m x v
 |.yM l,v=>∃vs,v=.tuple vs/\cv (iT m) l vs.toList
 |.undef,v=>v=undef
 |.any,_=>True
section
variable{m m':M}
theorem l5.ext (e:Ext m m') {a:Nat×Nat} {v:Value} (h:l5 m a v):l5 m' a v:=by
 obtain⟨r,aa,ae⟩:=h;exact⟨r,e.pl _ _ aa,ae⟩
theorem Ha.ext (e:Ext m m') {p:OO} {v:Value} (h:Ha m p v):Ha m' p v:=by
 cases p with
 |no=>trivial
 |nl a4 sz=>exactλb o len c aM i f aa ae az=>e.fz _ _ _ (h b o len c aM i f aa ae az)
 |ny k nl sz=>exact⟨e.bb _ _ h.1,h.2.ext e.fz⟩
 |at_ id cX n sz f=>exact e.g3 _ _ _ _ h
theorem cT.ext (e:Ext m m') {x:C} {v:Value} (h:cT m x v):cT m' x v:=by
 cases x with
 |ptr a=>cases a with
  |none=>exact h
  |some a=>exact l5.ext e h
 |row t l nW=>exact⟨h.1.ext e.fz,h.2.ext e⟩
 |aH id n=>obtain⟨A,c,aa,ae,az⟩:=h;exact⟨A,c,aa,e.bb _ _ ae,az⟩
 |ux id di n sz=>obtain⟨A,c,aa,ae,az,a9⟩:=h;exact⟨A,c,aa,ae,az,λaA=>by obtain⟨b,k,oY,aF,aQ⟩:=a9 aA;exact⟨b,k,oY,e.bb _ _ aF,aQ⟩⟩
 |cW t x o=>obtain⟨b,a,aa,ae⟩:=h;exact⟨b,a,aa,ae.ext e.fz⟩
 |jy id n sz f=>obtain⟨b,k,c,aa,ae⟩:=h;exact⟨b,k,c,e.bb _ _ aa,ae⟩
 |fn f first cap=>obtain⟨us,vs,aa,ae,az⟩:=h;exact⟨us,vs,aa,ae.imp λ_ _=>l5.ext e,az.imp λ_ _=>l5.ext e⟩
 |_=>exact h
theorem iT.ext (e:Ext m m') {x:P} {v:Value} (h:iT m x v):iT m' x v:=by
 cases x with
 |c x=>exact cT.ext e h
 |agg l=>obtain⟨cs,aa,ae⟩:=h;exact⟨cs,aa,ae.imp λ_ _=>cT.ext e⟩
theorem dW.ext (e:Ext m m') {x:V} {v:Value} (h:dW m x v):dW m' x v:=by
 cases x with
 |p x=>exact iT.ext e h
 |yM l=>obtain⟨cs,aa,ae⟩:=h;exact⟨cs,aa,ae.imp λ_ _=>iT.ext e⟩
 |undef=>exact h
 |any=>trivial
theorem dO.cell {l:fy} {x:nD l} {v:Value} (h:dO m.fz l x v):cT m (o4 l x) v:=by
 cases l with
 |aH t=>exact⟨h,trivial⟩
 |_=>simp only[dO] at h;exact h
theorem Br {l:fy} {c:C} {x:nD l} {v:Value} (h:sI l c=some x) (aq:cT m c v):dO m.fz l x v:=by
 unfold sI at h;split at h
 ·split at h
  ·rename_i aP;subst aP;cases h;simp only[dO];exact aq
  ·cases h
 ·cases h;simp only[dO];exact aq
 ·cases h;simp only[dO];exact aq
 ·split at h
  ·rename_i aP;have aP:=jT aP;subst aP;cases h;exact aq.1
  ·cases h
 ·cases h;have aq:v=.slice none 0 0:=aq;subst aq;exact dO.nil _ _
 ·cases h
theorem Bs {l:fy} {t:da} {c:C} {cs:List C} {z:D (l::t)} (h:mh (l::t) (c::cs)=some z):sI l c=some z.1/\mh t cs=some z.2:=by
 have h:(match sI l c with|none=>none|some x=>match mh t cs with|none=>none|some y=>some (x,y))=some z:=h;split at h
 ·cases h
 ·rename_i x aV;split at h
  ·cases h
  ·rename_i y bT;cases h;exact⟨aV,bT⟩
theorem Bt {l:fy} {t:da}:mh (l::t) []=none:=rfl
theorem Hw {c:C} {cs:List C}:mh [] (c::cs)=none:=rfl
theorem Pj {b:Nat}:∀{t:da} {cs:List C} {vs:List Value} {x:D t} {o:Nat},mh t cs=some x->cv (cT m) cs vs->(∀(j:Nat) v,vs[j]? =some v->(m.fz b)[o+j]? =some v)->ic m.fz t x b o
 |[],[],vs,x,o,h,_,_=>by simp only[ic]
 |[],c::cs,vs,x,o,h,_,_=>by rw[Hw] at h;cases h
 |l::t,[],vs,x,o,h,_,_=>by rw[Bt] at h;cases h
 |l::t,c::cs,[],x,o,h,aq,_=>aq.elim
 |l::t,c::cs,v::vs,x,o,h,aq,aM=>by
  obtain⟨aa,ae⟩:=Bs h;simp only[ic];refine⟨⟨v,by simpa using aM 0 v rfl,Br aa aq.1⟩,Pj ae aq.2 λj u hu=> ?_⟩;rw[Nat.add_assoc,Nat.add_comm 1];exact aM (j+1) u (by simpa using hu)
theorem ic.cell {b:Nat}:∀{t:da} {x:D t} {o:Nat},ic m.fz t x b o->∀(j:Nat) c,(k6 t x)[j]? =some c->∃v,(m.fz b)[o+j]? =some v/\cT m c v
 |[],_,_,_,j,c,h=>by rw[WG] at h;simp at h
 |l::t,x,o,h,0,c,au=>by
  simp only[ic] at h;rw[uO] at au;simp at au;subst au;obtain⟨⟨v,aa,ae⟩,_⟩:=h;exact⟨v,aa,ae.cell⟩
 |l::t,x,o,h,j+1,c,au=>by
  simp only[ic] at h;rw[uO] at au;obtain⟨v,aa,ae⟩:=ic.cell h.2 j c (by simpa using au);exact⟨v,by rw[<-aa];congr 1;omega,ae⟩
theorem cT.one {m:M} {x:C} {v:Value} (h:cT m x v):(∀cs,v≠.agg cs)/\(∀cs,v≠.tuple cs):=by
 cases x with
 |ptr a=>cases a with
  |none=>cases h;simp
  |some a=>obtain⟨r,_,rfl⟩:=h;simp
 |row t l nW=>obtain⟨h,_⟩:=h;simp only[dO] at h;obtain⟨A,c,rfl,_⟩:=h;simp
 |aH id n=>obtain⟨A,c,rfl,_⟩:=h;simp
 |ux id di n sz=>obtain⟨A,c,rfl,_⟩:=h;simp
 |cW t x o=>obtain⟨b,a,rfl,_⟩:=h;simp
 |jy id n sz f=>obtain⟨b,k,c,_,rfl⟩:=h;simp
 |fn f first cap=>obtain⟨us,vs,rfl,_⟩:=h;simp
 |_=>cases h;simp
theorem iT.cells {m:M} {x:P} {v:Value} (h:iT m x v):cv (cT m) x.cells v.cells.toList:=by
 cases x with
 |c x=>rw[bx.Bj (cT.one h).1];exact⟨h,trivial⟩
 |agg l=>obtain⟨cs,rfl,ae⟩:=h;exact ae
end
open bx (T cv g2 l1 kJ nw)
inductive B
  |box (cs:List C)
  |arr (t:da) (a4:List Bool) (l:L (D t)) (bR:Option (Nat×Nat)) (cX:Nat)
  |a6 (t:da)
structure bF where
  heap:T B
  next:Nat
def n6 (cur:Array Value) (bQ:Nat×Nat):Prop:=(∀j,j<cur.size->¬(bQ.1<=j/\j<bQ.2))/\bQ.1<=bQ.2
def oa (m:M) (h:Array Obj) (r:Nat) (hole:Prop) (ap:Bool) (o:Nat):(l:fy)->nD l->Value->Prop
 |.aH t,x,v=>¬hole->dO m.fz (.aH t) x v/\(ap=true->∃A k c,v=.slice A k c/\k<=c/\(A=none/\c=0\/∃b cur ty bQ,A=some ⟨b,0,none⟩/\h[b]? =some (.cells cur ty bQ)/\n6 cur bQ/\
  c*t.length<=cur.size/\(m.fz b).length=k*t.length/\m.dn b=some (r,some o)/\b≠r))
 |l,x,v=>dO m.fz l x v
def gH (m:M) (h:Array Obj) (r:Nat) (bR:Option (Nat×Nat)) (n:Nat) (cur:Array Value) (base:Nat):(t:List fy)->List Bool->D t->Nat->Prop
 |[],_,_,_=>True
 |l::t,a4,x,f=>(∃v,cur[base+f]? =some v/\oa m h r (bR=some (n,f)) (a4.headD false) (base+f) l x.1 v)/\gH m h r bR n cur base t a4.tail x.2 (f+1)
def mo (m:M) (h:Array Obj) (i:Nat):B->Prop
 |.box cs=>m.pl i=none\/∃r cur ty bQ,m.pl i=some r/\h[r]? =some (.cells cur ty bQ)/\n6 cur bQ/\cur.size=cs.length/\(∀(j:Nat) c,cs[j]? =some c->∃v,cur[j]? =some v/\cT m c v)/\
  m.dn r=some (r,none)/\m.fz r=[]
 |.a6 t=>∃A k c,m.bb i=some (.slice A k c)/\k<=c/\(A=none/\c=0/\m.pl i=none\/∃r cur ty bQ,A=some ⟨r,0,none⟩/\m.pl i=some r/\h[r]? =some (.cells cur ty bQ)/\n6 cur bQ/\
  c*t.length<=cur.size/\(m.fz r).length=k*t.length/\m.dn r=some (r,none)/\∀b k,m.dn b=some (r,k)->b=r)
 |.arr t a4 l bR cX=>∃A c,m.bb i=some (.slice A l.1.length c)/\l.1.length<=c/\(∀k,cX<k->∀o,m.g3 i k o=none)/\(A=none/\c=0/\(m.pl i=none/\∀k o,m.g3 i k o=none)\/∃r cur ty bQ,A=some ⟨r,0,none⟩/\m.pl i=some r/\h[r]? =some (.cells cur ty bQ)/\n6 cur bQ/\
  c*t.length<=cur.size/\m.dn r=some (r,none)/\m.fz r=[]/\(∀(n:Nat) e,l.1[n]? =some e->gH m h r bR n cur (n*t.length) t a4 e 0)/\
  (∀o v,m.g3 i cX o=some v↔cur[o]? =some v/\a4[o%t.length]? =some true/\o/t.length<l.1.length))
structure js (n:Nat) (m m':M):Prop where
  ext:Ext m m'
  pl:∀i,i<n->m'.pl i=m.pl i
theorem js.refl (n:Nat) (m:M):js n m m:=⟨Ext.refl m,λ_ _=>rfl⟩
theorem js.trans {n n':Nat} {m m' lF:M} (h:js n m m') (k:js n' m' lF) (aA:n<=n'):js n m lF:=⟨h.ext.trans k.ext,λi aj=>(k.pl i ab).trans (h.pl i aj)⟩
def A4 (m:M) (σ:bF) (b:Nat):Prop:=∃R k i x,m.dn b=some (R,k)/\σ.heap.get i=some x/\m.pl i=some R
structure bt (m:M) (σ:bF) (w:World):Prop where
  fresh:∀i,σ.next<=i->m.pl i=none/\m.bb i=none/\(∀k o,m.g3 i k o=none)/\σ.heap.get i=none
  live:∀i b,σ.heap.get i=some b->mo m w.heap i b
  inj:∀i j bi iM r,σ.heap.get i=some bi->σ.heap.get j=some iM->m.pl i=some r->m.pl j=some r->i=j
  own:∀b R k,m.dn b=some (R,k)->b<w.heap.size/\m.dn R=some (R,none)
  stay:∀(b j:Nat) v,(m.fz b)[j]? =some v->∃cur ty bQ,w.heap[b]? =some (.cells cur ty bQ)/\cur[j]? =some v
structure gX (m:M) (σ:bF) (w:World) (m':M) (a8:bF) (w':World):Prop where
  os:w'.os=w.os
  tape:w'.tape=w.tape
  output:w'.output=w.output
  size:w.heap.size<=w'.heap.size
  fz:ie m.fz m'.fz
  kept:∀b,b<w.heap.size->¬A4 m σ b->w'.heap[b]? =w.heap[b]? /\m'.fz b=m.fz b/\m'.dn b=m.dn b/\¬A4 m' a8 b
  own:∀b R k,m'.dn b=some (R,k)->m.dn b=some (R,k)\/w.heap.size<=R\/A4 m σ R
theorem qD {w:World} {g:Nat} {x:Obj} (aV:w.heap[g]? =some x):g<w.heap.size:=by
 rcases jL g w.heap.size with aa|aa
 ·exact aa
 ·rw[Array.getElem?_eq_none aa] at aV;cases aV
section
variable{w w' qh:World} {m m' lF:M} {σ a8 tk:bF}
theorem gX.refl (m:M) (σ:bF) (w:World):gX m σ w m σ w:=⟨rfl,rfl,rfl,Nat.le_refl _,ie.refl _,λ_ _ h=>⟨rfl,rfl,rfl,h⟩,λ_ _ _ h=>.inl h⟩
theorem gX.trans (h:gX m σ w m' a8 w') (k:gX m' a8 w' lF tk qh):gX m σ w lF tk qh where
 os:=k.os.trans h.os
 tape:=k.tape.trans h.tape
 output:=k.output.trans h.output
 size:=ij h.size k.size
 fz:=h.fz.trans k.fz
 kept b ai bR:=by
  have aU:=h.size;obtain⟨aa,ae,az,a9⟩:=h.kept b ai bR;obtain⟨bq,bE,c8,ei⟩:=k.kept b ab a9;exact⟨bq.trans aa,bE.trans ae,c8.trans az,ei⟩
 own b R cj ai:=by
  have aU:=h.size;rcases k.own b R cj ai with g|g|g
  ·exact h.own b R cj g
  ·exact .inr (.inl ab)
  ·refine Classical.byContradiction λaA=> ?_;rw[not_or,not_or] at aA;exact(h.kept R ab aA.2.2).2.2.2 g
theorem gX.tc (h:bt m σ w) (ai:Below w.heap.size w w'):gX m σ w m σ w':=⟨ai.os,ai.tape,ai.output,ai.size,ie.refl _,λb aa ae=>⟨ai.block b aa,rfl,rfl,ae⟩,λ_ _ _ h=>.inl h⟩
theorem bt.root (h:bt m σ w) {i:Nat} {b:B} {r:Nat} (aj:σ.heap.get i=some b) (aJ:m.pl i=some r):m.dn r=some (r,none):=by
 have a3:=h.live i b aj;cases b with
 |box cs=>
  rcases a3 with aa|⟨q,cur,ty,bQ,aa,ae,az,a9,cE,dm,er⟩
  ·rw[aJ] at aa;cases aa
  ·rw[aJ] at aa;cases aa;exact dm
 |a6 t=>
  obtain⟨A,k,c,aa,ae,az⟩:=a3;rcases az with⟨_,_,az⟩|⟨q,cur,ty,bQ,az,a9,cE,dm,er,eS,fR,ke⟩
  ·rw[aJ] at az;cases az
  ·rw[aJ] at a9;cases a9;exact fR
 |arr t a4 l bR cX=>
  obtain⟨A,c,aa,ae,_,az⟩:=a3;rcases az with⟨_,_,az,_⟩|⟨q,cur,ty,bQ,az,a9,cE,dm,er,eS,fR,ke⟩
  ·rw[aJ] at az;cases az
  ·rw[aJ] at a9;cases a9;exact eS
theorem bt.ah_ (h:bt m σ w) {i:Nat} {b:B} {r:Nat} (aj:σ.heap.get i=some b) (aJ:m.pl i=some r):r<w.heap.size:=(h.own _ _ _ (h.root aj aJ)).1
theorem bt.vR (h:bt m σ w) {b:Nat} (ai:w.heap.size<=b):m.fz b=[]:=by
 cases ax:m.fz b with
 |nil=>rfl
 |cons v l=>
  obtain⟨cur,ty,bQ,aa,_⟩:=h.stay b 0 v (by rw[ax];rfl);have:=qD aa;omega
theorem bt.ac_ (h:bt m σ w) {b:Nat} (ai:w.heap.size<=b):m.dn b=none:=by
 cases bR:m.dn b with
 |none=>rfl
 |some q=>have:=(h.own b q.1 q.2 bR).1;omega
theorem oa.frame {h h':Array Obj} {r:Nat} {hole:Prop} {ap:Bool} {o:Nat} {l:fy} {x:nD l} {v:Value} (e:ie m.fz m'.fz)
 (ai:∀b k,m.dn b=some (r,k)->b≠r->h'[b]? =h[b]? /\m'.dn b=m.dn b/\m'.fz b=m.fz b) (a3:oa m h r hole ap o l x v):oa m' h' r hole ap o l x v:=by
 cases l with
 |aH t=>
  intro aA;obtain⟨aa,ae⟩:=a3 aA;refine⟨aa.ext e,λbW=> ?_⟩;obtain⟨A,k,c,aF,aQ,bn⟩:=ae bW;refine⟨A,k,c,aF,aQ,bn.imp id λ⟨b,cur,ty,bQ,bq,bE,c8,ei,jj,oD,pj⟩=> ?_⟩;obtain⟨aE,aX,bL⟩:=ai b _ oD pj;exact⟨b,cur,ty,bQ,bq,aE.trans bE,c8,ei,by rw[bL];exact jj,aX.trans oD,pj⟩
 |int k=>exact dO.ext (l:=.int k) e a3
 |bool=>exact dO.ext (l:=.bool) e a3
 |str=>exact dO.ext (l:=.str) e a3
theorem gH.frame {h h':Array Obj} {r:Nat} {bR:Option (Nat×Nat)} {n:Nat} {cur:Array Value} {base:Nat} (e:ie m.fz m'.fz)
 (ai:∀b k,m.dn b=some (r,k)->b≠r->h'[b]? =h[b]? /\m'.dn b=m.dn b/\m'.fz b=m.fz b):∀{t:List fy} {a4:List Bool} {x:D t} {f:Nat},gH m h r bR n cur base t a4 x f->gH m' h' r bR n cur base t a4 x f
 |[],_,_,_,_=>trivial
 |l::t,a4,x,f,⟨⟨v,aa,ae⟩,az⟩=>⟨⟨v,aa,ae.frame e ai⟩,gH.frame e ai az⟩
theorem mo.frame {h h':Array Obj} {i:Nat} {b:B} (e:Ext m m') (bw:m'.pl i=m.pl i) (aU:m'.g3 i=m.g3 i)
 (ai:∀c k r,m.pl i=some r->m.dn c=some (r,k)->h'[c]? =h[c]? /\m'.dn c=m.dn c/\m'.fz c=m.fz c) (hw:∀c k r,m.pl i=some r->m'.dn c=some (r,k)->m.dn c=some (r,k)) (a3:mo m h i b):mo m' h' i b:=by
 cases b with
 |box cs=>
  rcases a3 with aa|⟨r,cur,ty,bQ,aa,ae,az,a9,cE,dm,er⟩
  ·exact .inl (bw.trans aa)
  obtain⟨aE,aX,bL⟩:=ai r _ r aa dm;exact .inr ⟨r,cur,ty,bQ,e.pl _ _ aa,aE.trans ae,az,a9,λj c au=>let⟨v,aF,aQ⟩:=cE j c au;⟨v,aF,aQ.ext e⟩,aX.trans dm,bL.trans er⟩
 |a6 t=>
  obtain⟨A,k,c,aa,ae,az⟩:=a3;refine⟨A,k,c,e.bb _ _ aa,ae,az.imp (λ⟨aF,aQ,bn⟩=>⟨aF,aQ,bw.trans bn⟩) λ⟨r,cur,ty,bQ,aF,aQ,bn,cy,fj,fX,gU,iO⟩=> ?_⟩;obtain⟨aE,aX,bL⟩:=ai r _ r aQ gU;exact⟨r,cur,ty,bQ,aF,e.pl _ _ aQ,aE.trans bn,cy,fj,by rw[bL];exact fX,aX.trans gU,λc k aq=>iO c k (hw c k r aQ aq)⟩
 |arr t a4 l bR cX=>
  obtain⟨A,c,aa,ae,bl,az⟩:=a3;refine⟨A,c,e.bb _ _ aa,ae,by rw[aU];exact bl,az.imp (λ⟨aF,aQ,bn,cy⟩=>⟨aF,aQ,bw.trans bn,by rw[aU];exact cy⟩) λ⟨r,cur,ty,bQ,aF,aQ,bn,cy,fj,fX,gU,iO,jU⟩=> ?_⟩;obtain⟨aE,aX,bL⟩:=ai r _ r aQ fX;exact⟨r,cur,ty,bQ,aF,e.pl _ _ aQ,aE.trans bn,cy,fj,aX.trans fX,bL.trans gU,λn x aV=>(iO n x aV).frame e.fz λb k aP _=>ai b k r aQ aP,by rw[aU];exact jU⟩
theorem bt.V_ (h:bt m σ w) (X:Nat->Prop) (e:Ext m m') (sU:w'.os=w.os/\w'.tape=w.tape/\w'.output=w.output) (ax:w.heap.size<=w'.heap.size)
 (a5:∀i,a8.next<=i->m'.pl i=none/\m'.bb i=none/\(∀k o,m'.g3 i k o=none)/\a8.heap.get i=none)
 (p0:∀i b,X i->a8.heap.get i=some b->mo m' w'.heap i b)
 (ef:∀i,¬X i->a8.heap.get i=σ.heap.get i/\m'.pl i=m.pl i/\m'.g3 i=m.g3 i)
 (gP:∀b,b<w.heap.size->(∀i x r k,X i->σ.heap.get i=some x->m.pl i=some r->m.dn b≠some (r,k))->w'.heap[b]? =w.heap[b]? /\m'.fz b=m.fz b/\m'.dn b=m.dn b)
 (aD:∀i j bi iM r,X i->X j->a8.heap.get i=some bi->a8.heap.get j=some iM->m'.pl i=some r->m'.pl j=some r->i=j)
 (e7:∀i x R,X i->a8.heap.get i=some x->m'.pl i=some R->w.heap.size<=R\/∃j y q k,X j/\σ.heap.get j=some y/\m.pl j=some q/\m.dn R=some (q,k))
 (xp:∀b R k,m'.dn b=some (R,k)->b<w'.heap.size/\m'.dn R=some (R,none))
 (rN:∀b R k,m'.dn b=some (R,k)->m.dn b≠some (R,k)->w.heap.size<=R\/∃j y q k,X j/\σ.heap.get j=some y/\m.pl j=some q/\m.dn R=some (q,k))
 (dz:∀(b j:Nat) v,(m'.fz b)[j]? =some v->∃cur ty bQ,w'.heap[b]? =some (.cells cur ty bQ)/\cur[j]? =some v):bt m' a8 w'/\gX m σ w m' a8 w':=by
 have aqO:∀i x r,¬X i->σ.heap.get i=some x->m.pl i=some r->∀b k,m.dn b=some (r,k)->∀j y q cj,X j->σ.heap.get j=some y->m.pl j=some q->m.dn b≠some (q,cj):=by
  intro i x r aj bZ aJ b k ai j y q cj au bT ay aq;rw[ai] at aq;cases aq;have:=h.inj i j x y r bZ bT aJ ay;exact aj (this▸au)
 have lz:∀R,(w.heap.size<=R\/∃j y q k,X j/\σ.heap.get j=some y/\m.pl j=some q/\m.dn R=some (q,k))->∀j y,¬X j->σ.heap.get j=some y->m.pl j=some R->False:=by
  intro R e7 j y au bT ay;have aml:=h.root bT ay;rcases e7 with aa|⟨iY,l2,q,k,ae,az,a9,cE⟩
  ·have:=h.ah_ bT ay;omega
  ·rw[aml] at cE;cases cE;exact au (h.inj j iY y l2 R bT az ay a9▸ae)
 refine⟨⟨a5,λi b aj=> ?_,λi j bi iM r aj au aJ ay=> ?_,xp,dz⟩,⟨sU.1,sU.2.1,sU.2.2,ax,e.fz,λb ai bR=> ?_,λb R k ai=> ?_⟩⟩
 ·by_cases aV:X i
  ·exact p0 i b aV aj
  ·obtain⟨bq,bE,c8⟩:=ef i aV;rw[bq] at aj;refine(h.live i b aj).frame e bE c8 (λc k r aJ aq=> ?_) (λc k r aJ aq=> ?_)
   ·obtain⟨aF,aQ,bn⟩:=gP c (h.own c r k aq).1 (aqO i b r aV aj aJ c k aq);exact⟨aF,bn,aQ⟩
   ·refine Classical.byContradiction λaA=> ?_;exact lz r (rN c r k aq aA) i b aV aj aJ
 ·by_cases aV:X i<;>by_cases bT:X j
  ·exact aD i j bi iM r aV bT aj au aJ ay
  ·obtain⟨bq,bE,c8⟩:=ef j bT;rw[bq] at au;rw[bE] at ay;exact(lz r (e7 i bi r aV aj aJ) j iM bT au ay).elim
  ·obtain⟨bq,bE,c8⟩:=ef i aV;rw[bq] at aj;rw[bE] at aJ;exact(lz r (e7 j iM r bT au ay) i bi aV aj aJ).elim
  ·obtain⟨bq,bE,c8⟩:=ef i aV;rw[bq] at aj;rw[bE] at aJ;obtain⟨dC,eo,cf⟩:=ef j bT;rw[dC] at au;rw[eo] at ay;exact h.inj i j bi iM r aj au aJ ay
 ·obtain⟨aF,aQ,bn⟩:=gP b ai λi x r k aj aV aJ aq=>bR ⟨r,k,i,x,aq,aV,aJ⟩;refine⟨aF,aQ,bn, ?_⟩;rintro⟨R,k,i,x,aa,ae,az⟩;rw[bn] at aa;by_cases aV:X i
  ·rcases e7 i x R aV ae az with cm|⟨j,y,q,cj,_,cF,dy,e8⟩
   ·have:=(h.own R R none (h.own b R k aa).2).1;omega
   ·rw[(h.own b R k aa).2] at e8;cases e8;exact bR ⟨R,k,j,y,aa,cF,dy⟩
  ·obtain⟨bq,bE,c8⟩:=ef i aV;rw[bq] at ae;rw[bE] at az;exact bR ⟨R,k,i,x,aa,ae,az⟩
 ·by_cases hm:m.dn b=some (R,k)
  ·exact .inl hm
  ·rcases rN b R k ai hm with aa|⟨j,y,q,cj,_,ae,az,a9⟩
   ·exact .inr (.inl aa)
   ·exact .inr (.inr ⟨q,cj,j,y,a9,ae,az⟩)
theorem bt.change (h:bt m σ w) (X:Nat->Prop) (e:Ext m m') (sU:w'.os=w.os/\w'.tape=w.tape/\w'.output=w.output) (ax:w.heap.size<=w'.heap.size)
 (a5:∀i,a8.next<=i->m'.pl i=none/\m'.bb i=none/\(∀k o,m'.g3 i k o=none)/\a8.heap.get i=none)
 (p0:∀i b,X i->a8.heap.get i=some b->mo m' w'.heap i b)
 (ef:∀i,¬X i->a8.heap.get i=σ.heap.get i/\m'.pl i=m.pl i/\m'.g3 i=m.g3 i)
 (gP:∀b,b<w.heap.size->(∀i x r k,X i->σ.heap.get i=some x->m.pl i=some r->m.dn b≠some (r,k))->w'.heap[b]? =w.heap[b]? /\m'.fz b=m.fz b/\m'.dn b=m.dn b)
 (aD:∀i j bi iM r,X i->X j->a8.heap.get i=some bi->a8.heap.get j=some iM->m'.pl i=some r->m'.pl j=some r->i=j)
 (e7:∀i x R,X i->a8.heap.get i=some x->m'.pl i=some R->w.heap.size<=R\/(∃j y,X j/\σ.heap.get j=some y/\m.pl j=some R)\/(∃j y q o,X j/\σ.heap.get j=some y/\m.pl j=some q/\m.dn R=some (q,some o)/\R≠q))
 (xp:∀b R k,m'.dn b=some (R,k)->b<w'.heap.size/\m'.dn R=some (R,none))
 (rN:∀b R k,m'.dn b=some (R,k)->m.dn b≠some (R,k)->∃i x,X i/\a8.heap.get i=some x/\m'.pl i=some R)
 (dz:∀(b j:Nat) v,(m'.fz b)[j]? =some v->∃cur ty bQ,w'.heap[b]? =some (.cells cur ty bQ)/\cur[j]? =some v):bt m' a8 w'/\gX m σ w m' a8 w':=by
 have Xm:∀i x R,X i->a8.heap.get i=some x->m'.pl i=some R->w.heap.size<=R\/∃j y q k,X j/\σ.heap.get j=some y/\m.pl j=some q/\m.dn R=some (q,k):=by
  intro i x R aa ae az;rcases e7 i x R aa ae az with g|⟨j,y,aF,aQ,bn⟩|⟨j,y,q,o,aF,aQ,bn,cy,_⟩
  ·exact .inl g
  ·exact .inr ⟨j,y,R,none,aF,aQ,bn,h.root aQ bn⟩
  ·exact .inr ⟨j,y,q,some o,aF,aQ,bn,cy⟩
 refine h.V_ X e sU ax a5 p0 ef gP aD Xm xp (λb R k aa ae=> ?_) dz;obtain⟨i,x,aF,aQ,bn⟩:=rN b R k aa ae;exact Xm i x R aF aQ bn
theorem bt.tc (h:bt m σ w) (ai:Below w.heap.size w w'):bt m σ w':=by
 refine(h.change (m':=m) (a8:=σ) (w':=w') (λ_=>False) (Ext.refl m) ⟨ai.os,ai.tape,ai.output⟩ ai.size h.fresh (λ_ _ aV=>aV.elim) (λ_ _=>⟨rfl,rfl,rfl⟩) (λb bK _=>⟨ai.block b bK,rfl,rfl⟩)
  (λ_ _ _ _ _ aV=>aV.elim) (λ_ _ _ aV=>aV.elim) (λb R k aP=>⟨Nat.lt_of_lt_of_le (h.own b R k aP).1 ai.size,(h.own b R k aP).2⟩) (λb R k aa ae=>absurd aa ae) λb j v aM=> ?_).1
 obtain⟨cur,ty,bQ,aa,ae⟩:=h.stay b j v aM;exact⟨cur,ty,bQ,(ai.block _ (qD aa)).trans aa,ae⟩
end
open bx (T cv g2 l1 kJ nw ff under size j3 g8 lh nu qf)
def ve:Value->Option C
 |.int k n=>bif decide (k.wrap n=n) then some (.int k (aO.w k n)) else none
 |.bool b=>some (.bool b)
 |.string s=>bif decide (s.size<=9223372036854775807) then some (.str (S s)) else none
 |.pointer none=>some (.ptr none)
 |.slice none 0 0=>some .cP
 |.func (.func f) first cap=>match first.toList,cap.toList with
  |[],[]=>some (.fn f [] [])
  |_,_=>none
 |.nilFunc=>some .s6
 |.nilIface=>some .rf
 |_=>none
def vf:List Value->Option (List C)
 |[]=>some []
 |v::l=>match ve v with
  |none=>none
  |some c=>match vf l with
   |none=>none
   |some r=>some (c::r)
def uh:Value->Option P
 |.agg cs=>match vf cs.toList with
  |some l=>some (.agg l)
  |none=>none
 |v=>match ve v with
  |some c=>some (.c c)
  |none=>none
theorem ajt {s:ByteArray} (h:s.size<=9223372036854775807):(S s).1=s:=by simp[S,h]
theorem DA (m:M) {v:Value} {c:C} (h:ve v=some c):cT m c v:=by
 unfold ve at h;split at h
 ·rename_i k n;cases bb:decide (k.wrap n=n) with
  |true=>rw[bb] at h;cases h;show Value.int k n=.int k (k.wrap n);rw[of_decide_eq_true bb]
  |false=>rw[bb] at h;cases h
 ·cases h;rfl
 ·rename_i s;cases bb:decide (s.size<=9223372036854775807) with
  |true=>rw[bb] at h;cases h;show Value.string s=.string (S s).1;rw[ajt (of_decide_eq_true bb)]
  |false=>rw[bb] at h;cases h
 ·cases h;rfl
 ·cases h;rfl
 ·split at h
  ·rename_i aa ae;cases h;rw[show _=(#[]:Array Value) from Array.toList_inj.1 aa,show _=(#[]:Array Value) from Array.toList_inj.1 ae];exact⟨#[],#[],rfl,trivial,trivial⟩
  ·cases h
 ·cases h;rfl
 ·cases h;rfl
 ·cases h
theorem DB (m:M):∀{l:List Value} {r:List C},vf l=some r->cv (cT m) r l
 |[],r,h=>by cases h;trivial
 |v::l,r,h=>by
  rw[vf] at h;split at h
  ·cases h
  ·rename_i c aq;split at h
   ·cases h
   ·rename_i q ay;cases h;exact⟨DA m aq,DB m ay⟩
theorem Dz (m:M) {v:Value} {x:P} (h:uh v=some x):iT m x v:=by
 unfold uh at h;split at h
 ·split at h
  ·rename_i a3;cases h;exact⟨_,rfl,DB m a3⟩
  ·cases h
 ·split at h
  ·rename_i aq;cases h;exact DA m aq
  ·cases h
def zero (cg:T TypeInfo) (t:Nat):Option P:=match cg.get t with
 |some i=>match i.zero with
  |some v=>uh v
  |none=>none
 |none=>none
theorem GK {cg:T TypeInfo} {aS:Program} (bS:ff aS cg) {w:World} {t:Nat} {x:P} (m:M) (h:zero cg t=some x):∃v,(zeroValue t).run aS w=.ok v w/\iT m x v:=by
 unfold zero at h;split at h
 ·rename_i i aj;split at h
  ·rename_i v aM;exact⟨v,by simp[zeroValue,typeInfo,bS.info _ _ aj,aM],Dz m h⟩
  ·cases h
 ·cases h
def cut (cs:List C) (o n:Nat):Option (List C):=bif decide (o+n<=cs.length) then some ((cs.drop o).take n) else none
theorem Hv {l r:List C} {o k:Nat} (h:cut l o k=some r):r=(l.drop o).take k/\o+k<=l.length:=by
 unfold cut at h;cases bb:decide (o+k<=l.length) with
 |true=>rw[bb] at h;cases h;exact⟨rfl,of_decide_eq_true bb⟩
 |false=>rw[bb] at h;cases h
def rk (cs:List C) (o:Nat) (l:List C):List C:=cs.take o++l++cs.drop (o+l.length)
theorem RK {cs l:List C} {o:Nat} (h:o+l.length<=cs.length):(rk cs o l).length=cs.length:=by simp[rk];omega
theorem RJ {cs l:List C} {o:Nat} (h:o+l.length<=cs.length) (j:Nat):(rk cs o l)[j]? =if o<=j/\j<o+l.length then l[j-o]? else cs[j]? :=by
 unfold rk;have bH:(cs.take o).length=o:=by simp;omega
 by_cases aa:j<o
 ·rw[if_neg ab,dF,lM ab,List.getElem?_take,if_pos aa]
 ·by_cases ae:j<o+l.length
  ·rw[if_pos ab,lM (by simp;omega),l8 ab,bH]
  ·rw[if_neg ab,l8 (by simp;omega),List.getElem?_drop];congr 1;simp only[bY,bH];omega
theorem Km {m:M} {cs:List C} {g:Nat->Option Value} (h:∀(j:Nat) c,cs[j]? =some c->∃v,g j=some v/\cT m c v):
 ∀(k o:Nat),o+k<=cs.length->∃vs:List Value,vs.length=k/\(∀j,j<vs.length->g (o+j)=vs[j]?)/\cv (cT m) ((cs.drop o).take k) vs
 |0,o,_=>⟨[],rfl,by simp,by simp[cv]⟩
 |k+1,o,aP=>by
  obtain⟨v,aM,aq⟩:=h o cs[o] (e_ ab);obtain⟨vs,aa,ae,az⟩:=Km h k (o+1) ab;refine⟨v::vs,by simp[aa],λj au=> ?_, ?_⟩
  ·cases j with
   |zero=>simpa using aM
   |succ j=>rw[List.getElem?_cons_succ,<-ae j (by simpa using au)];congr 1;omega
  ·rw[List.drop_eq_getElem_cons ab,List.take_succ_cons];exact⟨aq,az⟩
section
variable{aS:Program} {w:World} {m:M} {σ:bF}
theorem bt.box {i r:Nat} {cs:List C} (h:bt m σ w) (aj:σ.heap.get i=some (.box cs)) (aJ:m.pl i=some r):
 ∃cur ty bQ,w.heap[r]? =some (.cells cur ty bQ)/\n6 cur bQ/\cur.size=cs.length/\(∀(j:Nat) c,cs[j]? =some c->∃v,cur[j]? =some v/\cT m c v)/\m.dn r=some (r,none)/\m.fz r=[]:=by
 rcases h.live i _ aj with aa|⟨q,cur,ty,bQ,aa,ae⟩
 ·rw[aJ] at aa;cases aa
 ·rw[aJ] at aa;cases aa;exact⟨cur,ty,bQ,ae⟩
theorem bt.ajS {i r o n:Nat} {cs l:List C} (h:bt m σ w) (aj:σ.heap.get i=some (.box cs)) (aJ:m.pl i=some r) (aq:cut cs o n=some l):
 ∃vs:List Value,vs.length=n/\(loadCells ⟨r,o,none⟩ n).run aS w=.ok vs.toArray w/\cv (cT m) l vs:=by
 obtain⟨cur,ty,bQ,aa,ae,az,a9,cE⟩:=h.box aj aJ;obtain⟨rfl,hle⟩:=Hv aq;obtain⟨vs,aF,aQ,bn⟩:=Km (g:=λj=>cur[j]?) a9 n o hle;exact⟨vs,aF,by rw[<-aF];exact bx.run_loadCells aa vs aQ,bn⟩
theorem bt.ajR {i r o:Nat} {cs:List C} {c:C} (h:bt m σ w) (aj:σ.heap.get i=some (.box cs)) (aJ:m.pl i=some r) (aq:cs[o]? =some c):
 ∃v,(Go.load ⟨r,o,none⟩).run aS w=.ok v w/\cT m c v:=by
 obtain⟨cur,ty,bQ,aa,ae,az,a9,cE⟩:=h.box aj aJ;obtain⟨v,aF,aQ⟩:=a9 o c aq;exact⟨v,qf aa aF,aQ⟩
theorem px {l:List C} {vs:List Value} (aM:cv (cT m) l vs):∀v∈vs,(∀cs,v≠.agg cs)/\∀cs,v≠.tuple cs:=by
 intro v rX;obtain⟨i,aj⟩:=List.mem_iff_getElem?.1 rX;have:i<l.length:=by
  rw[aM.length];exact(ed.1 aj).1
 obtain⟨d_,dm,er⟩:=aM.get (e_ this);rw[aj] at dm;cases dm;exact cT.one er
theorem bt.au8 {i r o:Nat} {cs l:List C} {vs:List Value} (h:bt m σ w) (aj:σ.heap.get i=some (.box cs)) (aJ:m.pl i=some r) (hle:o+l.length<=cs.length) (aM:cv (cT m) l vs):
 ∃w',(storeCells ⟨r,o,none⟩ vs).run aS w=.ok () w'/\bt m ⟨σ.heap.put i (some (.box (rk cs o l))),σ.next⟩ w'/\gX m σ w m ⟨σ.heap.put i (some (.box (rk cs o l))),σ.next⟩ w':=by
 obtain⟨cur,ty,bQ,aa,ae,az,a9,cE,dm⟩:=h.box aj aJ;have hlen:=aM.length;have fh:o+vs.length<=cur.size:=ab;have am':=h.ah_ aj aJ;refine⟨_,bx.yI vs 0 w cur aa ab ae.1 (px aM), ?_⟩;refine h.change (w':=g2 w r (.cells (g8 cur o vs) ty bQ)) (a8:=⟨σ.heap.put i (some (.box (rk cs o l))),σ.next⟩) (λj=>j=i) (Ext.refl m) ⟨rfl,rfl,rfl⟩ (Nat.le_of_eq (l1 ..).symm) (λj au=> ?_) (λj b au ai=> ?_) (λj au=>⟨bx.T.eB _ _ au,rfl,rfl⟩)
  (λb ai aV=>⟨kJ _ _ λe=>aV i _ r none rfl aj aJ (e▸cE),rfl,rfl⟩) (λj k _ _ _ au aP _ _ _ _=>au.trans aP.symm) (λj x R au _ e7=>.inr (.inl ⟨i,_,rfl,aj,au▸e7⟩))
  (λb R k aP=>by rw[l1];exact h.own b R k aP) (λb R k aa ae=>absurd aa ae) (λb j v fS=> ?_)
 ·obtain⟨aF,aQ,bn,cy⟩:=h.fresh j au;refine⟨aF,aQ,bn, ?_⟩;rw[bx.T.kF];split
  ·subst_vars;rw[aF] at aJ;cases aJ
  ·exact cy
 ·subst au;simp only[bx.T.hN] at ai;cases ai;refine .inr ⟨r,g8 cur o vs,ty,bQ,aJ,nw _ _ am',by unfold n6;rw[lh];exact ae,by rw[lh,RK hle];exact az,λj c aq=> ?_,cE,dm⟩;rw[nu _ _ _ _ fh];rw[RJ hle] at aq;by_cases jY:o<=j/\j<o+l.length
  ·rw[if_pos jY] at aq;rw[if_pos ab];exact aM.get aq
  ·rw[if_neg jY] at aq;rw[if_neg ab];exact a9 j c aq
 ·obtain⟨g5,iS,jh,aF,aQ⟩:=h.stay b j v fS;refine⟨g5,iS,jh, ?_,aQ⟩;rw[kJ]
  ·exact aF
  ·intro e;rw[e,dm] at fS;simp at fS
def M.jg (m:M) (i r:Nat):M:=⟨λj=>if j=i then some r else m.pl j,m.bb,m.g3,m.fz,λb=>if b=r then some (r,none) else m.dn b⟩
theorem M.PG {m:M} {i r:Nat} (h:m.pl i=none):Ext m (m.jg i r):=⟨λj q au=>by
 simp only[M.jg];split
 ·subst_vars;rw[h] at au;cases au
 ·exact au,λ_ _ h=>h,λ_ _ _ _ h=>h,ie.refl _⟩
theorem M.PE {m:M} {i r:Nat} (h:m.pl i=none):js i m (m.jg i r):=⟨M.PG h,λj au=>by show(if j=i then _ else m.pl j)=_;rw[if_neg ab]⟩
theorem bt.aaK (h:bt m σ w) {cs:List C} {vs:Array Value} {ty:TypeId} (aM:cv (cT m) cs vs.toList):
 bt (m.jg σ.next w.heap.size) ⟨σ.heap.put σ.next (some (.box cs)),σ.next+1⟩ (w.alloc (.cells vs ty))/\
 gX m σ w (m.jg σ.next w.heap.size) ⟨σ.heap.put σ.next (some (.box cs)),σ.next+1⟩ (w.alloc (.cells vs ty)):=by
 obtain⟨f1,f2,f3,f4⟩:=h.fresh σ.next (Nat.le_refl _);have e:Ext m (m.jg σ.next w.heap.size):=M.PG f1;refine h.change (λj=>j=σ.next) e ⟨rfl,rfl,rfl⟩ (by simp) (λj au=> ?_) (λj b au ai=> ?_) (λj au=>⟨bx.T.eB _ _ au,by simp[M.jg,au],rfl⟩)
  (λb ai _=>⟨Below.heap_alloc _ _ _ ai,rfl,by simp[M.jg];omega⟩) (λj k _ _ _ au aP _ _ _ _=>au.trans aP.symm) (λj x R au _ e7=>.inl ?_) (λb R k aP=> ?_) (λb R k aP aA=> ?_) (λb j v fS=> ?_)
 ·have au:σ.next+1<=j:=au;obtain⟨aF,aQ,bn,cy⟩:=h.fresh j ab;exact⟨by simp[M.jg,aF];omega,aQ,bn,(bx.T.eB _ _ ab).trans cy⟩
 ·subst au;simp only[bx.T.hN] at ai;cases ai;refine .inr ⟨w.heap.size,vs,ty,(0,0),by simp[M.jg],heap_alloc_new _ _,⟨λ_ _=>by omega,Nat.le_refl _⟩,aM.length.symm▸(by simp),λj c aq=> ?_,by simp[M.jg],h.vR (Nat.le_refl _)⟩;obtain⟨v,aa,ae⟩:=aM.get aq;exact⟨v,by simpa using aa,ae.ext e⟩
 ·subst au;simp[M.jg] at e7;omega
 ·simp only[M.jg] at aP⊢;split at aP
  ·cases aP;subst_vars;simp
  ·obtain⟨aF,aQ⟩:=h.own b R k aP;have:=(h.own R R none aQ).1;exact⟨by simp;omega,by rw[if_neg ab];exact aQ⟩
 ·simp only[M.jg] at aP;split at aP
  ·cases aP;exact⟨σ.next,.box cs,rfl,bx.T.hN ..,by simp[M.jg]⟩
  ·exact absurd aP aA
 ·obtain⟨cur,iS,bQ,aF,aQ⟩:=h.stay b j v fS;exact⟨cur,iS,bQ,(Below.heap_alloc _ _ _ (qD aF)).trans aF,aQ⟩
def M.k3 (m:M) (r:Nat) (vs:List Value):M:=⟨m.pl,m.bb,m.g3,λb=>if b=r then vs else m.fz b,m.dn⟩
theorem bt.aaM (h:bt m σ w) {cur:Array Value} {vs:List Value} {ty:TypeId} (aM:∀(j:Nat) v,vs[j]? =some v->cur[j]? =some v):
 Ext m (m.k3 w.heap.size vs)/\bt (m.k3 w.heap.size vs) σ (w.alloc (.cells cur ty))/\gX m σ w (m.k3 w.heap.size vs) σ (w.alloc (.cells cur ty)):=by
 have ax:=h.vR (Nat.le_refl w.heap.size);have e:Ext m (m.k3 w.heap.size vs):=⟨λ_ _ h=>h,λ_ _ h=>h,λ_ _ _ _ h=>h,λb j v ai=>by
  simp only[M.k3];split
  ·subst_vars;rw[ax] at ai;simp at ai
  ·exact ai⟩
 refine⟨e,h.change (λ_=>False) e ⟨rfl,rfl,rfl⟩ (by simp) h.fresh (λ_ _ aV=>aV.elim) (λ_ _=>⟨rfl,rfl,rfl⟩) (λb ai _=>⟨Below.heap_alloc _ _ _ ai,by simp[M.k3];omega,rfl⟩)
  (λ_ _ _ _ _ aV=>aV.elim) (λ_ _ _ aV=>aV.elim) (λb R k aP=>⟨by have:=(h.own b R k aP).1;simp;omega,(h.own b R k aP).2⟩) (λb R k aa ae=>absurd aa ae) (λb j v fS=> ?_)⟩
 simp only[M.k3] at fS;split at fS
 ·subst_vars
  exact⟨cur,ty,(0,0),heap_alloc_new _ _,aM j v fS⟩
 ·obtain⟨g5,iS,bQ,aF,aQ⟩:=h.stay b j v fS;exact⟨g5,iS,bQ,(Below.heap_alloc _ _ _ (qD aF)).trans aF,aQ⟩
theorem bt.drop (h:bt m σ w) (i:Nat):bt m ⟨σ.heap.put i none,σ.next⟩ w/\gX m σ w m ⟨σ.heap.put i none,σ.next⟩ w:=by
 have key:∀j x,(σ.heap.put i none).get j=some x->σ.heap.get j=some x:=λj x h=>by
  rw[bx.T.kF] at h;split at h
  ·cases h
  ·exact h
 refine⟨⟨λj au=> ?_,λj b au=>h.live j b (key j b au),λj k bi iM r au aP aJ ay=>h.inj j k bi iM r (key _ _ au) (key _ _ aP) aJ ay,h.own,h.stay⟩,
  ⟨rfl,rfl,rfl,Nat.le_refl _,ie.refl _,λb _ bR=>⟨rfl,rfl,rfl,λ⟨R,k,j,x,aa,ae,az⟩=>bR ⟨R,k,j,x,aa,key j x ae,az⟩⟩,λ_ _ _ h=>.inl h⟩⟩
 obtain⟨aF,aQ,bn,cy⟩:=h.fresh j au;refine⟨aF,aQ,bn, ?_⟩;rw[bx.T.kF];split
 ·rfl
 ·exact cy
theorem bt.alb {i r:Nat} {cs:List C} {t:da} {x:D t} (h:bt m σ w) (aj:σ.heap.get i=some (.box cs)) (aJ:m.pl i=some r) (aV:mh t cs=some x):
 ∃m',js σ.next m m'/\ic m'.fz t x r 0/\bt m' ⟨σ.heap.put i none,σ.next⟩ w/\gX m σ w m' ⟨σ.heap.put i none,σ.next⟩ w:=by
 obtain⟨cur,ty,bQ,aa,ae,az,a9,cE,dm⟩:=h.box aj aJ;have e:Ext m (m.k3 r cur.toList):=⟨λ_ _ h=>h,λ_ _ h=>h,λ_ _ _ _ h=>h,λb j v ai=>by
  simp only[M.k3];split
  ·subst_vars;rw[dm] at ai;simp at ai
  ·exact ai⟩
 refine⟨m.k3 r cur.toList,⟨e,λ_ _=>rfl⟩, ?_, ?_⟩
 ·refine Pj (m:=m.k3 r cur.toList) (vs:=cur.toList) aV (.Kc (by simp[az]) λj c v aq aM=> ?_) λj v aM=>by simpa[M.k3] using aM
  obtain⟨d_,aF,aQ⟩:=a9 j c aq;rw[Array.getElem?_toList,aF] at aM;cases aM;exact aQ.ext e
 ·refine h.change (λj=>j=i) e ⟨rfl,rfl,rfl⟩ (Nat.le_refl _) (λj au=> ?_) (λj b au ai=> ?_) (λj au=>⟨bx.T.eB _ _ au,rfl,rfl⟩)
   (λb ai aA=>⟨rfl,by simp only[M.k3];rw[if_neg];intro e;exact aA i _ r none rfl aj aJ (e▸cE),rfl⟩) (λj k _ _ _ au aP _ _ _ _=>au.trans aP.symm) (λj x R au ai=> ?_) h.own (λb R k aa ae=>absurd aa ae) (λb j v fS=> ?_)
  ·obtain⟨aF,aQ,bn,cy⟩:=h.fresh j au;refine⟨aF,aQ,bn, ?_⟩;rw[bx.T.kF];split
   ·rfl
   ·exact cy
  ·subst au;simp only[bx.T.hN] at ai;cases ai
  ·subst au;simp only[bx.T.hN] at ai;cases ai
  ·simp only[M.k3] at fS;split at fS
   ·subst_vars;exact⟨cur,ty,bQ,aa,by simpa using fS⟩
   ·exact h.stay b j v fS
end
end cB
end Go.Proofs.YtgmdfchkljaooaaGreat
