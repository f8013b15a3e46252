/- Words for slices that are read and slices that the call itself makes. -/
import Derived.Test.YtgmdfchkljaooaaGreatRows
import Derived.WalkKit
import Derived.WalkSpells
import Derived.WalkLawsBesides
import Derived.Lib.Hide
import Derived.BigQuiet
import Derived.Deep.QuietTactic
import Derived.Deep.AppendLies
import Derived.Deep.Draws
import Derived.Maps.AppendAt
noncomputable section
namespace Go.Proofs.YtgmdfchkljaooaaGreat
theorem ab {p:Prop}(h:p:=by omega):p:=h
theorem bk {p:Prop}(h:p:=by decide):p:=h
theorem bl:type_of%@List.length_append:=@List.length_append
theorem am_:type_of%@List.setIfInBounds_toArray:=@List.setIfInBounds_toArray
theorem eu:type_of%@List.getElem?_eq_some_iff:=@List.getElem?_eq_some_iff
theorem cO:type_of%@List.append_assoc:=@List.append_assoc
theorem bN:type_of%@List.length_nil:=@List.length_nil
theorem Q0:type_of%@List.set_cons_succ:=@List.set_cons_succ
theorem Ys:type_of%@List.set_cons_zero:=@List.set_cons_zero
theorem fy:type_of%@List.getElem?_eq_getElem:=@List.getElem?_eq_getElem
theorem cq:type_of%@Nat.add_zero:=@Nat.add_zero
theorem gB:type_of%@Nat.eq_of_beq_eq_true:=@Nat.eq_of_beq_eq_true
theorem dr:type_of%@List.append_nil:=@List.append_nil
theorem gS:type_of%@List.length_cons:=@List.length_cons
theorem gR:type_of%@Bool.and_eq_true:=@Bool.and_eq_true
theorem fW:type_of%@Nat.zero_add:=@Nat.zero_add
theorem jq:type_of%@Result.andThen_ok:=@Result.andThen_ok
theorem eD:type_of%@Option.some.inj:=@Option.some.inj
theorem ml:type_of%@List.getElem?_append_left:=@List.getElem?_append_left
theorem mm:type_of%@List.getElem?_append_right:=@List.getElem?_append_right
theorem iI:type_of%@Sem.run_bind:=@Sem.run_bind
theorem jd:type_of%@Nat.le_trans:=@Nat.le_trans
theorem n7:type_of%@Array.getElem?_eq_some_iff:=@Array.getElem?_eq_some_iff
theorem pw:type_of%@List.eq_nil_of_length_eq_zero:=@List.eq_nil_of_length_eq_zero
theorem mI:type_of%@List.getElem?_set_ne:=@List.getElem?_set_ne
theorem ky:type_of%@Nat.lt_or_ge:=@Nat.lt_or_ge
theorem jT:type_of%@Sem.run_pure:=@Sem.run_pure
theorem iR:type_of%@Nat.add_mul:=@Nat.add_mul
theorem nk:type_of%@Nat.mul_le_mul_right:=@Nat.mul_le_mul_right
theorem mY:type_of%@List.mem_cons_self:=@List.mem_cons_self
theorem aK:type_of%@True.intro:=@True.intro
open Go.RowKit
theorem aM4 {a b:ByteArray}(h:(a.toList==b.toList)=true):a=b:=by
 rw[ByteArray.toList_eq,ByteArray.toList_eq] at h;exact WideShapes.bytes_inj (by simpa using h)
theorem al_ (a b:ByteArray):(a.toList==b.toList)=decide (a=b):=by
 rw[Bool.eq_iff_iff,decide_eq_true_iff];exact⟨aM4,λh=>by rw[h];simp⟩
def ku (w:World)(A:Option Addr)(xs:List Value):Prop:=xs≠[]->∃b off,A=some ⟨b,off,none⟩/\b<w.heap.size/\∀i u,xs[i]?=some u->w.cell? ⟨b,off+i,none⟩=some u
section
variable{w w':World}{A:Option Addr}{xs:List Value}
theorem ku.nil:ku w A []:=λh=>absurd rfl h
theorem ku.at_ (h:ku w A xs){i:Nat}(aj:i<xs.length):
 ∃b off,A=some ⟨b,off,none⟩/\b<w.heap.size/\∀i u,xs[i]?=some u->w.cell? ⟨b,off+i,none⟩=some u:=h (by rintro rfl;simp at aj)
theorem ku.take (h:ku w A xs)(k:Nat):ku w A (xs.take k):=λaA=>by
 have a6:xs≠[]:=by rintro rfl;simp at aA
 obtain⟨b,off,e,ah,an⟩:=h a6;refine⟨b,off,e,ah,λi u hu=>an i u ?_⟩;rw[List.getElem?_take] at hu;split at hu
 ·exact hu
 ·cases hu
theorem ku.axq {g:Nat}{cs:Array Value}{t:TypeId}{b_:Nat×Nat}(h:w.heap[g]?=some (.cells cs t b_)):ku w (some ⟨g,0,none⟩) cs.toList:=λ_=>by
 have bn:g<w.heap.size:=by
  rcases Nat.lt_or_ge g w.heap.size with aa|aa
  ·exact aa
  ·rw[Array.getElem?_eq_none aa] at h;cases h
 refine⟨g,0,rfl,bn,λi u hu=>?_⟩;unfold World.cell?;simp[h];simpa using hu
theorem ku.new (w:World)(cs:Array Value)(t:TypeId):ku (w.alloc (.cells cs t)) (some ⟨w.heap.size,0,none⟩) cs.toList:=ku.axq (heap_alloc_new w _)
end
theorem aMq {P:Program}(t e:TypeId)(bQ:P.underlying t=some (.slice e))(i:TypeInfo)(aj:P.info? e=some i)(A:Option Addr)(n c ur:Nat)(y:Int)(b7:y=ur)(af:ur<=c)(W:World):
 (Instr.slice t (.slice A n c) none (some (.int .i64 y)) none).run P W=.ok (.slice A ur c) W:=by
 subst b7;have he:P.elem t=e:=by simp[Program.elem,bQ]
 rw[run_slice_h W t A n c (by rw[he];exact bQ) .i64 ur (by omega) (by omega),he];simp[sizeOf,typeInfo,aj,sliced];cases A<;>simp[Addr.add]
section
variable{w:World}{base:Nat}{e:TypeId}{size:Nat}{v:Value}{n:Nat}{xs:List Value}
theorem af2 (h:w.ownsRow base e size v n xs):∃A c,v=.slice A n c/\n<=c:=by
 rcases h.2 with⟨rfl,rfl⟩|⟨g,cap,cur,rfl,_,_,DF,_⟩
 ·exact⟨none,0,rfl,Nat.le_refl _⟩
 ·exact⟨_,cap,rfl,DF⟩
theorem LV {w':World}(h:w.ownsRow base e size v n xs)(ah:Below w.heap.size w w'):w'.ownsRow base e size v n xs:=by
 refine⟨h.1,?_⟩;rcases h.2 with a6|⟨g,cap,cur,aa,af,ax,a8⟩
 ·exact .inl a6
 ·refine .inr ⟨g,cap,cur,aa,af,?_,a8⟩;have bn:g<w.heap.size:=by
   rcases Nat.lt_or_ge g w.heap.size with ay|ay
   ·exact ay
   ·rw[Array.getElem?_eq_none ay] at ax;cases ax
  rw[ah.block g bn];exact ax
end
section
variable{P:Program}(w:World)
theorem run_append_nil (base:Nat)(t ty e:TypeId)(i:TypeInfo)(size:Nat)(bQ:P.underlying t=some (.slice e))(aj:P.info? e=some i)(v:Value)(n:Nat)(xs:List Value)(q3:w.ownsRow base e size v n xs)(c:Nat):(Builtin.append_ #[t,t] ty #[v,.slice none 0 c]).run P w=.ok v w:=by
 rcases q3.2 with⟨rfl,rfl⟩|⟨g,cap,cur,rfl,_,_,DF,_⟩
 ·simp[Builtin.append_,run_underlying bQ,sizeOf,typeInfo,aj,Builtin.lenOf,Builtin.firstCells]
 ·simp[Builtin.append_,run_underlying bQ,sizeOf,typeInfo,aj,Builtin.lenOf,Builtin.firstCells,DF,storeCells]
theorem aMp (base:Nat)(t ty e:TypeId)(i:TypeInfo)(z:Value)(size bytes:Nat)(bQ:P.underlying t=some (.slice e))(aj:P.info? e=some i)(ai:i.zero=some z)(yR:i.size=size)(qm:i.bytes=bytes)(yV:z.cells.size=size)(fA:0<size)(v:Value)(n:Nat)(xs:List Value)(q3:w.ownsRow base e size v n xs)(A:Option Addr)(m c:Nat)(news:List Value)(aO:ku w A news)(aZ:news.length=m*size)(aa:∀u∈news,u.oneCell'=true)(yB:(n+m)*bytes<=140737488355328)(yq:n+m<=maxLen)(sg:base<=w.heap.size):
 ∃eW c' w',(Builtin.append_ #[t,t] ty #[v,.slice A m c]).run P w=.ok (.slice eW (n+m) c') w'/\n+m<=c'/\w'.ownsRow base e size (.slice eW (n+m) c') (n+m) (xs++news)/\w.grownBy w' v.ownBlock/\
  ((Value.slice eW (n+m) c').ownBlock=v.ownBlock\/(Value.slice eW (n+m) c').ownBlock=some w.heap.size):=by
 by_cases dH:∃r2,A=some r2
 ·obtain⟨r2,rfl⟩:=dH;have wW:∀j u,news[j]?=some u->w.cell? (r2.add j)=some u:=by
   intro j u hu;have aq:j<news.length:=by
    rcases Nat.lt_or_ge j news.length with h|h
    ·exact h
    ·rw[List.getElem?_eq_none h] at hu;cases hu
   obtain⟨b,off,h,_,an⟩:=aO.at_ aq;injection h with h
   subst h;have:=an j u hu;unfold Addr.add;split
   ·subst_vars;simpa using this
   ·exact this
  obtain⟨ej,w',DL,af,ax,_,cy⟩:=run_append_own_at (P:=P) w base t ty e i z size bytes bQ aj ai yR qm yV fA v n xs q3 r2 m c news aZ wW aa yq yB sg;obtain⟨eW,c',rfl,hle⟩:=af2 af;exact⟨eW,c',w',DL,hle,af,ax,cy⟩
 ·obtain rfl:A=none:=by cases A with
   |none=>rfl
   |some a=>exact absurd ⟨a,rfl⟩ dH
  have aA:news=[]:=by
   by_cases h:news=[]
   ·exact h
   ·obtain⟨b,off,h,_⟩:=aO h;cases h
  subst aA;have hm:m=0:=by
   rcases Nat.eq_zero_or_pos m with h|h
   ·exact h
   ·have:=Nat.mul_pos h fA;simp at aZ;omega
  subst hm;obtain⟨eW,c',rfl,hle⟩:=af2 q3;exact⟨eW,c',w,run_append_nil w base t ty e i size bQ aj _ n xs q3 c,hle,by simpa using q3,World.grownBy.refl w _,.inl rfl⟩
theorem amt {o:Oper}{a:Act}{K:Act->World->Prop}{Q:Exit->Act->World->Prop}(s x:Operand)(t:TypeId)(bX:o.op=.call {callee:=.builtin .append,args:=#[s,x],argTypes:=#[t,t]})(base:Nat)(e:TypeId)(i:TypeInfo)(z:Value)(size bytes:Nat)(bQ:P.underlying t=some (.slice e))(aj:P.info? e=some i)(ai:i.zero=some z)(yR:i.size=size)(qm:i.bytes=bytes)(yV:z.cells.size=size)(fA:0<size)(v:Value)(n:Nat)(xs:List Value)(aP:a.eval s=v)(q3:w.ownsRow base e size v n xs)(A:Option Addr)(m c:Nat)(news:List Value)(aW:a.eval x=.slice A m c)(aO:ku w A news)(aZ:news.length=m*size)(aa:∀u∈news,u.oneCell'=true)(yB:(n+m)*bytes<=140737488355328)(yq:n+m<=maxLen)(sg:base<=w.heap.size)(h:∀eW c' w',n+m<=c'->w'.ownsRow base e size (.slice eW (n+m) c') (n+m) (xs++news)->w.grownBy w' v.ownBlock->
  ((Value.slice eW (n+m) c').ownBlock=v.ownBlock\/(Value.slice eW (n+m) c').ownBlock=some w.heap.size)->K (a.put o.dst (.slice eW (n+m) c')) w'):o.wp P a w K Q:=by
 obtain⟨eW,c',w',DL,hle,af,ax,a8⟩:=aMp (P:=P) w base t o.type e i z size bytes bQ aj ai yR qm yV fA v n xs q3 A m c news aO aZ aa yB yq sg;unfold Oper.wp execOp;simp only[bX,resolve,invoke,builtin,Sem.run_bind,Sem.run_pure,Result.andThen_ok,List.map_toArray,List.map_cons,List.map_nil,aP,aW,DL];exact h eW c' w' hle af ax a8
theorem ams {ops:Array Oper}{rest:List Oper}{o:Oper}{a:Act}{Q:Exit->Act->World->Prop}(Sn:o.guard=none)(s x:Operand)(t:TypeId)(bX:o.op=.call {callee:=.builtin .append,args:=#[s,x],argTypes:=#[t,t]})(base:Nat)(e:TypeId)(i:TypeInfo)(z:Value)(size bytes:Nat)(bQ:P.underlying t=some (.slice e))(aj:P.info? e=some i)(ai:i.zero=some z)(yR:i.size=size)(qm:i.bytes=bytes)(yV:z.cells.size=size)(fA:0<size)(v:Value)(n:Nat)(xs:List Value)(aP:a.eval s=v)(q3:w.ownsRow base e size v n xs)(A:Option Addr)(m c:Nat)(news:List Value)(aW:a.eval x=.slice A m c)(aO:ku w A news)(aZ:news.length=m*size)(aa:∀u∈news,u.oneCell'=true)(yB:(n+m)*bytes<=140737488355328)(yq:n+m<=maxLen)(sg:base<=w.heap.size)(h:∀eW c' w',n+m<=c'->w'.ownsRow base e size (.slice eW (n+m) c') (n+m) (xs++news)->w.grownBy w' v.ownBlock->((Value.slice eW (n+m) c').ownBlock=v.ownBlock\/(Value.slice eW (n+m) c').ownBlock=some w.heap.size)->wpList P ops Q rest (a.put o.dst (.slice eW (n+m) c')) w'):wpList P ops Q (o::rest) a w:=wpList_plain Sn λ_ ev=>amt w s x t bX base e i z size bytes bQ aj ai yR qm yV fA v n xs aP q3 A m c news aW aO aZ aa yB yq sg λeW c' w' hle af ax a8=>ev _ _ (h eW c' w' hle af ax a8)
theorem Ql {ops:Array Oper}{o:Oper}{a:Act}{K:Act->World->Prop}{Q:Exit->Act->World->Prop}{E:Prop}(Sn:o.guard=none)(s x:Operand)(t:TypeId)(bX:o.op=.call {callee:=.builtin .append,args:=#[s,x],argTypes:=#[t,t]})(base:Nat)(e:TypeId)(i:TypeInfo)(z:Value)(size bytes:Nat)(bQ:P.underlying t=some (.slice e))(aj:P.info? e=some i)(ai:i.zero=some z)(yR:i.size=size)(qm:i.bytes=bytes)(yV:z.cells.size=size)(fA:0<size)(v:Value)(n:Nat)(xs:List Value)(aP:a.eval s=v)(q3:w.ownsRow base e size v n xs)(A:Option Addr)(m c:Nat)(news:List Value)(aW:a.eval x=.slice A m c)(aO:ku w A news)(aZ:news.length=m*size)(aa:∀u∈news,u.oneCell'=true)(yB:(n+m)*bytes<=140737488355328)(yq:n+m<=maxLen)(sg:base<=w.heap.size)(h:∀eW c' w',n+m<=c'->w'.ownsRow base e size (.slice eW (n+m) c') (n+m) (xs++news)->w.grownBy w' v.ownBlock->
  ((Value.slice eW (n+m) c').ownBlock=v.ownBlock\/(Value.slice eW (n+m) c').ownBlock=some w.heap.size)->K (a.put o.dst (.slice eW (n+m) c')) w'):
 if Region.wanted o (yielded ops a.tmps)=true then Oper.wp P o a w K Q else E:=by
 have hw:Region.wanted o (yielded ops a.tmps)=true:=by simp[Region.wanted,Sn]
 rw[if_pos hw];exact amt w s x t bX base e i z size bytes bQ aj ai yR qm yV fA v n xs aP q3 A m c news aW aO aZ aa yB yq sg h
end
namespace bC
set_option linter.unusedVariables false
inductive T (α:Type)
  |nil
  |node (v:Option α) (l r:T α)
  deriving DecidableEq
def T.get {α:Type}:T α->Nat->Option α
 |.nil,_=>none
 |.node v l r,k=>match k with
  |0=>v
  |k+1=>match k%2 with
   |0=>l.get (k/2)
   |_=>r.get (k/2)
def T.set {α:Type}:Nat->T α->Nat->Option α->T α
 |0,t,_,_=>t
 |d+1,.nil,k,a=>match k with
  |0=>.node a .nil .nil
  |k+1=>match k%2 with
   |0=>.node none (T.set d .nil (k/2) a) .nil
   |_=>.node none .nil (T.set d .nil (k/2) a)
 |d+1,.node v l r,k,a=>match k with
  |0=>.node a l r
  |k+1=>match k%2 with
   |0=>.node v (T.set d l (k/2) a) r
   |_=>.node v l (T.set d r (k/2) a)
def T.put {α:Type}(t:T α)(k:Nat)(a:Option α):T α:=T.set (k+1) t k a
theorem T.Xb {α:Type}:∀(d:Nat)(t:T α)(k:Nat)(a:Option α),k<d->(T.set d t k a).get k=a
 |0,_,_,_,h=>by omega
 |d+1,.nil,0,a,_=>rfl
 |d+1,.node v l r,0,a,_=>rfl
 |d+1,.nil,k+1,a,h=>by
  have aU:k/2<d:=ab;rcases Nat.mod_two_eq_zero_or_one k with e|e<;>simp only[T.set,T.get,e]<;>exact T.Xb d _ _ a aU
 |d+1,.node v l r,k+1,a,h=>by
  have aU:k/2<d:=ab;rcases Nat.mod_two_eq_zero_or_one k with e|e<;>simp only[T.set,T.get,e]<;>exact T.Xb d _ _ a aU
theorem T.Xa {α:Type}:∀(d:Nat)(t:T α)(k j:Nat)(a:Option α),j≠k->(T.set d t k a).get j=t.get j
 |0,_,_,_,_,_=>rfl
 |d+1,.nil,0,0,a,h=>by omega
 |d+1,.node v l r,0,0,a,h=>by omega
 |d+1,.nil,0,j+1,a,h=>by
  rcases Nat.mod_two_eq_zero_or_one j with e|e<;>simp only[T.set,T.get,e]
 |d+1,.node v l r,0,j+1,a,h=>by
  rcases Nat.mod_two_eq_zero_or_one j with e|e<;>simp only[T.set,T.get,e]
 |d+1,.nil,k+1,0,a,h=>by
  rcases Nat.mod_two_eq_zero_or_one k with e|e<;>simp only[T.set,T.get,e]
 |d+1,.node v l r,k+1,0,a,h=>by
  rcases Nat.mod_two_eq_zero_or_one k with e|e<;>simp only[T.set,T.get,e]
 |d+1,.nil,k+1,j+1,a,h=>by
  rcases Nat.mod_two_eq_zero_or_one k with e|e<;>rcases Nat.mod_two_eq_zero_or_one j with e'|e'<;>simp only[T.set,T.get,e,e']<;>
   first|rfl|(rw[T.Xa d _ _ _ a ab];rfl)
 |d+1,.node v l r,k+1,j+1,a,h=>by
  rcases Nat.mod_two_eq_zero_or_one k with e|e<;>rcases Nat.mod_two_eq_zero_or_one j with e'|e'<;>simp only[T.set,T.get,e,e']<;>
   first|rfl|(rw[T.Xa d _ _ _ a ab])
theorem T.il {α:Type}(t:T α)(k:Nat)(a:Option α):(t.put k a).get k=a:=T.Xb _ _ _ _ ab
theorem T.eP {α:Type}(t:T α){k j:Nat}(a:Option α)(h:j≠k):(t.put k a).get j=t.get j:=T.Xa _ _ _ _ _ h
theorem T.m3 {α:Type}(t:T α)(k j:Nat)(a:Option α):(t.put k a).get j=if j=k then a else t.get j:=by
 split
 ·subst_vars;exact T.il ..
 ·exact T.eP _ _ (by assumption)
theorem T.get_nil {α:Type}(j:Nat):(T.nil:T α).get j=none:=by rw[T.get]
end bC
end Go.Proofs.YtgmdfchkljaooaaGreat
namespace Go.Proofs.YtgmdfchkljaooaaGreat
open Go.RowKit
namespace bC
set_option linter.unusedVariables false
def cL {α β:Type}(R:α->β->Prop):List α->List β->Prop
 |[],[]=>True
 |a::l,b::r=>R a b/\cL R l r
 |_,_=>False
section
variable{α β:Type}{R S:α->β->Prop}
theorem cL.imp (h:∀a b,R a b->S a b):∀{l:List α}{r:List β},cL R l r->cL S l r
 |[],[],_=>trivial
 |a::l,b::r,⟨aa,af⟩=>⟨h _ _ aa,cL.imp h af⟩
theorem cL.length:∀{l:List α}{r:List β},cL R l r->l.length=r.length
 |[],[],_=>rfl
 |a::l,b::r,⟨_,af⟩=>by simp[cL.length af]
theorem cL.append:∀{l:List α}{r:List β}{eC:List α}{mE:List β},cL R l r->cL R eC mE->cL R (l++eC) (r++mE)
 |[],[],_,_,_,h=>h
 |a::l,b::r,_,_,⟨aa,af⟩,h=>⟨aa,cL.append af h⟩
theorem cL.drop:∀(k:Nat){l:List α}{r:List β},cL R l r->cL R (l.drop k) (r.drop k)
 |0,_,_,h=>h
 |k+1,[],[],_=>trivial
 |k+1,a::l,b::r,⟨_,af⟩=>cL.drop k af
theorem cL.take:∀(k:Nat){l:List α}{r:List β},cL R l r->cL R (l.take k) (r.take k)
 |0,_,_,_=>trivial
 |k+1,[],[],_=>trivial
 |k+1,a::l,b::r,⟨aa,af⟩=>⟨aa,cL.take k af⟩
theorem cL.get:∀{l:List α}{r:List β},cL R l r->∀{i:Nat}{a:α},l[i]?=some a->∃b,r[i]?=some b/\R a b
 |[],[],_,i,a,h=>by simp at h
 |x::l,b::r,⟨aa,af⟩,0,a,h=>by simp at h;subst h;exact⟨b,rfl,aa⟩
 |x::l,b::r,⟨aa,af⟩,i+1,a,h=>by simp at h;obtain⟨c,ax,a8⟩:=cL.get af h;exact⟨c,by simpa using ax,a8⟩
theorem cL.LQ:∀{l:List α}{r:List β},l.length=r.length->(∀(i:Nat)(a:α)(b:β),l[i]?=some a->r[i]?=some b->R a b)->cL R l r
 |[],[],_,_=>trivial
 |[],b::r,h,_=>by simp at h
 |a::l,[],h,_=>by simp at h
 |a::l,b::r,h,cm=>⟨cm 0 a b rfl rfl,cL.LQ (by simpa using h) λi a b cf ah=>cm (i+1) a b (by simpa using cf) (by simpa using ah)⟩
end
theorem I6 {v:Value}(h:∀cs,v≠.agg cs):v.cells=#[v]:=by
 cases v<;>first|rfl|exact absurd rfl (h _)
section
variable{w0 w w' u2:World}
def iq (w:World)(i:Nat)(o:Obj):World:={w with heap:=w.heap.setIfInBounds i o}
theorem nw (w:World)(i:Nat)(o:Obj):(iq w i o).heap.size=w.heap.size:=by simp[iq]
theorem mg (w:World){i j:Nat}(o:Obj)(h:j≠i):(iq w i o).heap[j]?=w.heap[j]?:=by
 simp[iq,Array.getElem?_setIfInBounds_ne (Ne.symm h)]
theorem oC (w:World){i:Nat}(o:Obj)(h:i<w.heap.size):(iq w i o).heap[i]?=some o:=by
 simp[iq,h]
end
structure fx (aS:Program)(cw:T TypeInfo):Prop where
  info:∀t i,cw.get t=some i->aS.info? t=some i
section
variable(cw:T TypeInfo)
def under (t:Nat):Option TypeDesc:=match cw.get t with
 |some i=>match i.desc with
  |.named _ u=>match cw.get u with
   |some j=>some j.desc
   |none=>none
  |d=>some d
 |none=>none
def size (t:Nat):Option Nat:=match cw.get t with
 |some i=>some i.size
 |none=>none
def kL (t:Nat):Option Nat:=match cw.get t with
 |some i=>some i.bytes
 |none=>none
def isAgg (t:Nat):Option Bool:=match under cw t with
 |some (.struct _)=>some true
 |some (.array _ _)=>some true
 |some _=>some false
 |none=>none
end
section
variable{cw:T TypeInfo}{aS:Program}(b6:fx aS cw){w:World}
include b6
theorem jP {t:Nat}{d:TypeDesc}(h:under cw t=some d):aS.underlying t=some d:=by
 unfold under at h;unfold Program.underlying;split at h
 ·rename_i i aj;rw[b6.info _ _ aj];split at h
  ·rename_i n u bg;split at h
   ·rename_i j aq;injection h with h
    obtain⟨⟩:=i;simp only at bg;subst bg;simp[b6.info _ _ aq,h]
   ·cases h
  ·rename_i d' aA;injection h with h
   obtain⟨⟩:=i;simp only at h aA;subst h;split
   ·rename_i he;injection he with he
    injection he with he
    subst he;exact absurd rfl (aA _ _)
   ·rename_i he;injection he with he
    subst he;rfl
   ·rename_i he;cases he
 ·cases h
theorem hO {t:Nat}{d:TypeDesc}(h:under cw t=some d):(underlying t).run aS w=.ok d w:=run_underlying (jP b6 h) w
theorem mf {t n:Nat}(h:size cw t=some n):(sizeOf t).run aS w=.ok n w:=by
 unfold size at h;split at h
 ·rename_i i aj;cases h;simp[sizeOf,typeInfo,b6.info _ _ aj]
 ·cases h
theorem qC {t:Nat}{b:Bool}(h:isAgg cw t=some b):(Go.isAgg t).run aS w=.ok b w:=by
 unfold isAgg at h;split at h
 ·rename_i hu;cases h;simp[Go.isAgg,hO b6 hu]
 ·rename_i hu;cases h;simp[Go.isAgg,hO b6 hu]
 ·rename_i d tv aqt hu;cases h;simp only[Go.isAgg,iI,hO b6 hu,jq]
  first|done|rfl|simp
 ·cases h
end
def ib (cur:Array Value)(k:Nat):List Value->Array Value
 |[]=>cur
 |v::vs=>ib (cur.setIfInBounds k v) (k+1) vs
theorem mQ:∀(vs:List Value)(cur:Array Value)(k:Nat),(ib cur k vs).size=cur.size
 |[],_,_=>rfl
 |v::vs,cur,k=>by rw[ib,mQ vs];simp
theorem oz:∀(vs:List Value)(cur:Array Value)(k j:Nat),k+vs.length<=cur.size->
 (ib cur k vs)[j]?=if k<=j/\j<k+vs.length then vs[j-k]? else cur[j]?
 |[],cur,k,j,h=>by simp[ib];omega
 |v::vs,cur,k,j,h=>by
  simp only[gS] at h;rw[ib,oz vs _ (k+1) j (by simp;omega)];by_cases aa:k+1<=j/\j<k+1+vs.length
  ·rw[if_pos aa,if_pos (by simp;omega)];obtain⟨d,rfl⟩:∃d,j=k+1+d:=⟨j-(k+1),ab⟩;rw[show k+1+d-(k+1)=d by omega,show k+1+d-k=d+1 by omega,List.getElem?_cons_succ]
  ·rw[if_neg aa];by_cases af:j=k
   ·subst af;simp[show j<cur.size by omega]
   ·rw[if_neg (by simp;omega),Array.getElem?_setIfInBounds_ne ab]
section
variable{aS:Program}{w:World}{b o:Nat}{cur:Array Value}{t:TypeId}{b_:Nat×Nat}
theorem add_eq (b o k:Nat):(⟨b,o,none⟩:Addr).add k=⟨b,o+k,none⟩:=by
 unfold Addr.add;split<;>simp_all
theorem CM (h:w.heap[b]?=some (.cells cur t b_)):w.cell? ⟨b,o,none⟩=cur[o]?:=by simp[World.cell?,h]
theorem qD {v:Value}(h:w.heap[b]?=some (.cells cur t b_))(aL:cur[o]?=some v):(Go.load ⟨b,o,none⟩).run aS w=.ok v w:=by
 simp[Go.load,Sem.run,CM h,aL]
theorem run_loadCellsFrom (h:w.heap[b]?=some (.cells cur t b_)):∀(l:List Value)(i:Nat)(acc:Array Value),(∀j,j<l.length->cur[o+i+j]?=l[j]?)->
 (loadCellsFrom ⟨b,o,none⟩ i l.length acc).run aS w=.ok (acc++l.toArray) w
 |[],i,acc,_=>by simp[loadCellsFrom]
 |v::l,i,acc,aZ=>by
  have a6:cur[o+i]?=some v:=by simpa using aZ 0 (by simp)
  rw[gS,loadCellsFrom,add_eq,iI,qD h a6,jq,
   run_loadCellsFrom h l (i+1) _ λj aq=>by simpa[Nat.add_assoc,Nat.add_comm 1] using aZ (j+1) (by simpa using aq)]
  simp
theorem run_loadCells (h:w.heap[b]?=some (.cells cur t b_))(l:List Value)(aZ:∀j,j<l.length->cur[o+j]?=l[j]?):
 (loadCells ⟨b,o,none⟩ l.length).run aS w=.ok l.toArray w:=by
 rw[loadCells,run_loadCellsFrom h l 0 #[] (by simpa using aZ)];simp
theorem aMx {mP:Obj}(h:w.heap[b]?=some mP):iq w b mP=w:=by
 have:w.heap.setIfInBounds b mP=w.heap:=by
  apply Array.ext_getElem?;intro i;by_cases aj:i=b
  ·subst aj;have:i<w.heap.size:=by
    rcases ky i w.heap.size with aa|aa
    ·exact aa
    ·rw[Array.getElem?_eq_none aa] at h;cases h
   have af:=(n7.1 h).2;simp[this,af]
  ·rw[Array.getElem?_setIfInBounds_ne (Ne.symm aj)]
 simp[iq,this]
theorem aMy (m8 mA:Obj):iq (iq w b m8) b mA=iq w b mA:=by simp[iq]
theorem aMz (h:w.heap[b]?=some (.cells cur t b_))(v:Value):w.setCell ⟨b,o,none⟩ v=iq w b (.cells (cur.setIfInBounds o v) t b_):=by
 have ah:b<w.heap.size:=by
  rcases ky b w.heap.size with aa|aa
  ·exact aa
  ·rw[Array.getElem?_eq_none aa] at h;cases h
 have af:=(n7.1 h).2;simp only[World.setCell,iq];congr 1;apply Array.ext_getElem?;intro i;rw[Array.getElem?_modify];by_cases aj:b=i
 ·subst aj;simp[ah,af]
 ·rw[Array.getElem?_setIfInBounds_ne aj,if_neg aj]
theorem aMt {v:Value}(h:w.heap[b]?=some (.cells cur t b_))(bX:o<cur.size)(bB:¬(b_.1<=o/\o<b_.2))(aa:(∀cs,v≠.agg cs)/\∀cs,v≠.tuple cs):
 (Go.store ⟨b,o,none⟩ v).run aS w=.ok () (iq w b (.cells (cur.setIfInBounds o v) t b_)):=by
 have an:w.cell? ⟨b,o,none⟩=some cur[o]:=by rw[CM h];simp[bX]
 have sk:w.frozen? ⟨b,o,none⟩=false:=by
  simp[World.frozen?,h];omega
 unfold Go.store;rw[<-aMz h];cases v with
 |agg cs=>exact absurd rfl (aa.1 cs)
 |tuple cs=>exact absurd rfl (aa.2 cs)
 |_=>simp only[Sem.run,an,sk,Bool.false_eq_true,if_false]
theorem B7:∀(vs:List Value)(i:Nat)(w:World)(cur:Array Value),w.heap[b]?=some (.cells cur t b_)->o+i+vs.length<=cur.size->
 (∀j,j<cur.size->¬(b_.1<=j/\j<b_.2))->(∀v∈vs,(∀cs,v≠.agg cs)/\∀cs,v≠.tuple cs)->
 (storeCells ⟨b,o,none⟩ vs i).run aS w=.ok () (iq w b (.cells (ib cur (o+i) vs) t b_))
 |[],i,w,cur,h,_,_,_=>by simp[storeCells,ib,aMx h]
 |v::vs,i,w,cur,h,aP,bB,aa=>by
  simp only[gS] at aP;have ah:b<w.heap.size:=by
   rcases ky b w.heap.size with aa|aa
   ·exact aa
   ·rw[Array.getElem?_eq_none aa] at h;cases h
  rw[storeCells,add_eq,iI,aMt h ab (bB _ ab) (aa v (by simp)),jq,
   B7 vs (i+1) _ _ (oC _ _ ah) (by simp;omega) (by simpa using bB) λu hu=>aa u (by simp[hu]),aMy]
  simp[ib,Nat.add_assoc]
end
end bC
namespace cx
open bC (T cL)
set_option linter.unusedVariables false
def bc (k:IntKind):Type:={n:Int//k.min<=n/\n<=k.max}
theorem aNx (k:IntKind)(n:Int):k.min<=k.wrap n/\k.wrap n<=k.max:=by
 cases k<;>simp only[IntKind.min,IntKind.max,IntKind.wrap,IntKind.bits,IntKind.signed]<;>simp<;>omega
def bc.w (k:IntKind)(n:Int):bc k:=⟨k.wrap n,aNx k n⟩
theorem Ce {k:IntKind}{n:Int}(h:k.min<=n/\n<=k.max):k.wrap n=n:=by
 cases k<;>simp[IntKind.min,IntKind.max,IntKind.wrap,IntKind.bits,IntKind.signed] at h⊢<;>omega
instance{k:IntKind}:DecidableEq (bc k):=λa b=>decidable_of_iff (a.1=b.1) Subtype.ext_iff.symm
def L (α:Type):Type:={l:List α//l.length<=140737488355328}
def ee:Type:={s:ByteArray//s.size<=9223372036854775807}
instance:DecidableEq ee:=λa b=>decidable_of_iff (a.1=b.1) Subtype.ext_iff.symm
section
variable{α:Type}{k cv:IntKind}
def L.nil:L α:=⟨[],by simp⟩
def ba (l:L α):bc .i64:=⟨l.1.length,by have:=l.2;simp[IntKind.min,IntKind.max,IntKind.bits,IntKind.signed];omega⟩
def eO (l:L α)(i:Nat):Option α:=l.1[i]?
def dO (l:L α)(i:Nat)(x:α):L α:=⟨l.1.set i x,by simpa using l.2⟩
def room (eZ n:Nat):Bool:=decide (n*eZ<=140737488355328)&&decide (n<=1048576000)
def c8 (eZ:Nat)(l r:L α):Option (L α):=if h:room eZ (l.1.length+r.1.length)=true then some ⟨l.1++r.1,by simp[room] at h;simp;omega⟩ else none
def nG (l:L α)(dx aj:Int):Option (L α):=bif decide (0<=dx)&&decide (dx<=aj)&&decide (aj<=l.1.length) then some ⟨(l.1.drop dx.toNat).take (aj-dx).toNat,by have:=l.2;simp;omega⟩ else none
def q9 (eZ:Nat)(n:bc k)(z:α):Option (L α):=if h:(decide (0<=n.1)&&room eZ n.1.toNat)=true then some ⟨List.replicate n.1.toNat z,by simp[room] at h;simp;omega⟩ else none
def mO (s:ee):bc .i64:=⟨s.1.size,by have:=s.2;simp[IntKind.min,IntKind.max,IntKind.bits,IntKind.signed];omega⟩
def fF (s t:ee):Option ee:=if h:s.1.size+t.1.size<=9223372036854775807 then some ⟨s.1++t.1,by simpa using h⟩ else none
def pF (s:ee)(dx aj:Int):Option ee:=if h:(decide (0<=dx)&&decide (dx<=aj)&&decide (aj<=s.1.size))=true then some ⟨s.1.extract dx.toNat aj.toNat,by have:=s.2;simp at h;simp;omega⟩ else none
def cB (s t:ee):Bool:=decide (s=t)
def ox (s t:ee):Bool:=Op.bytesLess s.1.toList t.1.toList
def S (s:ByteArray):ee:=if h:s.size<=9223372036854775807 then⟨s,h⟩ else⟨⟨#[]⟩,bk⟩
def bj (a b:bc k):bc k:=bc.w k (a.1+b.1)
def eF (a b:bc k):bc k:=bc.w k (a.1-b.1)
def vI (a b:bc k):bc k:=bc.w k (a.1*b.1)
def vK (a b:bc k):Option (bc k):=bif decide (b.1=0) then none else some (bc.w k (Int.tdiv a.1 b.1))
def lk (a b:bc k):Option (bc k):=bif decide (b.1=0) then none else some (bc.w k (Int.tmod a.1 b.1))
def rG (a b:bc k):bc k:=bc.w k (BitVec.ofInt k.bits a.1&&&BitVec.ofInt k.bits b.1).toNat
def rH (a b:bc k):bc k:=bc.w k (BitVec.ofInt k.bits a.1|||BitVec.ofInt k.bits b.1).toNat
def q7 (a b:bc k):bc k:=bc.w k (BitVec.ofInt k.bits a.1^^^BitVec.ofInt k.bits b.1).toNat
def AR (a:bc k)(b:bc cv):Option (bc k):=bif decide (0<=b.1) then some (bc.w k (a.1*(2^(min b.1.toNat k.bits):Nat))) else none
def rI (a:bc k)(b:bc cv):Option (bc k):=bif decide (0<=b.1) then some (bc.w k (Int.fdiv a.1 (2^(min b.1.toNat k.bits):Nat))) else none
def AM (a b:bc k):bc k:=bif decide (a.1<=b.1) then a else b
def imax (a b:bc k):bc k:=bif decide (b.1<=a.1) then a else b
def uA (a:bc k):bc k:=bc.w k (0-a.1)
def eN (cv:IntKind)(a:bc k):bc cv:=bc.w cv a.1
def a9 (a b:bc k):Bool:=decide (a.1=b.1)
def bh (a b:bc k):Bool:=decide (a.1<b.1)
def fN (a b:bc k):Bool:=decide (a.1<=b.1)
end
inductive eL
  |int (k:IntKind)
  |bool
  |str
  |aR (t:List eL)
abbrev dh:=List eL
@[reducible] def nA (l:eL):Type:=eL.rec (motive_1:=λ_=>Type) (motive_2:=λ_=>Type) (λk=>bc k) Bool ee (λ_ cj=>L cj) Unit (λ_ _ a b=>a×b) l
@[reducible] def D (t:dh):Type:=eL.rec_1 (motive_1:=λ_=>Type) (motive_2:=λ_=>Type) (λk=>bc k) Bool ee (λ_ cj=>L cj) Unit (λ_ _ a b=>a×b) t
mutual
def lg:eL->eL->Bool
  |.int k,.int cv=>decide (k=cv)
  |.bool,.bool=>true
  |.str,.str=>true
  |.aR t,.aR t'=>kB t t'
  |_,_=>false
def kB:List eL->List eL->Bool
  |[],[]=>true
  |l::t,eC::t'=>match lg l eC with
    |true=>kB t t'
    |false=>false
  |_,_=>false
end
mutual
theorem aoi:∀{a b:eL},lg a b=true->a=b
 |.int k,.int cv,h=>by simp[lg] at h;rw[h]
 |.bool,.bool,_=>rfl
 |.str,.str,_=>rfl
 |.aR t,.aR t',h=>by simp only[lg] at h;rw[kC h]
 |.int _,.bool,h=>by simp[lg] at h
 |.int _,.str,h=>by simp[lg] at h
 |.int _,.aR _,h=>by simp[lg] at h
 |.bool,.int _,h=>by simp[lg] at h
 |.bool,.str,h=>by simp[lg] at h
 |.bool,.aR _,h=>by simp[lg] at h
 |.str,.int _,h=>by simp[lg] at h
 |.str,.bool,h=>by simp[lg] at h
 |.str,.aR _,h=>by simp[lg] at h
 |.aR _,.int _,h=>by simp[lg] at h
 |.aR _,.bool,h=>by simp[lg] at h
 |.aR _,.str,h=>by simp[lg] at h
theorem kC:∀{a b:List eL},kB a b=true->a=b
 |[],[],_=>rfl
 |l::t,eC::t',h=>by
  simp only[kB] at h;split at h
  ·rename_i aa;rw[aoi aa,kC h]
  ·cases h
 |[],_::_,h=>by simp[kB] at h
 |_::_,[],h=>by simp[kB] at h
end
inductive QR
  |no
  |nl (a1:List Bool) (sz:Nat)
  |dW (k:Nat) (nl:List Bool) (sz:Nat)
  |at_ (id c7 n sz f:Nat)
inductive C
  |int (k:IntKind) (n:bc k)
  |bool (b:Bool)
  |str (s:ee)
  |ptr (a:Option (Nat×Nat))
  |dt
  |row (t:dh) (l:L (D t)) (oA:QR)
  |aR (id n:Nat)
  |u1 (id dx n sz:Nat)
  |cH (t:dh) (x:D t) (o:Nat)
  |jW (id n sz f:Nat)
  |fn (f:Nat) (first cap:List (Nat×Nat))
  |xm
  |uM
inductive P
  |c (x:C)
  |agg (l:List C)
inductive V
  |p (x:P)
  |Qr (l:List P)
  |undef
  |any
abbrev V.c (x:C):V:=.p (.c x)
abbrev V.agg (l:List C):V:=.p (.agg l)
def P.cells:P->List C
 |.c x=>[x]
 |.agg l=>l
structure M where
  pl:Nat->Option Nat
  bg:Nat->Option Value
  hP:Nat->Nat->Nat->Option Value
  fz:Nat->List Value
  dy:Nat->Option (Nat×Option Nat)
def iA (f g:Nat->List Value):Prop:=∀(b j:Nat)(v:Value),(f b)[j]?=some v->(g b)[j]?=some v
theorem iA.refl (f:Nat->List Value):iA f f:=λ_ _ _ h=>h
theorem iA.trans {f g h:Nat->List Value}(e:iA f g)(e':iA g h):iA f h:=λb j v aL=>e' b j v (e b j v aL)
structure Ext (m m':M):Prop where
  pl:∀i r,m.pl i=some r->m'.pl i=some r
  bg:∀i v,m.bg i=some v->m'.bg i=some v
  hP:∀i k o v,m.hP i k o=some v->m'.hP i k o=some v
  fz:iA m.fz m'.fz
theorem Ext.refl (m:M):Ext m m:=⟨λ_ _ h=>h,λ_ _ h=>h,λ_ _ _ _ h=>h,iA.refl _⟩
theorem Ext.trans {m m' qw:M}(h:Ext m m')(k:Ext m' qw):Ext m qw:=⟨λi r aj=>k.pl i r (h.pl i r aj),λi r aj=>k.bg i r (h.bg i r aj),λi a b r aj=>k.hP i a b r (h.hP i a b r aj),h.fz.trans k.fz⟩
mutual
def dQ (fz:Nat->List Value):(l:eL)->nA l->Value->Prop
  |.int k,x,v=>v=.int k x.1
  |.bool,x,v=>v=.bool x
  |.str,x,v=>v=.string x.1
  |.aR t,x,v=>∃A c,v=.slice A x.1.length c/\x.1.length<=c/\(x.1≠[]->∃b o,A=some ⟨b,o,none⟩/\∀(i:Nat)(e:D t),x.1[i]?=some e->iz fz t e b (o+i*t.length))
def iz (fz:Nat->List Value):(t:List eL)->D t->Nat->Nat->Prop
  |[],_,_,_=>True
  |l::t,x,b,o=>(∃v,(fz b)[o]?=some v/\dQ fz l x.1 v)/\iz fz t x.2 b (o+1)
end
section
variable{fz oe:Nat->List Value}
mutual
theorem dQ.ext (e:iA fz oe):∀{l:eL}{x:nA l}{v:Value},dQ fz l x v->dQ oe l x v
 |.int _,_,_,h=>by simpa only[dQ] using h
 |.bool,_,_,h=>by simpa only[dQ] using h
 |.str,_,_,h=>by simpa only[dQ] using h
 |.aR t,x,_,h=>by
  simp only[dQ] at h⊢;obtain⟨A,c,aa,af,ax⟩:=h;refine⟨A,c,aa,af,λaA=>?_⟩;obtain⟨b,o,aG,aN⟩:=ax aA;exact⟨b,o,aG,λi y aj=>iz.ext e (aN i y aj)⟩
theorem iz.ext (e:iA fz oe):∀{t:List eL}{x:D t}{b o:Nat},iz fz t x b o->iz oe t x b o
 |[],_,_,_,_=>by simp only[iz]
 |l::t,x,_,_,h=>by
  simp only[iz] at h⊢;obtain⟨⟨v,aa,af⟩,ax⟩:=h;exact⟨⟨v,e _ _ _ aa,dQ.ext e af⟩,iz.ext e ax⟩
end
end
theorem dQ.nil (fz:Nat->List Value)(t:dh):dQ fz (.aR t) (L.nil:L (D t)) (.slice none 0 0):=by
 simp only[dQ];exact⟨none,0,rfl,Nat.le_refl _,λh=>absurd rfl h⟩
def pH:(l:eL)->nA l->C
 |.int k,x=>.int k x
 |.bool,x=>.bool x
 |.str,x=>.str x
 |.aR t,x=>.row t x .no
def lA (t:dh):D t->List C:=List.rec (motive:=λt=>D t->List C) (λ_=>[]) (λl _ cj x=>pH l x.1::cj x.2) t
theorem Zr (x:D []):lA [] x=[]:=rfl
theorem uk (l:eL)(t:dh)(x:D (l::t)):lA (l::t) x=pH l x.1::lA t x.2:=rfl
theorem C2:∀(t:dh)(x:D t),(lA t x).length=t.length
 |[],_=>rfl
 |l::t,x=>by rw[uk,gS,C2 t,gS]
def s_ (l:eL)(c:C):Option (nA l):=match l,c with
 |.int k,.int cv n=>if h:cv=k then some (h▸n) else none
 |.bool,.bool b=>some b
 |.str,.str s=>some s
 |.aR t,.row t' l _=>if h:kB t' t=true then some (cast (congrArg (λt=>L (D t)) (kC h)) l) else none
 |.aR _,.dt=>some L.nil
 |_,_=>none
def mM (t:dh):List C->Option (D t):=
 List.rec (motive:=λt=>List C->Option (D t)) (λcs=>match cs with|[]=>some ()|_=>none)
  (λl t cj cs=>match cs with
   |[]=>none
   |c::cs=>match s_ l c with
    |none=>none
    |some x=>match cj cs with
     |none=>none
     |some y=>some (x,y)) t
def qK (m:M)(a:Nat×Nat)(v:Value):Prop:=∃r,m.pl a.1=some r/\v=.pointer (some ⟨r,a.2,none⟩)
def n4 (fz:Nat->List Value)(a1:List Bool)(sz:Nat)(v:Value):Prop:=∀b o len c,v=.slice (some ⟨b,o,none⟩) len c->∀i f,i<len->f<sz->a1[f]?.getD false=true->(fz b)[o+i*sz+f]?=some (.slice none 0 0)
theorem n4.ext {fz oe:Nat->List Value}(e:iA fz oe){a1:List Bool}{sz:Nat}{v:Value}(h:n4 fz a1 sz v):n4 oe a1 sz v:=λb o len c aL i f aa af ax=>e _ _ _ (h b o len c aL i f aa af ax)
theorem n4.none {fz:Nat->List Value}{sz:Nat}{v:Value}:n4 fz [] sz v:=λb o len c aL i f aa af ax=>by simp at ax
theorem n4.nil {fz:Nat->List Value}{a1:List Bool}{sz len c:Nat}:n4 fz a1 sz (.slice .none len c):=λb o len c aL=>by cases aL
def ID (m:M):QR->Value->Prop
 |.no,_=>True
 |.nl a1 sz,v=>∀b o len c,v=.slice (some ⟨b,o,none⟩) len c->∀i f,i<len->f<sz->a1[f]?.getD false=true->(m.fz b)[o+i*sz+f]?=some (.slice none 0 0)
 |.dW k nl sz,v=>m.bg k=some v/\n4 m.fz nl sz v
 |.at_ id c7 n sz f,v=>m.hP id c7 (n*sz+f)=some v
def dv (m:M):C->Value->Prop
 |.int k n,v=>v=.int k n.1
 |.bool b,v=>v=.bool b
 |.str s,v=>v=.string s.1
 |.ptr none,v=>v=.pointer none
 |.ptr (some a),v=>qK m a v
 |.dt,v=>v=.slice none 0 0
 |.row t l oA,v=>dQ m.fz (.aR t) l v/\ID m oA v
 |.aR id n,v=>∃A c,v=.slice A n c/\m.bg id=some v/\(n≠0->∃b,A=some ⟨b,0,none⟩)/\n<=140737488355328/\n<=c
 |.u1 id dx n sz,v=>∃A c,v=.slice A n c/\n<=c/\n<=140737488355328/\(n≠0->∃b k pz,m.bg id=some (.slice (some ⟨b,0,none⟩) k pz)/\A=some ⟨b,dx*sz,none⟩/\dx+n<=k)
 |.cH t x o,v=>∃b a,v=.pointer (some ⟨b,a+o,none⟩)/\iz m.fz t x b a
 |.jW id n sz f,v=>∃b k c,m.bg id=some (.slice (some ⟨b,0,none⟩) k c)/\v=.pointer (some ⟨b,n*sz+f,none⟩)
 |.fn f first cap,v=>∃us vs,v=.func (.func f) us vs/\cL (qK m) first us.toList/\cL (qK m) cap vs.toList
 |.xm,v=>v=.nilFunc
 |.uM,v=>v=.nilIface
def mU (m:M):P->Value->Prop
 |.c x,v=>dv m x v
 |.agg l,v=>∃cs,v=.agg cs/\cL (dv m) l cs.toList
def en (m:M):V->Value->Prop
 |.p x,v=>mU m x v
 |.Qr l,v=>∃vs,v=.tuple vs/\cL (mU m) l vs.toList
 |.undef,v=>v=undef
 |.any,_=>True
section
variable{m m':M}
theorem qK.ext (e:Ext m m'){a:Nat×Nat}{v:Value}(h:qK m a v):qK m' a v:=by
 obtain⟨r,aa,af⟩:=h;exact⟨r,e.pl _ _ aa,af⟩
theorem ID.ext (e:Ext m m'){p:QR}{v:Value}(h:ID m p v):ID m' p v:=by
 cases p with
 |no=>trivial
 |nl a1 sz=>exactλb o len c aL i f aa af ax=>e.fz _ _ _ (h b o len c aL i f aa af ax)
 |dW k nl sz=>exact⟨e.bg _ _ h.1,h.2.ext e.fz⟩
 |at_ id c7 n sz f=>exact e.hP _ _ _ _ h
theorem dv.ext (e:Ext m m'){x:C}{v:Value}(h:dv m x v):dv m' x v:=by
 cases x with
 |ptr a=>cases a with
  |none=>exact h
  |some a=>exact qK.ext e h
 |row t l oA=>exact⟨h.1.ext e.fz,h.2.ext e⟩
 |aR id n=>obtain⟨A,c,aa,af,ax⟩:=h;exact⟨A,c,aa,e.bg _ _ af,ax⟩
 |u1 id dx n sz=>obtain⟨A,c,aa,af,ax,a8⟩:=h;exact⟨A,c,aa,af,ax,λaA=>by obtain⟨b,k,pz,aG,aN⟩:=a8 aA;exact⟨b,k,pz,e.bg _ _ aG,aN⟩⟩
 |cH t x o=>obtain⟨b,a,aa,af⟩:=h;exact⟨b,a,aa,af.ext e.fz⟩
 |jW id n sz f=>obtain⟨b,k,c,aa,af⟩:=h;exact⟨b,k,c,e.bg _ _ aa,af⟩
 |fn f first cap=>obtain⟨us,vs,aa,af,ax⟩:=h;exact⟨us,vs,aa,af.imp λ_ _=>qK.ext e,ax.imp λ_ _=>qK.ext e⟩
 |_=>exact h
theorem mU.ext (e:Ext m m'){x:P}{v:Value}(h:mU m x v):mU m' x v:=by
 cases x with
 |c x=>exact dv.ext e h
 |agg l=>obtain⟨cs,aa,af⟩:=h;exact⟨cs,aa,af.imp λ_ _=>dv.ext e⟩
theorem en.ext (e:Ext m m'){x:V}{v:Value}(h:en m x v):en m' x v:=by
 cases x with
 |p x=>exact mU.ext e h
 |Qr l=>obtain⟨cs,aa,af⟩:=h;exact⟨cs,aa,af.imp λ_ _=>mU.ext e⟩
 |undef=>exact h
 |any=>trivial
theorem dQ.cell {l:eL}{x:nA l}{v:Value}(h:dQ m.fz l x v):dv m (pH l x) v:=by
 cases l with
 |aR t=>exact⟨h,trivial⟩
 |_=>simp only[dQ] at h;exact h
theorem CT {l:eL}{c:C}{x:nA l}{v:Value}(h:s_ l c=some x)(an:dv m c v):dQ m.fz l x v:=by
 unfold s_ at h;split at h
 ·split at h
  ·rename_i aU;subst aU;cases h;simp only[dQ];exact an
  ·cases h
 ·cases h;simp only[dQ];exact an
 ·cases h;simp only[dQ];exact an
 ·split at h
  ·rename_i aU;have aU:=kC aU;subst aU;cases h;exact an.1
  ·cases h
 ·cases h;have an:v=.slice none 0 0:=an;subst an;exact dQ.nil _ _
 ·cases h
theorem CU {l:eL}{t:dh}{c:C}{cs:List C}{z:D (l::t)}(h:mM (l::t) (c::cs)=some z):s_ l c=some z.1/\mM t cs=some z.2:=by
 have h:(match s_ l c with|none=>none|some x=>match mM t cs with|none=>none|some y=>some (x,y))=some z:=h;split at h
 ·cases h
 ·rename_i x aW;split at h
  ·cases h
  ·rename_i y b7;cases h;exact⟨aW,b7⟩
theorem CV {l:eL}{t:dh}:mM (l::t) []=none:=rfl
theorem I_ {c:C}{cs:List C}:mM [] (c::cs)=none:=rfl
theorem Rw {b:Nat}:∀{t:dh}{cs:List C}{vs:List Value}{x:D t}{o:Nat},mM t cs=some x->cL (dv m) cs vs->(∀(j:Nat) v,vs[j]?=some v->(m.fz b)[o+j]?=some v)->iz m.fz t x b o
 |[],[],vs,x,o,h,_,_=>by simp only[iz]
 |[],c::cs,vs,x,o,h,_,_=>by rw[I_] at h;cases h
 |l::t,[],vs,x,o,h,_,_=>by rw[CV] at h;cases h
 |l::t,c::cs,[],x,o,h,an,_=>an.elim
 |l::t,c::cs,v::vs,x,o,h,an,aL=>by
  obtain⟨aa,af⟩:=CU h;simp only[iz];refine⟨⟨v,by simpa using aL 0 v rfl,CT aa an.1⟩,Rw af an.2 λj u hu=>?_⟩;rw[Nat.add_assoc,Nat.add_comm 1];exact aL (j+1) u (by simpa using hu)
theorem iz.cell {b:Nat}:∀{t:dh}{x:D t}{o:Nat},iz m.fz t x b o->∀(j:Nat) c,(lA t x)[j]?=some c->∃v,(m.fz b)[o+j]?=some v/\dv m c v
 |[],_,_,_,j,c,h=>by rw[Zr] at h;simp at h
 |l::t,x,o,h,0,c,aq=>by
  simp only[iz] at h;rw[uk] at aq;simp at aq;subst aq;obtain⟨⟨v,aa,af⟩,_⟩:=h;exact⟨v,aa,af.cell⟩
 |l::t,x,o,h,j+1,c,aq=>by
  simp only[iz] at h;rw[uk] at aq;obtain⟨v,aa,af⟩:=iz.cell h.2 j c (by simpa using aq);exact⟨v,by rw[<-aa];congr 1;omega,af⟩
theorem dv.one {m:M}{x:C}{v:Value}(h:dv m x v):(∀cs,v≠.agg cs)/\(∀cs,v≠.tuple cs):=by
 cases x with
 |ptr a=>cases a with
  |none=>cases h;simp
  |some a=>obtain⟨r,_,rfl⟩:=h;simp
 |row t l oA=>obtain⟨h,_⟩:=h;simp only[dQ] at h;obtain⟨A,c,rfl,_⟩:=h;simp
 |aR id n=>obtain⟨A,c,rfl,_⟩:=h;simp
 |u1 id dx n sz=>obtain⟨A,c,rfl,_⟩:=h;simp
 |cH t x o=>obtain⟨b,a,rfl,_⟩:=h;simp
 |jW id n sz f=>obtain⟨b,k,c,_,rfl⟩:=h;simp
 |fn f first cap=>obtain⟨us,vs,rfl,_⟩:=h;simp
 |_=>cases h;simp
theorem mU.cells {m:M}{x:P}{v:Value}(h:mU m x v):cL (dv m) x.cells v.cells.toList:=by
 cases x with
 |c x=>rw[bC.I6 (dv.one h).1];exact⟨h,trivial⟩
 |agg l=>obtain⟨cs,rfl,af⟩:=h;exact af
end
open bC (T cL iq nw mg oC)
inductive B
  |box (cs:List C)
  |arr (t:dh) (a1:List Bool) (l:L (D t)) (bX:Option (Nat×Nat)) (c7:Nat)
  |bG (t:dh)
structure bV where
  heap:T B
  next:Nat
def oH (cur:Array Value)(b_:Nat×Nat):Prop:=(∀j,j<cur.size->¬(b_.1<=j/\j<b_.2))/\b_.1<=b_.2
def oN (m:M)(h:Array Obj)(r:Nat)(hole:Prop)(ap:Bool)(o:Nat):(l:eL)->nA l->Value->Prop
 |.aR t,x,v=>¬hole->dQ m.fz (.aR t) x v/\(ap=true->∃A k c,v=.slice A k c/\k<=c/\(A=none/\c=0\/∃b cur ty b_,A=some ⟨b,0,none⟩/\h[b]?=some (.cells cur ty b_)/\oH cur b_/\
  c*t.length<=cur.size/\(m.fz b).length=k*t.length/\m.dy b=some (r,some o)/\b≠r))
 |l,x,v=>dQ m.fz l x v
def gP (m:M)(h:Array Obj)(r:Nat)(bX:Option (Nat×Nat))(n:Nat)(cur:Array Value)(base:Nat):(t:List eL)->List Bool->D t->Nat->Prop
 |[],_,_,_=>True
 |l::t,a1,x,f=>(∃v,cur[base+f]?=some v/\oN m h r (bX=some (n,f)) (a1.headD false) (base+f) l x.1 v)/\gP m h r bX n cur base t a1.tail x.2 (f+1)
def u5 (m:M)(h:Array Obj)(i:Nat):B->Prop
 |.box cs=>m.pl i=none\/∃r cur ty b_,m.pl i=some r/\h[r]?=some (.cells cur ty b_)/\oH cur b_/\cur.size=cs.length/\(∀(j:Nat) c,cs[j]?=some c->∃v,cur[j]?=some v/\dv m c v)/\
  m.dy r=some (r,none)/\m.fz r=[]
 |.bG t=>∃A k c,m.bg i=some (.slice A k c)/\k<=c/\(A=none/\c=0/\m.pl i=none\/∃r cur ty b_,A=some ⟨r,0,none⟩/\m.pl i=some r/\h[r]?=some (.cells cur ty b_)/\oH cur b_/\
  c*t.length<=cur.size/\(m.fz r).length=k*t.length/\m.dy r=some (r,none)/\∀b k,m.dy b=some (r,k)->b=r)
 |.arr t a1 l bX c7=>∃A c,m.bg i=some (.slice A l.1.length c)/\l.1.length<=c/\(∀k,c7<k->∀o,m.hP i k o=none)/\(A=none/\c=0/\(m.pl i=none/\∀k o,m.hP i k o=none)\/∃r cur ty b_,A=some ⟨r,0,none⟩/\m.pl i=some r/\h[r]?=some (.cells cur ty b_)/\oH cur b_/\
  c*t.length<=cur.size/\m.dy r=some (r,none)/\m.fz r=[]/\(∀(n:Nat) e,l.1[n]?=some e->gP m h r bX n cur (n*t.length) t a1 e 0)/\
  (∀o v,m.hP i c7 o=some v↔cur[o]?=some v/\a1[o%t.length]?=some true/\o/t.length<l.1.length))
structure jR (n:Nat)(m m':M):Prop where
  ext:Ext m m'
  pl:∀i,i<n->m'.pl i=m.pl i
theorem jR.refl (n:Nat)(m:M):jR n m m:=⟨Ext.refl m,λ_ _=>rfl⟩
theorem jR.trans {n n':Nat}{m m' qw:M}(h:jR n m m')(k:jR n' m' qw)(aA:n<=n'):jR n m qw:=⟨h.ext.trans k.ext,λi aj=>(k.pl i ab).trans (h.pl i aj)⟩
def Cv (m:M)(σ:bV)(b:Nat):Prop:=∃R k i x,m.dy b=some (R,k)/\σ.heap.get i=some x/\m.pl i=some R
structure bM (m:M)(σ:bV)(w:World):Prop where
  fresh:∀i,σ.next<=i->m.pl i=none/\m.bg i=none/\(∀k o,m.hP i k o=none)/\σ.heap.get i=none
  live:∀i b,σ.heap.get i=some b->u5 m w.heap i b
  inj:∀i j bi mn r,σ.heap.get i=some bi->σ.heap.get j=some mn->m.pl i=some r->m.pl j=some r->i=j
  own:∀b R k,m.dy b=some (R,k)->b<w.heap.size/\m.dy R=some (R,none)
  stay:∀(b j:Nat) v,(m.fz b)[j]?=some v->∃cur ty b_,w.heap[b]?=some (.cells cur ty b_)/\cur[j]?=some v
structure hJ (m:M)(σ:bV)(w:World)(m':M)(bb:bV)(w':World):Prop where
  os:w'.os=w.os
  tape:w'.tape=w.tape
  output:w'.output=w.output
  size:w.heap.size<=w'.heap.size
  fz:iA m.fz m'.fz
  kept:∀b,b<w.heap.size->¬Cv m σ b->w'.heap[b]?=w.heap[b]?/\m'.fz b=m.fz b/\m'.dy b=m.dy b/\¬Cv m' bb b
  own:∀b R k,m'.dy b=some (R,k)->m.dy b=some (R,k)\/w.heap.size<=R\/Cv m σ R
theorem q8 {w:World}{g:Nat}{x:Obj}(aW:w.heap[g]?=some x):g<w.heap.size:=by
 rcases ky g w.heap.size with aa|aa
 ·exact aa
 ·rw[Array.getElem?_eq_none aa] at aW;cases aW
section
variable{w w' u2:World}{m m' qw:M}{σ bb xJ:bV}
theorem hJ.refl (m:M)(σ:bV)(w:World):hJ m σ w m σ w:=⟨rfl,rfl,rfl,Nat.le_refl _,iA.refl _,λ_ _ h=>⟨rfl,rfl,rfl,h⟩,λ_ _ _ h=>.inl h⟩
theorem hJ.trans (h:hJ m σ w m' bb w')(k:hJ m' bb w' qw xJ u2):hJ m σ w qw xJ u2 where
 os:=k.os.trans h.os
 tape:=k.tape.trans h.tape
 output:=k.output.trans h.output
 size:=jd h.size k.size
 fz:=h.fz.trans k.fz
 kept b ah bX:=by
  have aP:=h.size;obtain⟨aa,af,ax,a8⟩:=h.kept b ah bX;obtain⟨bA,bI,c9,ei⟩:=k.kept b ab a8;exact⟨bA.trans aa,bI.trans af,c9.trans ax,ei⟩
 own b R cv ah:=by
  have aP:=h.size;rcases k.own b R cv ah with g|g|g
  ·exact h.own b R cv g
  ·exact .inr (.inl ab)
  ·refine Classical.byContradiction λaA=>?_;rw[not_or,not_or] at aA;exact(h.kept R ab aA.2.2).2.2.2 g
theorem hJ.vS (h:bM m σ w)(ah:Below w.heap.size w w'):hJ m σ w m σ w':=⟨ah.os,ah.tape,ah.output,ah.size,iA.refl _,λb aa af=>⟨ah.block b aa,rfl,rfl,af⟩,λ_ _ _ h=>.inl h⟩
theorem bM.root (h:bM m σ w){i:Nat}{b:B}{r:Nat}(aj:σ.heap.get i=some b)(aO:m.pl i=some r):m.dy r=some (r,none):=by
 have aZ:=h.live i b aj;cases b with
 |box cs=>
  rcases aZ with aa|⟨q,cur,ty,b_,aa,af,ax,a8,cy,dm,dL⟩
  ·rw[aO] at aa;cases aa
  ·rw[aO] at aa;cases aa;exact dm
 |bG t=>
  obtain⟨A,k,c,aa,af,ax⟩:=aZ;rcases ax with⟨_,_,ax⟩|⟨q,cur,ty,b_,ax,a8,cy,dm,dL,dY,fa,gJ⟩
  ·rw[aO] at ax;cases ax
  ·rw[aO] at a8;cases a8;exact fa
 |arr t a1 l bX c7=>
  obtain⟨A,c,aa,af,_,ax⟩:=aZ;rcases ax with⟨_,_,ax,_⟩|⟨q,cur,ty,b_,ax,a8,cy,dm,dL,dY,fa,gJ⟩
  ·rw[aO] at ax;cases ax
  ·rw[aO] at a8;cases a8;exact dY
theorem bM.alA (h:bM m σ w){i:Nat}{b:B}{r:Nat}(aj:σ.heap.get i=some b)(aO:m.pl i=some r):r<w.heap.size:=(h.own _ _ _ (h.root aj aO)).1
theorem bM.wQ (h:bM m σ w){b:Nat}(ah:w.heap.size<=b):m.fz b=[]:=by
 cases ai:m.fz b with
 |nil=>rfl
 |cons v l=>
  obtain⟨cur,ty,b_,aa,_⟩:=h.stay b 0 v (by rw[ai];rfl);have:=q8 aa;omega
theorem bM.af1 (h:bM m σ w){b:Nat}(ah:w.heap.size<=b):m.dy b=none:=by
 cases bX:m.dy b with
 |none=>rfl
 |some q=>have:=(h.own b q.1 q.2 bX).1;omega
theorem oN.frame {h h':Array Obj}{r:Nat}{hole:Prop}{ap:Bool}{o:Nat}{l:eL}{x:nA l}{v:Value}(e:iA m.fz m'.fz)(ah:∀b k,m.dy b=some (r,k)->b≠r->h'[b]?=h[b]?/\m'.dy b=m.dy b/\m'.fz b=m.fz b)(aZ:oN m h r hole ap o l x v):oN m' h' r hole ap o l x v:=by
 cases l with
 |aR t=>
  intro aA;obtain⟨aa,af⟩:=aZ aA;refine⟨aa.ext e,λcf=>?_⟩;obtain⟨A,k,c,aG,aN,bo⟩:=af cf;refine⟨A,k,c,aG,aN,bo.imp id λ⟨b,cur,ty,b_,bA,bI,c9,ei,jJ,o4,pT⟩=>?_⟩;obtain⟨aD,aQ,bO⟩:=ah b _ o4 pT;exact⟨b,cur,ty,b_,bA,aD.trans bI,c9,ei,by rw[bO];exact jJ,aQ.trans o4,pT⟩
 |int k=>exact dQ.ext (l:=.int k) e aZ
 |bool=>exact dQ.ext (l:=.bool) e aZ
 |str=>exact dQ.ext (l:=.str) e aZ
theorem gP.frame {h h':Array Obj}{r:Nat}{bX:Option (Nat×Nat)}{n:Nat}{cur:Array Value}{base:Nat}(e:iA m.fz m'.fz)(ah:∀b k,m.dy b=some (r,k)->b≠r->h'[b]?=h[b]?/\m'.dy b=m.dy b/\m'.fz b=m.fz b):∀{t:List eL}{a1:List Bool}{x:D t}{f:Nat},gP m h r bX n cur base t a1 x f->gP m' h' r bX n cur base t a1 x f
 |[],_,_,_,_=>trivial
 |l::t,a1,x,f,⟨⟨v,aa,af⟩,ax⟩=>⟨⟨v,aa,af.frame e ah⟩,gP.frame e ah ax⟩
theorem u5.frame {h h':Array Obj}{i:Nat}{b:B}(e:Ext m m')(bF:m'.pl i=m.pl i)(aP:m'.hP i=m.hP i)(ah:∀c k r,m.pl i=some r->m.dy c=some (r,k)->h'[c]?=h[c]?/\m'.dy c=m.dy c/\m'.fz c=m.fz c)(hw:∀c k r,m.pl i=some r->m'.dy c=some (r,k)->m.dy c=some (r,k))(aZ:u5 m h i b):u5 m' h' i b:=by
 cases b with
 |box cs=>
  rcases aZ with aa|⟨r,cur,ty,b_,aa,af,ax,a8,cy,dm,dL⟩
  ·exact .inl (bF.trans aa)
  obtain⟨aD,aQ,bO⟩:=ah r _ r aa dm;exact .inr ⟨r,cur,ty,b_,e.pl _ _ aa,aD.trans af,ax,a8,λj c aq=>let⟨v,aG,aN⟩:=cy j c aq;⟨v,aG,aN.ext e⟩,aQ.trans dm,bO.trans dL⟩
 |bG t=>
  obtain⟨A,k,c,aa,af,ax⟩:=aZ;refine⟨A,k,c,e.bg _ _ aa,af,ax.imp (λ⟨aG,aN,bo⟩=>⟨aG,aN,bF.trans bo⟩) λ⟨r,cur,ty,b_,aG,aN,bo,cE,eM,fH,gz,hM⟩=>?_⟩;obtain⟨aD,aQ,bO⟩:=ah r _ r aN gz;exact⟨r,cur,ty,b_,aG,e.pl _ _ aN,aD.trans bo,cE,eM,by rw[bO];exact fH,aQ.trans gz,λc k an=>hM c k (hw c k r aN an)⟩
 |arr t a1 l bX c7=>
  obtain⟨A,c,aa,af,a6,ax⟩:=aZ;refine⟨A,c,e.bg _ _ aa,af,by rw[aP];exact a6,ax.imp (λ⟨aG,aN,bo,cE⟩=>⟨aG,aN,bF.trans bo,by rw[aP];exact cE⟩) λ⟨r,cur,ty,b_,aG,aN,bo,cE,eM,fH,gz,hM,iV⟩=>?_⟩;obtain⟨aD,aQ,bO⟩:=ah r _ r aN fH;exact⟨r,cur,ty,b_,aG,e.pl _ _ aN,aD.trans bo,cE,eM,aQ.trans fH,bO.trans gz,λn x aW=>(hM n x aW).frame e.fz λb k aU _=>ah b k r aN aU,by rw[aP];exact iV⟩
theorem bM.YW (h:bM m σ w)(X:Nat->Prop)(e:Ext m m')(tw:w'.os=w.os/\w'.tape=w.tape/\w'.output=w.output)(ai:w.heap.size<=w'.heap.size)(a2:∀i,bb.next<=i->m'.pl i=none/\m'.bg i=none/\(∀k o,m'.hP i k o=none)/\bb.heap.get i=none)(ql:∀i b,X i->bb.heap.get i=some b->u5 m' w'.heap i b)(ev:∀i,¬X i->bb.heap.get i=σ.heap.get i/\m'.pl i=m.pl i/\m'.hP i=m.hP i)(g3:∀b,b<w.heap.size->(∀i x r k,X i->σ.heap.get i=some x->m.pl i=some r->m.dy b≠some (r,k))->w'.heap[b]?=w.heap[b]?/\m'.fz b=m.fz b/\m'.dy b=m.dy b)(aE:∀i j bi mn r,X i->X j->bb.heap.get i=some bi->bb.heap.get j=some mn->m'.pl i=some r->m'.pl j=some r->i=j)(fm:∀i x R,X i->bb.heap.get i=some x->m'.pl i=some R->w.heap.size<=R\/∃j y q k,X j/\σ.heap.get j=some y/\m.pl j=some q/\m.dy R=some (q,k))(yu:∀b R k,m'.dy b=some (R,k)->b<w'.heap.size/\m'.dy R=some (R,none))(sc:∀b R k,m'.dy b=some (R,k)->m.dy b≠some (R,k)->w.heap.size<=R\/∃j y q k,X j/\σ.heap.get j=some y/\m.pl j=some q/\m.dy R=some (q,k))(dI:∀(b j:Nat) v,(m'.fz b)[j]?=some v->∃cur ty b_,w'.heap[b]?=some (.cells cur ty b_)/\cur[j]?=some v):bM m' bb w'/\hJ m σ w m' bb w':=by
 have auf:∀i x r,¬X i->σ.heap.get i=some x->m.pl i=some r->∀b k,m.dy b=some (r,k)->∀j y q cv,X j->σ.heap.get j=some y->m.pl j=some q->m.dy b≠some (q,cv):=by
  intro i x r aj cm aO b k ah j y q cv aq b7 ay an;rw[ah] at an;cases an;have:=h.inj i j x y r cm b7 aO ay;exact aj (this▸aq)
 have mq:∀R,(w.heap.size<=R\/∃j y q k,X j/\σ.heap.get j=some y/\m.pl j=some q/\m.dy R=some (q,k))->∀j y,¬X j->σ.heap.get j=some y->m.pl j=some R->False:=by
  intro R fm j y aq b7 ay;have ap5:=h.root b7 ay;rcases fm with aa|⟨kq,mG,q,k,af,ax,a8,cy⟩
  ·have:=h.alA b7 ay;omega
  ·rw[ap5] at cy;cases cy;exact aq (h.inj j kq y mG R b7 ax ay a8▸af)
 refine⟨⟨a2,λi b aj=>?_,λi j bi mn r aj aq aO ay=>?_,yu,dI⟩,⟨tw.1,tw.2.1,tw.2.2,ai,e.fz,λb ah bX=>?_,λb R k ah=>?_⟩⟩
 ·by_cases aW:X i
  ·exact ql i b aW aj
  ·obtain⟨bA,bI,c9⟩:=ev i aW;rw[bA] at aj;refine(h.live i b aj).frame e bI c9 (λc k r aO an=>?_) (λc k r aO an=>?_)
   ·obtain⟨aG,aN,bo⟩:=g3 c (h.own c r k an).1 (auf i b r aW aj aO c k an);exact⟨aG,bo,aN⟩
   ·refine Classical.byContradiction λaA=>?_;exact mq r (sc c r k an aA) i b aW aj aO
 ·by_cases aW:X i<;>by_cases b7:X j
  ·exact aE i j bi mn r aW b7 aj aq aO ay
  ·obtain⟨bA,bI,c9⟩:=ev j b7;rw[bA] at aq;rw[bI] at ay;exact(mq r (fm i bi r aW aj aO) j mn b7 aq ay).elim
  ·obtain⟨bA,bI,c9⟩:=ev i aW;rw[bA] at aj;rw[bI] at aO;exact(mq r (fm j mn r b7 aq ay) i bi aW aj aO).elim
  ·obtain⟨bA,bI,c9⟩:=ev i aW;rw[bA] at aj;rw[bI] at aO;obtain⟨dk,dg,bT⟩:=ev j b7;rw[dk] at aq;rw[dg] at ay;exact h.inj i j bi mn r aj aq aO ay
 ·obtain⟨aG,aN,bo⟩:=g3 b ah λi x r k aj aW aO an=>bX ⟨r,k,i,x,an,aW,aO⟩;refine⟨aG,aN,bo,?_⟩;rintro⟨R,k,i,x,aa,af,ax⟩;rw[bo] at aa;by_cases aW:X i
  ·rcases fm i x R aW af ax with cr|⟨j,y,q,cv,_,cI,dw,fe⟩
   ·have:=(h.own R R none (h.own b R k aa).2).1;omega
   ·rw[(h.own b R k aa).2] at fe;cases fe;exact bX ⟨R,k,j,y,aa,cI,dw⟩
  ·obtain⟨bA,bI,c9⟩:=ev i aW;rw[bA] at af;rw[bI] at ax;exact bX ⟨R,k,i,x,aa,af,ax⟩
 ·by_cases hm:m.dy b=some (R,k)
  ·exact .inl hm
  ·rcases sc b R k ah hm with aa|⟨j,y,q,cv,_,af,ax,a8⟩
   ·exact .inr (.inl aa)
   ·exact .inr (.inr ⟨q,cv,j,y,a8,af,ax⟩)
theorem bM.change (h:bM m σ w)(X:Nat->Prop)(e:Ext m m')(tw:w'.os=w.os/\w'.tape=w.tape/\w'.output=w.output)(ai:w.heap.size<=w'.heap.size)(a2:∀i,bb.next<=i->m'.pl i=none/\m'.bg i=none/\(∀k o,m'.hP i k o=none)/\bb.heap.get i=none)(ql:∀i b,X i->bb.heap.get i=some b->u5 m' w'.heap i b)(ev:∀i,¬X i->bb.heap.get i=σ.heap.get i/\m'.pl i=m.pl i/\m'.hP i=m.hP i)(g3:∀b,b<w.heap.size->(∀i x r k,X i->σ.heap.get i=some x->m.pl i=some r->m.dy b≠some (r,k))->w'.heap[b]?=w.heap[b]?/\m'.fz b=m.fz b/\m'.dy b=m.dy b)(aE:∀i j bi mn r,X i->X j->bb.heap.get i=some bi->bb.heap.get j=some mn->m'.pl i=some r->m'.pl j=some r->i=j)(fm:∀i x R,X i->bb.heap.get i=some x->m'.pl i=some R->w.heap.size<=R\/(∃j y,X j/\σ.heap.get j=some y/\m.pl j=some R)\/(∃j y q o,X j/\σ.heap.get j=some y/\m.pl j=some q/\m.dy R=some (q,some o)/\R≠q))(yu:∀b R k,m'.dy b=some (R,k)->b<w'.heap.size/\m'.dy R=some (R,none))(sc:∀b R k,m'.dy b=some (R,k)->m.dy b≠some (R,k)->∃i x,X i/\bb.heap.get i=some x/\m'.pl i=some R)(dI:∀(b j:Nat) v,(m'.fz b)[j]?=some v->∃cur ty b_,w'.heap[b]?=some (.cells cur ty b_)/\cur[j]?=some v):bM m' bb w'/\hJ m σ w m' bb w':=by
 have Z5:∀i x R,X i->bb.heap.get i=some x->m'.pl i=some R->w.heap.size<=R\/∃j y q k,X j/\σ.heap.get j=some y/\m.pl j=some q/\m.dy R=some (q,k):=by
  intro i x R aa af ax;rcases fm i x R aa af ax with g|⟨j,y,aG,aN,bo⟩|⟨j,y,q,o,aG,aN,bo,cE,_⟩
  ·exact .inl g
  ·exact .inr ⟨j,y,R,none,aG,aN,bo,h.root aN bo⟩
  ·exact .inr ⟨j,y,q,some o,aG,aN,bo,cE⟩
 refine h.YW X e tw ai a2 ql ev g3 aE Z5 yu (λb R k aa af=>?_) dI;obtain⟨i,x,aG,aN,bo⟩:=sc b R k aa af;exact Z5 i x R aG aN bo
theorem bM.vS (h:bM m σ w)(ah:Below w.heap.size w w'):bM m σ w':=by
 refine(h.change (m':=m) (bb:=σ) (w':=w') (λ_=>False) (Ext.refl m) ⟨ah.os,ah.tape,ah.output⟩ ah.size h.fresh (λ_ _ aW=>aW.elim) (λ_ _=>⟨rfl,rfl,rfl⟩) (λb bn _=>⟨ah.block b bn,rfl,rfl⟩)
  (λ_ _ _ _ _ aW=>aW.elim) (λ_ _ _ aW=>aW.elim) (λb R k aU=>⟨Nat.lt_of_lt_of_le (h.own b R k aU).1 ah.size,(h.own b R k aU).2⟩) (λb R k aa af=>absurd aa af) λb j v aL=>?_).1
 obtain⟨cur,ty,b_,aa,af⟩:=h.stay b j v aL;exact⟨cur,ty,b_,(ah.block _ (q8 aa)).trans aa,af⟩
end
open bC (T cL iq nw mg oC fx under size kL ib mQ oz qD)
def LO:Value->Option C
 |.int k n=>bif decide (k.wrap n=n) then some (.int k (bc.w k n)) else none
 |.bool b=>some (.bool b)
 |.string s=>bif decide (s.size<=9223372036854775807) then some (.str (S s)) else none
 |.pointer none=>some (.ptr none)
 |.slice none 0 0=>some .dt
 |.func (.func f) first cap=>match first.toList,cap.toList with
  |[],[]=>some (.fn f [] [])
  |_,_=>none
 |.nilFunc=>some .xm
 |.nilIface=>some .uM
 |_=>none
def LP:List Value->Option (List C)
 |[]=>some []
 |v::l=>match LO v with
  |none=>none
  |some c=>match LP l with
   |none=>none
   |some r=>some (c::r)
def A4:Value->Option P
 |.agg cs=>match LP cs.toList with
  |some l=>some (.agg l)
  |none=>none
 |v=>match LO v with
  |some c=>some (.c c)
  |none=>none
theorem am1 {s:ByteArray}(h:s.size<=9223372036854775807):(S s).1=s:=by simp[S,h]
theorem afT (m:M){v:Value}{c:C}(h:LO v=some c):dv m c v:=by
 unfold LO at h;split at h
 ·rename_i k n;cases bg:decide (k.wrap n=n) with
  |true=>rw[bg] at h;cases h;show Value.int k n=.int k (k.wrap n);rw[of_decide_eq_true bg]
  |false=>rw[bg] at h;cases h
 ·cases h;rfl
 ·rename_i s;cases bg:decide (s.size<=9223372036854775807) with
  |true=>rw[bg] at h;cases h;show Value.string s=.string (S s).1;rw[am1 (of_decide_eq_true bg)]
  |false=>rw[bg] at h;cases h
 ·cases h;rfl
 ·cases h;rfl
 ·split at h
  ·rename_i aa af;cases h;rw[show _=(#[]:Array Value) from Array.toList_inj.1 aa,show _=(#[]:Array Value) from Array.toList_inj.1 af];exact⟨#[],#[],rfl,trivial,trivial⟩
  ·cases h
 ·cases h;rfl
 ·cases h;rfl
 ·cases h
theorem afU (m:M):∀{l:List Value}{r:List C},LP l=some r->cL (dv m) r l
 |[],r,h=>by cases h;trivial
 |v::l,r,h=>by
  rw[LP] at h;split at h
  ·cases h
  ·rename_i c an;split at h
   ·cases h
   ·rename_i q ay;cases h;exact⟨afT m an,afU m ay⟩
theorem TO (m:M){v:Value}{x:P}(h:A4 v=some x):mU m x v:=by
 unfold A4 at h;split at h
 ·split at h
  ·rename_i aZ;cases h;exact⟨_,rfl,afU m aZ⟩
  ·cases h
 ·split at h
  ·rename_i an;cases h;exact afT m an
  ·cases h
def zero (cw:T TypeInfo)(t:Nat):Option P:=match cw.get t with
 |some i=>match i.zero with
  |some v=>A4 v
  |none=>none
 |none=>none
theorem Qb {cw:T TypeInfo}{aS:Program}(b6:fx aS cw){w:World}{t:Nat}{x:P}(m:M)(h:zero cw t=some x):∃v,(zeroValue t).run aS w=.ok v w/\mU m x v:=by
 unfold zero at h;split at h
 ·rename_i i aj;split at h
  ·rename_i v aL;exact⟨v,by simp[zeroValue,typeInfo,b6.info _ _ aj,aL],TO m h⟩
  ·cases h
 ·cases h
def cut (cs:List C)(o n:Nat):Option (List C):=bif decide (o+n<=cs.length) then some ((cs.drop o).take n) else none
theorem I9 {l r:List C}{o k:Nat}(h:cut l o k=some r):r=(l.drop o).take k/\o+k<=l.length:=by
 unfold cut at h;cases bg:decide (o+k<=l.length) with
 |true=>rw[bg] at h;cases h;exact⟨rfl,of_decide_eq_true bg⟩
 |false=>rw[bg] at h;cases h
def rP (cs:List C)(o:Nat)(l:List C):List C:=cs.take o++l++cs.drop (o+l.length)
theorem TW {cs l:List C}{o:Nat}(h:o+l.length<=cs.length):(rP cs o l).length=cs.length:=by simp[rP];omega
theorem TV {cs l:List C}{o:Nat}(h:o+l.length<=cs.length)(j:Nat):(rP cs o l)[j]?=if o<=j/\j<o+l.length then l[j-o]? else cs[j]?:=by
 unfold rP;have bQ:(cs.take o).length=o:=by simp;omega
 by_cases aa:j<o
 ·rw[if_neg ab,cO,ml ab,List.getElem?_take,if_pos aa]
 ·by_cases af:j<o+l.length
  ·rw[if_pos ab,ml (by simp;omega),mm ab,bQ]
  ·rw[if_neg ab,mm (by simp;omega),List.getElem?_drop];congr 1;simp only[bl,bQ];omega
theorem L0 {m:M}{cs:List C}{g:Nat->Option Value}(h:∀(j:Nat) c,cs[j]?=some c->∃v,g j=some v/\dv m c v):
 ∀(k o:Nat),o+k<=cs.length->∃vs:List Value,vs.length=k/\(∀j,j<vs.length->g (o+j)=vs[j]?)/\cL (dv m) ((cs.drop o).take k) vs
 |0,o,_=>⟨[],rfl,by simp,by simp[cL]⟩
 |k+1,o,aU=>by
  obtain⟨v,aL,an⟩:=h o cs[o] (fy ab);obtain⟨vs,aa,af,ax⟩:=L0 h k (o+1) ab;refine⟨v::vs,by simp[aa],λj aq=>?_,?_⟩
  ·cases j with
   |zero=>simpa using aL
   |succ j=>rw[List.getElem?_cons_succ,<-af j (by simpa using aq)];congr 1;omega
  ·rw[List.drop_eq_getElem_cons ab,List.take_succ_cons];exact⟨an,ax⟩
section
variable{aS:Program}{w:World}{m:M}{σ:bV}
theorem bM.box {i r:Nat}{cs:List C}(h:bM m σ w)(aj:σ.heap.get i=some (.box cs))(aO:m.pl i=some r):
 ∃cur ty b_,w.heap[r]?=some (.cells cur ty b_)/\oH cur b_/\cur.size=cs.length/\(∀(j:Nat) c,cs[j]?=some c->∃v,cur[j]?=some v/\dv m c v)/\m.dy r=some (r,none)/\m.fz r=[]:=by
 rcases h.live i _ aj with aa|⟨q,cur,ty,b_,aa,af⟩
 ·rw[aO] at aa;cases aa
 ·rw[aO] at aa;cases aa;exact⟨cur,ty,b_,af⟩
theorem bM.anp {i r o n:Nat}{cs l:List C}(h:bM m σ w)(aj:σ.heap.get i=some (.box cs))(aO:m.pl i=some r)(an:cut cs o n=some l):
 ∃vs:List Value,vs.length=n/\(loadCells ⟨r,o,none⟩ n).run aS w=.ok vs.toArray w/\cL (dv m) l vs:=by
 obtain⟨cur,ty,b_,aa,af,ax,a8,cy⟩:=h.box aj aO;obtain⟨rfl,hle⟩:=I9 an;obtain⟨vs,aG,aN,bo⟩:=L0 (g:=λj=>cur[j]?) a8 n o hle;exact⟨vs,aG,by rw[<-aG];exact bC.run_loadCells aa vs aN,bo⟩
theorem bM.ano {i r o:Nat}{cs:List C}{c:C}(h:bM m σ w)(aj:σ.heap.get i=some (.box cs))(aO:m.pl i=some r)(an:cs[o]?=some c):
 ∃v,(Go.load ⟨r,o,none⟩).run aS w=.ok v w/\dv m c v:=by
 obtain⟨cur,ty,b_,aa,af,ax,a8,cy⟩:=h.box aj aO;obtain⟨v,aG,aN⟩:=a8 o c an;exact⟨v,qD aa aG,aN⟩
theorem pX {l:List C}{vs:List Value}(aL:cL (dv m) l vs):∀v∈vs,(∀cs,v≠.agg cs)/\∀cs,v≠.tuple cs:=by
 intro v uy;obtain⟨i,aj⟩:=List.mem_iff_getElem?.1 uy;have:i<l.length:=by
  rw[aL.length];exact(eu.1 aj).1
 obtain⟨ej,dm,dL⟩:=aL.get (fy this);rw[aj] at dm;cases dm;exact dv.one dL
theorem bM.ax5 {i r o:Nat}{cs l:List C}{vs:List Value}(h:bM m σ w)(aj:σ.heap.get i=some (.box cs))(aO:m.pl i=some r)(hle:o+l.length<=cs.length)(aL:cL (dv m) l vs):
 ∃w',(storeCells ⟨r,o,none⟩ vs).run aS w=.ok () w'/\bM m ⟨σ.heap.put i (some (.box (rP cs o l))),σ.next⟩ w'/\hJ m σ w m ⟨σ.heap.put i (some (.box (rP cs o l))),σ.next⟩ w':=by
 obtain⟨cur,ty,b_,aa,af,ax,a8,cy,dm⟩:=h.box aj aO;have hlen:=aL.length;have fA:o+vs.length<=cur.size:=ab;have aqS:=h.alA aj aO;refine⟨_,bC.B7 vs 0 w cur aa ab af.1 (pX aL),?_⟩;refine h.change (w':=iq w r (.cells (ib cur o vs) ty b_)) (bb:=⟨σ.heap.put i (some (.box (rP cs o l))),σ.next⟩) (λj=>j=i) (Ext.refl m) ⟨rfl,rfl,rfl⟩ (Nat.le_of_eq (nw ..).symm) (λj aq=>?_) (λj b aq ah=>?_) (λj aq=>⟨bC.T.eP _ _ aq,rfl,rfl⟩)
  (λb ah aW=>⟨mg _ _ λe=>aW i _ r none rfl aj aO (e▸cy),rfl,rfl⟩) (λj k _ _ _ aq aU _ _ _ _=>aq.trans aU.symm) (λj x R aq _ fm=>.inr (.inl ⟨i,_,rfl,aj,aq▸fm⟩))
  (λb R k aU=>by rw[nw];exact h.own b R k aU) (λb R k aa af=>absurd aa af) (λb j v gj=>?_)
 ·obtain⟨aG,aN,bo,cE⟩:=h.fresh j aq;refine⟨aG,aN,bo,?_⟩;rw[bC.T.m3];split
  ·subst_vars;rw[aG] at aO;cases aO
  ·exact cE
 ·subst aq;simp only[bC.T.il] at ah;cases ah;refine .inr ⟨r,ib cur o vs,ty,b_,aO,oC _ _ aqS,by unfold oH;rw[mQ];exact af,by rw[mQ,TW hle];exact ax,λj c an=>?_,cy,dm⟩;rw[oz _ _ _ _ fA];rw[TV hle] at an;by_cases lU:o<=j/\j<o+l.length
  ·rw[if_pos lU] at an;rw[if_pos ab];exact aL.get an
  ·rw[if_neg lU] at an;rw[if_neg ab];exact a8 j c an
 ·obtain⟨h_,jm,jG,aG,aN⟩:=h.stay b j v gj;refine⟨h_,jm,jG,?_,aN⟩;rw[mg]
  ·exact aG
  ·intro e;rw[e,dm] at gj;simp at gj
def M.jE (m:M)(i r:Nat):M:=⟨λj=>if j=i then some r else m.pl j,m.bg,m.hP,m.fz,λb=>if b=r then some (r,none) else m.dy b⟩
theorem M.RU {m:M}{i r:Nat}(h:m.pl i=none):Ext m (m.jE i r):=⟨λj q aq=>by
 simp only[M.jE];split
 ·subst_vars;rw[h] at aq;cases aq
 ·exact aq,λ_ _ h=>h,λ_ _ _ _ h=>h,iA.refl _⟩
theorem M.RS {m:M}{i r:Nat}(h:m.pl i=none):jR i m (m.jE i r):=⟨M.RU h,λj aq=>by show(if j=i then _ else m.pl j)=_;rw[if_neg ab]⟩
theorem bM.adE (h:bM m σ w){cs:List C}{vs:Array Value}{ty:TypeId}(aL:cL (dv m) cs vs.toList):
 bM (m.jE σ.next w.heap.size) ⟨σ.heap.put σ.next (some (.box cs)),σ.next+1⟩ (w.alloc (.cells vs ty))/\
 hJ m σ w (m.jE σ.next w.heap.size) ⟨σ.heap.put σ.next (some (.box cs)),σ.next+1⟩ (w.alloc (.cells vs ty)):=by
 obtain⟨f1,f2,f3,f4⟩:=h.fresh σ.next (Nat.le_refl _);have e:Ext m (m.jE σ.next w.heap.size):=M.RU f1;refine h.change (λj=>j=σ.next) e ⟨rfl,rfl,rfl⟩ (by simp) (λj aq=>?_) (λj b aq ah=>?_) (λj aq=>⟨bC.T.eP _ _ aq,by simp[M.jE,aq],rfl⟩)
  (λb ah _=>⟨Below.heap_alloc _ _ _ ah,rfl,by simp[M.jE];omega⟩) (λj k _ _ _ aq aU _ _ _ _=>aq.trans aU.symm) (λj x R aq _ fm=>.inl ?_) (λb R k aU=>?_) (λb R k aU aA=>?_) (λb j v gj=>?_)
 ·have aq:σ.next+1<=j:=aq;obtain⟨aG,aN,bo,cE⟩:=h.fresh j ab;exact⟨by simp[M.jE,aG];omega,aN,bo,(bC.T.eP _ _ ab).trans cE⟩
 ·subst aq;simp only[bC.T.il] at ah;cases ah;refine .inr ⟨w.heap.size,vs,ty,(0,0),by simp[M.jE],heap_alloc_new _ _,⟨λ_ _=>by omega,Nat.le_refl _⟩,aL.length.symm▸(by simp),λj c an=>?_,by simp[M.jE],h.wQ (Nat.le_refl _)⟩;obtain⟨v,aa,af⟩:=aL.get an;exact⟨v,by simpa using aa,af.ext e⟩
 ·subst aq;simp[M.jE] at fm;omega
 ·simp only[M.jE] at aU⊢;split at aU
  ·cases aU;subst_vars;simp
  ·obtain⟨aG,aN⟩:=h.own b R k aU;have:=(h.own R R none aN).1;exact⟨by simp;omega,by rw[if_neg ab];exact aN⟩
 ·simp only[M.jE] at aU;split at aU
  ·cases aU;exact⟨σ.next,.box cs,rfl,bC.T.il ..,by simp[M.jE]⟩
  ·exact absurd aU aA
 ·obtain⟨cur,jm,b_,aG,aN⟩:=h.stay b j v gj;exact⟨cur,jm,b_,(Below.heap_alloc _ _ _ (q8 aG)).trans aG,aN⟩
def M.lN (m:M)(r:Nat)(vs:List Value):M:=⟨m.pl,m.bg,m.hP,λb=>if b=r then vs else m.fz b,m.dy⟩
theorem bM.adG (h:bM m σ w){cur:Array Value}{vs:List Value}{ty:TypeId}(aL:∀(j:Nat) v,vs[j]?=some v->cur[j]?=some v):
 Ext m (m.lN w.heap.size vs)/\bM (m.lN w.heap.size vs) σ (w.alloc (.cells cur ty))/\hJ m σ w (m.lN w.heap.size vs) σ (w.alloc (.cells cur ty)):=by
 have ai:=h.wQ (Nat.le_refl w.heap.size);have e:Ext m (m.lN w.heap.size vs):=⟨λ_ _ h=>h,λ_ _ h=>h,λ_ _ _ _ h=>h,λb j v ah=>by
  simp only[M.lN];split
  ·subst_vars;rw[ai] at ah;simp at ah
  ·exact ah⟩
 refine⟨e,h.change (λ_=>False) e ⟨rfl,rfl,rfl⟩ (by simp) h.fresh (λ_ _ aW=>aW.elim) (λ_ _=>⟨rfl,rfl,rfl⟩) (λb ah _=>⟨Below.heap_alloc _ _ _ ah,by simp[M.lN];omega,rfl⟩)
  (λ_ _ _ _ _ aW=>aW.elim) (λ_ _ _ aW=>aW.elim) (λb R k aU=>⟨by have:=(h.own b R k aU).1;simp;omega,(h.own b R k aU).2⟩) (λb R k aa af=>absurd aa af) (λb j v gj=>?_)⟩
 simp only[M.lN] at gj;split at gj
 ·subst_vars
  exact⟨cur,ty,(0,0),heap_alloc_new _ _,aL j v gj⟩
 ·obtain⟨h_,jm,b_,aG,aN⟩:=h.stay b j v gj;exact⟨h_,jm,b_,(Below.heap_alloc _ _ _ (q8 aG)).trans aG,aN⟩
theorem bM.drop (h:bM m σ w)(i:Nat):bM m ⟨σ.heap.put i none,σ.next⟩ w/\hJ m σ w m ⟨σ.heap.put i none,σ.next⟩ w:=by
 have key:∀j x,(σ.heap.put i none).get j=some x->σ.heap.get j=some x:=λj x h=>by
  rw[bC.T.m3] at h;split at h
  ·cases h
  ·exact h
 refine⟨⟨λj aq=>?_,λj b aq=>h.live j b (key j b aq),λj k bi mn r aq aU aO ay=>h.inj j k bi mn r (key _ _ aq) (key _ _ aU) aO ay,h.own,h.stay⟩,
  ⟨rfl,rfl,rfl,Nat.le_refl _,iA.refl _,λb _ bX=>⟨rfl,rfl,rfl,λ⟨R,k,j,x,aa,af,ax⟩=>bX ⟨R,k,j,x,aa,key j x af,ax⟩⟩,λ_ _ _ h=>.inl h⟩⟩
 obtain⟨aG,aN,bo,cE⟩:=h.fresh j aq;refine⟨aG,aN,bo,?_⟩;rw[bC.T.m3];split
 ·rfl
 ·exact cE
theorem bM.aoK {i r:Nat}{cs:List C}{t:dh}{x:D t}(h:bM m σ w)(aj:σ.heap.get i=some (.box cs))(aO:m.pl i=some r)(aW:mM t cs=some x):
 ∃m',jR σ.next m m'/\iz m'.fz t x r 0/\bM m' ⟨σ.heap.put i none,σ.next⟩ w/\hJ m σ w m' ⟨σ.heap.put i none,σ.next⟩ w:=by
 obtain⟨cur,ty,b_,aa,af,ax,a8,cy,dm⟩:=h.box aj aO;have e:Ext m (m.lN r cur.toList):=⟨λ_ _ h=>h,λ_ _ h=>h,λ_ _ _ _ h=>h,λb j v ah=>by
  simp only[M.lN];split
  ·subst_vars;rw[dm] at ah;simp at ah
  ·exact ah⟩
 refine⟨m.lN r cur.toList,⟨e,λ_ _=>rfl⟩,?_,?_⟩
 ·refine Rw (m:=m.lN r cur.toList) (vs:=cur.toList) aW (.LQ (by simp[ax]) λj c v an aL=>?_) λj v aL=>by simpa[M.lN] using aL
  obtain⟨ej,aG,aN⟩:=a8 j c an;rw[Array.getElem?_toList,aG] at aL;cases aL;exact aN.ext e
 ·refine h.change (λj=>j=i) e ⟨rfl,rfl,rfl⟩ (Nat.le_refl _) (λj aq=>?_) (λj b aq ah=>?_) (λj aq=>⟨bC.T.eP _ _ aq,rfl,rfl⟩)
   (λb ah aA=>⟨rfl,by simp only[M.lN];rw[if_neg];intro e;exact aA i _ r none rfl aj aO (e▸cy),rfl⟩) (λj k _ _ _ aq aU _ _ _ _=>aq.trans aU.symm) (λj x R aq ah=>?_) h.own (λb R k aa af=>absurd aa af) (λb j v gj=>?_)
  ·obtain⟨aG,aN,bo,cE⟩:=h.fresh j aq;refine⟨aG,aN,bo,?_⟩;rw[bC.T.m3];split
   ·rfl
   ·exact cE
  ·subst aq;simp only[bC.T.il] at ah;cases ah
  ·subst aq;simp only[bC.T.il] at ah;cases ah
  ·simp only[M.lN] at gj;split at gj
   ·subst_vars;exact⟨cur,ty,b_,aa,by simpa using gj⟩
   ·exact h.stay b j v gj
end
open bC (T cL iq nw mg oC ib mQ oz)
def j5 (fz:Nat->List Value):(t:List eL)->D t->List Value->Prop
 |[],_,vs=>vs=[]
 |l::t,x,vs=>∃v r,vs=v::r/\dQ fz l x.1 v/\j5 fz t x.2 r
def Cells (fz:Nat->List Value)(b o:Nat)(vs:List Value):Prop:=∀(j:Nat) v,vs[j]?=some v->(fz b)[o+j]?=some v
def jo (fz:Nat->List Value)(t:dh):List (D t)->List Value->Prop
 |[],vs=>vs=[]
 |e::l,vs=>∃v r,vs=v++r/\j5 fz t e v/\jo fz t l r
section
variable{fz oe:Nat->List Value}
theorem j5.length:∀{t:List eL}{x:D t}{vs:List Value},j5 fz t x vs->vs.length=t.length
 |[],_,_,h=>by rw[show _=[] from h];rfl
 |l::t,x,_,⟨v,r,aa,_,ax⟩=>by rw[aa,gS,j5.length ax,gS]
theorem j5.ext (e:iA fz oe):∀{t:List eL}{x:D t}{vs:List Value},j5 fz t x vs->j5 oe t x vs
 |[],_,_,h=>h
 |l::t,x,_,⟨v,r,aa,af,ax⟩=>⟨v,r,aa,af.ext e,j5.ext e ax⟩
theorem jo.ext {t:dh}(e:iA fz oe):∀{l:List (D t)}{vs:List Value},jo fz t l vs->jo oe t l vs
 |[],_,h=>h
 |x::l,_,⟨v,r,aa,af,ax⟩=>⟨v,r,aa,af.ext e,jo.ext e ax⟩
theorem jo.length {t:dh}:∀{l:List (D t)}{vs:List Value},jo fz t l vs->vs.length=l.length*t.length
 |[],_,h=>by rw[show _=[] from h];simp
 |x::l,_,⟨v,r,aa,af,ax⟩=>by rw[aa,bl,af.length,jo.length ax,gS,iR];omega
theorem jo.append {t:dh}:∀{l eC:List (D t)}{vs gi:List Value},jo fz t l vs->jo fz t eC gi->jo fz t (l++eC) (vs++gi)
 |[],_,_,_,h,h'=>by rw[show _=[] from h];exact h'
 |x::l,_,_,_,⟨v,r,aa,af,ax⟩,h'=>⟨v,r++_,by rw[aa,cO],af,jo.append ax h'⟩
theorem iz.Im {b:Nat}:∀{t:List eL}{x:D t}{o:Nat},iz fz t x b o->∃vs,j5 fz t x vs/\Cells fz b o vs
 |[],x,o,_=>⟨[],rfl,λj v h=>by simp at h⟩
 |l::t,x,o,h=>by
  simp only[iz] at h;obtain⟨⟨v,aa,af⟩,ax⟩:=h;obtain⟨vs,aG,aN⟩:=iz.Im ax;refine⟨v::vs,⟨v,vs,rfl,af,aG⟩,λj u hu=>?_⟩;cases j with
  |zero=>simp at hu;subst hu;exact aa
  |succ j=>rw[show o+(j+1)=o+1+j by omega];exact aN j u (by simpa using hu)
theorem j5.Ae {b:Nat}:∀{t:List eL}{x:D t}{o:Nat}{vs:List Value},j5 fz t x vs->Cells fz b o vs->iz fz t x b o
 |[],x,o,_,_,_=>by simp only[iz]
 |l::t,x,o,_,⟨v,r,aa,af,ax⟩,an=>by
  subst aa;simp only[iz];refine⟨⟨v,by simpa using an 0 v rfl,af⟩,j5.Ae ax λj u hu=>?_⟩;rw[show o+1+j=o+(j+1) by omega];exact an (j+1) u (by simpa using hu)
theorem alC {t:dh}{b:Nat}:∀{l:List (D t)}{o:Nat},(∀(i:Nat)(e:D t),l[i]?=some e->iz fz t e b (o+i*t.length))->∃vs,jo fz t l vs/\Cells fz b o vs
 |[],o,_=>⟨[],rfl,λj v h=>by simp at h⟩
 |x::l,o,h=>by
  obtain⟨v,aa,af⟩:=(by simpa using h 0 x rfl:iz fz t x b o).Im;obtain⟨r,aG,aN⟩:=alC (l:=l) (o:=o+t.length) λi e aj=>by
   have:=h (i+1) e (by simpa using aj);rw[iR,Nat.one_mul] at this;rw[Nat.add_assoc,Nat.add_comm t.length];exact this
  refine⟨v++r,⟨v,r,rfl,aa,aG⟩,λj u hu=>?_⟩;by_cases aq:j<v.length
  ·rw[ml aq] at hu;exact af j u hu
  ·rw[mm ab] at hu;have:=aN _ u hu;rw[aa.length] at this aq;rw[<-this];congr 1;omega
theorem jo.at_ {t:dh}{b:Nat}:∀{l:List (D t)}{o:Nat}{vs:List Value},jo fz t l vs->Cells fz b o vs->∀(i:Nat)(e:D t),l[i]?=some e->iz fz t e b (o+i*t.length)
 |[],o,_,_,_,i,e,aj=>by simp at aj
 |x::l,o,_,⟨v,r,aa,af,ax⟩,an,0,e,aj=>by
  simp at aj;subst aj aa;rw[Nat.zero_mul,cq];exact af.Ae λj u hu=>an j u (by rw[ml (eu.1 hu).1];exact hu)
 |x::l,o,_,⟨v,r,aa,af,ax⟩,an,i+1,e,aj=>by
  subst aa;have:=jo.at_ (o:=o+t.length) ax (λj u hu=>by
   have:=an (t.length+j) u (by rw[mm (by rw[af.length];omega),af.length];simpa using hu);rw[Nat.add_assoc];exact this) i e (by simpa using aj)
  rw[iR,Nat.one_mul,Nat.add_comm (i*t.length),<-Nat.add_assoc];exact this
theorem Xe {t:dh}{x:L (D t)}{v:Value}(h:dQ fz (.aR t) x v):∃A c vs,v=.slice A x.1.length c/\x.1.length<=c/\jo fz t x.1 vs/\(vs≠[]->∃b o,A=some ⟨b,o,none⟩/\Cells fz b o vs)/\(x.1≠[]->∃b o,A=some ⟨b,o,none⟩):=by
 simp only[dQ] at h;obtain⟨A,c,aa,af,ax⟩:=h;by_cases aA:x.1=[]
 ·exact⟨A,c,[],aa,af,by rw[aA];rfl,λh=>absurd rfl h,λh=>absurd aA h⟩
 ·obtain⟨b,o,aG,aN⟩:=ax aA;obtain⟨vs,bA,bI⟩:=alC aN;exact⟨A,c,vs,aa,af,bA,λ_=>⟨b,o,aG,bI⟩,λ_=>⟨b,o,aG⟩⟩
theorem Jc {t:dh}{x:L (D t)}{b o c:Nat}{vs:List Value}(aa:jo fz t x.1 vs)(af:Cells fz b o vs)(ax:x.1.length<=c):dQ fz (.aR t) x (.slice (some ⟨b,o,none⟩) x.1.length c):=by
 simp only[dQ];exact⟨_,c,rfl,ax,λ_=>⟨b,o,rfl,λi e aj=>aa.at_ af i e aj⟩⟩
theorem j5.pX:∀{t:List eL}{x:D t}{vs:List Value},j5 fz t x vs->∀v∈vs,(∀cs,v≠.agg cs)/\∀cs,v≠.tuple cs
 |[],_,vs,h,v,aL=>by rw[show vs=[] from h] at aL;simp at aL
 |l::t,x,_,⟨u,r,aa,af,ax⟩,v,aL=>by
  subst aa;rcases List.mem_cons.1 aL with rfl|aL
  ·exact dv.one (m:=⟨λ_=>none,λ_=>none,λ_ _ _=>none,fz,λ_=>none⟩) (dQ.cell af)
  ·exact j5.pX ax v aL
theorem jo.pX {t:dh}:∀{l:List (D t)}{vs:List Value},jo fz t l vs->∀v∈vs,(∀cs,v≠.agg cs)/\∀cs,v≠.tuple cs
 |[],vs,h,v,aL=>by rw[show vs=[] from h] at aL;simp at aL
 |x::l,_,⟨u,r,aa,af,ax⟩,v,aL=>by
  subst aa;rcases List.mem_append.1 aL with aL|aL
  ·exact af.pX v aL
  ·exact jo.pX ax v aL
theorem Zd {m:M}:∀{t:dh}{cs:List C}{vs:List Value}{x:D t},mM t cs=some x->cL (dv m) cs vs->j5 m.fz t x vs
 |[],[],[],x,h,_=>rfl
 |[],[],v::vs,x,h,an=>an.elim
 |[],c::cs,vs,x,h,_=>by rw[I_] at h;cases h
 |l::t,[],vs,x,h,_=>by rw[CV] at h;cases h
 |l::t,c::cs,[],x,h,an=>an.elim
 |l::t,c::cs,v::vs,x,h,an=>by
  obtain⟨aa,af⟩:=CU h;exact⟨v,vs,rfl,CT aa an.1,Zd af an.2⟩
end
def M.eE (m:M)(i:Nat)(r:Option Nat)(v:Value)(fz:Nat->List Value)(dy:Nat->Option (Nat×Option Nat)):M:=⟨λj=>if j=i then r else m.pl j,λj=>if j=i then some v else m.bg j,m.hP,fz,dy⟩
theorem M.C6 {m:M}{i:Nat}{r:Option Nat}{v:Value}{fz:Nat->List Value}{dy:Nat->Option (Nat×Option Nat)}(h:m.pl i=none)(h':m.bg i=none)(ai:iA m.fz fz):Ext m (m.eE i r v fz dy):=⟨λj q aq=>by
 simp only[M.eE];split
 ·subst_vars;rw[h] at aq;cases aq
 ·exact aq,λj q aq=>by
 simp only[M.eE];split
 ·subst_vars;rw[h'] at aq;cases aq
 ·exact aq,λ_ _ _ _ h=>h,ai⟩
section
variable{aS:Program}{w:World}{m:M}{σ:bV}
theorem bM.Tz (h:bM m σ w)(t:dh):jR σ.next m (m.eE σ.next none (.slice none 0 0) m.fz m.dy)/\bM (m.eE σ.next none (.slice none 0 0) m.fz m.dy) ⟨σ.heap.put σ.next (some (.bG t)),σ.next+1⟩ w/\
 hJ m σ w (m.eE σ.next none (.slice none 0 0) m.fz m.dy) ⟨σ.heap.put σ.next (some (.bG t)),σ.next+1⟩ w:=by
 obtain⟨f1,f2,f3,f4⟩:=h.fresh σ.next (Nat.le_refl _);have e:Ext m (m.eE σ.next none (.slice none 0 0) m.fz m.dy):=M.C6 f1 f2 (iA.refl _);refine⟨⟨e,λi aj=>by show(if i=σ.next then _ else m.pl i)=_;rw[if_neg ab]⟩,h.change (λj=>j=σ.next) e ⟨rfl,rfl,rfl⟩ (Nat.le_refl _) (λj aq=>?_) (λj b aq ah=>?_) (λj aq=>⟨bC.T.eP _ _ aq,by simp[M.eE,aq],rfl⟩)
  (λb ah _=>⟨rfl,rfl,rfl⟩) (λj k _ _ _ aq aU _ _ _ _=>aq.trans aU.symm) (λj x R aq _ fm=>?_) h.own (λb R k aa af=>absurd aa af) h.stay⟩
 ·have aq:σ.next+1<=j:=aq;obtain⟨aG,aN,bo,cE⟩:=h.fresh j ab;exact⟨by simp[M.eE,aG],by simp[M.eE,aN];omega,bo,(bC.T.eP _ _ ab).trans cE⟩
 ·subst aq;simp only[bC.T.il] at ah;cases ah;exact⟨none,0,0,by simp[M.eE],Nat.le_refl _,.inl ⟨rfl,rfl,by simp[M.eE]⟩⟩
 ·subst aq;simp[M.eE] at fm
theorem bM.ash (h:bM m σ w){k r len c:Nat}{t:dh}{cur:Array Value}{ty:TypeId}{b_ jG:Nat×Nat}(aU:σ.heap.get k=some (.bG t))(fM:m.bg k=some (.slice (some ⟨r,0,none⟩) len c))(hw:w.heap[r]?=some (.cells cur ty b_))(sk:oH cur b_->oH cur jG):jR σ.next m m/\bM m σ (iq w r (.cells cur ty jG))/\hJ m σ w m σ (iq w r (.cells cur ty jG)):=by
 obtain⟨A,cv,c',aa,af,ax⟩:=h.live k _ aU;rw[fM] at aa;cases aa;rcases ax with⟨ax,_⟩|⟨mE,n9,mh,Jr,ax,a8,cy,dm,dL,dY,fa,gJ⟩
 ·cases ax
 cases ax;rw[hw] at cy;cases cy;have bn:r<w.heap.size:=(n7.1 hw).1;refine⟨jR.refl _ m,h.change (m':=m) (bb:=σ) (λj=>j=k) (Ext.refl m) ⟨rfl,rfl,rfl⟩ (by rw[nw];exact Nat.le_refl _) (λj aq=>h.fresh j aq) (λj b aq ah=>?_) (λj aq=>⟨rfl,rfl,rfl⟩)
  (λb ah aW=>⟨mg _ _ λq=>?_,rfl,rfl⟩) (λj k _ _ _ aq aU _ _ _ _=>aq.trans aU.symm) (λj x R aq _ fm=>.inr (.inl ⟨k,_,rfl,aU,aq▸fm⟩)) (λb R k aa=>by rw[nw];exact h.own b R k aa) (λb R k aa af=>absurd aa af) (λb j v aL=>?_)⟩
 ·subst aq;rw[aU] at ah;cases ah;exact⟨_,_,_,fM,af,.inr ⟨r,cur,ty,jG,rfl,a8,oC _ _ bn,sk dm,dL,dY,fa,gJ⟩⟩
 ·subst q;exact aW k _ b none rfl aU a8 fa
 ·obtain⟨anY,Ij,aoJ,aG,aN⟩:=h.stay b j v aL;by_cases vu:b=r
  ·subst vu;rw[hw] at aG;cases aG;exact⟨cur,ty,jG,oC _ _ bn,aN⟩
  ·exact⟨anY,Ij,aoJ,(mg _ _ vu).trans aG,aN⟩
theorem bM.ao4 (h:bM m σ w){k r len c:Nat}{t:dh}{vs:List Value}{n:Nat}(aU:σ.heap.get k=some (.bG t))(fM:m.bg k=some (.slice (some ⟨r,0,none⟩) len c))(aA:vs.length=n*t.length)(hle:len+n<=c)(bX:∀v∈vs,(∀cs,v≠.agg cs)/\∀cs,v≠.tuple cs):
 ∃m' w',(storeCells ⟨r,len*t.length,none⟩ vs).run aS w=.ok () w'/\jR σ.next m m'/\bM m' ⟨(σ.heap.put k none).put σ.next (some (.bG t)),σ.next+1⟩ w'/\hJ m σ w m' ⟨(σ.heap.put k none).put σ.next (some (.bG t)),σ.next+1⟩ w'/\
  m'.bg σ.next=some (.slice (some ⟨r,0,none⟩) (len+n) c)/\Cells m'.fz r (len*t.length) vs:=by
 obtain⟨f1,f2,f3,f4⟩:=h.fresh σ.next (Nat.le_refl _);obtain⟨A,cv,c',aa,af,ax⟩:=h.live k _ aU;rw[fM] at aa;cases aa;rcases ax with⟨ax,_⟩|⟨q,cur,ty,b_,ax,a8,cy,dm,dL,dY,fa,gJ⟩
 ·cases ax
 cases ax;have bn:=q8 cy;have fA:len*t.length+vs.length<=cur.size:=by
  have:(len+n)*t.length<=c*t.length:=nk _ hle;rw[iR] at this;omega
 have sr:k≠σ.next:=λe=>by rw[e,f1] at a8;cases a8
 have e:Ext m (m.eE σ.next (some r) (.slice (some ⟨r,0,none⟩) (len+n) c) (λb=>if b=r then m.fz r++vs else m.fz b) m.dy):=M.C6 f1 f2 λb j v aL=>by
  by_cases ah:b=r
  ·subst ah;simp only[if_true];rw[ml (eu.1 aL).1];exact aL
  ·rw[if_neg ah];exact aL
 refine⟨_,iq w r (.cells (ib cur (len*t.length) vs) ty b_),bC.B7 vs 0 w cur cy ab dm.1 bX,⟨e,λi aj=>by show(if i=σ.next then _ else m.pl i)=_;rw[if_neg ab]⟩,?_⟩;have key:=h.change (m':=m.eE σ.next (some r) (.slice (some ⟨r,0,none⟩) (len+n) c) (λb=>if b=r then m.fz r++vs else m.fz b) m.dy)
  (bb:=⟨(σ.heap.put k none).put σ.next (some (.bG t)),σ.next+1⟩) (w':=iq w r (.cells (ib cur (len*t.length) vs) ty b_)) (λj=>j=σ.next\/j=k) e ⟨rfl,rfl,rfl⟩ (Nat.le_of_eq (nw ..).symm) (λj aq=>?_) (λj b aq ah=>?_)
  (λj aq=>⟨?_,by simp[M.eE,(not_or.1 aq).1],rfl⟩) (λb ah aW=>?_) (λj l _ _ _ aq aZ ma tn _ _=>?_) (λj x R aq ah fm=>?_) (λb R cv pN=>by rw[nw];exact h.own b R cv pN) (λb R k aa af=>absurd aa af) (λb j v gj=>?_)
 ·refine⟨key.1,key.2,by simp[M.eE],λj v aL=>?_⟩;simp only[M.eE,if_true];rw[mm (by rw[dY];omega),dY,Nat.add_sub_cancel_left];exact aL
 ·have aq:σ.next+1<=j:=aq;obtain⟨aG,aN,bo,cE⟩:=h.fresh j ab;refine⟨by simp[M.eE,aG];omega,by simp[M.eE,aN];omega,bo,?_⟩;simp only
  rw[bC.T.eP _ _ ab,bC.T.m3];split
  ·rfl
  ·exact cE
 ·by_cases m6:j=σ.next
  ·subst m6;simp only[bC.T.il] at ah;cases ah;exact⟨_,_,c,by simp[M.eE],hle,.inr ⟨r,_,ty,b_,rfl,by simp[M.eE],oC _ _ bn,by unfold oH;rw[mQ];exact dm,by rw[mQ];exact dL,
    by simp[M.eE,dY,aA,iR],fa,gJ⟩⟩
  ·have so:j=k:=aq.resolve_left m6;subst so;simp only at ah;rw[bC.T.eP _ _ m6,bC.T.il] at ah;cases ah
 ·have:=not_or.1 aq;simp only
  rw[bC.T.eP _ _ this.1,bC.T.eP _ _ this.2]
 ·have vu:b≠r:=λe=>aW k _ r none (.inr rfl) aU a8 (e▸fa);exact⟨mg _ _ vu,by simp[M.eE,vu],rfl⟩
 ·have dead:∀x,((σ.heap.put k none).put σ.next (some (B.bG t))).get k≠some x:=λx aW=>by
   rw[bC.T.eP _ _ sr,bC.T.il] at aW;cases aW
  rcases aq with aq|aq
  ·rcases aZ with aZ|aZ
   ·rw[aq,aZ]
   ·subst aZ;exact absurd tn (dead _)
  ·subst aq;exact absurd ma (dead _)
 ·rcases aq with aq|aq
  ·subst aq;simp[M.eE] at fm;subst fm;exact .inr (.inl ⟨k,_,.inr rfl,aU,a8⟩)
  ·subst aq;simp only at ah;rw[bC.T.eP _ _ sr,bC.T.il] at ah;cases ah
 ·simp only[M.eE] at gj;split at gj
  ·subst_vars
   refine⟨_,ty,b_,oC _ _ bn,?_⟩;rw[oz _ _ _ _ fA];by_cases aq:j<len*t.length
   ·rw[if_neg ab];rw[ml ab] at gj;obtain⟨h_,jm,jG,aG,aN⟩:=h.stay _ j v gj;rw[cy] at aG;cases aG;exact aN
   ·rw[mm ab,dY] at gj;have:=(eu.1 gj).1;rw[if_pos ab];exact gj
  ·rename_i ah;rw[mg _ _ ah];exact h.stay b j v gj
theorem bM.adH (h:bM m σ w){t:dh}{vs:List Value}{n c:Nat}{cur:Array Value}{ty:TypeId}(aA:vs.length=n*t.length)(hle:n<=c)(an:c*t.length<=cur.size)(aL:∀(j:Nat) v,vs[j]?=some v->cur[j]?=some v):
 ∃m',jR σ.next m m'/\bM m' ⟨σ.heap.put σ.next (some (.bG t)),σ.next+1⟩ (w.alloc (.cells cur ty))/\hJ m σ w m' ⟨σ.heap.put σ.next (some (.bG t)),σ.next+1⟩ (w.alloc (.cells cur ty))/\
  m'.bg σ.next=some (.slice (some ⟨w.heap.size,0,none⟩) n c)/\Cells m'.fz w.heap.size 0 vs:=by
 obtain⟨f1,f2,f3,f4⟩:=h.fresh σ.next (Nat.le_refl _);have ai:=h.wQ (Nat.le_refl w.heap.size);have e:Ext m (m.eE σ.next (some w.heap.size) (.slice (some ⟨w.heap.size,0,none⟩) n c) (λb=>if b=w.heap.size then vs else m.fz b) (λb=>if b=w.heap.size then some (w.heap.size,none) else m.dy b)):=M.C6 f1 f2 λb j v ah=>by
  by_cases he:b=w.heap.size
  ·subst he;rw[ai] at ah;simp at ah
  ·rw[if_neg he];exact ah
 have key:=h.change (m':=m.eE σ.next (some w.heap.size) (.slice (some ⟨w.heap.size,0,none⟩) n c) (λb=>if b=w.heap.size then vs else m.fz b) (λb=>if b=w.heap.size then some (w.heap.size,none) else m.dy b))
  (bb:=⟨σ.heap.put σ.next (some (.bG t)),σ.next+1⟩) (w':=w.alloc (.cells cur ty)) (λj=>j=σ.next) e ⟨rfl,rfl,rfl⟩ (by simp) (λj aq=>?_) (λj b aq ah=>?_) (λj aq=>⟨bC.T.eP _ _ aq,by simp[M.eE,aq],rfl⟩)
  (λb ah _=>⟨Below.heap_alloc _ _ _ ah,by simp[M.eE];omega,by simp[M.eE];omega⟩) (λj k _ _ _ aq aU _ _ _ _=>aq.trans aU.symm) (λj x R aq _ fm=>?_) (λb R k aU=>?_) (λb R k aU aA=>?_) (λb j v gj=>?_)
 ·exact⟨_,⟨e,λi aj=>by show(if i=σ.next then _ else m.pl i)=_;rw[if_neg ab]⟩,key.1,key.2,by simp[M.eE],λj v aq=>by simpa[M.eE] using aq⟩
 ·have aq:σ.next+1<=j:=aq;obtain⟨aG,aN,bo,cE⟩:=h.fresh j ab;exact⟨by simp[M.eE,aG];omega,by simp[M.eE,aN];omega,bo,(bC.T.eP _ _ ab).trans cE⟩
 ·subst aq;simp only[bC.T.il] at ah;cases ah;refine⟨_,n,c,by simp[M.eE],hle,.inr ⟨w.heap.size,cur,ty,(0,0),rfl,by simp[M.eE],heap_alloc_new _ _,⟨λ_ _=>by omega,Nat.le_refl _⟩,an,by simp[M.eE,aA],by simp[M.eE],λb k ah=>?_⟩⟩;simp only[M.eE] at ah;split at ah
  ·assumption
  ·have:=(h.own b _ k ah).2;have:=(h.own _ _ _ this).1;omega
 ·subst aq;simp[M.eE] at fm;exact .inl ab
 ·simp only[M.eE] at aU⊢;split at aU
  ·cases aU;subst_vars;simp
  ·obtain⟨aG,aN⟩:=h.own b R k aU;have:=(h.own R R none aN).1;exact⟨by simp;omega,by rw[if_neg ab];exact aN⟩
 ·simp only[M.eE] at aU;split at aU
  ·cases aU;exact⟨σ.next,.bG t,rfl,bC.T.il ..,by simp[M.eE]⟩
  ·exact absurd aU aA
 ·simp only[M.eE] at gj;split at gj
  ·subst_vars
   exact⟨cur,ty,(0,0),heap_alloc_new _ _,aL j v gj⟩
  ·obtain⟨h_,jm,b_,aG,aN⟩:=h.stay b j v gj;exact⟨h_,jm,b_,(Below.heap_alloc _ _ _ (q8 aG)).trans aG,aN⟩
end
theorem Zb {l:eL}(x:nA l):s_ l (pH l x)=some x:=by
 cases l with
 |int k=>simp[s_,pH]
 |bool=>rfl
 |str=>rfl
 |aR t=>
  have:kB t t=true:=by
   have both:(∀l:eL,lg l l=true)/\(∀t:List eL,kB t t=true):=by
    refine⟨λl=>?_,λt=>?_⟩
    ·exact eL.rec (motive_1:=λl=>lg l l=true) (motive_2:=λt=>kB t t=true) (λk=>by simp[lg]) (by simp[lg]) (by simp[lg]) (λt cj=>by simp only[lg];exact cj) (by simp[kB]) (λl t aa af=>by simp only[kB,aa,af]) l
    ·exact eL.rec_1 (motive_1:=λl=>lg l l=true) (motive_2:=λt=>kB t t=true) (λk=>by simp[lg]) (by simp[lg]) (by simp[lg]) (λt cj=>by simp only[lg];exact cj) (by simp[kB]) (λl t aa af=>by simp only[kB,aa,af]) t
   exact both.2 t
  simp[s_,pH,this]
section
variable{m m':M}{h h':Array Obj}{r n:Nat}{bX gu:Option (Nat×Nat)}{cur h_:Array Value}{base:Nat}
theorem oN.RB {hole:Prop}{ap:Bool}{o:Nat}{l:eL}{x:nA l}{v:Value}(aZ:oN m h r hole ap o l x v)(aA:¬hole):dQ m.fz l x v:=by
 cases l with
 |aR t=>exact(aZ aA).1
 |int k=>exact aZ
 |bool=>exact aZ
 |str=>exact aZ
theorem oN.of {hole:Prop}{o:Nat}{l:eL}{x:nA l}{v:Value}(aZ:dQ m.fz l x v):oN m h r hole false o l x v:=by
 cases l with
 |aR t=>exactλ_=>⟨aZ,λq=>by cases q⟩
 |int k=>exact aZ
 |bool=>exact aZ
 |str=>exact aZ
theorem oN.aaZ {hole aaY:Prop}{ap:Bool}{o:Nat}{l:eL}{x:nA l}{v:Value}(aZ:oN m h r hole ap o l x v)(fM:hole->aaY):oN m h r aaY ap o l x v:=by
 cases l with
 |aR t=>exactλaA=>aZ λq=>aA (fM q)
 |int k=>exact aZ
 |bool=>exact aZ
 |str=>exact aZ
theorem gP.cell:∀{t:List eL}{a1:List Bool}{x:D t}{f:Nat},gP m h r bX n cur base t a1 x f->∀(j:Nat) c,(lA t x)[j]?=some c->bX≠some (n,f+j)->∃v,cur[base+(f+j)]?=some v/\dv m c v
 |[],_,_,_,_,j,c,aq,_=>by rw[Zr] at aq;simp at aq
 |l::t,a1,x,f,⟨⟨v,aa,af⟩,_⟩,0,c,aq,aA=>by
  rw[uk] at aq;simp at aq;subst aq;exact⟨v,aa,(af.RB aA).cell⟩
 |l::t,a1,x,f,⟨_,ax⟩,j+1,c,aq,aA=>by
  rw[uk] at aq;obtain⟨v,aG,aN⟩:=gP.cell ax j c (by simpa using aq) (by rw[show f+1+j=f+(j+1) by omega];exact aA);exact⟨v,by rw[<-aG];congr 1;omega,aN⟩
theorem gP.CP:∀{t:List eL}{a1:List Bool}{x:D t}{f:Nat},gP m h r bX n cur base t a1 x f->(∀j,f<=j->j<f+t.length->h_[base+j]?=cur[base+j]?)->(∀j,bX=some (n,j)->gu=some (n,j))->gP m h r gu n h_ base t a1 x f
 |[],_,_,_,_,_,_=>trivial
 |l::t,a1,x,f,⟨⟨v,aa,af⟩,ax⟩,an,fM=>⟨⟨v,(an f (Nat.le_refl _) (by simp)).trans aa,af.aaZ (fM f)⟩,gP.CP ax (λj aa af=>an j ab (by simp at af⊢;omega)) fM⟩
theorem Dp (a1:List Bool):a1.headD false=a1[0]?.getD false:=by cases a1<;>simp
theorem Ih (a1:List Bool)(i:Nat):a1.tail[i]?.getD false=a1[i+1]?.getD false:=by cases a1<;>simp
theorem gP.lH:∀{t:List eL}{a1:List Bool}{x jn:D t}{f:Nat}{XC:List C},gP m h r bX n cur base t a1 x f->mM t XC=some jn->
 (∀i c,XC[i]?=some c->((lA t x)[i]?=some c/\h_[base+(f+i)]?=cur[base+(f+i)]?/\(bX=some (n,f+i)->gu=some (n,f+i)))\/
  (∃v,h_[base+(f+i)]?=some v/\∀(l:eL)(y:nA l),t[i]?=some l->s_ l c=some y->oN m h r (gu=some (n,f+i)) (a1[i]?.getD false) (base+(f+i)) l y v))->gP m h r gu n h_ base t a1 jn f
 |[],_,_,_,_,_,_,_,_=>trivial
 |l::t,a1,x,jn,f,[],_,bg,_=>by rw[CV] at bg;cases bg
 |l::t,a1,x,jn,f,c::XC,⟨⟨v,aa,af⟩,ax⟩,bg,ai=>by
  obtain⟨d1,d2⟩:=CU bg;refine⟨?_,gP.lH ax d2 λi c' kS=>?_⟩
  ·rcases ai 0 c rfl with⟨bA,bI,c9⟩|⟨u,bA,bI⟩
   ·rw[uk] at bA;simp at bA;subst bA;rw[Zb] at d1;have:jn.1=x.1:=by injection d1 with d1;exact d1.symm
    rw[this];exact⟨v,bI.trans aa,af.aaZ c9⟩
   ·exact⟨u,bA,by rw[Dp];exact bI l jn.1 rfl d1⟩
  ·have:=ai (i+1) c' (by simpa using kS);rw[show f+(i+1)=f+1+i by omega] at this;rcases this with⟨bA,bI,c9⟩|⟨u,bA,bI⟩
   ·rw[uk] at bA;exact .inl ⟨by simpa using bA,bI,c9⟩
   ·exact .inr ⟨u,bA,λeC y aZ b7=>by rw[Ih];exact bI eC y (by simpa using aZ) b7⟩
def oO (fz:Nat->List Value):(t:List eL)->List Bool->D t->List Value->Prop
 |[],_,_,vs=>vs=[]
 |l::t,a1,x,vs=>∃v q,vs=v::q/\dQ fz l x.1 v/\(a1.headD false=true->∀t',l=.aR t'->v=.slice none 0 0)/\oO fz t a1.tail x.2 q
def j6 (fz:Nat->List Value)(t:dh)(a1:List Bool):List (D t)->List Value->Prop
 |[],vs=>vs=[]
 |e::l,vs=>∃v q,vs=v++q/\oO fz t a1 e v/\j6 fz t a1 l q
theorem oO.length {fz:Nat->List Value}:∀{t:List eL}{a1:List Bool}{x:D t}{vs:List Value},oO fz t a1 x vs->vs.length=t.length
 |[],_,_,_,h=>by rw[show _=[] from h];rfl
 |l::t,a1,x,_,⟨v,r,aa,_,_,ax⟩=>by rw[aa,gS,oO.length ax,gS]
theorem oO.pX {fz:Nat->List Value}:∀{t:List eL}{a1:List Bool}{x:D t}{vs:List Value},oO fz t a1 x vs->∀v∈vs,(∀cs,v≠.agg cs)/\∀cs,v≠.tuple cs
 |[],_,_,vs,h,v,aL=>by rw[show vs=[] from h] at aL;simp at aL
 |l::t,a1,x,_,⟨u,r,aa,af,_,ax⟩,v,aL=>by
  subst aa;rcases List.mem_cons.1 aL with rfl|aL
  ·exact dv.one (m:=⟨λ_=>none,λ_=>none,λ_ _ _=>none,fz,λ_=>none⟩) (dQ.cell af)
  ·exact oO.pX ax v aL
theorem j6.length {fz:Nat->List Value}{t:dh}{a1:List Bool}:∀{l:List (D t)}{vs:List Value},j6 fz t a1 l vs->vs.length=l.length*t.length
 |[],_,h=>by rw[show _=[] from h];simp
 |x::l,_,⟨v,r,aa,af,ax⟩=>by rw[aa,bl,af.length,j6.length ax,gS,iR];omega
theorem j6.pX {fz:Nat->List Value}{t:dh}{a1:List Bool}:∀{l:List (D t)}{vs:List Value},j6 fz t a1 l vs->∀v∈vs,(∀cs,v≠.agg cs)/\∀cs,v≠.tuple cs
 |[],vs,h,v,aL=>by rw[show vs=[] from h] at aL;simp at aL
 |x::l,_,⟨u,r,aa,af,ax⟩,v,aL=>by
  subst aa;rcases List.mem_append.1 aL with aL|aL
  ·exact af.pX v aL
  ·exact j6.pX ax v aL
theorem oO.ext {fz oe:Nat->List Value}(e:iA fz oe):∀{t:List eL}{a1:List Bool}{x:D t}{vs:List Value},oO fz t a1 x vs->oO oe t a1 x vs
 |[],_,_,_,h=>h
 |l::t,a1,x,_,⟨v,r,aa,af,ax,a8⟩=>⟨v,r,aa,af.ext e,ax,oO.ext e a8⟩
theorem j5.ama {fz:Nat->List Value}:∀{t:List eL}{a1:List Bool}{x:D t}{vs:List Value},j5 fz t x vs->(∀i:Nat,a1[i]?.getD false=false)->oO fz t a1 x vs
 |[],_,_,_,h,_=>h
 |l::t,a1,x,_,⟨v,r,aa,af,ax⟩,cf=>⟨v,r,aa,af,(λq=>by rw[Dp,cf] at q;cases q),j5.ama ax λi=>by rw[Ih];exact cf _⟩
theorem j6.afW {fz:Nat->List Value}{t:dh}{a1:List Bool}(cf:∀i:Nat,a1[i]?.getD false=false):∀{l:List (D t)}{vs:List Value},jo fz t l vs->j6 fz t a1 l vs
 |[],_,h=>h
 |x::l,_,⟨v,r,aa,af,ax⟩=>⟨v,r,aa,af.ama cf,j6.afW cf ax⟩
theorem j6.ext {fz oe:Nat->List Value}{t:dh}{a1:List Bool}(e:iA fz oe):∀{l:List (D t)}{vs:List Value},j6 fz t a1 l vs->j6 oe t a1 l vs
 |[],_,h=>h
 |x::l,_,⟨v,r,aa,af,ax⟩=>⟨v,r,aa,af.ext e,j6.ext e ax⟩
theorem oO.zJ:∀{t:List eL}{a1:List Bool}{x:D t}{f:Nat}{vs:List Value},oO m.fz t a1 x vs->(∀(j:Nat) v,vs[j]?=some v->cur[base+(f+j)]?=some v)->gP m h r none n cur base t a1 x f
 |[],_,_,_,_,_,_=>trivial
 |l::t,a1,x,f,_,⟨v,q,aa,af,ax,a8⟩,an=>by
  subst aa;refine⟨⟨v,by simpa using an 0 v rfl,?_⟩,a8.zJ λj u hu=>?_⟩
  ·cases l with
   |aR t'=>exactλ_=>⟨af,λcf=>⟨none,0,0,ax cf t' rfl,Nat.le_refl _,.inl ⟨rfl,rfl⟩⟩⟩
   |int k=>exact af
   |bool=>exact af
   |str=>exact af
  ·rw[show base+(f+1+j)=base+(f+(j+1)) by omega];exact an (j+1) u (by simpa using hu)
theorem j6.zJ {t:dh}{a1:List Bool}:∀{l:List (D t)}{vs:List Value}{o:Nat},j6 m.fz t a1 l vs->(∀(j:Nat) v,vs[j]?=some v->cur[o+j]?=some v)->∀(i:Nat)(e:D t),l[i]?=some e->∀n,gP m h r none n cur (o+i*t.length) t a1 e 0
 |[],_,_,_,_,i,e,aj,n=>by simp at aj
 |x::l,_,o,⟨v,q,aa,af,ax⟩,an,0,e,aj,n=>by
  simp at aj;subst aj aa;rw[Nat.zero_mul,cq];refine af.zJ λj u hu=>?_;rw[fW];exact an j u (by rw[ml (eu.1 hu).1];exact hu)
 |x::l,_,o,⟨v,q,aa,af,ax⟩,an,i+1,e,aj,n=>by
  subst aa;have:=j6.zJ (o:=o+t.length) ax (λj u hu=>by
   have:=an (t.length+j) u (by rw[mm (by rw[af.length];omega),af.length];simpa using hu);rw[Nat.add_assoc];exact this) i e (by simpa using aj) n
  rw[iR,Nat.one_mul,Nat.add_comm (i*t.length),<-Nat.add_assoc];exact this
end
open bC (T cL iq nw mg oC ib mQ oz qD)
def snap (cur:Array Value)(a1:List Bool)(sz len o:Nat):Option Value:=if a1[o%sz]?=some true/\o/sz<len then cur[o]? else none
theorem Qk {cur:Array Value}{a1:List Bool}{sz len o:Nat}{v:Value}:snap cur a1 sz len o=some v↔cur[o]?=some v/\a1[o%sz]?=some true/\o/sz<len:=by
 unfold snap;split
 ·rename_i h;exact⟨λq=>⟨q,h⟩,λq=>q.1⟩
 ·rename_i h;exact⟨(λq=>by cases q),λq=>absurd q.2 h⟩
def M.gf (m:M)(i:Nat)(r:Option Nat)(v:Value)(s:Nat->Option Value)(dy:Nat->Option (Nat×Option Nat)):M:=⟨λj=>if j=i then r else m.pl j,λj=>if j=i then some v else m.bg j,λj k o=>if j=i/\k=0 then s o else m.hP j k o,m.fz,dy⟩
theorem M.RT {m:M}{i:Nat}{r:Option Nat}{v:Value}{s:Nat->Option Value}{dy:Nat->Option (Nat×Option Nat)}(h:m.pl i=none)(h':m.bg i=none)(ao7:∀k o,m.hP i k o=none):Ext m (m.gf i r v s dy):=
 ⟨λj q aq=>by
  simp only[M.gf];split
  ·subst_vars;rw[h] at aq;cases aq
  ·exact aq,λj q aq=>by
  simp only[M.gf];split
  ·subst_vars;rw[h'] at aq;cases aq
  ·exact aq,λj k o q aq=>by
  simp only[M.gf];split
  ·rename_i he;rw[he.1,ao7] at aq;cases aq
  ·exact aq,iA.refl _⟩
theorem T.E5 {α:Type}(t:T α){k n:Nat}(x:Option α)(h:k≠n):((t.put k none).put n x).get k=none:=by rw[bC.T.eP _ _ h,bC.T.il]
section
variable{aS:Program}{w:World}{m:M}{σ:bV}
theorem bM.Tw (h:bM m σ w){t:dh}{a1:List Bool}{l:L (D t)}{vs:List Value}{c:Nat}{cur:Array Value}{ty:TypeId}(b_:Nat×Nat)(sk:oH cur b_)(aL:j6 m.fz t a1 l.1 vs)(hle:l.1.length<=c)(an:c*t.length<=cur.size)(Sk:∀(j:Nat) v,vs[j]?=some v->cur[j]?=some v):
 ∃m',jR σ.next m m'/\bM m' ⟨σ.heap.put σ.next (some (.arr t a1 l none 0)),σ.next+1⟩ (w.alloc (.cells cur ty b_))/\hJ m σ w m' ⟨σ.heap.put σ.next (some (.arr t a1 l none 0)),σ.next+1⟩ (w.alloc (.cells cur ty b_))/\
  m'.bg σ.next=some (.slice (some ⟨w.heap.size,0,none⟩) l.1.length c):=by
 obtain⟨f1,f2,f3,f4⟩:=h.fresh σ.next (Nat.le_refl _);have e:Ext m (m.gf σ.next (some w.heap.size) (.slice (some ⟨w.heap.size,0,none⟩) l.1.length c) (snap cur a1 t.length l.1.length) (λb=>if b=w.heap.size then some (w.heap.size,none) else m.dy b)):=M.RT f1 f2 f3;have key:=h.change (m':=m.gf σ.next (some w.heap.size) (.slice (some ⟨w.heap.size,0,none⟩) l.1.length c) (snap cur a1 t.length l.1.length) (λb=>if b=w.heap.size then some (w.heap.size,none) else m.dy b))
  (bb:=⟨σ.heap.put σ.next (some (.arr t a1 l none 0)),σ.next+1⟩) (w':=w.alloc (.cells cur ty b_)) (λj=>j=σ.next) e ⟨rfl,rfl,rfl⟩ (by simp) (λj aq=>?_) (λj b aq ah=>?_) (λj aq=>⟨bC.T.eP _ _ aq,by simp[M.gf,aq],by funext k o;simp[M.gf,aq]⟩)
  (λb ah _=>⟨Below.heap_alloc _ _ _ ah,rfl,by simp[M.gf];omega⟩) (λj k _ _ _ aq aU _ _ _ _=>aq.trans aU.symm) (λj x R aq _ fm=>?_) (λb R k aU=>?_) (λb R k aU aA=>?_) (λb j v gj=>?_)
 ·exact⟨_,⟨e,λi aj=>by show(if i=σ.next then _ else m.pl i)=_;rw[if_neg ab]⟩,key.1,key.2,by simp[M.gf]⟩
 ·have aq:σ.next+1<=j:=aq;obtain⟨aG,aN,bo,cE⟩:=h.fresh j ab;exact⟨by simp[M.gf,aG];omega,by simp[M.gf,aN];omega,λk o=>by simp[M.gf,bo];omega,(bC.T.eP _ _ ab).trans cE⟩
 ·subst aq;simp only[bC.T.il] at ah;cases ah;refine⟨_,c,by simp[M.gf],hle,λk aU o=>?_,.inr ⟨w.heap.size,cur,ty,b_,rfl,by simp[M.gf],heap_alloc_new _ _,sk,an,by simp[M.gf],h.wQ (Nat.le_refl _),λn x aW=>?_,λo v=>?_⟩⟩
  ·simp only[M.gf];rw[if_neg ab];exact f3 k o
  ·have:=j6.zJ (m:=m.gf σ.next (some w.heap.size) (.slice (some ⟨w.heap.size,0,none⟩) l.1.length c) (snap cur a1 t.length l.1.length) (λb=>if b=w.heap.size then some (w.heap.size,none) else m.dy b))
    (h:=(w.alloc (.cells cur ty b_)).heap) (r:=w.heap.size) (cur:=cur) (o:=0) aL (λj v aq=>by rw[fW];exact Sk j v aq) n x aW n
   rwa [fW] at this
  ·simp only[M.gf,if_true,and_self];exact Qk
 ·subst aq;simp[M.gf] at fm;exact .inl ab
 ·simp only[M.gf] at aU⊢;split at aU
  ·cases aU;subst_vars;simp
  ·obtain⟨aG,aN⟩:=h.own b R k aU;have:=(h.own R R none aN).1;exact⟨by simp;omega,by rw[if_neg ab];exact aN⟩
 ·simp only[M.gf] at aU;split at aU
  ·cases aU;exact⟨σ.next,.arr t a1 l none 0,rfl,bC.T.il ..,by simp[M.gf]⟩
  ·exact absurd aU aA
 ·obtain⟨h_,jm,jG,aG,aN⟩:=h.stay b j v gj;exact⟨h_,jm,jG,(Below.heap_alloc _ _ _ (q8 aG)).trans aG,aN⟩
theorem bM.arr {i r:Nat}{t:dh}{a1:List Bool}{l:L (D t)}{bX:Option (Nat×Nat)}{c7 k c:Nat}(h:bM m σ w)(aj:σ.heap.get i=some (.arr t a1 l bX c7))(fM:m.bg i=some (.slice (some ⟨r,0,none⟩) k c)):
 k=l.1.length/\k<=c/\(∀k,c7<k->∀o,m.hP i k o=none)/\∃cur ty b_,m.pl i=some r/\w.heap[r]?=some (.cells cur ty b_)/\oH cur b_/\c*t.length<=cur.size/\m.dy r=some (r,none)/\m.fz r=[]/\
  (∀(n:Nat) e,l.1[n]?=some e->gP m w.heap r bX n cur (n*t.length) t a1 e 0)/\(∀o v,m.hP i c7 o=some v↔cur[o]?=some v/\a1[o%t.length]?=some true/\o/t.length<l.1.length):=by
 obtain⟨A,c',aa,af,ax,a8⟩:=h.live i _ aj;rw[fM] at aa;cases aa;rcases a8 with⟨a8,_⟩|⟨q,cur,ty,b_,aG,aN⟩
 ·cases a8
 ·cases aG;exact⟨rfl,af,ax,cur,ty,b_,aN⟩
theorem bM.ax4 {i r n f c k:Nat}{t:dh}{a1:List Bool}{l:L (D t)}{c7:Nat}{e e':D t}{cs:List C}{vs:List Value}(h:bM m σ w)(aj:σ.heap.get i=some (.arr t a1 l none c7))(fM:m.bg i=some (.slice (some ⟨r,0,none⟩) k c))(aA:l.1[n]?=some e)(he:mM t (rP (lA t e) f cs)=some e')(bB:f+cs.length<=t.length)(cf:∀j,f<=j->j<f+cs.length->a1[j]?.getD false=false)(aL:cL (dv m) cs vs):
 ∃w',(storeCells ⟨r,n*t.length+f,none⟩ vs).run aS w=.ok () w'/\bM m ⟨σ.heap.put i (some (.arr t a1 (dO l n e') none c7)),σ.next⟩ w'/\hJ m σ w m ⟨σ.heap.put i (some (.arr t a1 (dO l n e') none c7)),σ.next⟩ w':=by
 obtain⟨rfl,ap7,DN,cur,ty,b_,aa,af,ax,a8,cy,dm,dL,dY⟩:=h.arr aj fM;have hlen:=aL.length;have bn:=q8 af;have oo:=(eu.1 aA).1;have hmul:(n+1)*t.length<=c*t.length:=nk _ ab;rw[iR,Nat.one_mul] at hmul;have fA:n*t.length+f+vs.length<=cur.size:=ab;have oh:∀j,(ib cur (n*t.length+f) vs)[j]?=if n*t.length+f<=j/\j<n*t.length+f+vs.length then vs[j-(n*t.length+f)]? else cur[j]?:=λj=>oz _ _ _ _ fA
 refine⟨_,bC.B7 vs 0 w cur af ab ax.1 (pX aL),?_⟩;refine h.change (w':=iq w r (.cells (ib cur (n*t.length+f) vs) ty b_)) (bb:=⟨σ.heap.put i (some (.arr t a1 (dO l n e') none c7)),σ.next⟩) (λj=>j=i) (Ext.refl m) ⟨rfl,rfl,rfl⟩ (Nat.le_of_eq (nw ..).symm) (λj aq=>?_) (λj b aq ah=>?_) (λj aq=>⟨bC.T.eP _ _ aq,rfl,rfl⟩)
  (λb ah aW=>⟨mg _ _ λe=>aW i _ r none rfl aj aa (e▸cy),rfl,rfl⟩) (λj k _ _ _ aq aU _ _ _ _=>aq.trans aU.symm) (λj x R aq _ fm=>.inr (.inl ⟨i,_,rfl,aj,aq▸fm⟩))
  (λb R k aU=>by rw[nw];exact h.own b R k aU) (λb R k aa af=>absurd aa af) (λb j v gj=>?_)
 ·obtain⟨aG,aN,bo,cE⟩:=h.fresh j aq;refine⟨aG,aN,bo,?_⟩;rw[bC.T.m3];split
  ·subst_vars;rw[aG] at aa;cases aa
  ·exact cE
 ·subst aq;simp only[bC.T.il] at ah;cases ah;refine⟨_,c,by rw[fM];simp[dO],by simpa[dO] using ap7,DN,.inr ⟨r,_,ty,b_,rfl,aa,oC _ _ bn,by unfold oH;rw[mQ];exact ax,by rw[mQ];exact a8,cy,dm,λn' x aW=>?_,λo v=>?_⟩⟩
  ·have Am:∀{n' x},gP m w.heap r none n' cur (n'*t.length) t a1 x 0->gP m (iq w r (.cells (ib cur (n*t.length+f) vs) ty b_)).heap r none n' cur (n'*t.length) t a1 x 0:=λay=>ay.frame (iA.refl _) λb k _ eJ=>⟨mg _ _ eJ,rfl,rfl⟩;simp only[dO] at aW;by_cases w4:n'=n
   ·subst w4;rw[List.getElem?_set_self (by exact oo)] at aW;cases aW;refine(Am (dL n' e aA)).lH he λj c' kS=>?_;have yG:=C2 t e;rw[TV (by rw[yG];exact bB)] at kS;rw[fW];by_cases lU:f<=j/\j<f+cs.length
    ·rw[if_pos lU] at kS;obtain⟨u,bA,bI⟩:=aL.get kS;refine .inr ⟨u,?_,λeC y _ b7=>?_⟩
     ·rw[oh,if_pos ab,<-bA];congr 1;omega
     ·rw[cf j lU.1 lU.2];exact oN.of (CT b7 bI)
    ·rw[if_neg lU] at kS;refine .inl ⟨kS,?_,λq=>q⟩;rw[oh,if_neg];have:=(eu.1 kS).1;omega
   ·rw[mI (Ne.symm w4)] at aW;refine(Am (dL n' x aW)).CP (λj _ aq=>?_) λ_ q=>q;rw[fW] at aq;rw[oh,if_neg];rcases Nat.lt_or_gt_of_ne w4 with oZ|oZ
    ·have:(n'+1)*t.length<=n*t.length:=nk _ oZ;rw[iR,Nat.one_mul] at this;omega
    ·have:(n+1)*t.length<=n'*t.length:=nk _ oZ;rw[iR,Nat.one_mul] at this;omega
  ·have nr:(dO l n e').1.length=l.1.length:=by simp[dO]
   rw[dY o v,nr];refine and_congr_left λ⟨cr,cI⟩=>?_;rw[oh,if_neg];rintro⟨eT,fK⟩;have bg:=Nat.div_add_mod o t.length;have lW:0<t.length:=by
    rcases Nat.eq_zero_or_pos t.length with a6|a6
    ·rw[a6] at bB;omega
    ·exact a6
   have hm:o%t.length=o-n*t.length:=by
    have:o=n*t.length+(o-n*t.length):=ab;rw[this,Nat.mul_comm n,Nat.mul_add_mod];rw[Nat.mod_eq_of_lt (by rw[Nat.mul_comm];omega)];rw[Nat.mul_comm];omega
   have:=cf (o%t.length) ab ab;rw[cr] at this;cases this
 ·obtain⟨h_,jm,jG,aG,aN⟩:=h.stay b j v gj;refine⟨h_,jm,jG,?_,aN⟩;rw[mg]
  ·exact aG
  ·intro e;rw[e,dm] at gj;simp at gj
end
theorem x_ {o n f sz:Nat}(bB:f<sz)(bX:o=n*sz+f):o/sz=n/\o%sz=f:=by
 subst bX;have:0<sz:=ab;refine⟨?_,?_⟩
 ·rw[Nat.mul_comm,Nat.mul_add_div this,Nat.div_eq_of_lt bB,cq]
 ·rw[Nat.mul_comm,Nat.mul_add_mod,Nat.mod_eq_of_lt bB]
section
variable{m m':M}{h h':Array Obj}
theorem oN.move {r mE:Nat}{hole:Prop}{ap:Bool}{o:Nat}{l:eL}{x:nA l}{v:Value}(e:iA m.fz m'.fz)(ah:∀b,m.dy b=some (r,some o)->b≠r->h'[b]?=h[b]?/\m'.dy b=some (mE,some o)/\m'.fz b=m.fz b/\b≠mE)(aZ:oN m h r hole ap o l x v):oN m' h' mE hole ap o l x v:=by
 cases l with
 |aR t=>
  intro aA;obtain⟨aa,af⟩:=aZ aA;refine⟨aa.ext e,λcf=>?_⟩;obtain⟨A,k,c,aG,aN,bo⟩:=af cf;refine⟨A,k,c,aG,aN,bo.imp id λ⟨b,cur,ty,b_,bA,bI,c9,ei,jJ,o4,pT⟩=>?_⟩;obtain⟨aD,aQ,bO,cP⟩:=ah b o4 pT;exact⟨b,cur,ty,b_,bA,aD.trans bI,c9,ei,by rw[bO];exact jJ,aQ,cP⟩
 |int k=>exact dQ.ext (l:=.int k) e aZ
 |bool=>exact dQ.ext (l:=.bool) e aZ
 |str=>exact dQ.ext (l:=.str) e aZ
theorem gP.move {r mE n:Nat}{bX:Option (Nat×Nat)}{cur:Array Value}{base:Nat}(e:iA m.fz m'.fz)(ah:∀b o,m.dy b=some (r,some o)->b≠r->h'[b]?=h[b]?/\m'.dy b=some (mE,some o)/\m'.fz b=m.fz b/\b≠mE):∀{t:List eL}{a1:List Bool}{x:D t}{f:Nat},gP m h r bX n cur base t a1 x f->gP m' h' mE bX n cur base t a1 x f
 |[],_,_,_,_=>trivial
 |l::t,a1,x,f,⟨⟨v,aa,af⟩,ax⟩=>⟨⟨v,aa,af.move e λb=>ah b _⟩,gP.move e ah ax⟩
theorem gP.hole {r n:Nat}{cur:Array Value}{base ke f0 sz:Nat}(e:iA m.fz m'.fz)(sg:base=n*sz)(ah:∀b o,m.dy b=some (r,some o)->b≠r->o≠ke*sz+f0->h'[b]?=h[b]?/\m'.dy b=m.dy b/\m'.fz b=m.fz b)(a6:f0<sz):
 ∀{t:List eL}{a1:List Bool}{x:D t}{f:Nat},f+t.length<=sz->(∀l,n=ke->f<=f0->t[f0-f]?=some l->∃t',l=.aR t')->gP m h r none n cur base t a1 x f->gP m' h' r (some (ke,f0)) n cur base t a1 x f
 |[],_,_,_,_,_,_=>trivial
 |l::t,a1,x,f,bB,aP,⟨⟨v,aa,af⟩,ax⟩=>by
  simp only[gS] at bB;refine⟨⟨v,aa,?_⟩,gP.hole e sg ah a6 ab (λeC aG aN bo=>aP eC aG ab (by rw[show f0-f=(f0-(f+1))+1 by omega];simpa using bo)) ax⟩;by_cases he:n=ke/\f=f0
  ·obtain⟨rfl,rfl⟩:=he;obtain⟨t',rfl⟩:=aP l rfl (Nat.le_refl _) (by simp);exactλq=>absurd rfl q
  ·have eJ:base+f≠ke*sz+f0:=by
    intro q;have aa:=x_ (n:=n) (f:=f) (sz:=sz) (o:=base+f) ab (by rw[sg]);have af:=x_ (n:=ke) (f:=f0) (sz:=sz) (o:=base+f) a6 q;exact he ⟨ab,ab⟩
   cases l with
   |aR t'=>
    intro _;obtain⟨bA,bI⟩:=af (by simp);refine⟨bA.ext e,λcf=>?_⟩;obtain⟨A,k,c,aG,aN,bo⟩:=bI cf;refine⟨A,k,c,aG,aN,bo.imp id λ⟨b,cur,ty,b_,bx,cX,bH,cJ,gn,ik,my⟩=>?_⟩;obtain⟨aD,aQ,bO⟩:=ah b _ ik my eJ;exact⟨b,cur,ty,b_,bx,aD.trans cX,bH,cJ,by rw[bO];exact gn,aQ.trans ik,my⟩
   |int k=>exact dQ.ext (l:=.int k) e af
   |bool=>exact dQ.ext (l:=.bool) e af
   |str=>exact dQ.ext (l:=.str) e af
theorem gP.leaf {r n:Nat}{bX:Option (Nat×Nat)}{cur:Array Value}{base:Nat}:∀{t:List eL}{a1:List Bool}{x:D t}{f j:Nat}{l:eL}{c:C},gP m h r bX n cur base t a1 x f->t[j]?=some l->(lA t x)[j]?=some c->
 ∃(y:nA l) (v:Value),c=pH l y/\cur[base+(f+j)]?=some v/\oN m h r (bX=some (n,f+j)) (a1[j]?.getD false) (base+(f+j)) l y v
 |[],_,_,_,j,l,c,_,aq,_=>by simp at aq
 |l::t,a1,x,f,0,_,c,⟨⟨v,aa,af⟩,_⟩,aq,an=>by
  simp at aq;subst aq;rw[uk] at an;simp at an;exact⟨x.1,v,an.symm,aa,by rw[<-Dp];exact af⟩
 |l::t,a1,x,f,j+1,eC,c,⟨_,ax⟩,aq,an=>by
  rw[uk] at an;obtain⟨y,v,aG,aN,bo⟩:=gP.leaf ax (j:=j) (l:=eC) (c:=c) (by simpa using aq) (by simpa using an);rw[Ih,show f+1+j=f+(j+1) by omega] at bo;rw[show f+1+j=f+(j+1) by omega] at aN;exact⟨y,v,aG,aN,bo⟩
theorem gP.Ae {r n:Nat}{cur:Array Value}{base b:Nat}{fz:Nat->List Value}(e:iA m.fz fz)(an:∀(j:Nat) v,cur[j]?=some v->(fz b)[j]?=some v):∀{t:List eL}{a1:List Bool}{x:D t}{f:Nat},gP m h r none n cur base t a1 x f->iz fz t x b (base+f)
 |[],_,_,_,_=>by simp only[iz]
 |l::t,a1,x,f,⟨⟨v,aa,af⟩,ax⟩=>by
  simp only[iz];exact⟨⟨v,an _ _ aa,(af.RB (by simp)).ext e⟩,by have:=gP.Ae (b:=b) e an ax;rwa [<-Nat.add_assoc] at this⟩
end
section
variable{aS:Program}{w:World}{m:M}{σ:bV}
theorem bM.ZN {i:Nat}{t:dh}{a1:List Bool}{l:L (D t)}{c7:Nat}{v:Value}(h:bM m σ w)(aj:σ.heap.get i=some (.arr t a1 l none c7))(fM:m.bg i=some v):
 ∃m',jR σ.next m m'/\dQ m'.fz (.aR t) l v/\bM m' ⟨σ.heap.put i none,σ.next⟩ w/\hJ m σ w m' ⟨σ.heap.put i none,σ.next⟩ w:=by
 obtain⟨A,c,aa,af,_,ax⟩:=h.live i _ aj;rw[fM] at aa;cases aa;rcases ax with⟨rfl,rfl,bo⟩|⟨r,cur,ty,b_,rfl,aN,bo,cE,eM,fH,gz,hM,iV⟩
 ·obtain⟨bA,bI⟩:=h.drop i;refine⟨m,jR.refl _ m,?_,bA,bI⟩;simp only[dQ];exact⟨none,0,rfl,af,λaA=>by
   have:=List.length_pos_iff.2 aA
   omega⟩
 ·have e:Ext m (m.lN r cur.toList):=⟨λ_ _ h=>h,λ_ _ h=>h,λ_ _ _ _ h=>h,λb j v ah=>by
   simp only[M.lN];split
   ·subst_vars;rw[gz] at ah;simp at ah
   ·exact ah⟩
  refine⟨m.lN r cur.toList,⟨e,λ_ _=>rfl⟩,?_,?_⟩
  ·simp only[dQ];refine⟨_,c,rfl,af,λ_=>⟨r,0,rfl,λn x aW=>?_⟩⟩;rw[fW];exact(hM n x aW).Ae e.fz λj v aq=>by simpa[M.lN] using aq
  ·refine h.change (λj=>j=i) e ⟨rfl,rfl,rfl⟩ (Nat.le_refl _) (λj aq=>?_) (λj b aq ah=>?_) (λj aq=>⟨bC.T.eP _ _ aq,rfl,rfl⟩)
    (λb ah aA=>⟨rfl,by simp only[M.lN];rw[if_neg];intro e;exact aA i _ r none rfl aj aN (e▸fH),rfl⟩) (λj k _ _ _ aq aU _ _ _ _=>aq.trans aU.symm) (λj x R aq ah=>?_) h.own (λb R k aa af=>absurd aa af) (λb j v gj=>?_)
   ·obtain⟨bA,bI,c9,ei⟩:=h.fresh j aq;refine⟨bA,bI,c9,?_⟩;rw[bC.T.m3];split
    ·rfl
    ·exact ei
   ·subst aq;simp only[bC.T.il] at ah;cases ah
   ·subst aq;simp only[bC.T.il] at ah;cases ah
   ·simp only[M.lN] at gj;split at gj
    ·subst_vars;exact⟨cur,ty,b_,bo,by simpa using gj⟩
    ·exact h.stay b j v gj
theorem bM.take {i n f c7:Nat}{t t':dh}{a1:List Bool}{l:L (D t)}{v:Value}(h:bM m σ w)(aj:σ.heap.get i=some (.arr t a1 l none c7))(bQ:t[f]?=some (.aR t'))(aP:m.hP i c7 (n*t.length+f)=some v):
 ∃m',jR σ.next m m'/\bM m' ⟨(σ.heap.put i (some (.arr t a1 l (some (n,f)) c7))).put σ.next (some (.bG t')),σ.next+1⟩ w/\hJ m σ w m' ⟨(σ.heap.put i (some (.arr t a1 l (some (n,f)) c7))).put σ.next (some (.bG t')),σ.next+1⟩ w/\m'.bg σ.next=some v:=by
 obtain⟨f1,f2,f3,f4⟩:=h.fresh σ.next (Nat.le_refl _);obtain⟨A,c,aa,af,a6,ax⟩:=h.live i _ aj;have lU:i≠σ.next:=λe=>by rw[e,f4] at aj;cases aj
 have qX:=(eu.1 bQ).1;rcases ax with⟨rfl,rfl,bo,cE⟩|⟨r,cur,ty,b_,rfl,aN,bo,cE,eM,fH,gz,hM,iV⟩
 ·rw[cE] at aP;cases aP
 ·obtain⟨s1,s2,tN⟩:=(iV _ _).1 aP;obtain⟨d1,d2⟩:=x_ (o:=n*t.length+f) qX rfl;rw[d2] at s2;rw[d1] at tN;have aqZ:=hM n _ (fy tN);have apV:(lA t l.1[n])[f]?=some ((lA t l.1[n])[f]'(by rw[C2];exact qX)):=fy _
  obtain⟨y,u,az,aF,aT⟩:=aqZ.leaf bQ apV;rw[fW] at aF;rw[s1] at aF;cases aF;obtain⟨aY,a5⟩:=aT (by simp);rw[s2] at a5;obtain⟨A,k,c',ed,eX,gr⟩:=a5 rfl;have ah:∃(mP:Option Nat),(A=none/\c'=0/\mP=none)\/(∃b h_ jm jG,A=some ⟨b,0,none⟩/\mP=some b/\w.heap[b]?=some (.cells h_ jm jG)/\oH h_ jG/\c'*t'.length<=h_.size/\(m.fz b).length=k*t'.length/\
   m.dy b=some (r,some (n*t.length+f))/\b≠r):=by
   rcases gr with⟨gr,gb⟩|⟨b,h_,jm,jG,gr,gb,mi,k8,qF,iQ,kM⟩
   ·exact⟨none,.inl ⟨gr,gb,rfl⟩⟩
   ·exact⟨some b,.inr ⟨b,h_,jm,jG,gr,rfl,gb,mi,k8,qF,by rw[iQ,fW],kM⟩⟩
  obtain⟨mP,ah⟩:=ah;have vD:∀b,mP=some b->m.dy b=some (r,some (n*t.length+f))/\b≠r:=by
   intro b vt;rcases ah with⟨_,_,q⟩|⟨f_,_,_,_,_,q,_,_,_,_,cr,cI⟩
   ·rw[q] at vt;cases vt
   ·rw[q] at vt;cases vt;exact⟨cr,cI⟩
  have e:Ext m (m.eE σ.next mP v m.fz (λb=>if mP=some b then some (b,none) else m.dy b)):=M.C6 f1 f2 (iA.refl _);refine⟨_,⟨e,λi aj=>by show(if i=σ.next then _ else m.pl i)=_;rw[if_neg ab]⟩,?_⟩;have key:=h.change (m':=m.eE σ.next mP v m.fz (λb=>if mP=some b then some (b,none) else m.dy b)) (bb:=⟨(σ.heap.put i (some (.arr t a1 l (some (n,f)) c7))).put σ.next (some (.bG t')),σ.next+1⟩) (w':=w)
   (λj=>j=i\/j=σ.next) e ⟨rfl,rfl,rfl⟩ (Nat.le_refl _) (λj aq=>?_) (λj b aq ma=>?_) (λj aq=>⟨?_,by simp[M.eE,(not_or.1 aq).2],rfl⟩) (λb bn aW=>⟨rfl,rfl,?_⟩) (λj kq mn anl q aq mc _ _ ay J0=>?_) (λj x R aq ma fm=>?_) (λb R k aU=>?_) (λb R k aU aA=>?_) h.stay
  ·exact⟨key.1,key.2,by simp[M.eE]⟩
  ·have aq:σ.next+1<=j:=aq;obtain⟨bA,bI,c9,ei⟩:=h.fresh j ab;have uu:i≠j:=λe=>by rw[e,ei] at aj;cases aj
   refine⟨by simp[M.eE,bA];omega,by simp[M.eE,bI];omega,c9,?_⟩;simp only
   rw[bC.T.eP _ _ ab,bC.T.eP _ _ uu.symm];exact ei
  ·by_cases m6:j=σ.next
   ·subst m6;simp only[bC.T.il] at ma;cases ma;refine⟨A,k,c',by simp[M.eE,ed],eX,?_⟩;rcases ah with⟨cr,cI,dw⟩|⟨b,h_,jm,jG,cr,cI,dw,fe,kV,mD,Bc,gF⟩
    ·exact .inl ⟨cr,cI,by simp[M.eE,dw]⟩
    ·refine .inr ⟨b,h_,jm,jG,cr,by simp[M.eE,cI],dw,fe,kV,mD,by simp[M.eE,cI],λf_ cv pN=>?_⟩;simp only[M.eE,cI,Option.some.injEq] at pN;split at pN
     ·rename_i he;exact he.symm
     ·have:=(h.own f_ b cv pN).2;rw[Bc] at this;cases this
   ·have iW:j=i:=aq.resolve_right m6;subst iW;simp only at ma;rw[bC.T.eP _ _ m6,bC.T.il] at ma;cases ma;refine⟨some ⟨r,0,none⟩,c,e.bg _ _ aa,af,a6,.inr ⟨r,cur,ty,b_,rfl,e.pl _ _ aN,bo,cE,eM,?_,gz,λn' x aW=>?_,iV⟩⟩
    ·simp only[M.eE];rw[if_neg]
     ·exact fH
     ·intro q;exact(vD r q).2 rfl
    ·refine gP.hole e.fz rfl (λb o pK eJ bX=>⟨rfl,?_,rfl⟩) qX ab (λeC _ _ lV=>?_) (hM n' x aW)
     ·simp only[M.eE];rw[if_neg];intro q;rw[(vD b q).1] at pK;cases pK;exact bX rfl
     ·rw[Nat.sub_zero,bQ] at lV;cases lV;exact⟨t',rfl⟩
  ·have:=not_or.1 aq;simp only
   rw[bC.T.eP _ _ this.2,bC.T.eP _ _ this.1]
  ·simp only[M.eE];rw[if_neg];intro q;exact aW i _ r _ (.inl rfl) aj aN (vD b q).1
  ·have w6:(m.eE σ.next mP v m.fz (λb=>if mP=some b then some (b,none) else m.dy b)).pl i=some r:=e.pl _ _ aN;have JZ:(m.eE σ.next mP v m.fz (λb=>if mP=some b then some (b,none) else m.dy b)).pl σ.next=mP:=by simp[M.eE]
   rcases aq with rfl|rfl
   ·rcases mc with rfl|rfl
    ·rfl
    ·rw[w6] at ay;rw[JZ] at J0;cases ay;exact absurd rfl (vD r J0).2
   ·rcases mc with rfl|rfl
    ·rw[w6] at J0;rw[JZ] at ay;cases J0;exact absurd rfl (vD r ay).2
    ·rfl
  ·rcases aq with rfl|rfl
   ·have w6:(m.eE σ.next mP v m.fz (λb=>if mP=some b then some (b,none) else m.dy b)).pl j=some r:=e.pl _ _ aN;rw[w6] at fm;cases fm;exact .inr (.inl ⟨j,_,.inl rfl,aj,aN⟩)
   ·have JZ:(m.eE σ.next mP v m.fz (λb=>if mP=some b then some (b,none) else m.dy b)).pl σ.next=mP:=by simp[M.eE]
    rw[JZ] at fm;exact .inr (.inr ⟨i,_,r,_,.inl rfl,aj,aN,(vD R fm).1,(vD R fm).2⟩)
  ·simp only[M.eE] at aU⊢;split at aU
   ·rename_i ay;cases aU;refine⟨(h.own _ _ _ (vD b ay).1).1,by rw[if_pos ay]⟩
   ·obtain⟨bA,bI⟩:=h.own b R k aU;refine⟨bA,?_⟩;rw[if_neg]
    ·exact bI
    ·intro q;rw[(vD R q).1] at bI;cases bI
  ·simp only[M.eE] at aU;split at aU
   ·rename_i ay;cases aU;exact⟨σ.next,.bG t',.inr rfl,bC.T.il ..,by simp[M.eE,ay]⟩
   ·exact absurd aU aA
end
def M.qg (m:M)(i c7:Nat)(s:Nat->Option Value)(s5:Option Nat)(o:Nat×Option Nat):M:=⟨m.pl,m.bg,λj k q=>if j=i/\k=c7 then s q else m.hP j k q,m.fz,λb=>if s5=some b then some o else m.dy b⟩
section
variable{aS:Program}{w:World}{m:M}{σ:bV}
theorem bM.fill {i k n f c7 r len c:Nat}{t t':dh}{a1:List Bool}{l:L (D t)}{bX:Option (Nat×Nat)}{v:Value}{e e':D t}{y:L (D t')}(h:bM m σ w)(aj:σ.heap.get i=some (.arr t a1 l bX c7))(sm:bX=none\/bX=some (n,f))(fM:m.bg i=some (.slice (some ⟨r,0,none⟩) len c))(aU:σ.heap.get k=some (.bG t'))(ap_:m.bg k=some v)(bQ:t[f]?=some (.aR t'))(aA:l.1[n]?=some e)(b7:dQ m.fz (.aR t') y v)(he:mM t ((lA t e).set f (.row t' y .no))=some e'):
 ∃m' w',(storeCells ⟨r,n*t.length+f,none⟩ [v]).run aS w=.ok () w'/\jR σ.next m m'/\bM m' ⟨(σ.heap.put k none).put i (some (.arr t a1 (dO l n e') none (c7+1))),σ.next⟩ w'/\
  hJ m σ w m' ⟨(σ.heap.put k none).put i (some (.arr t a1 (dO l n e') none (c7+1))),σ.next⟩ w':=by
 obtain⟨rfl,JS,DN,cur,ty,b_,aa,af,ax,a8,cy,dm,dL,dY⟩:=h.arr aj fM;obtain⟨A,S2,y5,bA,bI,c9⟩:=h.live k _ aU;rw[ap_] at bA;have aq3:v=.slice A S2 y5:=eD bA;have Sq:i≠k:=λq=>by rw[q,aU] at aj;cases aj
 have qX:=(eu.1 bQ).1;have oo:=(eu.1 aA).1;have bn:=q8 af;have hmul:(n+1)*t.length<=c*t.length:=nk _ ab;rw[iR,Nat.one_mul] at hmul;have fA:n*t.length+f<cur.size:=ab;have ah:∃s5:Option Nat,m.pl k=s5/\((A=none/\y5=0/\s5=none)\/∃b h_ jm jG,A=some ⟨b,0,none⟩/\s5=some b/\w.heap[b]?=some (.cells h_ jm jG)/\oH h_ jG/\y5*t'.length<=h_.size/\(m.fz b).length=S2*t'.length/\m.dy b=some (b,none)/\
  ∀f_ cv,m.dy f_=some (b,cv)->f_=b):=by
  rcases c9 with⟨c9,ei,jJ⟩|⟨b,h_,jm,jG,c9,ei,jJ,o4,pT,DU,tB,abK⟩
  ·exact⟨none,jJ,.inl ⟨c9,ei,rfl⟩⟩
  ·exact⟨some b,ei,.inr ⟨b,h_,jm,jG,c9,rfl,jJ,o4,pT,DU,tB,abK⟩⟩
 obtain⟨s5,aa1,ah⟩:=ah;have yA:∀b,s5=some b->m.dy b=some (b,none)/\b≠r/\∀f_ cv,m.dy f_=some (b,cv)->f_=b:=by
  intro b vt;rcases ah with⟨_,_,q⟩|⟨f_,_,_,_,_,q,_,_,_,_,cr,cI⟩
  ·rw[q] at vt;cases vt
  ·rw[q] at vt;cases vt;refine⟨cr,λhe=>?_,cI⟩;exact Sq (h.inj i k _ _ r aj aU aa (by rw[aa1,q,he]))
 generalize aP:snap (cur.setIfInBounds (n*t.length+f) v) a1 t.length l.1.length=s;have gv:Ext m (m.qg i (c7+1) s s5 (r,some (n*t.length+f))):=⟨λ_ _ h=>h,λ_ _ h=>h,λj cv o q aq=>by
  simp only[M.qg];split
  ·rename_i an;rw[an.1,an.2,DN _ (Nat.lt_succ_self _)] at aq;cases aq
  ·exact aq,iA.refl _⟩
 have SA:(∀cs,v≠.agg cs)/\∀cs,v≠.tuple cs:=dv.one (m:=m) (b7.cell);refine⟨_,_,bC.B7 [v] 0 w cur af (by simp;omega) ax.1 (by simpa using SA),⟨gv,λ_ _=>rfl⟩,?_⟩;have aqF:ib cur (n*t.length+f+0) [v]=cur.setIfInBounds (n*t.length+f) v:=rfl;rw[aqF];have oh:∀j,(cur.setIfInBounds (n*t.length+f) v)[j]?=if j=n*t.length+f then some v else cur[j]?:=λj=>by
  by_cases aq:j=n*t.length+f
  ·subst aq;simp[fA]
  ·rw[if_neg aq,Array.getElem?_setIfInBounds_ne (Ne.symm aq)]
 refine h.change (m':=m.qg i (c7+1) s s5 (r,some (n*t.length+f))) (bb:=⟨(σ.heap.put k none).put i (some (.arr t a1 (dO l n e') none (c7+1))),σ.next⟩) (w':=iq w r (.cells (cur.setIfInBounds (n*t.length+f) v) ty b_)) (λj=>j=i\/j=k) gv ⟨rfl,rfl,rfl⟩ (Nat.le_of_eq (nw ..).symm)
  (λj aq=>?_) (λj b aq ma=>?_) (λj aq=>⟨?_,rfl,?_⟩) (λb oZ aW=>?_) (λj kq mn anl q aq mc ma apG _ _=>?_) (λj x R aq ma fm=>?_) (λb R u3 kI=>?_) (λb R u3 kI eJ=>?_) (λb j u gj=>?_)
 ·obtain⟨aG,aN,bo,cE⟩:=h.fresh j aq;have iW:j≠i:=λq=>by rw[q,aj] at cE;cases cE
  have so:j≠k:=λq=>by rw[q,aU] at cE;cases cE
  exact⟨aG,aN,λcv o=>by simp[M.qg,iW,bo],by simp only;rw[bC.T.eP _ _ iW,bC.T.eP _ _ so];exact cE⟩
 ·by_cases iW:j=i
  ·subst iW;simp only[bC.T.il] at ma;cases ma
   refine⟨_,c,by have q:(dO l n e').1.length=l.1.length:=by simp[dO]
                 rw[q];exact fM,by simpa[dO] using JS,λcv pN o=>?_,.inr ⟨r,_,ty,b_,rfl,aa,oC _ _ bn,⟨λq ay=>ax.1 q (by simpa using ay),ax.2⟩,by simpa using a8,?_,dm,λn' x aW=>?_,λo u=>?_⟩⟩
   ·simp only[M.qg];rw[if_neg ab];exact DN cv ab o
   ·simp only[M.qg];rw[if_neg]
    ·exact cy
    ·intro q;exact(yA r q).2.1 rfl
   ·have Am:∀{n' x},gP m w.heap r bX n' cur (n'*t.length) t a1 x 0->gP (m.qg j (c7+1) s s5 (r,some (n*t.length+f))) (iq w r (.cells (cur.setIfInBounds (n*t.length+f) v) ty b_)).heap r bX n' cur (n'*t.length) t a1 x 0:=
     λay=>gP.frame (m:=m) (m':=m.qg j (c7+1) s s5 (r,some (n*t.length+f))) (h:=w.heap) (h':=(iq w r (.cells (cur.setIfInBounds (n*t.length+f) v) ty b_)).heap) (iA.refl m.fz) (λb u3 kI eJ=>⟨mg _ _ eJ,by
      simp only[M.qg];rw[if_neg];intro q;obtain⟨cr,cI,dw⟩:=yA b q;rw[cr] at kI;cases kI;exact eJ rfl,rfl⟩) ay
    simp only[dO] at aW;by_cases w4:n'=n
    ·subst w4;rw[List.getElem?_set_self (by exact oo)] at aW;cases aW;refine(Am (dL n' e aA)).lH he λkq c' kS=>?_;rw[fW];by_cases AA:kq=f
     ·subst AA;rw[List.getElem?_set_self (by rw[C2];exact qX)] at kS;cases kS;refine .inr ⟨v,by rw[oh,if_pos rfl],λeC mG lV aq8=>?_⟩;rw[bQ] at lV;cases lV;have:mG=y:=by
       have ay:=Zb (l:=.aR t') y;exact eD (aq8.symm.trans ay)
      subst this;intro _;refine⟨b7,λ_=>⟨A,S2,y5,aq3,bI,?_⟩⟩;rcases ah with⟨cr,cI,_⟩|⟨b,h_,jm,jG,cr,cI,dw,fe,kV,mD,Bc,gF⟩
      ·exact .inl ⟨cr,cI⟩
      ·obtain⟨ed,eX,gr⟩:=yA b cI;exact .inr ⟨b,h_,jm,jG,cr,(mg _ _ eX).trans dw,fe,kV,mD,by simp[M.qg,cI],eX⟩
     ·rw[mI (Ne.symm AA)] at kS;refine .inl ⟨kS,by rw[oh,if_neg ab],λq=>?_⟩;rcases sm with sm|sm
      ·rw[sm] at q;cases q
      ·rw[sm] at q;cases q;exact absurd rfl AA
    ·rw[mI (Ne.symm w4)] at aW;refine(Am (dL n' x aW)).CP (λkq _ mc=>?_) λkq q=>?_
     ·rw[fW] at mc;rw[oh,if_neg];intro q;have aa:=x_ (n:=n') (f:=kq) (sz:=t.length) (o:=n'*t.length+kq) mc rfl;have af:=x_ (n:=n) (f:=f) (sz:=t.length) (o:=n'*t.length+kq) qX q;omega
     ·rcases sm with sm|sm
      ·rw[sm] at q;cases q
      ·rw[sm] at q;cases q;exact absurd rfl w4
   ·have nr:(dO l n e').1.length=l.1.length:=by simp[dO]
    rw[nr];simp only[M.qg,and_self,if_true,<-aP];exact Qk
  ·have so:j=k:=aq.resolve_left iW;subst so;simp only at ma;rw[bC.T.eP _ _ iW,bC.T.il] at ma;cases ma
 ·have:=not_or.1 aq;simp only
  rw[bC.T.eP _ _ this.1,bC.T.eP _ _ this.2]
 ·funext cv o;simp[M.qg,(not_or.1 aq).1]
 ·have vu:b≠r:=λq=>aW i _ r none (.inl rfl) aj aa (q▸cy);refine⟨mg _ _ vu,rfl,?_⟩;simp only[M.qg];rw[if_neg];intro q;exact aW k _ b none (.inr rfl) aU (by rw[aa1,q]) (yA b q).1
 ·have dead:∀x,((σ.heap.put k none).put i (some (B.arr t a1 (dO l n e') none (c7+1)))).get k≠some x:=λx aW=>by
   rw[bC.T.eP _ _ Sq.symm,bC.T.il] at aW;cases aW
  rcases aq with rfl|rfl
  ·rcases mc with rfl|rfl
   ·rfl
   ·exact absurd apG (dead _)
  ·exact absurd ma (dead _)
 ·rcases aq with rfl|rfl
  ·have fm:m.pl j=some R:=fm;rw[aa] at fm;cases fm;exact .inr (.inl ⟨j,_,.inl rfl,aj,aa⟩)
  ·simp only at ma;rw[bC.T.eP _ _ Sq.symm,bC.T.il] at ma;cases ma
 ·rw[nw];simp only[M.qg] at kI⊢;split at kI
  ·rename_i ay;cases kI;obtain⟨ed,eX,gr⟩:=yA b ay;refine⟨(h.own _ _ _ ed).1,?_⟩;rw[if_neg]
   ·exact cy
   ·intro q;exact(yA _ q).2.1 rfl
  ·rename_i ay;obtain⟨aG,aN⟩:=h.own b R u3 kI;refine⟨aG,?_⟩;rw[if_neg]
   ·exact aN
   ·intro q;exact ay ((yA R q).2.2 b u3 kI▸q)
 ·simp only[M.qg] at kI;split at kI
  ·cases kI;exact⟨i,_,.inl rfl,bC.T.il ..,aa⟩
  ·exact absurd kI eJ
 ·obtain⟨h_,jm,jG,aG,aN⟩:=h.stay b j u gj;refine⟨h_,jm,jG,?_,aN⟩;rw[mg]
  ·exact aG
  ·intro q;have gj:(m.fz b)[j]?=some u:=gj;rw[q,dm] at gj;simp at gj
end
section
variable{aS:Program}{w:World}{m:M}{σ:bV}
theorem bM.Tx (h:bM m σ w)(t:dh)(a1:List Bool):∃m',jR σ.next m m'/\bM m' ⟨σ.heap.put σ.next (some (.arr t a1 L.nil none 0)),σ.next+1⟩ w/\hJ m σ w m' ⟨σ.heap.put σ.next (some (.arr t a1 L.nil none 0)),σ.next+1⟩ w/\
 m'.bg σ.next=some (.slice none 0 0):=by
 obtain⟨f1,f2,f3,f4⟩:=h.fresh σ.next (Nat.le_refl _);have e:Ext m (m.eE σ.next none (.slice none 0 0) m.fz m.dy):=M.C6 f1 f2 (iA.refl _);have key:=h.change (m':=m.eE σ.next none (.slice none 0 0) m.fz m.dy) (bb:=⟨σ.heap.put σ.next (some (.arr t a1 L.nil none 0)),σ.next+1⟩) (w':=w) (λj=>j=σ.next) e ⟨rfl,rfl,rfl⟩ (Nat.le_refl _) (λj aq=>?_) (λj b aq ah=>?_) (λj aq=>⟨bC.T.eP _ _ aq,by simp[M.eE,aq],rfl⟩)
  (λb ah _=>⟨rfl,rfl,rfl⟩) (λj k _ _ _ aq aU _ _ _ _=>aq.trans aU.symm) (λj x R aq _ fm=>?_) h.own (λb R k aa af=>absurd aa af) h.stay
 ·exact⟨_,⟨e,λi aj=>by show(if i=σ.next then _ else m.pl i)=_;rw[if_neg ab]⟩,key.1,key.2,by simp[M.eE]⟩
 ·have aq:σ.next+1<=j:=aq;obtain⟨aG,aN,bo,cE⟩:=h.fresh j ab;exact⟨by simp[M.eE,aG],by simp[M.eE,aN];omega,bo,(bC.T.eP _ _ ab).trans cE⟩
 ·subst aq;simp only[bC.T.il] at ah;cases ah;exact⟨none,0,by simp[M.eE,L.nil],Nat.le_refl _,λk _ o=>f3 k o,.inl ⟨rfl,rfl,by simp[M.eE],f3⟩⟩
 ·subst aq;simp[M.eE] at fm
theorem bM.ao3 {k r len c c7:Nat}{t:dh}{a1:List Bool}{l gh:L (D t)}{dg:List (D t)}{vs:List Value}(h:bM m σ w)(aU:σ.heap.get k=some (.arr t a1 l none c7))(fM:m.bg k=some (.slice (some ⟨r,0,none⟩) len c))(aL:j6 m.fz t a1 dg vs)(hle:len+dg.length<=c)(nr:gh.1=l.1++dg):
 ∃m' w',(storeCells ⟨r,len*t.length,none⟩ vs).run aS w=.ok () w'/\jR σ.next m m'/\bM m' ⟨(σ.heap.put k none).put σ.next (some (.arr t a1 gh none 0)),σ.next+1⟩ w'/\hJ m σ w m' ⟨(σ.heap.put k none).put σ.next (some (.arr t a1 gh none 0)),σ.next+1⟩ w'/\
  m'.bg σ.next=some (.slice (some ⟨r,0,none⟩) gh.1.length c):=by
 obtain⟨f1,f2,f3,f4⟩:=h.fresh σ.next (Nat.le_refl _);obtain⟨rfl,JS,DN,cur,ty,b_,aa,af,ax,a8,cy,dm,dL,dY⟩:=h.arr aU fM;have bn:=q8 af;have J5:=aL.length;have sr:k≠σ.next:=λe=>by rw[e,f1] at aa;cases aa
 have aOY:gh.1.length=l.1.length+dg.length:=by rw[nr];simp
 have fA:l.1.length*t.length+vs.length<=cur.size:=by
  have:(l.1.length+dg.length)*t.length<=c*t.length:=nk _ hle;rw[iR] at this;omega
 have oh:∀j,(ib cur (l.1.length*t.length) vs)[j]?=if l.1.length*t.length<=j/\j<l.1.length*t.length+vs.length then vs[j-l.1.length*t.length]? else cur[j]?:=λj=>oz _ _ _ _ fA
 have e:Ext m (m.gf σ.next (some r) (.slice (some ⟨r,0,none⟩) gh.1.length c) (snap (ib cur (l.1.length*t.length) vs) a1 t.length gh.1.length) m.dy):=M.RT f1 f2 f3;refine⟨_,iq w r (.cells (ib cur (l.1.length*t.length) vs) ty b_),bC.B7 vs 0 w cur af ab ax.1 aL.pX,⟨e,λi aj=>by show(if i=σ.next then _ else m.pl i)=_;rw[if_neg ab]⟩,?_⟩;have key:=h.change (m':=m.gf σ.next (some r) (.slice (some ⟨r,0,none⟩) gh.1.length c) (snap (ib cur (l.1.length*t.length) vs) a1 t.length gh.1.length) m.dy)
  (bb:=⟨(σ.heap.put k none).put σ.next (some (.arr t a1 gh none 0)),σ.next+1⟩) (w':=iq w r (.cells (ib cur (l.1.length*t.length) vs) ty b_)) (λj=>j=σ.next\/j=k) e ⟨rfl,rfl,rfl⟩ (Nat.le_of_eq (nw ..).symm) (λj aq=>?_) (λj b aq ah=>?_)
  (λj aq=>⟨?_,by simp[M.gf,(not_or.1 aq).1],by funext k o;simp[M.gf,(not_or.1 aq).1]⟩) (λb ah aW=>?_) (λj l _ _ _ aq aZ ma tn _ _=>?_) (λj x R aq ah fm=>?_) (λb R cv pN=>by rw[nw];exact h.own b R cv pN) (λb R k aa af=>absurd aa af) (λb j v gj=>?_)
 ·exact⟨key.1,key.2,by simp[M.gf]⟩
 ·have aq:σ.next+1<=j:=aq;obtain⟨aG,aN,bo,cE⟩:=h.fresh j ab;refine⟨by simp[M.gf,aG];omega,by simp[M.gf,aN];omega,λk o=>by simp[M.gf,bo];omega,?_⟩;simp only
  rw[bC.T.eP _ _ ab,bC.T.m3];split
  ·rfl
  ·exact cE
 ·by_cases m6:j=σ.next
  ·subst m6;simp only[bC.T.il] at ah;cases ah;refine⟨_,c,by simp[M.gf],ab,λcv pN o=>?_,.inr ⟨r,_,ty,b_,rfl,by simp[M.gf],oC _ _ bn,by unfold oH;rw[mQ];exact ax,by rw[mQ];exact a8,cy,dm,λn x aW=>?_,λo v=>?_⟩⟩
   ·simp only[M.gf];rw[if_neg ab];exact f3 cv o
   ·rw[nr] at aW;by_cases aA:n<l.1.length
    ·rw[ml aA] at aW;refine(gP.frame (m:=m) (m':=m.gf σ.next (some r) (.slice (some ⟨r,0,none⟩) gh.1.length c) (snap (ib cur (l.1.length*t.length) vs) a1 t.length gh.1.length) m.dy) (h:=w.heap) (h':=(iq w r (.cells (ib cur (l.1.length*t.length) vs) ty b_)).heap) (iA.refl m.fz) (λb u3 kI eJ=>⟨mg _ _ eJ,rfl,rfl⟩) (dL n x aW)).CP (λkq _ mc=>?_) λ_ q=>q;rw[oh,if_neg];have:(n+1)*t.length<=l.1.length*t.length:=nk _ aA;rw[iR,Nat.one_mul] at this;omega
    ·rw[mm ab] at aW;have:=j6.zJ (m:=m.gf σ.next (some r) (.slice (some ⟨r,0,none⟩) gh.1.length c) (snap (ib cur (l.1.length*t.length) vs) a1 t.length gh.1.length) m.dy)
      (h:=(iq w r (.cells (ib cur (l.1.length*t.length) vs) ty b_)).heap) (r:=r) (cur:=ib cur (l.1.length*t.length) vs) (o:=l.1.length*t.length) aL (λj v aq=>by
       have:=(eu.1 aq).1;rw[oh,if_pos ab,<-aq];congr 1;omega) _ x aW n
     rwa [<-iR,Nat.add_sub_cancel' ab] at this
   ·simp only[M.gf,and_self,if_true];exact Qk
  ·have so:j=k:=aq.resolve_left m6;subst so;simp only at ah;rw[bC.T.eP _ _ m6,bC.T.il] at ah;cases ah
 ·have:=not_or.1 aq;simp only
  rw[bC.T.eP _ _ this.1,bC.T.eP _ _ this.2]
 ·have vu:b≠r:=λe=>aW k _ r none (.inr rfl) aU aa (e▸cy);exact⟨mg _ _ vu,rfl,rfl⟩
 ·have dead:∀x,((σ.heap.put k none).put σ.next (some (B.arr t a1 gh none 0))).get k≠some x:=λx aW=>by
   rw[T.E5 _ _ sr] at aW;cases aW
  rcases aq with aq|aq
  ·rcases aZ with aZ|aZ
   ·rw[aq,aZ]
   ·subst aZ;exact absurd tn (dead _)
  ·subst aq;exact absurd ma (dead _)
 ·rcases aq with aq|aq
  ·subst aq;simp[M.gf] at fm;subst fm;exact .inr (.inl ⟨k,_,.inr rfl,aU,aa⟩)
  ·subst aq;simp only at ah;rw[T.E5 _ _ sr] at ah;cases ah
 ·obtain⟨h_,jm,jG,aG,aN⟩:=h.stay b j v gj;refine⟨h_,jm,jG,?_,aN⟩;rw[mg]
  ·exact aG
  ·intro q;have gj:(m.fz b)[j]?=some v:=gj;rw[q,dm] at gj;simp at gj
def sH (dy:Nat->Option (Nat×Option Nat))(r n:Nat)(b:Nat):Option (Nat×Option Nat):=if b=n then some (n,none) else match dy b with
 |some (R,some o)=>if R=r then some (n,some o) else some (R,some o)
 |q=>q
theorem WZ {dy:Nat->Option (Nat×Option Nat)}{r n b o:Nat}(h:dy b=some (r,some o))(aA:b≠n):sH dy r n b=some (n,some o):=by simp[sH,aA,h]
theorem P6 {dy:Nat->Option (Nat×Option Nat)}{r n b:Nat}(h:∀o,dy b≠some (r,some o))(aA:b≠n):sH dy r n b=dy b:=by
 unfold sH;rw[if_neg aA];split
 ·rename_i R o ah;rw[if_neg]
  ·exact ah.symm
  ·intro q;exact h o (by rw[ah,q])
 ·rfl
theorem bM.aL5 {k len c c' c7:Nat}{A:Option Addr}{t:dh}{a1:List Bool}{l gh:L (D t)}{dg:List (D t)}{vs:List Value}{cur:Array Value}{ty:TypeId}(h:bM m σ w)(aU:σ.heap.get k=some (.arr t a1 l none c7))(fM:m.bg k=some (.slice A len c))(aL:j6 m.fz t a1 dg vs)(nr:gh.1=l.1++dg)(an:gh.1.length<=c')(lh:c'*t.length<=cur.size)(hold:∀r n9 ty b_,A=some ⟨r,0,none⟩->w.heap[r]?=some (.cells n9 ty b_)->∀j,j<len*t.length->cur[j]?=n9[j]?)(aqx:∀(j:Nat) v,vs[j]?=some v->cur[len*t.length+j]?=some v):
 ∃m',jR σ.next m m'/\bM m' ⟨(σ.heap.put k none).put σ.next (some (.arr t a1 gh none 0)),σ.next+1⟩ (w.alloc (.cells cur ty))/\hJ m σ w m' ⟨(σ.heap.put k none).put σ.next (some (.arr t a1 gh none 0)),σ.next+1⟩ (w.alloc (.cells cur ty))/\
  m'.bg σ.next=some (.slice (some ⟨w.heap.size,0,none⟩) gh.1.length c'):=by
 obtain⟨f1,f2,f3,f4⟩:=h.fresh σ.next (Nat.le_refl _);have sr:k≠σ.next:=λe=>by rw[e,f4] at aU;cases aU
 have DB:=h.live k _ aU;obtain⟨eW,pz,dM,di,a0,gL⟩:=DB;rw[fM] at dM;cases dM;have aO:∃r,(∀b o,m.dy b=some (r,some o)->∃q,m.pl k=some q/\q=r)/\(m.pl k=none\/m.pl k=some r)/\(∀n x,l.1[n]?=some x->∃n9 ty b_,A=some ⟨r,0,none⟩/\w.heap[r]?=some (.cells n9 ty b_)/\m.pl k=some r/\gP m w.heap r none n n9 (n*t.length) t a1 x 0):=by
  rcases gL with⟨rfl,rfl,bo,_⟩|⟨r,n9,mh,Jr,rfl,aN,bo,cE,eM,fH,gz,hM,iV⟩
  ·refine⟨w.heap.size,λb o ah=>?_,.inl bo,λn x aW=>?_⟩
   ·have:=(h.own b _ _ ah).2;have:=(h.own _ _ _ this).1;omega
   ·have:=(eu.1 aW).1;omega
  ·exact⟨r,λb o ah=>⟨r,aN,rfl⟩,.inr aN,λn x aW=>⟨n9,mh,Jr,rfl,bo,aN,hM n x aW⟩⟩
 obtain⟨r,AG,DJ,aa7⟩:=aO;have aqT:∀b o,m.dy b=some (r,some o)->m.pl k=some r:=λb o ah=>by
  obtain⟨q,cr,cI⟩:=AG b o ah;rw[cr,cI]
 have e:Ext m (m.gf σ.next (some w.heap.size) (.slice (some ⟨w.heap.size,0,none⟩) gh.1.length c') (snap cur a1 t.length gh.1.length) (sH m.dy r w.heap.size)):=M.RT f1 f2 f3;have key:=h.change (m':=m.gf σ.next (some w.heap.size) (.slice (some ⟨w.heap.size,0,none⟩) gh.1.length c') (snap cur a1 t.length gh.1.length) (sH m.dy r w.heap.size))
  (bb:=⟨(σ.heap.put k none).put σ.next (some (.arr t a1 gh none 0)),σ.next+1⟩) (w':=w.alloc (.cells cur ty)) (λj=>j=σ.next\/j=k) e ⟨rfl,rfl,rfl⟩ (by simp) (λj aq=>?_) (λj b aq ah=>?_)
  (λj aq=>⟨?_,by simp[M.gf,(not_or.1 aq).1],by funext k o;simp[M.gf,(not_or.1 aq).1]⟩) (λb ah aW=>⟨Below.heap_alloc _ _ _ ah,rfl,?_⟩) (λj l _ _ _ aq aZ ma tn _ _=>?_) (λj x R aq ah fm=>?_) (λb R u3 kI=>?_) (λb R u3 kI eJ=>?_) (λb j v gj=>?_)
 ·exact⟨_,⟨e,λi aj=>by show(if i=σ.next then _ else m.pl i)=_;rw[if_neg ab]⟩,key.1,key.2,by simp[M.gf]⟩
 ·have aq:σ.next+1<=j:=aq;obtain⟨aG,aN,bo,cE⟩:=h.fresh j ab;refine⟨by simp[M.gf,aG];omega,by simp[M.gf,aN];omega,λk o=>by simp[M.gf,bo];omega,?_⟩;simp only
  rw[bC.T.eP _ _ ab,bC.T.m3];split
  ·rfl
  ·exact cE
 ·by_cases m6:j=σ.next
  ·subst m6;simp only[bC.T.il] at ah;cases ah;refine⟨_,c',by simp[M.gf],an,λcv pN o=>?_,.inr ⟨w.heap.size,cur,ty,(0,0),rfl,by simp[M.gf],heap_alloc_new _ _,⟨λ_ _=>by omega,Nat.le_refl _⟩,lh,by simp[M.gf,sH],h.wQ (Nat.le_refl _),λn x aW=>?_,λo v=>?_⟩⟩
   ·simp only[M.gf];rw[if_neg ab];exact f3 cv o
   ·rw[nr] at aW;by_cases aA:n<l.1.length
    ·rw[ml aA] at aW;obtain⟨n9,mh,Jr,ed,eX,gr,gb⟩:=aa7 n x aW;refine gP.CP (cur:=n9) (gP.move (m:=m) (h:=w.heap) (r:=r) e.fz (λb o pK eJ=>?_) gb) (λkq _ mc=>?_) λ_ q=>q
     ·have apI:=(h.own b _ _ pK).1;exact⟨Below.heap_alloc _ _ _ apI,WZ pK ab,rfl,ab⟩
     ·refine hold r n9 mh Jr ed eX _ ?_;have:(n+1)*t.length<=l.1.length*t.length:=nk _ aA;rw[iR,Nat.one_mul] at this;omega
    ·rw[mm ab] at aW;have:=j6.zJ (m:=m.gf σ.next (some w.heap.size) (.slice (some ⟨w.heap.size,0,none⟩) gh.1.length c') (snap cur a1 t.length gh.1.length) (sH m.dy r w.heap.size))
      (h:=(w.alloc (.cells cur ty)).heap) (r:=w.heap.size) (cur:=cur) (o:=l.1.length*t.length) aL aqx _ x aW n
     rwa [<-iR,Nat.add_sub_cancel' ab] at this
   ·simp only[M.gf,and_self,if_true];exact Qk
  ·have so:j=k:=aq.resolve_left m6;subst so;simp only at ah;rw[T.E5 _ _ sr] at ah;cases ah
 ·have:=not_or.1 aq;simp only
  rw[bC.T.eP _ _ this.1,bC.T.eP _ _ this.2]
 ·exact P6 (λo bX=>aW k _ r _ (.inr rfl) aU (aqT b o bX) bX) ab
 ·have dead:∀x,((σ.heap.put k none).put σ.next (some (B.arr t a1 gh none 0))).get k≠some x:=λx aW=>by
   rw[T.E5 _ _ sr] at aW;cases aW
  rcases aq with aq|aq
  ·rcases aZ with aZ|aZ
   ·rw[aq,aZ]
   ·subst aZ;exact absurd tn (dead _)
  ·subst aq;exact absurd ma (dead _)
 ·rcases aq with aq|aq
  ·subst aq;simp[M.gf] at fm;exact .inl ab
  ·subst aq;simp only at ah;rw[T.E5 _ _ sr] at ah;cases ah
 ·simp only[M.gf] at kI⊢;by_cases yz:b=w.heap.size
  ·subst yz;simp[sH] at kI;obtain⟨rfl,rfl⟩:=kI;exact⟨by simp,by simp[sH]⟩
  ·by_cases pK:∃o,m.dy b=some (r,some o)
   ·obtain⟨o,pK⟩:=pK;rw[WZ pK yz] at kI;cases kI;have:=(h.own b _ _ pK).1;exact⟨by simp;omega,by simp[sH]⟩
   ·rw[P6 (λo bX=>pK ⟨o,bX⟩) yz] at kI;obtain⟨aG,aN⟩:=h.own b R u3 kI;have bo:=(h.own R R none aN).1;refine⟨by simp;omega,?_⟩;rw[P6 (λo bX=>by rw[aN] at bX;cases bX) ab];exact aN
 ·simp only[M.gf] at kI;by_cases yz:b=w.heap.size
  ·subst yz;simp[sH] at kI;obtain⟨rfl,rfl⟩:=kI;exact⟨σ.next,_,.inl rfl,bC.T.il ..,by simp[M.gf]⟩
  ·by_cases pK:∃o,m.dy b=some (r,some o)
   ·obtain⟨o,pK⟩:=pK;rw[WZ pK yz] at kI;cases kI;exact⟨σ.next,_,.inl rfl,bC.T.il ..,by simp[M.gf]⟩
   ·rw[P6 (λo bX=>pK ⟨o,bX⟩) yz] at kI;exact absurd kI eJ
 ·obtain⟨h_,jm,b_,aG,aN⟩:=h.stay b j v gj;exact⟨h_,jm,b_,(Below.heap_alloc _ _ _ (q8 aG)).trans aG,aN⟩
end
end cx
end Go.Proofs.YtgmdfchkljaooaaGreat
