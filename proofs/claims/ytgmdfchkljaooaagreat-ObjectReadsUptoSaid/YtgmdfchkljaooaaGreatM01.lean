/- Words for slices that are read and slices that the call itself makes. -/
import Derived.Test.YtgmdfchkljaooaaGreatRows
import Derived.WalkKit
import Derived.WalkSpells
import Derived.WalkLawsBesides
import Derived.Lib.Hide
import Derived.BigQuiet
import Derived.Deep.QuietTactic
import Derived.Deep.AppendLies
import Derived.Deep.Draws
import Derived.Maps.AppendAt
noncomputable section
namespace Go.Proofs.YtgmdfchkljaooaaGreat
theorem ab {p:Prop}(h:p:=by omega):p:=h
theorem bu {p:Prop}(h:p:=by decide):p:=h
theorem bw:type_of%@List.length_append:=@List.length_append
theorem aom:type_of%@List.setIfInBounds_toArray:=@List.setIfInBounds_toArray
theorem ep:type_of%@List.getElem?_eq_some_iff:=@List.getElem?_eq_some_iff
theorem cN:type_of%@List.append_assoc:=@List.append_assoc
theorem cd:type_of%@List.length_nil:=@List.length_nil
theorem Y5:type_of%@List.set_cons_succ:=@List.set_cons_succ
theorem aon:type_of%@List.set_cons_zero:=@List.set_cons_zero
theorem fG:type_of%@List.getElem?_eq_getElem:=@List.getElem?_eq_getElem
theorem cv:type_of%@Nat.add_zero:=@Nat.add_zero
theorem gB:type_of%@Nat.eq_of_beq_eq_true:=@Nat.eq_of_beq_eq_true
theorem dr:type_of%@List.append_nil:=@List.append_nil
theorem gX:type_of%@List.length_cons:=@List.length_cons
theorem gQ:type_of%@Bool.and_eq_true:=@Bool.and_eq_true
theorem gd:type_of%@Nat.zero_add:=@Nat.zero_add
theorem jq:type_of%@Result.andThen_ok:=@Result.andThen_ok
theorem eF:type_of%@Option.some.inj:=@Option.some.inj
theorem mL:type_of%@List.getElem?_append_left:=@List.getElem?_append_left
theorem mM:type_of%@List.getElem?_append_right:=@List.getElem?_append_right
theorem iH:type_of%@Sem.run_bind:=@Sem.run_bind
theorem jF:type_of%@Nat.le_trans:=@Nat.le_trans
theorem oc:type_of%@Array.getElem?_eq_some_iff:=@Array.getElem?_eq_some_iff
theorem pG:type_of%@List.eq_nil_of_length_eq_zero:=@List.eq_nil_of_length_eq_zero
theorem mN:type_of%@List.getElem?_set_ne:=@List.getElem?_set_ne
theorem kz:type_of%@Nat.lt_or_ge:=@Nat.lt_or_ge
theorem jT:type_of%@Sem.run_pure:=@Sem.run_pure
theorem iQ:type_of%@Nat.add_mul:=@Nat.add_mul
theorem nu:type_of%@Nat.mul_le_mul_right:=@Nat.mul_le_mul_right
theorem m2:type_of%@List.mem_cons_self:=@List.mem_cons_self
theorem aG:type_of%@True.intro:=@True.intro
open Go.RowKit
theorem aOC {a b:ByteArray}(h:(a.toList==b.toList)=true):a=b:=by
 rw[ByteArray.toList_eq,ByteArray.toList_eq] at h;exact WideShapes.bytes_inj (by simpa using h)
theorem anj (a b:ByteArray):(a.toList==b.toList)=decide (a=b):=by
 rw[Bool.eq_iff_iff,decide_eq_true_iff];exact⟨aOC,λh=>by rw[h];simp⟩
def kx (w:World)(A:Option Addr)(xs:List Value):Prop:=xs≠[]->∃b off,A=some ⟨b,off,none⟩/\b<w.heap.size/\∀i u,xs[i]?=some u->w.cell? ⟨b,off+i,none⟩=some u
section
variable{w w':World}{A:Option Addr}{xs:List Value}
theorem kx.nil:kx w A []:=λh=>absurd rfl h
theorem kx.at_ (h:kx w A xs){i:Nat}(aj:i<xs.length):
 ∃b off,A=some ⟨b,off,none⟩/\b<w.heap.size/\∀i u,xs[i]?=some u->w.cell? ⟨b,off+i,none⟩=some u:=h (by rintro rfl;simp at aj)
theorem kx.take (h:kx w A xs)(k:Nat):kx w A (xs.take k):=λaz=>by
 have ba:xs≠[]:=by rintro rfl;simp at az
 obtain⟨b,off,e,ah,an⟩:=h ba;refine⟨b,off,e,ah,λi u hu=>an i u ?_⟩;rw[List.getElem?_take] at hu;split at hu
 ·exact hu
 ·cases hu
theorem kx.ayu {g:Nat}{cs:Array Value}{t:TypeId}{cm:Nat×Nat}(h:w.heap[g]?=some (.cells cs t cm)):kx w (some ⟨g,0,none⟩) cs.toList:=λ_=>by
 have bl:g<w.heap.size:=by
  rcases Nat.lt_or_ge g w.heap.size with aa|aa
  ·exact aa
  ·rw[Array.getElem?_eq_none aa] at h;cases h
 refine⟨g,0,rfl,bl,λi u hu=>?_⟩;unfold World.cell?;simp[h];simpa using hu
theorem kx.new (w:World)(cs:Array Value)(t:TypeId):kx (w.alloc (.cells cs t)) (some ⟨w.heap.size,0,none⟩) cs.toList:=kx.ayu (heap_alloc_new w _)
end
theorem aOa {P:Program}(t e:TypeId)(bR:P.underlying t=some (.slice e))(i:TypeInfo)(aj:P.info? e=some i)(A:Option Addr)(n c uD:Nat)(y:Int)(cf:y=uD)(af:uD<=c)(W:World):
 (Instr.slice t (.slice A n c) none (some (.int .i64 y)) none).run P W=.ok (.slice A uD c) W:=by
 subst cf;have he:P.elem t=e:=by simp[Program.elem,bR]
 rw[run_slice_h W t A n c (by rw[he];exact bR) .i64 uD (by omega) (by omega),he];simp[sizeOf,typeInfo,aj,sliced];cases A<;>simp[Addr.add]
section
variable{w:World}{base:Nat}{e:TypeId}{size:Nat}{v:Value}{n:Nat}{xs:List Value}
theorem agL (h:w.ownsRow base e size v n xs):∃A c,v=.slice A n c/\n<=c:=by
 rcases h.2 with⟨rfl,rfl⟩|⟨g,cap,cur,rfl,_,_,DV,_⟩
 ·exact⟨none,0,rfl,Nat.le_refl _⟩
 ·exact⟨_,cap,rfl,DV⟩
theorem Ms {w':World}(h:w.ownsRow base e size v n xs)(ah:Below w.heap.size w w'):w'.ownsRow base e size v n xs:=by
 refine⟨h.1,?_⟩;rcases h.2 with ba|⟨g,cap,cur,aa,af,ax,a8⟩
 ·exact .inl ba
 ·refine .inr ⟨g,cap,cur,aa,af,?_,a8⟩;have bl:g<w.heap.size:=by
   rcases Nat.lt_or_ge g w.heap.size with aA|aA
   ·exact aA
   ·rw[Array.getElem?_eq_none aA] at ax;cases ax
  rw[ah.block g bl];exact ax
end
section
variable{P:Program}(w:World)
theorem run_append_nil (base:Nat)(t ty e:TypeId)(i:TypeInfo)(size:Nat)(bR:P.underlying t=some (.slice e))(aj:P.info? e=some i)(v:Value)(n:Nat)(xs:List Value)(q9:w.ownsRow base e size v n xs)(c:Nat):(Builtin.append_ #[t,t] ty #[v,.slice none 0 c]).run P w=.ok v w:=by
 rcases q9.2 with⟨rfl,rfl⟩|⟨g,cap,cur,rfl,_,_,DV,_⟩
 ·simp[Builtin.append_,run_underlying bR,sizeOf,typeInfo,aj,Builtin.lenOf,Builtin.firstCells]
 ·simp[Builtin.append_,run_underlying bR,sizeOf,typeInfo,aj,Builtin.lenOf,Builtin.firstCells,DV,storeCells]
theorem aN' (base:Nat)(t ty e:TypeId)(i:TypeInfo)(z:Value)(size bytes:Nat)(bR:P.underlying t=some (.slice e))(aj:P.info? e=some i)(ai:i.zero=some z)(yS:i.size=size)(qx:i.bytes=bytes)(yV:z.cells.size=size)(fD:0<size)(v:Value)(n:Nat)(xs:List Value)(q9:w.ownsRow base e size v n xs)(A:Option Addr)(m c:Nat)(news:List Value)(aU:kx w A news)(aW:news.length=m*size)(aa:∀u∈news,u.oneCell'=true)(yB:(n+m)*bytes<=140737488355328)(yq:n+m<=maxLen)(sm:base<=w.heap.size):
 ∃eZ c' w',(Builtin.append_ #[t,t] ty #[v,.slice A m c]).run P w=.ok (.slice eZ (n+m) c') w'/\n+m<=c'/\w'.ownsRow base e size (.slice eZ (n+m) c') (n+m) (xs++news)/\w.grownBy w' v.ownBlock/\
  ((Value.slice eZ (n+m) c').ownBlock=v.ownBlock\/(Value.slice eZ (n+m) c').ownBlock=some w.heap.size):=by
 by_cases dH:∃r7,A=some r7
 ·obtain⟨r7,rfl⟩:=dH;have wZ:∀j u,news[j]?=some u->w.cell? (r7.add j)=some u:=by
   intro j u hu;have aw:j<news.length:=by
    rcases Nat.lt_or_ge j news.length with h|h
    ·exact h
    ·rw[List.getElem?_eq_none h] at hu;cases hu
   obtain⟨b,off,h,_,an⟩:=aU.at_ aw;injection h with h
   subst h;have:=an j u hu;unfold Addr.add;split
   ·subst_vars;simpa using this
   ·exact this
  obtain⟨en,w',D2,af,ax,_,cn⟩:=run_append_own_at (P:=P) w base t ty e i z size bytes bR aj ai yS qx yV fD v n xs q9 r7 m c news aW wZ aa yq yB sm;obtain⟨eZ,c',rfl,hle⟩:=agL af;exact⟨eZ,c',w',D2,hle,af,ax,cn⟩
 ·obtain rfl:A=none:=by cases A with
   |none=>rfl
   |some a=>exact absurd ⟨a,rfl⟩ dH
  have az:news=[]:=by
   by_cases h:news=[]
   ·exact h
   ·obtain⟨b,off,h,_⟩:=aU h;cases h
  subst az;have hm:m=0:=by
   rcases Nat.eq_zero_or_pos m with h|h
   ·exact h
   ·have:=Nat.mul_pos h fD;simp at aW;omega
  subst hm;obtain⟨eZ,c',rfl,hle⟩:=agL q9;exact⟨eZ,c',w,run_append_nil w base t ty e i size bR aj _ n xs q9 c,hle,by simpa using q9,World.grownBy.refl w _,.inl rfl⟩
theorem anF {o:Oper}{a:Act}{K:Act->World->Prop}{Q:Exit->Act->World->Prop}(s x:Operand)(t:TypeId)(b6:o.op=.call {callee:=.builtin .append,args:=#[s,x],argTypes:=#[t,t]})(base:Nat)(e:TypeId)(i:TypeInfo)(z:Value)(size bytes:Nat)(bR:P.underlying t=some (.slice e))(aj:P.info? e=some i)(ai:i.zero=some z)(yS:i.size=size)(qx:i.bytes=bytes)(yV:z.cells.size=size)(fD:0<size)(v:Value)(n:Nat)(xs:List Value)(aM:a.eval s=v)(q9:w.ownsRow base e size v n xs)(A:Option Addr)(m c:Nat)(news:List Value)(aO:a.eval x=.slice A m c)(aU:kx w A news)(aW:news.length=m*size)(aa:∀u∈news,u.oneCell'=true)(yB:(n+m)*bytes<=140737488355328)(yq:n+m<=maxLen)(sm:base<=w.heap.size)(h:∀eZ c' w',n+m<=c'->w'.ownsRow base e size (.slice eZ (n+m) c') (n+m) (xs++news)->w.grownBy w' v.ownBlock->
  ((Value.slice eZ (n+m) c').ownBlock=v.ownBlock\/(Value.slice eZ (n+m) c').ownBlock=some w.heap.size)->K (a.put o.dst (.slice eZ (n+m) c')) w'):o.wp P a w K Q:=by
 obtain⟨eZ,c',w',D2,hle,af,ax,a8⟩:=aN' (P:=P) w base t o.type e i z size bytes bR aj ai yS qx yV fD v n xs q9 A m c news aU aW aa yB yq sm;unfold Oper.wp execOp;simp only[b6,resolve,invoke,builtin,Sem.run_bind,Sem.run_pure,Result.andThen_ok,List.map_toArray,List.map_cons,List.map_nil,aM,aO,D2];exact h eZ c' w' hle af ax a8
theorem anE {ops:Array Oper}{rest:List Oper}{o:Oper}{a:Act}{Q:Exit->Act->World->Prop}(SX:o.guard=none)(s x:Operand)(t:TypeId)(b6:o.op=.call {callee:=.builtin .append,args:=#[s,x],argTypes:=#[t,t]})(base:Nat)(e:TypeId)(i:TypeInfo)(z:Value)(size bytes:Nat)(bR:P.underlying t=some (.slice e))(aj:P.info? e=some i)(ai:i.zero=some z)(yS:i.size=size)(qx:i.bytes=bytes)(yV:z.cells.size=size)(fD:0<size)(v:Value)(n:Nat)(xs:List Value)(aM:a.eval s=v)(q9:w.ownsRow base e size v n xs)(A:Option Addr)(m c:Nat)(news:List Value)(aO:a.eval x=.slice A m c)(aU:kx w A news)(aW:news.length=m*size)(aa:∀u∈news,u.oneCell'=true)(yB:(n+m)*bytes<=140737488355328)(yq:n+m<=maxLen)(sm:base<=w.heap.size)(h:∀eZ c' w',n+m<=c'->w'.ownsRow base e size (.slice eZ (n+m) c') (n+m) (xs++news)->w.grownBy w' v.ownBlock->((Value.slice eZ (n+m) c').ownBlock=v.ownBlock\/(Value.slice eZ (n+m) c').ownBlock=some w.heap.size)->wpList P ops Q rest (a.put o.dst (.slice eZ (n+m) c')) w'):wpList P ops Q (o::rest) a w:=wpList_plain SX λ_ ev=>anF w s x t b6 base e i z size bytes bR aj ai yS qx yV fD v n xs aM q9 A m c news aO aU aW aa yB yq sm λeZ c' w' hle af ax a8=>ev _ _ (h eZ c' w' hle af ax a8)
theorem QX {ops:Array Oper}{o:Oper}{a:Act}{K:Act->World->Prop}{Q:Exit->Act->World->Prop}{E:Prop}(SX:o.guard=none)(s x:Operand)(t:TypeId)(b6:o.op=.call {callee:=.builtin .append,args:=#[s,x],argTypes:=#[t,t]})(base:Nat)(e:TypeId)(i:TypeInfo)(z:Value)(size bytes:Nat)(bR:P.underlying t=some (.slice e))(aj:P.info? e=some i)(ai:i.zero=some z)(yS:i.size=size)(qx:i.bytes=bytes)(yV:z.cells.size=size)(fD:0<size)(v:Value)(n:Nat)(xs:List Value)(aM:a.eval s=v)(q9:w.ownsRow base e size v n xs)(A:Option Addr)(m c:Nat)(news:List Value)(aO:a.eval x=.slice A m c)(aU:kx w A news)(aW:news.length=m*size)(aa:∀u∈news,u.oneCell'=true)(yB:(n+m)*bytes<=140737488355328)(yq:n+m<=maxLen)(sm:base<=w.heap.size)(h:∀eZ c' w',n+m<=c'->w'.ownsRow base e size (.slice eZ (n+m) c') (n+m) (xs++news)->w.grownBy w' v.ownBlock->
  ((Value.slice eZ (n+m) c').ownBlock=v.ownBlock\/(Value.slice eZ (n+m) c').ownBlock=some w.heap.size)->K (a.put o.dst (.slice eZ (n+m) c')) w'):
 if Region.wanted o (yielded ops a.tmps)=true then Oper.wp P o a w K Q else E:=by
 have hw:Region.wanted o (yielded ops a.tmps)=true:=by simp[Region.wanted,SX]
 rw[if_pos hw];exact anF w s x t b6 base e i z size bytes bR aj ai yS qx yV fD v n xs aM q9 A m c news aO aU aW aa yB yq sm h
end
namespace bI
set_option linter.unusedVariables false
inductive T (α:Type)
  |nil
  |node (v:Option α) (l r:T α)
  deriving DecidableEq
def T.get {α:Type}:T α->Nat->Option α
 |.nil,_=>none
 |.node v l r,k=>match k with
  |0=>v
  |k+1=>match k%2 with
   |0=>l.get (k/2)
   |_=>r.get (k/2)
def T.set {α:Type}:Nat->T α->Nat->Option α->T α
 |0,t,_,_=>t
 |d+1,.nil,k,a=>match k with
  |0=>.node a .nil .nil
  |k+1=>match k%2 with
   |0=>.node none (T.set d .nil (k/2) a) .nil
   |_=>.node none .nil (T.set d .nil (k/2) a)
 |d+1,.node v l r,k,a=>match k with
  |0=>.node a l r
  |k+1=>match k%2 with
   |0=>.node v (T.set d l (k/2) a) r
   |_=>.node v l (T.set d r (k/2) a)
def T.put {α:Type}(t:T α)(k:Nat)(a:Option α):T α:=T.set (k+1) t k a
theorem T.XQ {α:Type}:∀(d:Nat)(t:T α)(k:Nat)(a:Option α),k<d->(T.set d t k a).get k=a
 |0,_,_,_,h=>by omega
 |d+1,.nil,0,a,_=>rfl
 |d+1,.node v l r,0,a,_=>rfl
 |d+1,.nil,k+1,a,h=>by
  have aX:k/2<d:=ab;rcases Nat.mod_two_eq_zero_or_one k with e|e<;>simp only[T.set,T.get,e]<;>exact T.XQ d _ _ a aX
 |d+1,.node v l r,k+1,a,h=>by
  have aX:k/2<d:=ab;rcases Nat.mod_two_eq_zero_or_one k with e|e<;>simp only[T.set,T.get,e]<;>exact T.XQ d _ _ a aX
theorem T.XP {α:Type}:∀(d:Nat)(t:T α)(k j:Nat)(a:Option α),j≠k->(T.set d t k a).get j=t.get j
 |0,_,_,_,_,_=>rfl
 |d+1,.nil,0,0,a,h=>by omega
 |d+1,.node v l r,0,0,a,h=>by omega
 |d+1,.nil,0,j+1,a,h=>by
  rcases Nat.mod_two_eq_zero_or_one j with e|e<;>simp only[T.set,T.get,e]
 |d+1,.node v l r,0,j+1,a,h=>by
  rcases Nat.mod_two_eq_zero_or_one j with e|e<;>simp only[T.set,T.get,e]
 |d+1,.nil,k+1,0,a,h=>by
  rcases Nat.mod_two_eq_zero_or_one k with e|e<;>simp only[T.set,T.get,e]
 |d+1,.node v l r,k+1,0,a,h=>by
  rcases Nat.mod_two_eq_zero_or_one k with e|e<;>simp only[T.set,T.get,e]
 |d+1,.nil,k+1,j+1,a,h=>by
  rcases Nat.mod_two_eq_zero_or_one k with e|e<;>rcases Nat.mod_two_eq_zero_or_one j with e'|e'<;>simp only[T.set,T.get,e,e']<;>
   first|rfl|(rw[T.XP d _ _ _ a ab];rfl)
 |d+1,.node v l r,k+1,j+1,a,h=>by
  rcases Nat.mod_two_eq_zero_or_one k with e|e<;>rcases Nat.mod_two_eq_zero_or_one j with e'|e'<;>simp only[T.set,T.get,e,e']<;>
   first|rfl|(rw[T.XP d _ _ _ a ab])
theorem T.ij {α:Type}(t:T α)(k:Nat)(a:Option α):(t.put k a).get k=a:=T.XQ _ _ _ _ ab
theorem T.eQ {α:Type}(t:T α){k j:Nat}(a:Option α)(h:j≠k):(t.put k a).get j=t.get j:=T.XP _ _ _ _ _ h
theorem T.m8 {α:Type}(t:T α)(k j:Nat)(a:Option α):(t.put k a).get j=if j=k then a else t.get j:=by
 split
 ·subst_vars;exact T.ij ..
 ·exact T.eQ _ _ (by assumption)
theorem T.get_nil {α:Type}(j:Nat):(T.nil:T α).get j=none:=by rw[T.get]
end bI
end Go.Proofs.YtgmdfchkljaooaaGreat
namespace Go.Proofs.YtgmdfchkljaooaaGreat
open Go.RowKit
namespace bI
set_option linter.unusedVariables false
def cO {α β:Type}(R:α->β->Prop):List α->List β->Prop
 |[],[]=>True
 |a::l,b::r=>R a b/\cO R l r
 |_,_=>False
section
variable{α β:Type}{R S:α->β->Prop}
theorem cO.imp (h:∀a b,R a b->S a b):∀{l:List α}{r:List β},cO R l r->cO S l r
 |[],[],_=>trivial
 |a::l,b::r,⟨aa,af⟩=>⟨h _ _ aa,cO.imp h af⟩
theorem cO.length:∀{l:List α}{r:List β},cO R l r->l.length=r.length
 |[],[],_=>rfl
 |a::l,b::r,⟨_,af⟩=>by simp[cO.length af]
theorem cO.append:∀{l:List α}{r:List β}{eG:List α}{mF:List β},cO R l r->cO R eG mF->cO R (l++eG) (r++mF)
 |[],[],_,_,_,h=>h
 |a::l,b::r,_,_,⟨aa,af⟩,h=>⟨aa,cO.append af h⟩
theorem cO.drop:∀(k:Nat){l:List α}{r:List β},cO R l r->cO R (l.drop k) (r.drop k)
 |0,_,_,h=>h
 |k+1,[],[],_=>trivial
 |k+1,a::l,b::r,⟨_,af⟩=>cO.drop k af
theorem cO.take:∀(k:Nat){l:List α}{r:List β},cO R l r->cO R (l.take k) (r.take k)
 |0,_,_,_=>trivial
 |k+1,[],[],_=>trivial
 |k+1,a::l,b::r,⟨aa,af⟩=>⟨aa,cO.take k af⟩
theorem cO.get:∀{l:List α}{r:List β},cO R l r->∀{i:Nat}{a:α},l[i]?=some a->∃b,r[i]?=some b/\R a b
 |[],[],_,i,a,h=>by simp at h
 |x::l,b::r,⟨aa,af⟩,0,a,h=>by simp at h;subst h;exact⟨b,rfl,aa⟩
 |x::l,b::r,⟨aa,af⟩,i+1,a,h=>by simp at h;obtain⟨c,ax,a8⟩:=cO.get af h;exact⟨c,by simpa using ax,a8⟩
theorem cO.Mo:∀{l:List α}{r:List β},l.length=r.length->(∀(i:Nat)(a:α)(b:β),l[i]?=some a->r[i]?=some b->R a b)->cO R l r
 |[],[],_,_=>trivial
 |[],b::r,h,_=>by simp at h
 |a::l,[],h,_=>by simp at h
 |a::l,b::r,h,cj=>⟨cj 0 a b rfl rfl,cO.Mo (by simpa using h) λi a b bZ ah=>cj (i+1) a b (by simpa using bZ) (by simpa using ah)⟩
end
theorem JB {v:Value}(h:∀cs,v≠.agg cs):v.cells=#[v]:=by
 cases v<;>first|rfl|exact absurd rfl (h _)
section
variable{w0 w w' u9:World}
def ik (w:World)(i:Nat)(o:Obj):World:={w with heap:=w.heap.setIfInBounds i o}
theorem nD (w:World)(i:Nat)(o:Obj):(ik w i o).heap.size=w.heap.size:=by simp[ik]
theorem mi (w:World){i j:Nat}(o:Obj)(h:j≠i):(ik w i o).heap[j]?=w.heap[j]?:=by
 simp[ik,Array.getElem?_setIfInBounds_ne (Ne.symm h)]
theorem oF (w:World){i:Nat}(o:Obj)(h:i<w.heap.size):(ik w i o).heap[i]?=some o:=by
 simp[ik,h]
end
structure fC (aV:Program)(cC:T TypeInfo):Prop where
  info:∀t i,cC.get t=some i->aV.info? t=some i
section
variable(cC:T TypeInfo)
def under (t:Nat):Option TypeDesc:=match cC.get t with
 |some i=>match i.desc with
  |.named _ u=>match cC.get u with
   |some j=>some j.desc
   |none=>none
  |d=>some d
 |none=>none
def size (t:Nat):Option Nat:=match cC.get t with
 |some i=>some i.size
 |none=>none
def kM (t:Nat):Option Nat:=match cC.get t with
 |some i=>some i.bytes
 |none=>none
def isAgg (t:Nat):Option Bool:=match under cC t with
 |some (.struct _)=>some true
 |some (.array _ _)=>some true
 |some _=>some false
 |none=>none
end
section
variable{cC:T TypeInfo}{aV:Program}(b9:fC aV cC){w:World}
include b9
theorem jP {t:Nat}{d:TypeDesc}(h:under cC t=some d):aV.underlying t=some d:=by
 unfold under at h;unfold Program.underlying;split at h
 ·rename_i i aj;rw[b9.info _ _ aj];split at h
  ·rename_i n u bj;split at h
   ·rename_i j aw;injection h with h
    obtain⟨⟩:=i;simp only at bj;subst bj;simp[b9.info _ _ aw,h]
   ·cases h
  ·rename_i d' az;injection h with h
   obtain⟨⟩:=i;simp only at h az;subst h;split
   ·rename_i he;injection he with he
    injection he with he
    subst he;exact absurd rfl (az _ _)
   ·rename_i he;injection he with he
    subst he;rfl
   ·rename_i he;cases he
 ·cases h
theorem hN {t:Nat}{d:TypeDesc}(h:under cC t=some d):(underlying t).run aV w=.ok d w:=run_underlying (jP b9 h) w
theorem mh {t n:Nat}(h:size cC t=some n):(sizeOf t).run aV w=.ok n w:=by
 unfold size at h;split at h
 ·rename_i i aj;cases h;simp[sizeOf,typeInfo,b9.info _ _ aj]
 ·cases h
theorem qM {t:Nat}{b:Bool}(h:isAgg cC t=some b):(Go.isAgg t).run aV w=.ok b w:=by
 unfold isAgg at h;split at h
 ·rename_i hu;cases h;simp[Go.isAgg,hN b9 hu]
 ·rename_i hu;cases h;simp[Go.isAgg,hN b9 hu]
 ·rename_i d tB arB hu;cases h;simp only[Go.isAgg,iH,hN b9 hu,jq]
  first|done|rfl|simp
 ·cases h
end
def ia (cur:Array Value)(k:Nat):List Value->Array Value
 |[]=>cur
 |v::vs=>ia (cur.setIfInBounds k v) (k+1) vs
theorem mU:∀(vs:List Value)(cur:Array Value)(k:Nat),(ia cur k vs).size=cur.size
 |[],_,_=>rfl
 |v::vs,cur,k=>by rw[ia,mU vs];simp
theorem oC:∀(vs:List Value)(cur:Array Value)(k j:Nat),k+vs.length<=cur.size->
 (ia cur k vs)[j]?=if k<=j/\j<k+vs.length then vs[j-k]? else cur[j]?
 |[],cur,k,j,h=>by simp[ia];omega
 |v::vs,cur,k,j,h=>by
  simp only[gX] at h;rw[ia,oC vs _ (k+1) j (by simp;omega)];by_cases aa:k+1<=j/\j<k+1+vs.length
  ·rw[if_pos aa,if_pos (by simp;omega)];obtain⟨d,rfl⟩:∃d,j=k+1+d:=⟨j-(k+1),ab⟩;rw[show k+1+d-(k+1)=d by omega,show k+1+d-k=d+1 by omega,List.getElem?_cons_succ]
  ·rw[if_neg aa];by_cases af:j=k
   ·subst af;simp[show j<cur.size by omega]
   ·rw[if_neg (by simp;omega),Array.getElem?_setIfInBounds_ne ab]
section
variable{aV:Program}{w:World}{b o:Nat}{cur:Array Value}{t:TypeId}{cm:Nat×Nat}
theorem add_eq (b o k:Nat):(⟨b,o,none⟩:Addr).add k=⟨b,o+k,none⟩:=by
 unfold Addr.add;split<;>simp_all
theorem CV (h:w.heap[b]?=some (.cells cur t cm)):w.cell? ⟨b,o,none⟩=cur[o]?:=by simp[World.cell?,h]
theorem qN {v:Value}(h:w.heap[b]?=some (.cells cur t cm))(aT:cur[o]?=some v):(Go.load ⟨b,o,none⟩).run aV w=.ok v w:=by
 simp[Go.load,Sem.run,CV h,aT]
theorem run_loadCellsFrom (h:w.heap[b]?=some (.cells cur t cm)):∀(l:List Value)(i:Nat)(acc:Array Value),(∀j,j<l.length->cur[o+i+j]?=l[j]?)->
 (loadCellsFrom ⟨b,o,none⟩ i l.length acc).run aV w=.ok (acc++l.toArray) w
 |[],i,acc,_=>by simp[loadCellsFrom]
 |v::l,i,acc,aW=>by
  have ba:cur[o+i]?=some v:=by simpa using aW 0 (by simp)
  rw[gX,loadCellsFrom,add_eq,iH,qN h ba,jq,
   run_loadCellsFrom h l (i+1) _ λj aw=>by simpa[Nat.add_assoc,Nat.add_comm 1] using aW (j+1) (by simpa using aw)]
  simp
theorem run_loadCells (h:w.heap[b]?=some (.cells cur t cm))(l:List Value)(aW:∀j,j<l.length->cur[o+j]?=l[j]?):
 (loadCells ⟨b,o,none⟩ l.length).run aV w=.ok l.toArray w:=by
 rw[loadCells,run_loadCellsFrom h l 0 #[] (by simpa using aW)];simp
theorem aOh {mT:Obj}(h:w.heap[b]?=some mT):ik w b mT=w:=by
 have:w.heap.setIfInBounds b mT=w.heap:=by
  apply Array.ext_getElem?;intro i;by_cases aj:i=b
  ·subst aj;have:i<w.heap.size:=by
    rcases kz i w.heap.size with aa|aa
    ·exact aa
    ·rw[Array.getElem?_eq_none aa] at h;cases h
   have af:=(oc.1 h).2;simp[this,af]
  ·rw[Array.getElem?_setIfInBounds_ne (Ne.symm aj)]
 simp[ik,this]
theorem aOi (ng mB:Obj):ik (ik w b ng) b mB=ik w b mB:=by simp[ik]
theorem aOj (h:w.heap[b]?=some (.cells cur t cm))(v:Value):w.setCell ⟨b,o,none⟩ v=ik w b (.cells (cur.setIfInBounds o v) t cm):=by
 have ah:b<w.heap.size:=by
  rcases kz b w.heap.size with aa|aa
  ·exact aa
  ·rw[Array.getElem?_eq_none aa] at h;cases h
 have af:=(oc.1 h).2;simp only[World.setCell,ik];congr 1;apply Array.ext_getElem?;intro i;rw[Array.getElem?_modify];by_cases aj:b=i
 ·subst aj;simp[ah,af]
 ·rw[Array.getElem?_setIfInBounds_ne aj,if_neg aj]
theorem aOd {v:Value}(h:w.heap[b]?=some (.cells cur t cm))(b6:o<cur.size)(bE:¬(cm.1<=o/\o<cm.2))(aa:(∀cs,v≠.agg cs)/\∀cs,v≠.tuple cs):
 (Go.store ⟨b,o,none⟩ v).run aV w=.ok () (ik w b (.cells (cur.setIfInBounds o v) t cm)):=by
 have an:w.cell? ⟨b,o,none⟩=some cur[o]:=by rw[CV h];simp[b6]
 have so:w.frozen? ⟨b,o,none⟩=false:=by
  simp[World.frozen?,h];omega
 unfold Go.store;rw[<-aOj h];cases v with
 |agg cs=>exact absurd rfl (aa.1 cs)
 |tuple cs=>exact absurd rfl (aa.2 cs)
 |_=>simp only[Sem.run,an,so,Bool.false_eq_true,if_false]
theorem Cf:∀(vs:List Value)(i:Nat)(w:World)(cur:Array Value),w.heap[b]?=some (.cells cur t cm)->o+i+vs.length<=cur.size->
 (∀j,j<cur.size->¬(cm.1<=j/\j<cm.2))->(∀v∈vs,(∀cs,v≠.agg cs)/\∀cs,v≠.tuple cs)->
 (storeCells ⟨b,o,none⟩ vs i).run aV w=.ok () (ik w b (.cells (ia cur (o+i) vs) t cm))
 |[],i,w,cur,h,_,_,_=>by simp[storeCells,ia,aOh h]
 |v::vs,i,w,cur,h,aM,bE,aa=>by
  simp only[gX] at aM;have ah:b<w.heap.size:=by
   rcases kz b w.heap.size with aa|aa
   ·exact aa
   ·rw[Array.getElem?_eq_none aa] at h;cases h
  rw[storeCells,add_eq,iH,aOd h ab (bE _ ab) (aa v (by simp)),jq,
   Cf vs (i+1) _ _ (oF _ _ ah) (by simp;omega) (by simpa using bE) λu hu=>aa u (by simp[hu]),aOi]
  simp[ia,Nat.add_assoc]
end
end bI
namespace cF
open bI (T cO)
set_option linter.unusedVariables false
def a_ (k:IntKind):Type:={n:Int//k.min<=n/\n<=k.max}
theorem aOU (k:IntKind)(n:Int):k.min<=k.wrap n/\k.wrap n<=k.max:=by
 cases k<;>simp only[IntKind.min,IntKind.max,IntKind.wrap,IntKind.bits,IntKind.signed]<;>simp<;>omega
def a_.w (k:IntKind)(n:Int):a_ k:=⟨k.wrap n,aOU k n⟩
theorem Co {k:IntKind}{n:Int}(h:k.min<=n/\n<=k.max):k.wrap n=n:=by
 cases k<;>simp[IntKind.min,IntKind.max,IntKind.wrap,IntKind.bits,IntKind.signed] at h⊢<;>omega
instance{k:IntKind}:DecidableEq (a_ k):=λa b=>decidable_of_iff (a.1=b.1) Subtype.ext_iff.symm
def L (α:Type):Type:={l:List α//l.length<=140737488355328}
def dY:Type:={s:ByteArray//s.size<=9223372036854775807}
instance:DecidableEq dY:=λa b=>decidable_of_iff (a.1=b.1) Subtype.ext_iff.symm
section
variable{α:Type}{k cB:IntKind}
def L.nil:L α:=⟨[],by simp⟩
def bf (l:L α):a_ .i64:=⟨l.1.length,by have:=l.2;simp[IntKind.min,IntKind.max,IntKind.bits,IntKind.signed];omega⟩
def fq (l:L α)(i:Nat):Option α:=l.1[i]?
def ej (l:L α)(i:Nat)(x:α):L α:=⟨l.1.set i x,by simpa using l.2⟩
def room (e5 n:Nat):Bool:=decide (n*e5<=140737488355328)&&decide (n<=1048576000)
def c6 (e5:Nat)(l r:L α):Option (L α):=if h:room e5 (l.1.length+r.1.length)=true then some ⟨l.1++r.1,by simp[room] at h;simp;omega⟩ else none
def nM (l:L α)(dA aj:Int):Option (L α):=bif decide (0<=dA)&&decide (dA<=aj)&&decide (aj<=l.1.length) then some ⟨(l.1.drop dA.toNat).take (aj-dA).toNat,by have:=l.2;simp;omega⟩ else none
def rh (e5:Nat)(n:a_ k)(z:α):Option (L α):=if h:(decide (0<=n.1)&&room e5 n.1.toNat)=true then some ⟨List.replicate n.1.toNat z,by simp[room] at h;simp;omega⟩ else none
def kf (s:dY):a_ .i64:=⟨s.1.size,by have:=s.2;simp[IntKind.min,IntKind.max,IntKind.bits,IntKind.signed];omega⟩
def fE (s t:dY):Option dY:=if h:s.1.size+t.1.size<=9223372036854775807 then some ⟨s.1++t.1,by simpa using h⟩ else none
def lM (s:dY)(dA aj:Int):Option dY:=if h:(decide (0<=dA)&&decide (dA<=aj)&&decide (aj<=s.1.size))=true then some ⟨s.1.extract dA.toNat aj.toNat,by have:=s.2;simp at h;simp;omega⟩ else none
def cz (s t:dY):Bool:=decide (s=t)
def oA (s t:dY):Bool:=Op.bytesLess s.1.toList t.1.toList
def S (s:ByteArray):dY:=if h:s.size<=9223372036854775807 then⟨s,h⟩ else⟨⟨#[]⟩,bu⟩
def bc (a b:a_ k):a_ k:=a_.w k (a.1+b.1)
def gf (a b:a_ k):a_ k:=a_.w k (a.1-b.1)
def sC (a b:a_ k):a_ k:=a_.w k (a.1*b.1)
def AO (a b:a_ k):Option (a_ k):=bif decide (b.1=0) then none else some (a_.w k (Int.tdiv a.1 b.1))
def sE (a b:a_ k):Option (a_ k):=bif decide (b.1=0) then none else some (a_.w k (Int.tmod a.1 b.1))
def rM (a b:a_ k):a_ k:=a_.w k (BitVec.ofInt k.bits a.1&&&BitVec.ofInt k.bits b.1).toNat
def ox (a b:a_ k):a_ k:=a_.w k (BitVec.ofInt k.bits a.1|||BitVec.ofInt k.bits b.1).toNat
def rb (a b:a_ k):a_ k:=a_.w k (BitVec.ofInt k.bits a.1^^^BitVec.ofInt k.bits b.1).toNat
def y3 (a:a_ k)(b:a_ cB):Option (a_ k):=bif decide (0<=b.1) then some (a_.w k (a.1*(2^(min b.1.toNat k.bits):Nat))) else none
def ra (a:a_ k)(b:a_ cB):Option (a_ k):=bif decide (0<=b.1) then some (a_.w k (Int.fdiv a.1 (2^(min b.1.toNat k.bits):Nat))) else none
def AL (a b:a_ k):a_ k:=bif decide (a.1<=b.1) then a else b
def imax (a b:a_ k):a_ k:=bif decide (b.1<=a.1) then a else b
def uI (a:a_ k):a_ k:=a_.w k (0-a.1)
def ey (cB:IntKind)(a:a_ k):a_ cB:=a_.w cB a.1
def bb (a b:a_ k):Bool:=decide (a.1=b.1)
def bg (a b:a_ k):Bool:=decide (a.1<b.1)
def f_ (a b:a_ k):Bool:=decide (a.1<=b.1)
end
inductive fN
  |int (k:IntKind)
  |bool
  |str
  |a4 (t:List fN)
abbrev dk:=List fN
@[reducible] def n6 (l:fN):Type:=fN.rec (motive_1:=λ_=>Type) (motive_2:=λ_=>Type) (λk=>a_ k) Bool dY (λ_ cu=>L cu) Unit (λ_ _ a b=>a×b) l
@[reducible] def D (t:dk):Type:=fN.rec_1 (motive_1:=λ_=>Type) (motive_2:=λ_=>Type) (λk=>a_ k) Bool dY (λ_ cu=>L cu) Unit (λ_ _ a b=>a×b) t
mutual
def k_:fN->fN->Bool
  |.int k,.int cB=>decide (k=cB)
  |.bool,.bool=>true
  |.str,.str=>true
  |.a4 t,.a4 t'=>kB t t'
  |_,_=>false
def kB:List fN->List fN->Bool
  |[],[]=>true
  |l::t,eG::t'=>match k_ l eG with
    |true=>kB t t'
    |false=>false
  |_,_=>false
end
mutual
theorem apr:∀{a b:fN},k_ a b=true->a=b
  |.int k,.int cB,h=>by simp[k_] at h;rw[h]
  |.bool,.bool,_=>rfl
  |.str,.str,_=>rfl
  |.a4 t,.a4 t',h=>by simp only[k_] at h;rw[kC h]
  |.int _,.bool,h=>by simp[k_] at h
  |.int _,.str,h=>by simp[k_] at h
  |.int _,.a4 _,h=>by simp[k_] at h
  |.bool,.int _,h=>by simp[k_] at h
  |.bool,.str,h=>by simp[k_] at h
  |.bool,.a4 _,h=>by simp[k_] at h
  |.str,.int _,h=>by simp[k_] at h
  |.str,.bool,h=>by simp[k_] at h
  |.str,.a4 _,h=>by simp[k_] at h
  |.a4 _,.int _,h=>by simp[k_] at h
  |.a4 _,.bool,h=>by simp[k_] at h
  |.a4 _,.str,h=>by simp[k_] at h
theorem kC:∀{a b:List fN},kB a b=true->a=b
  |[],[],_=>rfl
  |l::t,eG::t',h=>by
    simp only[kB] at h
    split at h
    ·rename_i aa;rw[apr aa,kC h]
    ·cases h
  |[],_::_,h=>by simp[kB] at h
  |_::_,[],h=>by simp[kB] at h
end
inductive Rr
  |no
  |nl (a3:List Bool) (sz:Nat)
  |dV (k:Nat) (nl:List Bool) (sz:Nat)
  |at_ (id c_ n sz f:Nat)
inductive C
  |int (k:IntKind) (n:a_ k)
  |bool (b:Bool)
  |str (s:dY)
  |ptr (a:Option (Nat×Nat))
  |dm
  |row (t:dk) (l:L (D t)) (oD:Rr)
  |a4 (id n:Nat)
  |u7 (id dA n sz:Nat)
  |cJ (t:dk) (x:D t) (o:Nat)
  |jZ (id n sz f:Nat)
  |fn (f:Nat) (first cap:List (Nat×Nat))
  |xo
  |uR
inductive P
  |c (x:C)
  |agg (l:List C)
inductive V
  |p (x:P)
  |Q2 (l:List P)
  |undef
  |any
abbrev V.c (x:C):V:=.p (.c x)
abbrev V.agg (l:List C):V:=.p (.agg l)
def P.cells:P->List C
 |.c x=>[x]
 |.agg l=>l
structure M where
  pl:Nat->Option Nat
  bj:Nat->Option Value
  hO:Nat->Nat->Nat->Option Value
  fz:Nat->List Value
  dB:Nat->Option (Nat×Option Nat)
def iy (f g:Nat->List Value):Prop:=∀(b j:Nat)(v:Value),(f b)[j]?=some v->(g b)[j]?=some v
theorem iy.refl (f:Nat->List Value):iy f f:=λ_ _ _ h=>h
theorem iy.trans {f g h:Nat->List Value}(e:iy f g)(e':iy g h):iy f h:=λb j v aT=>e' b j v (e b j v aT)
structure Ext (m m':M):Prop where
  pl:∀i r,m.pl i=some r->m'.pl i=some r
  bj:∀i v,m.bj i=some v->m'.bj i=some v
  hO:∀i k o v,m.hO i k o=some v->m'.hO i k o=some v
  fz:iy m.fz m'.fz
theorem Ext.refl (m:M):Ext m m:=⟨λ_ _ h=>h,λ_ _ h=>h,λ_ _ _ _ h=>h,iy.refl _⟩
theorem Ext.trans {m m' qG:M}(h:Ext m m')(k:Ext m' qG):Ext m qG:=⟨λi r aj=>k.pl i r (h.pl i r aj),λi r aj=>k.bj i r (h.bj i r aj),λi a b r aj=>k.hO i a b r (h.hO i a b r aj),h.fz.trans k.fz⟩
mutual
def dU (fz:Nat->List Value):(l:fN)->n6 l->Value->Prop
  |.int k,x,v=>v=.int k x.1
  |.bool,x,v=>v=.bool x
  |.str,x,v=>v=.string x.1
  |.a4 t,x,v=>∃A c,v=.slice A x.1.length c/\x.1.length<=c/\(x.1≠[]->∃b o,A=some ⟨b,o,none⟩/\∀(i:Nat)(e:D t),x.1[i]?=some e->ix fz t e b (o+i*t.length))
def ix (fz:Nat->List Value):(t:List fN)->D t->Nat->Nat->Prop
  |[],_,_,_=>True
  |l::t,x,b,o=>(∃v,(fz b)[o]?=some v/\dU fz l x.1 v)/\ix fz t x.2 b (o+1)
end
section
variable{fz om:Nat->List Value}
mutual
theorem dU.ext (e:iy fz om):∀{l:fN}{x:n6 l}{v:Value},dU fz l x v->dU om l x v
  |.int _,_,_,h=>by simpa only[dU] using h
  |.bool,_,_,h=>by simpa only[dU] using h
  |.str,_,_,h=>by simpa only[dU] using h
  |.a4 t,x,_,h=>by
    simp only[dU] at h⊢
    obtain⟨A,c,aa,af,ax⟩:=h
    refine⟨A,c,aa,af,λaz=>?_⟩
    obtain⟨b,o,aI,aQ⟩:=ax az
    exact⟨b,o,aI,λi y aj=>ix.ext e (aQ i y aj)⟩
theorem ix.ext (e:iy fz om):∀{t:List fN}{x:D t}{b o:Nat},ix fz t x b o->ix om t x b o
  |[],_,_,_,_=>by simp only[ix]
  |l::t,x,_,_,h=>by
    simp only[ix] at h⊢
    obtain⟨⟨v,aa,af⟩,ax⟩:=h
    exact⟨⟨v,e _ _ _ aa,dU.ext e af⟩,ix.ext e ax⟩
end
end
theorem dU.nil (fz:Nat->List Value)(t:dk):dU fz (.a4 t) (L.nil:L (D t)) (.slice none 0 0):=by
 simp only[dU];exact⟨none,0,rfl,Nat.le_refl _,λh=>absurd rfl h⟩
def pL:(l:fN)->n6 l->C
 |.int k,x=>.int k x
 |.bool,x=>.bool x
 |.str,x=>.str x
 |.a4 t,x=>.row t x .no
def lN (t:dk):D t->List C:=List.rec (motive:=λt=>D t->List C) (λ_=>[]) (λl _ cu x=>pL l x.1::cu x.2) t
theorem Z3 (x:D []):lN [] x=[]:=rfl
theorem vr (l:fN)(t:dk)(x:D (l::t)):lN (l::t) x=pL l x.1::lN t x.2:=rfl
theorem Db:∀(t:dk)(x:D t),(lN t x).length=t.length
 |[],_=>rfl
 |l::t,x=>by rw[vr,gX,Db t,gX]
def tg (l:fN)(c:C):Option (n6 l):=match l,c with
 |.int k,.int cB n=>if h:cB=k then some (h▸n) else none
 |.bool,.bool b=>some b
 |.str,.str s=>some s
 |.a4 t,.row t' l _=>if h:kB t' t=true then some (cast (congrArg (λt=>L (D t)) (kC h)) l) else none
 |.a4 _,.dm=>some L.nil
 |_,_=>none
def mR (t:dk):List C->Option (D t):=
 List.rec (motive:=λt=>List C->Option (D t)) (λcs=>match cs with|[]=>some ()|_=>none)
  (λl t cu cs=>match cs with
   |[]=>none
   |c::cs=>match tg l c with
    |none=>none
    |some x=>match cu cs with
     |none=>none
     |some y=>some (x,y)) t
def qT (m:M)(a:Nat×Nat)(v:Value):Prop:=∃r,m.pl a.1=some r/\v=.pointer (some ⟨r,a.2,none⟩)
def n9 (fz:Nat->List Value)(a3:List Bool)(sz:Nat)(v:Value):Prop:=∀b o len c,v=.slice (some ⟨b,o,none⟩) len c->∀i f,i<len->f<sz->a3[f]?.getD false=true->(fz b)[o+i*sz+f]?=some (.slice none 0 0)
theorem n9.ext {fz om:Nat->List Value}(e:iy fz om){a3:List Bool}{sz:Nat}{v:Value}(h:n9 fz a3 sz v):n9 om a3 sz v:=λb o len c aT i f aa af ax=>e _ _ _ (h b o len c aT i f aa af ax)
theorem n9.none {fz:Nat->List Value}{sz:Nat}{v:Value}:n9 fz [] sz v:=λb o len c aT i f aa af ax=>by simp at ax
theorem n9.nil {fz:Nat->List Value}{a3:List Bool}{sz len c:Nat}:n9 fz a3 sz (.slice .none len c):=λb o len c aT=>by cases aT
def Jd (m:M):Rr->Value->Prop
 |.no,_=>True
 |.nl a3 sz,v=>∀b o len c,v=.slice (some ⟨b,o,none⟩) len c->∀i f,i<len->f<sz->a3[f]?.getD false=true->(m.fz b)[o+i*sz+f]?=some (.slice none 0 0)
 |.dV k nl sz,v=>m.bj k=some v/\n9 m.fz nl sz v
 |.at_ id c_ n sz f,v=>m.hO id c_ (n*sz+f)=some v
def dz (m:M):C->Value->Prop
 |.int k n,v=>v=.int k n.1
 |.bool b,v=>v=.bool b
 |.str s,v=>v=.string s.1
 |.ptr none,v=>v=.pointer none
 |.ptr (some a),v=>qT m a v
 |.dm,v=>v=.slice none 0 0
 |.row t l oD,v=>dU m.fz (.a4 t) l v/\Jd m oD v
 |.a4 id n,v=>∃A c,v=.slice A n c/\m.bj id=some v/\(n≠0->∃b,A=some ⟨b,0,none⟩)/\n<=140737488355328/\n<=c
 |.u7 id dA n sz,v=>∃A c,v=.slice A n c/\n<=c/\n<=140737488355328/\(n≠0->∃b k pI,m.bj id=some (.slice (some ⟨b,0,none⟩) k pI)/\A=some ⟨b,dA*sz,none⟩/\dA+n<=k)
 |.cJ t x o,v=>∃b a,v=.pointer (some ⟨b,a+o,none⟩)/\ix m.fz t x b a
 |.jZ id n sz f,v=>∃b k c,m.bj id=some (.slice (some ⟨b,0,none⟩) k c)/\v=.pointer (some ⟨b,n*sz+f,none⟩)
 |.fn f first cap,v=>∃us vs,v=.func (.func f) us vs/\cO (qT m) first us.toList/\cO (qT m) cap vs.toList
 |.xo,v=>v=.nilFunc
 |.uR,v=>v=.nilIface
def mY (m:M):P->Value->Prop
 |.c x,v=>dz m x v
 |.agg l,v=>∃cs,v=.agg cs/\cO (dz m) l cs.toList
def eo (m:M):V->Value->Prop
 |.p x,v=>mY m x v
 |.Q2 l,v=>∃vs,v=.tuple vs/\cO (mY m) l vs.toList
 |.undef,v=>v=undef
 |.any,_=>True
section
variable{m m':M}
theorem qT.ext (e:Ext m m'){a:Nat×Nat}{v:Value}(h:qT m a v):qT m' a v:=by
 obtain⟨r,aa,af⟩:=h;exact⟨r,e.pl _ _ aa,af⟩
theorem Jd.ext (e:Ext m m'){p:Rr}{v:Value}(h:Jd m p v):Jd m' p v:=by
 cases p with
 |no=>trivial
 |nl a3 sz=>exactλb o len c aT i f aa af ax=>e.fz _ _ _ (h b o len c aT i f aa af ax)
 |dV k nl sz=>exact⟨e.bj _ _ h.1,h.2.ext e.fz⟩
 |at_ id c_ n sz f=>exact e.hO _ _ _ _ h
theorem dz.ext (e:Ext m m'){x:C}{v:Value}(h:dz m x v):dz m' x v:=by
 cases x with
 |ptr a=>cases a with
  |none=>exact h
  |some a=>exact qT.ext e h
 |row t l oD=>exact⟨h.1.ext e.fz,h.2.ext e⟩
 |a4 id n=>obtain⟨A,c,aa,af,ax⟩:=h;exact⟨A,c,aa,e.bj _ _ af,ax⟩
 |u7 id dA n sz=>obtain⟨A,c,aa,af,ax,a8⟩:=h;exact⟨A,c,aa,af,ax,λaz=>by obtain⟨b,k,pI,aI,aQ⟩:=a8 az;exact⟨b,k,pI,e.bj _ _ aI,aQ⟩⟩
 |cJ t x o=>obtain⟨b,a,aa,af⟩:=h;exact⟨b,a,aa,af.ext e.fz⟩
 |jZ id n sz f=>obtain⟨b,k,c,aa,af⟩:=h;exact⟨b,k,c,e.bj _ _ aa,af⟩
 |fn f first cap=>obtain⟨us,vs,aa,af,ax⟩:=h;exact⟨us,vs,aa,af.imp λ_ _=>qT.ext e,ax.imp λ_ _=>qT.ext e⟩
 |_=>exact h
theorem mY.ext (e:Ext m m'){x:P}{v:Value}(h:mY m x v):mY m' x v:=by
 cases x with
 |c x=>exact dz.ext e h
 |agg l=>obtain⟨cs,aa,af⟩:=h;exact⟨cs,aa,af.imp λ_ _=>dz.ext e⟩
theorem eo.ext (e:Ext m m'){x:V}{v:Value}(h:eo m x v):eo m' x v:=by
 cases x with
 |p x=>exact mY.ext e h
 |Q2 l=>obtain⟨cs,aa,af⟩:=h;exact⟨cs,aa,af.imp λ_ _=>mY.ext e⟩
 |undef=>exact h
 |any=>trivial
theorem dU.cell {l:fN}{x:n6 l}{v:Value}(h:dU m.fz l x v):dz m (pL l x) v:=by
 cases l with
 |a4 t=>exact⟨h,trivial⟩
 |_=>simp only[dU] at h;exact h
theorem C2 {l:fN}{c:C}{x:n6 l}{v:Value}(h:tg l c=some x)(an:dz m c v):dU m.fz l x v:=by
 unfold tg at h;split at h
 ·split at h
  ·rename_i aX;subst aX;cases h;simp only[dU];exact an
  ·cases h
 ·cases h;simp only[dU];exact an
 ·cases h;simp only[dU];exact an
 ·split at h
  ·rename_i aX;have aX:=kC aX;subst aX;cases h;exact an.1
  ·cases h
 ·cases h;have an:v=.slice none 0 0:=an;subst an;exact dU.nil _ _
 ·cases h
theorem C3 {l:fN}{t:dk}{c:C}{cs:List C}{z:D (l::t)}(h:mR (l::t) (c::cs)=some z):tg l c=some z.1/\mR t cs=some z.2:=by
 have h:(match tg l c with|none=>none|some x=>match mR t cs with|none=>none|some y=>some (x,y))=some z:=h;split at h
 ·cases h
 ·rename_i x aO;split at h
  ·cases h
  ·rename_i y cf;cases h;exact⟨aO,cf⟩
theorem C4 {l:fN}{t:dk}:mR (l::t) []=none:=rfl
theorem JE {c:C}{cs:List C}:mR [] (c::cs)=none:=rfl
theorem R7 {b:Nat}:∀{t:dk}{cs:List C}{vs:List Value}{x:D t}{o:Nat},mR t cs=some x->cO (dz m) cs vs->(∀(j:Nat) v,vs[j]?=some v->(m.fz b)[o+j]?=some v)->ix m.fz t x b o
 |[],[],vs,x,o,h,_,_=>by simp only[ix]
 |[],c::cs,vs,x,o,h,_,_=>by rw[JE] at h;cases h
 |l::t,[],vs,x,o,h,_,_=>by rw[C4] at h;cases h
 |l::t,c::cs,[],x,o,h,an,_=>an.elim
 |l::t,c::cs,v::vs,x,o,h,an,aT=>by
  obtain⟨aa,af⟩:=C3 h;simp only[ix];refine⟨⟨v,by simpa using aT 0 v rfl,C2 aa an.1⟩,R7 af an.2 λj u hu=>?_⟩;rw[Nat.add_assoc,Nat.add_comm 1];exact aT (j+1) u (by simpa using hu)
theorem ix.cell {b:Nat}:∀{t:dk}{x:D t}{o:Nat},ix m.fz t x b o->∀(j:Nat) c,(lN t x)[j]?=some c->∃v,(m.fz b)[o+j]?=some v/\dz m c v
 |[],_,_,_,j,c,h=>by rw[Z3] at h;simp at h
 |l::t,x,o,h,0,c,aw=>by
  simp only[ix] at h;rw[vr] at aw;simp at aw;subst aw;obtain⟨⟨v,aa,af⟩,_⟩:=h;exact⟨v,aa,af.cell⟩
 |l::t,x,o,h,j+1,c,aw=>by
  simp only[ix] at h;rw[vr] at aw;obtain⟨v,aa,af⟩:=ix.cell h.2 j c (by simpa using aw);exact⟨v,by rw[<-aa];congr 1;omega,af⟩
theorem dz.one {m:M}{x:C}{v:Value}(h:dz m x v):(∀cs,v≠.agg cs)/\(∀cs,v≠.tuple cs):=by
 cases x with
 |ptr a=>cases a with
  |none=>cases h;simp
  |some a=>obtain⟨r,_,rfl⟩:=h;simp
 |row t l oD=>obtain⟨h,_⟩:=h;simp only[dU] at h;obtain⟨A,c,rfl,_⟩:=h;simp
 |a4 id n=>obtain⟨A,c,rfl,_⟩:=h;simp
 |u7 id dA n sz=>obtain⟨A,c,rfl,_⟩:=h;simp
 |cJ t x o=>obtain⟨b,a,rfl,_⟩:=h;simp
 |jZ id n sz f=>obtain⟨b,k,c,_,rfl⟩:=h;simp
 |fn f first cap=>obtain⟨us,vs,rfl,_⟩:=h;simp
 |_=>cases h;simp
theorem mY.cells {m:M}{x:P}{v:Value}(h:mY m x v):cO (dz m) x.cells v.cells.toList:=by
 cases x with
 |c x=>rw[bI.JB (dz.one h).1];exact⟨h,trivial⟩
 |agg l=>obtain⟨cs,rfl,af⟩:=h;exact af
end
open bI (T cO ik nD mi oF)
inductive B
  |box (cs:List C)
  |arr (t:dk) (a3:List Bool) (l:L (D t)) (b6:Option (Nat×Nat)) (c_:Nat)
  |bC (t:dk)
structure bU where
  heap:T B
  next:Nat
def oK (cur:Array Value)(cm:Nat×Nat):Prop:=(∀j,j<cur.size->¬(cm.1<=j/\j<cm.2))/\cm.1<=cm.2
def oQ (m:M)(h:Array Obj)(r:Nat)(hole:Prop)(ap:Bool)(o:Nat):(l:fN)->n6 l->Value->Prop
 |.a4 t,x,v=>¬hole->dU m.fz (.a4 t) x v/\(ap=true->∃A k c,v=.slice A k c/\k<=c/\(A=none/\c=0\/∃b cur ty cm,A=some ⟨b,0,none⟩/\h[b]?=some (.cells cur ty cm)/\oK cur cm/\
  c*t.length<=cur.size/\(m.fz b).length=k*t.length/\m.dB b=some (r,some o)/\b≠r))
 |l,x,v=>dU m.fz l x v
def gO (m:M)(h:Array Obj)(r:Nat)(b6:Option (Nat×Nat))(n:Nat)(cur:Array Value)(base:Nat):(t:List fN)->List Bool->D t->Nat->Prop
 |[],_,_,_=>True
 |l::t,a3,x,f=>(∃v,cur[base+f]?=some v/\oQ m h r (b6=some (n,f)) (a3.headD false) (base+f) l x.1 v)/\gO m h r b6 n cur base t a3.tail x.2 (f+1)
def vb (m:M)(h:Array Obj)(i:Nat):B->Prop
 |.box cs=>m.pl i=none\/∃r cur ty cm,m.pl i=some r/\h[r]?=some (.cells cur ty cm)/\oK cur cm/\cur.size=cs.length/\(∀(j:Nat) c,cs[j]?=some c->∃v,cur[j]?=some v/\dz m c v)/\
  m.dB r=some (r,none)/\m.fz r=[]
 |.bC t=>∃A k c,m.bj i=some (.slice A k c)/\k<=c/\(A=none/\c=0/\m.pl i=none\/∃r cur ty cm,A=some ⟨r,0,none⟩/\m.pl i=some r/\h[r]?=some (.cells cur ty cm)/\oK cur cm/\
  c*t.length<=cur.size/\(m.fz r).length=k*t.length/\m.dB r=some (r,none)/\∀b k,m.dB b=some (r,k)->b=r)
 |.arr t a3 l b6 c_=>∃A c,m.bj i=some (.slice A l.1.length c)/\l.1.length<=c/\(∀k,c_<k->∀o,m.hO i k o=none)/\(A=none/\c=0/\(m.pl i=none/\∀k o,m.hO i k o=none)\/∃r cur ty cm,A=some ⟨r,0,none⟩/\m.pl i=some r/\h[r]?=some (.cells cur ty cm)/\oK cur cm/\
  c*t.length<=cur.size/\m.dB r=some (r,none)/\m.fz r=[]/\(∀(n:Nat) e,l.1[n]?=some e->gO m h r b6 n cur (n*t.length) t a3 e 0)/\
  (∀o v,m.hO i c_ o=some v↔cur[o]?=some v/\a3[o%t.length]?=some true/\o/t.length<l.1.length))
structure jR (n:Nat)(m m':M):Prop where
  ext:Ext m m'
  pl:∀i,i<n->m'.pl i=m.pl i
theorem jR.refl (n:Nat)(m:M):jR n m m:=⟨Ext.refl m,λ_ _=>rfl⟩
theorem jR.trans {n n':Nat}{m m' qG:M}(h:jR n m m')(k:jR n' m' qG)(az:n<=n'):jR n m qG:=⟨h.ext.trans k.ext,λi aj=>(k.pl i ab).trans (h.pl i aj)⟩
def CF (m:M)(σ:bU)(b:Nat):Prop:=∃R k i x,m.dB b=some (R,k)/\σ.heap.get i=some x/\m.pl i=some R
structure bQ (m:M)(σ:bU)(w:World):Prop where
  fresh:∀i,σ.next<=i->m.pl i=none/\m.bj i=none/\(∀k o,m.hO i k o=none)/\σ.heap.get i=none
  live:∀i b,σ.heap.get i=some b->vb m w.heap i b
  inj:∀i j bi mo r,σ.heap.get i=some bi->σ.heap.get j=some mo->m.pl i=some r->m.pl j=some r->i=j
  own:∀b R k,m.dB b=some (R,k)->b<w.heap.size/\m.dB R=some (R,none)
  stay:∀(b j:Nat) v,(m.fz b)[j]?=some v->∃cur ty cm,w.heap[b]?=some (.cells cur ty cm)/\cur[j]?=some v
structure hG (m:M)(σ:bU)(w:World)(m':M)(bd:bU)(w':World):Prop where
  os:w'.os=w.os
  tape:w'.tape=w.tape
  output:w'.output=w.output
  size:w.heap.size<=w'.heap.size
  fz:iy m.fz m'.fz
  kept:∀b,b<w.heap.size->¬CF m σ b->w'.heap[b]?=w.heap[b]?/\m'.fz b=m.fz b/\m'.dB b=m.dB b/\¬CF m' bd b
  own:∀b R k,m'.dB b=some (R,k)->m.dB b=some (R,k)\/w.heap.size<=R\/CF m σ R
theorem rf {w:World}{g:Nat}{x:Obj}(aO:w.heap[g]?=some x):g<w.heap.size:=by
 rcases kz g w.heap.size with aa|aa
 ·exact aa
 ·rw[Array.getElem?_eq_none aa] at aO;cases aO
section
variable{w w' u9:World}{m m' qG:M}{σ bd xK:bU}
theorem hG.refl (m:M)(σ:bU)(w:World):hG m σ w m σ w:=⟨rfl,rfl,rfl,Nat.le_refl _,iy.refl _,λ_ _ h=>⟨rfl,rfl,rfl,h⟩,λ_ _ _ h=>.inl h⟩
theorem hG.trans (h:hG m σ w m' bd w')(k:hG m' bd w' qG xK u9):hG m σ w qG xK u9 where
 os:=k.os.trans h.os
 tape:=k.tape.trans h.tape
 output:=k.output.trans h.output
 size:=jF h.size k.size
 fz:=h.fz.trans k.fz
 kept b ah b6:=by
  have aM:=h.size;obtain⟨aa,af,ax,a8⟩:=h.kept b ah b6;obtain⟨bn,bB,dc,ek⟩:=k.kept b ab a8;exact⟨bn.trans aa,bB.trans af,dc.trans ax,ek⟩
 own b R cB ah:=by
  have aM:=h.size;rcases k.own b R cB ah with g|g|g
  ·exact h.own b R cB g
  ·exact .inr (.inl ab)
  ·refine Classical.byContradiction λaz=>?_;rw[not_or,not_or] at az;exact(h.kept R ab az.2.2).2.2.2 g
theorem hG.vV (h:bQ m σ w)(ah:Below w.heap.size w w'):hG m σ w m σ w':=⟨ah.os,ah.tape,ah.output,ah.size,iy.refl _,λb aa af=>⟨ah.block b aa,rfl,rfl,af⟩,λ_ _ _ h=>.inl h⟩
theorem bQ.root (h:bQ m σ w){i:Nat}{b:B}{r:Nat}(aj:σ.heap.get i=some b)(aU:m.pl i=some r):m.dB r=some (r,none):=by
 have aW:=h.live i b aj;cases b with
 |box cs=>
  rcases aW with aa|⟨q,cur,ty,cm,aa,af,ax,a8,cn,da,dS⟩
  ·rw[aU] at aa;cases aa
  ·rw[aU] at aa;cases aa;exact da
 |bC t=>
  obtain⟨A,k,c,aa,af,ax⟩:=aW;rcases ax with⟨_,_,ax⟩|⟨q,cur,ty,cm,ax,a8,cn,da,dS,ez,dM,gK⟩
  ·rw[aU] at ax;cases ax
  ·rw[aU] at a8;cases a8;exact dM
 |arr t a3 l b6 c_=>
  obtain⟨A,c,aa,af,_,ax⟩:=aW;rcases ax with⟨_,_,ax,_⟩|⟨q,cur,ty,cm,ax,a8,cn,da,dS,ez,dM,gK⟩
  ·rw[aU] at ax;cases ax
  ·rw[aU] at a8;cases a8;exact ez
theorem bQ.amP (h:bQ m σ w){i:Nat}{b:B}{r:Nat}(aj:σ.heap.get i=some b)(aU:m.pl i=some r):r<w.heap.size:=(h.own _ _ _ (h.root aj aU)).1
theorem bQ.wT (h:bQ m σ w){b:Nat}(ah:w.heap.size<=b):m.fz b=[]:=by
 cases ai:m.fz b with
 |nil=>rfl
 |cons v l=>
  obtain⟨cur,ty,cm,aa,_⟩:=h.stay b 0 v (by rw[ai];rfl);have:=rf aa;omega
theorem bQ.agK (h:bQ m σ w){b:Nat}(ah:w.heap.size<=b):m.dB b=none:=by
 cases b6:m.dB b with
 |none=>rfl
 |some q=>have:=(h.own b q.1 q.2 b6).1;omega
theorem oQ.frame {h h':Array Obj}{r:Nat}{hole:Prop}{ap:Bool}{o:Nat}{l:fN}{x:n6 l}{v:Value}(e:iy m.fz m'.fz)(ah:∀b k,m.dB b=some (r,k)->b≠r->h'[b]?=h[b]?/\m'.dB b=m.dB b/\m'.fz b=m.fz b)(aW:oQ m h r hole ap o l x v):oQ m' h' r hole ap o l x v:=by
 cases l with
 |a4 t=>
  intro az;obtain⟨aa,af⟩:=aW az;refine⟨aa.ext e,λbZ=>?_⟩;obtain⟨A,k,c,aI,aQ,bq⟩:=af bZ;refine⟨A,k,c,aI,aQ,bq.imp id λ⟨b,cur,ty,cm,bn,bB,dc,ek,iU,o_,p1⟩=>?_⟩;obtain⟨aE,aP,bS⟩:=ah b _ o_ p1;exact⟨b,cur,ty,cm,bn,aE.trans bB,dc,ek,by rw[bS];exact iU,aP.trans o_,p1⟩
 |int k=>exact dU.ext (l:=.int k) e aW
 |bool=>exact dU.ext (l:=.bool) e aW
 |str=>exact dU.ext (l:=.str) e aW
theorem gO.frame {h h':Array Obj}{r:Nat}{b6:Option (Nat×Nat)}{n:Nat}{cur:Array Value}{base:Nat}(e:iy m.fz m'.fz)(ah:∀b k,m.dB b=some (r,k)->b≠r->h'[b]?=h[b]?/\m'.dB b=m.dB b/\m'.fz b=m.fz b):∀{t:List fN}{a3:List Bool}{x:D t}{f:Nat},gO m h r b6 n cur base t a3 x f->gO m' h' r b6 n cur base t a3 x f
 |[],_,_,_,_=>trivial
 |l::t,a3,x,f,⟨⟨v,aa,af⟩,ax⟩=>⟨⟨v,aa,af.frame e ah⟩,gO.frame e ah ax⟩
theorem vb.frame {h h':Array Obj}{i:Nat}{b:B}(e:Ext m m')(bL:m'.pl i=m.pl i)(aM:m'.hO i=m.hO i)(ah:∀c k r,m.pl i=some r->m.dB c=some (r,k)->h'[c]?=h[c]?/\m'.dB c=m.dB c/\m'.fz c=m.fz c)(hw:∀c k r,m.pl i=some r->m'.dB c=some (r,k)->m.dB c=some (r,k))(aW:vb m h i b):vb m' h' i b:=by
 cases b with
 |box cs=>
  rcases aW with aa|⟨r,cur,ty,cm,aa,af,ax,a8,cn,da,dS⟩
  ·exact .inl (bL.trans aa)
  obtain⟨aE,aP,bS⟩:=ah r _ r aa da;exact .inr ⟨r,cur,ty,cm,e.pl _ _ aa,aE.trans af,ax,a8,λj c aw=>let⟨v,aI,aQ⟩:=cn j c aw;⟨v,aI,aQ.ext e⟩,aP.trans da,bS.trans dS⟩
 |bC t=>
  obtain⟨A,k,c,aa,af,ax⟩:=aW;refine⟨A,k,c,e.bj _ _ aa,af,ax.imp (λ⟨aI,aQ,bq⟩=>⟨aI,aQ,bL.trans bq⟩) λ⟨r,cur,ty,cm,aI,aQ,bq,cA,eP,fy,gz,hJ⟩=>?_⟩;obtain⟨aE,aP,bS⟩:=ah r _ r aQ gz;exact⟨r,cur,ty,cm,aI,e.pl _ _ aQ,aE.trans bq,cA,eP,by rw[bS];exact fy,aP.trans gz,λc k an=>hJ c k (hw c k r aQ an)⟩
 |arr t a3 l b6 c_=>
  obtain⟨A,c,aa,af,ba,ax⟩:=aW;refine⟨A,c,e.bj _ _ aa,af,by rw[aM];exact ba,ax.imp (λ⟨aI,aQ,bq,cA⟩=>⟨aI,aQ,bL.trans bq,by rw[aM];exact cA⟩) λ⟨r,cur,ty,cm,aI,aQ,bq,cA,eP,fy,gz,hJ,ic⟩=>?_⟩;obtain⟨aE,aP,bS⟩:=ah r _ r aQ fy;exact⟨r,cur,ty,cm,aI,e.pl _ _ aQ,aE.trans bq,cA,eP,aP.trans fy,bS.trans gz,λn x aO=>(hJ n x aO).frame e.fz λb k aX _=>ah b k r aQ aX,by rw[aM];exact ic⟩
theorem bQ.Zu (h:bQ m σ w)(X:Nat->Prop)(e:Ext m m')(tC:w'.os=w.os/\w'.tape=w.tape/\w'.output=w.output)(ai:w.heap.size<=w'.heap.size)(a5:∀i,bd.next<=i->m'.pl i=none/\m'.bj i=none/\(∀k o,m'.hO i k o=none)/\bd.heap.get i=none)(qw:∀i b,X i->bd.heap.get i=some b->vb m' w'.heap i b)(ev:∀i,¬X i->bd.heap.get i=σ.heap.get i/\m'.pl i=m.pl i/\m'.hO i=m.hO i)(gZ:∀b,b<w.heap.size->(∀i x r k,X i->σ.heap.get i=some x->m.pl i=some r->m.dB b≠some (r,k))->w'.heap[b]?=w.heap[b]?/\m'.fz b=m.fz b/\m'.dB b=m.dB b)(aF:∀i j bi mo r,X i->X j->bd.heap.get i=some bi->bd.heap.get j=some mo->m'.pl i=some r->m'.pl j=some r->i=j)(fp:∀i x R,X i->bd.heap.get i=some x->m'.pl i=some R->w.heap.size<=R\/∃j y q k,X j/\σ.heap.get j=some y/\m.pl j=some q/\m.dB R=some (q,k))(yu:∀b R k,m'.dB b=some (R,k)->b<w'.heap.size/\m'.dB R=some (R,none))(sk:∀b R k,m'.dB b=some (R,k)->m.dB b≠some (R,k)->w.heap.size<=R\/∃j y q k,X j/\σ.heap.get j=some y/\m.pl j=some q/\m.dB R=some (q,k))(dI:∀(b j:Nat) v,(m'.fz b)[j]?=some v->∃cur ty cm,w'.heap[b]?=some (.cells cur ty cm)/\cur[j]?=some v):bQ m' bd w'/\hG m σ w m' bd w':=by
 have avj:∀i x r,¬X i->σ.heap.get i=some x->m.pl i=some r->∀b k,m.dB b=some (r,k)->∀j y q cB,X j->σ.heap.get j=some y->m.pl j=some q->m.dB b≠some (q,cB):=by
  intro i x r aj cj aU b k ah j y q cB aw cf aA an;rw[ah] at an;cases an;have:=h.inj i j x y r cj cf aU aA;exact aj (this▸aw)
 have mr:∀R,(w.heap.size<=R\/∃j y q k,X j/\σ.heap.get j=some y/\m.pl j=some q/\m.dB R=some (q,k))->∀j y,¬X j->σ.heap.get j=some y->m.pl j=some R->False:=by
  intro R fp j y aw cf aA;have aq':=h.root cf aA;rcases fp with aa|⟨ku,mI,q,k,af,ax,a8,cn⟩
  ·have:=h.amP cf aA;omega
  ·rw[aq'] at cn;cases cn;exact aw (h.inj j ku y mI R cf ax aA a8▸af)
 refine⟨⟨a5,λi b aj=>?_,λi j bi mo r aj aw aU aA=>?_,yu,dI⟩,⟨tC.1,tC.2.1,tC.2.2,ai,e.fz,λb ah b6=>?_,λb R k ah=>?_⟩⟩
 ·by_cases aO:X i
  ·exact qw i b aO aj
  ·obtain⟨bn,bB,dc⟩:=ev i aO;rw[bn] at aj;refine(h.live i b aj).frame e bB dc (λc k r aU an=>?_) (λc k r aU an=>?_)
   ·obtain⟨aI,aQ,bq⟩:=gZ c (h.own c r k an).1 (avj i b r aO aj aU c k an);exact⟨aI,bq,aQ⟩
   ·refine Classical.byContradiction λaz=>?_;exact mr r (sk c r k an az) i b aO aj aU
 ·by_cases aO:X i<;>by_cases cf:X j
  ·exact aF i j bi mo r aO cf aj aw aU aA
  ·obtain⟨bn,bB,dc⟩:=ev j cf;rw[bn] at aw;rw[bB] at aA;exact(mr r (fp i bi r aO aj aU) j mo cf aw aA).elim
  ·obtain⟨bn,bB,dc⟩:=ev i aO;rw[bn] at aj;rw[bB] at aU;exact(mr r (fp j mo r cf aw aA) i bi aO aj aU).elim
  ·obtain⟨bn,bB,dc⟩:=ev i aO;rw[bn] at aj;rw[bB] at aU;obtain⟨dF,ea,cg⟩:=ev j cf;rw[dF] at aw;rw[ea] at aA;exact h.inj i j bi mo r aj aw aU aA
 ·obtain⟨aI,aQ,bq⟩:=gZ b ah λi x r k aj aO aU an=>b6 ⟨r,k,i,x,an,aO,aU⟩;refine⟨aI,aQ,bq,?_⟩;rintro⟨R,k,i,x,aa,af,ax⟩;rw[bq] at aa;by_cases aO:X i
  ·rcases fp i x R aO af ax with cx|⟨j,y,q,cB,_,cI,dw,fh⟩
   ·have:=(h.own R R none (h.own b R k aa).2).1;omega
   ·rw[(h.own b R k aa).2] at fh;cases fh;exact b6 ⟨R,k,j,y,aa,cI,dw⟩
  ·obtain⟨bn,bB,dc⟩:=ev i aO;rw[bn] at af;rw[bB] at ax;exact b6 ⟨R,k,i,x,aa,af,ax⟩
 ·by_cases hm:m.dB b=some (R,k)
  ·exact .inl hm
  ·rcases sk b R k ah hm with aa|⟨j,y,q,cB,_,af,ax,a8⟩
   ·exact .inr (.inl aa)
   ·exact .inr (.inr ⟨q,cB,j,y,a8,af,ax⟩)
theorem bQ.change (h:bQ m σ w)(X:Nat->Prop)(e:Ext m m')(tC:w'.os=w.os/\w'.tape=w.tape/\w'.output=w.output)(ai:w.heap.size<=w'.heap.size)(a5:∀i,bd.next<=i->m'.pl i=none/\m'.bj i=none/\(∀k o,m'.hO i k o=none)/\bd.heap.get i=none)(qw:∀i b,X i->bd.heap.get i=some b->vb m' w'.heap i b)(ev:∀i,¬X i->bd.heap.get i=σ.heap.get i/\m'.pl i=m.pl i/\m'.hO i=m.hO i)(gZ:∀b,b<w.heap.size->(∀i x r k,X i->σ.heap.get i=some x->m.pl i=some r->m.dB b≠some (r,k))->w'.heap[b]?=w.heap[b]?/\m'.fz b=m.fz b/\m'.dB b=m.dB b)(aF:∀i j bi mo r,X i->X j->bd.heap.get i=some bi->bd.heap.get j=some mo->m'.pl i=some r->m'.pl j=some r->i=j)(fp:∀i x R,X i->bd.heap.get i=some x->m'.pl i=some R->w.heap.size<=R\/(∃j y,X j/\σ.heap.get j=some y/\m.pl j=some R)\/(∃j y q o,X j/\σ.heap.get j=some y/\m.pl j=some q/\m.dB R=some (q,some o)/\R≠q))(yu:∀b R k,m'.dB b=some (R,k)->b<w'.heap.size/\m'.dB R=some (R,none))(sk:∀b R k,m'.dB b=some (R,k)->m.dB b≠some (R,k)->∃i x,X i/\bd.heap.get i=some x/\m'.pl i=some R)(dI:∀(b j:Nat) v,(m'.fz b)[j]?=some v->∃cur ty cm,w'.heap[b]?=some (.cells cur ty cm)/\cur[j]?=some v):bQ m' bd w'/\hG m σ w m' bd w':=by
 have aaV:∀i x R,X i->bd.heap.get i=some x->m'.pl i=some R->w.heap.size<=R\/∃j y q k,X j/\σ.heap.get j=some y/\m.pl j=some q/\m.dB R=some (q,k):=by
  intro i x R aa af ax;rcases fp i x R aa af ax with g|⟨j,y,aI,aQ,bq⟩|⟨j,y,q,o,aI,aQ,bq,cA,_⟩
  ·exact .inl g
  ·exact .inr ⟨j,y,R,none,aI,aQ,bq,h.root aQ bq⟩
  ·exact .inr ⟨j,y,q,some o,aI,aQ,bq,cA⟩
 refine h.Zu X e tC ai a5 qw ev gZ aF aaV yu (λb R k aa af=>?_) dI;obtain⟨i,x,aI,aQ,bq⟩:=sk b R k aa af;exact aaV i x R aI aQ bq
theorem bQ.vV (h:bQ m σ w)(ah:Below w.heap.size w w'):bQ m σ w':=by
 refine(h.change (m':=m) (bd:=σ) (w':=w') (λ_=>False) (Ext.refl m) ⟨ah.os,ah.tape,ah.output⟩ ah.size h.fresh (λ_ _ aO=>aO.elim) (λ_ _=>⟨rfl,rfl,rfl⟩) (λb bl _=>⟨ah.block b bl,rfl,rfl⟩)
  (λ_ _ _ _ _ aO=>aO.elim) (λ_ _ _ aO=>aO.elim) (λb R k aX=>⟨Nat.lt_of_lt_of_le (h.own b R k aX).1 ah.size,(h.own b R k aX).2⟩) (λb R k aa af=>absurd aa af) λb j v aT=>?_).1
 obtain⟨cur,ty,cm,aa,af⟩:=h.stay b j v aT;exact⟨cur,ty,cm,(ah.block _ (rf aa)).trans aa,af⟩
end
open bI (T cO ik nD mi oF fC under size kM ia mU oC qN)
def Mm:Value->Option C
 |.int k n=>bif decide (k.wrap n=n) then some (.int k (a_.w k n)) else none
 |.bool b=>some (.bool b)
 |.string s=>bif decide (s.size<=9223372036854775807) then some (.str (S s)) else none
 |.pointer none=>some (.ptr none)
 |.slice none 0 0=>some .dm
 |.func (.func f) first cap=>match first.toList,cap.toList with
  |[],[]=>some (.fn f [] [])
  |_,_=>none
 |.nilFunc=>some .xo
 |.nilIface=>some .uR
 |_=>none
def Mn:List Value->Option (List C)
 |[]=>some []
 |v::l=>match Mm v with
  |none=>none
  |some c=>match Mn l with
   |none=>none
   |some r=>some (c::r)
def A3:Value->Option P
 |.agg cs=>match Mn cs.toList with
  |some l=>some (.agg l)
  |none=>none
 |v=>match Mm v with
  |some c=>some (.c c)
  |none=>none
theorem aoc {s:ByteArray}(h:s.size<=9223372036854775807):(S s).1=s:=by simp[S,h]
theorem agC (m:M){v:Value}{c:C}(h:Mm v=some c):dz m c v:=by
 unfold Mm at h;split at h
 ·rename_i k n;cases bj:decide (k.wrap n=n) with
  |true=>rw[bj] at h;cases h;show Value.int k n=.int k (k.wrap n);rw[of_decide_eq_true bj]
  |false=>rw[bj] at h;cases h
 ·cases h;rfl
 ·rename_i s;cases bj:decide (s.size<=9223372036854775807) with
  |true=>rw[bj] at h;cases h;show Value.string s=.string (S s).1;rw[aoc (of_decide_eq_true bj)]
  |false=>rw[bj] at h;cases h
 ·cases h;rfl
 ·cases h;rfl
 ·split at h
  ·rename_i aa af;cases h;rw[show _=(#[]:Array Value) from Array.toList_inj.1 aa,show _=(#[]:Array Value) from Array.toList_inj.1 af];exact⟨#[],#[],rfl,trivial,trivial⟩
  ·cases h
 ·cases h;rfl
 ·cases h;rfl
 ·cases h
theorem agD (m:M):∀{l:List Value}{r:List C},Mn l=some r->cO (dz m) r l
 |[],r,h=>by cases h;trivial
 |v::l,r,h=>by
  rw[Mn] at h;split at h
  ·cases h
  ·rename_i c an;split at h
   ·cases h
   ·rename_i q aA;cases h;exact⟨agC m an,agD m aA⟩
theorem Um (m:M){v:Value}{x:P}(h:A3 v=some x):mY m x v:=by
 unfold A3 at h;split at h
 ·split at h
  ·rename_i aW;cases h;exact⟨_,rfl,agD m aW⟩
  ·cases h
 ·split at h
  ·rename_i an;cases h;exact agC m an
  ·cases h
def zero (cC:T TypeInfo)(t:Nat):Option P:=match cC.get t with
 |some i=>match i.zero with
  |some v=>A3 v
  |none=>none
 |none=>none
theorem QM {cC:T TypeInfo}{aV:Program}(b9:fC aV cC){w:World}{t:Nat}{x:P}(m:M)(h:zero cC t=some x):∃v,(zeroValue t).run aV w=.ok v w/\mY m x v:=by
 unfold zero at h;split at h
 ·rename_i i aj;split at h
  ·rename_i v aT;exact⟨v,by simp[zeroValue,typeInfo,b9.info _ _ aj,aT],Um m h⟩
  ·cases h
 ·cases h
def cut (cs:List C)(o n:Nat):Option (List C):=bif decide (o+n<=cs.length) then some ((cs.drop o).take n) else none
theorem JD {l r:List C}{o k:Nat}(h:cut l o k=some r):r=(l.drop o).take k/\o+k<=l.length:=by
 unfold cut at h;cases bj:decide (o+k<=l.length) with
 |true=>rw[bj] at h;cases h;exact⟨rfl,of_decide_eq_true bj⟩
 |false=>rw[bj] at h;cases h
def rT (cs:List C)(o:Nat)(l:List C):List C:=cs.take o++l++cs.drop (o+l.length)
theorem Ut {cs l:List C}{o:Nat}(h:o+l.length<=cs.length):(rT cs o l).length=cs.length:=by simp[rT];omega
theorem Us {cs l:List C}{o:Nat}(h:o+l.length<=cs.length)(j:Nat):(rT cs o l)[j]?=if o<=j/\j<o+l.length then l[j-o]? else cs[j]?:=by
 unfold rT;have bR:(cs.take o).length=o:=by simp;omega
 by_cases aa:j<o
 ·rw[if_neg ab,cN,mL ab,List.getElem?_take,if_pos aa]
 ·by_cases af:j<o+l.length
  ·rw[if_pos ab,mL (by simp;omega),mM ab,bR]
  ·rw[if_neg ab,mM (by simp;omega),List.getElem?_drop];congr 1;simp only[bw,bR];omega
theorem Mx {m:M}{cs:List C}{g:Nat->Option Value}(h:∀(j:Nat) c,cs[j]?=some c->∃v,g j=some v/\dz m c v):
 ∀(k o:Nat),o+k<=cs.length->∃vs:List Value,vs.length=k/\(∀j,j<vs.length->g (o+j)=vs[j]?)/\cO (dz m) ((cs.drop o).take k) vs
 |0,o,_=>⟨[],rfl,by simp,by simp[cO]⟩
 |k+1,o,aX=>by
  obtain⟨v,aT,an⟩:=h o cs[o] (fG ab);obtain⟨vs,aa,af,ax⟩:=Mx h k (o+1) ab;refine⟨v::vs,by simp[aa],λj aw=>?_,?_⟩
  ·cases j with
   |zero=>simpa using aT
   |succ j=>rw[List.getElem?_cons_succ,<-af j (by simpa using aw)];congr 1;omega
  ·rw[List.drop_eq_getElem_cons ab,List.take_succ_cons];exact⟨an,ax⟩
section
variable{aV:Program}{w:World}{m:M}{σ:bU}
theorem bQ.box {i r:Nat}{cs:List C}(h:bQ m σ w)(aj:σ.heap.get i=some (.box cs))(aU:m.pl i=some r):
 ∃cur ty cm,w.heap[r]?=some (.cells cur ty cm)/\oK cur cm/\cur.size=cs.length/\(∀(j:Nat) c,cs[j]?=some c->∃v,cur[j]?=some v/\dz m c v)/\m.dB r=some (r,none)/\m.fz r=[]:=by
 rcases h.live i _ aj with aa|⟨q,cur,ty,cm,aa,af⟩
 ·rw[aU] at aa;cases aa
 ·rw[aU] at aa;cases aa;exact⟨cur,ty,cm,af⟩
theorem bQ.aoC {i r o n:Nat}{cs l:List C}(h:bQ m σ w)(aj:σ.heap.get i=some (.box cs))(aU:m.pl i=some r)(an:cut cs o n=some l):
 ∃vs:List Value,vs.length=n/\(loadCells ⟨r,o,none⟩ n).run aV w=.ok vs.toArray w/\cO (dz m) l vs:=by
 obtain⟨cur,ty,cm,aa,af,ax,a8,cn⟩:=h.box aj aU;obtain⟨rfl,hle⟩:=JD an;obtain⟨vs,aI,aQ,bq⟩:=Mx (g:=λj=>cur[j]?) a8 n o hle;exact⟨vs,aI,by rw[<-aI];exact bI.run_loadCells aa vs aQ,bq⟩
theorem bQ.aoB {i r o:Nat}{cs:List C}{c:C}(h:bQ m σ w)(aj:σ.heap.get i=some (.box cs))(aU:m.pl i=some r)(an:cs[o]?=some c):
 ∃v,(Go.load ⟨r,o,none⟩).run aV w=.ok v w/\dz m c v:=by
 obtain⟨cur,ty,cm,aa,af,ax,a8,cn⟩:=h.box aj aU;obtain⟨v,aI,aQ⟩:=a8 o c an;exact⟨v,qN aa aI,aQ⟩
theorem p7 {l:List C}{vs:List Value}(aT:cO (dz m) l vs):∀v∈vs,(∀cs,v≠.agg cs)/\∀cs,v≠.tuple cs:=by
 intro v uG;obtain⟨i,aj⟩:=List.mem_iff_getElem?.1 uG;have:i<l.length:=by
  rw[aT.length];exact(ep.1 aj).1
 obtain⟨en,da,dS⟩:=aT.get (fG this);rw[aj] at da;cases da;exact dz.one dS
theorem bQ.ay0 {i r o:Nat}{cs l:List C}{vs:List Value}(h:bQ m σ w)(aj:σ.heap.get i=some (.box cs))(aU:m.pl i=some r)(hle:o+l.length<=cs.length)(aT:cO (dz m) l vs):
 ∃w',(storeCells ⟨r,o,none⟩ vs).run aV w=.ok () w'/\bQ m ⟨σ.heap.put i (some (.box (rT cs o l))),σ.next⟩ w'/\hG m σ w m ⟨σ.heap.put i (some (.box (rT cs o l))),σ.next⟩ w':=by
 obtain⟨cur,ty,cm,aa,af,ax,a8,cn,da⟩:=h.box aj aU;have hlen:=aT.length;have fD:o+vs.length<=cur.size:=ab;have ar2:=h.amP aj aU;refine⟨_,bI.Cf vs 0 w cur aa ab af.1 (p7 aT),?_⟩;refine h.change (w':=ik w r (.cells (ia cur o vs) ty cm)) (bd:=⟨σ.heap.put i (some (.box (rT cs o l))),σ.next⟩) (λj=>j=i) (Ext.refl m) ⟨rfl,rfl,rfl⟩ (Nat.le_of_eq (nD ..).symm) (λj aw=>?_) (λj b aw ah=>?_) (λj aw=>⟨bI.T.eQ _ _ aw,rfl,rfl⟩)
  (λb ah aO=>⟨mi _ _ λe=>aO i _ r none rfl aj aU (e▸cn),rfl,rfl⟩) (λj k _ _ _ aw aX _ _ _ _=>aw.trans aX.symm) (λj x R aw _ fp=>.inr (.inl ⟨i,_,rfl,aj,aw▸fp⟩))
  (λb R k aX=>by rw[nD];exact h.own b R k aX) (λb R k aa af=>absurd aa af) (λb j v gk=>?_)
 ·obtain⟨aI,aQ,bq,cA⟩:=h.fresh j aw;refine⟨aI,aQ,bq,?_⟩;rw[bI.T.m8];split
  ·subst_vars;rw[aI] at aU;cases aU
  ·exact cA
 ·subst aw;simp only[bI.T.ij] at ah;cases ah;refine .inr ⟨r,ia cur o vs,ty,cm,aU,oF _ _ ar2,by unfold oK;rw[mU];exact af,by rw[mU,Ut hle];exact ax,λj c an=>?_,cn,da⟩;rw[oC _ _ _ _ fD];rw[Us hle] at an;by_cases ma:o<=j/\j<o+l.length
  ·rw[if_pos ma] at an;rw[if_pos ab];exact aT.get an
  ·rw[if_neg ma] at an;rw[if_neg ab];exact a8 j c an
 ·obtain⟨hU,jm,jI,aI,aQ⟩:=h.stay b j v gk;refine⟨hU,jm,jI,?_,aQ⟩;rw[mi]
  ·exact aI
  ·intro e;rw[e,da] at gk;simp at gk
def M.jE (m:M)(i r:Nat):M:=⟨λj=>if j=i then some r else m.pl j,m.bj,m.hO,m.fz,λb=>if b=r then some (r,none) else m.dB b⟩
theorem M.Ss {m:M}{i r:Nat}(h:m.pl i=none):Ext m (m.jE i r):=⟨λj q aw=>by
 simp only[M.jE];split
 ·subst_vars;rw[h] at aw;cases aw
 ·exact aw,λ_ _ h=>h,λ_ _ _ _ h=>h,iy.refl _⟩
theorem M.Sq {m:M}{i r:Nat}(h:m.pl i=none):jR i m (m.jE i r):=⟨M.Ss h,λj aw=>by show(if j=i then _ else m.pl j)=_;rw[if_neg ab]⟩
theorem bQ.aeo (h:bQ m σ w){cs:List C}{vs:Array Value}{ty:TypeId}(aT:cO (dz m) cs vs.toList):
 bQ (m.jE σ.next w.heap.size) ⟨σ.heap.put σ.next (some (.box cs)),σ.next+1⟩ (w.alloc (.cells vs ty))/\
 hG m σ w (m.jE σ.next w.heap.size) ⟨σ.heap.put σ.next (some (.box cs)),σ.next+1⟩ (w.alloc (.cells vs ty)):=by
 obtain⟨f1,f2,f3,f4⟩:=h.fresh σ.next (Nat.le_refl _);have e:Ext m (m.jE σ.next w.heap.size):=M.Ss f1;refine h.change (λj=>j=σ.next) e ⟨rfl,rfl,rfl⟩ (by simp) (λj aw=>?_) (λj b aw ah=>?_) (λj aw=>⟨bI.T.eQ _ _ aw,by simp[M.jE,aw],rfl⟩)
  (λb ah _=>⟨Below.heap_alloc _ _ _ ah,rfl,by simp[M.jE];omega⟩) (λj k _ _ _ aw aX _ _ _ _=>aw.trans aX.symm) (λj x R aw _ fp=>.inl ?_) (λb R k aX=>?_) (λb R k aX az=>?_) (λb j v gk=>?_)
 ·have aw:σ.next+1<=j:=aw;obtain⟨aI,aQ,bq,cA⟩:=h.fresh j ab;exact⟨by simp[M.jE,aI];omega,aQ,bq,(bI.T.eQ _ _ ab).trans cA⟩
 ·subst aw;simp only[bI.T.ij] at ah;cases ah;refine .inr ⟨w.heap.size,vs,ty,(0,0),by simp[M.jE],heap_alloc_new _ _,⟨λ_ _=>by omega,Nat.le_refl _⟩,aT.length.symm▸(by simp),λj c an=>?_,by simp[M.jE],h.wT (Nat.le_refl _)⟩;obtain⟨v,aa,af⟩:=aT.get an;exact⟨v,by simpa using aa,af.ext e⟩
 ·subst aw;simp[M.jE] at fp;omega
 ·simp only[M.jE] at aX⊢;split at aX
  ·cases aX;subst_vars;simp
  ·obtain⟨aI,aQ⟩:=h.own b R k aX;have:=(h.own R R none aQ).1;exact⟨by simp;omega,by rw[if_neg ab];exact aQ⟩
 ·simp only[M.jE] at aX;split at aX
  ·cases aX;exact⟨σ.next,.box cs,rfl,bI.T.ij ..,by simp[M.jE]⟩
  ·exact absurd aX az
 ·obtain⟨cur,jm,cm,aI,aQ⟩:=h.stay b j v gk;exact⟨cur,jm,cm,(Below.heap_alloc _ _ _ (rf aI)).trans aI,aQ⟩
def M.lH (m:M)(r:Nat)(vs:List Value):M:=⟨m.pl,m.bj,m.hO,λb=>if b=r then vs else m.fz b,m.dB⟩
theorem bQ.aeq (h:bQ m σ w){cur:Array Value}{vs:List Value}{ty:TypeId}(aT:∀(j:Nat) v,vs[j]?=some v->cur[j]?=some v):
 Ext m (m.lH w.heap.size vs)/\bQ (m.lH w.heap.size vs) σ (w.alloc (.cells cur ty))/\hG m σ w (m.lH w.heap.size vs) σ (w.alloc (.cells cur ty)):=by
 have ai:=h.wT (Nat.le_refl w.heap.size);have e:Ext m (m.lH w.heap.size vs):=⟨λ_ _ h=>h,λ_ _ h=>h,λ_ _ _ _ h=>h,λb j v ah=>by
  simp only[M.lH];split
  ·subst_vars;rw[ai] at ah;simp at ah
  ·exact ah⟩
 refine⟨e,h.change (λ_=>False) e ⟨rfl,rfl,rfl⟩ (by simp) h.fresh (λ_ _ aO=>aO.elim) (λ_ _=>⟨rfl,rfl,rfl⟩) (λb ah _=>⟨Below.heap_alloc _ _ _ ah,by simp[M.lH];omega,rfl⟩)
  (λ_ _ _ _ _ aO=>aO.elim) (λ_ _ _ aO=>aO.elim) (λb R k aX=>⟨by have:=(h.own b R k aX).1;simp;omega,(h.own b R k aX).2⟩) (λb R k aa af=>absurd aa af) (λb j v gk=>?_)⟩
 simp only[M.lH] at gk;split at gk
 ·subst_vars
  exact⟨cur,ty,(0,0),heap_alloc_new _ _,aT j v gk⟩
 ·obtain⟨hU,jm,cm,aI,aQ⟩:=h.stay b j v gk;exact⟨hU,jm,cm,(Below.heap_alloc _ _ _ (rf aI)).trans aI,aQ⟩
theorem bQ.drop (h:bQ m σ w)(i:Nat):bQ m ⟨σ.heap.put i none,σ.next⟩ w/\hG m σ w m ⟨σ.heap.put i none,σ.next⟩ w:=by
 have key:∀j x,(σ.heap.put i none).get j=some x->σ.heap.get j=some x:=λj x h=>by
  rw[bI.T.m8] at h;split at h
  ·cases h
  ·exact h
 refine⟨⟨λj aw=>?_,λj b aw=>h.live j b (key j b aw),λj k bi mo r aw aX aU aA=>h.inj j k bi mo r (key _ _ aw) (key _ _ aX) aU aA,h.own,h.stay⟩,
  ⟨rfl,rfl,rfl,Nat.le_refl _,iy.refl _,λb _ b6=>⟨rfl,rfl,rfl,λ⟨R,k,j,x,aa,af,ax⟩=>b6 ⟨R,k,j,x,aa,key j x af,ax⟩⟩,λ_ _ _ h=>.inl h⟩⟩
 obtain⟨aI,aQ,bq,cA⟩:=h.fresh j aw;refine⟨aI,aQ,bq,?_⟩;rw[bI.T.m8];split
 ·rfl
 ·exact cA
theorem bQ.apQ {i r:Nat}{cs:List C}{t:dk}{x:D t}(h:bQ m σ w)(aj:σ.heap.get i=some (.box cs))(aU:m.pl i=some r)(aO:mR t cs=some x):
 ∃m',jR σ.next m m'/\ix m'.fz t x r 0/\bQ m' ⟨σ.heap.put i none,σ.next⟩ w/\hG m σ w m' ⟨σ.heap.put i none,σ.next⟩ w:=by
 obtain⟨cur,ty,cm,aa,af,ax,a8,cn,da⟩:=h.box aj aU;have e:Ext m (m.lH r cur.toList):=⟨λ_ _ h=>h,λ_ _ h=>h,λ_ _ _ _ h=>h,λb j v ah=>by
  simp only[M.lH];split
  ·subst_vars;rw[da] at ah;simp at ah
  ·exact ah⟩
 refine⟨m.lH r cur.toList,⟨e,λ_ _=>rfl⟩,?_,?_⟩
 ·refine R7 (m:=m.lH r cur.toList) (vs:=cur.toList) aO (.Mo (by simp[ax]) λj c v an aT=>?_) λj v aT=>by simpa[M.lH] using aT
  obtain⟨en,aI,aQ⟩:=a8 j c an;rw[Array.getElem?_toList,aI] at aT;cases aT;exact aQ.ext e
 ·refine h.change (λj=>j=i) e ⟨rfl,rfl,rfl⟩ (Nat.le_refl _) (λj aw=>?_) (λj b aw ah=>?_) (λj aw=>⟨bI.T.eQ _ _ aw,rfl,rfl⟩)
   (λb ah az=>⟨rfl,by simp only[M.lH];rw[if_neg];intro e;exact az i _ r none rfl aj aU (e▸cn),rfl⟩) (λj k _ _ _ aw aX _ _ _ _=>aw.trans aX.symm) (λj x R aw ah=>?_) h.own (λb R k aa af=>absurd aa af) (λb j v gk=>?_)
  ·obtain⟨aI,aQ,bq,cA⟩:=h.fresh j aw;refine⟨aI,aQ,bq,?_⟩;rw[bI.T.m8];split
   ·rfl
   ·exact cA
  ·subst aw;simp only[bI.T.ij] at ah;cases ah
  ·subst aw;simp only[bI.T.ij] at ah;cases ah
  ·simp only[M.lH] at gk;split at gk
   ·subst_vars;exact⟨cur,ty,cm,aa,by simpa using gk⟩
   ·exact h.stay b j v gk
end
open bI (T cO ik nD mi oF ia mU oC)
def mJ (fz:Nat->List Value):(t:List fN)->D t->List Value->Prop
 |[],_,vs=>vs=[]
 |l::t,x,vs=>∃v r,vs=v::r/\dU fz l x.1 v/\mJ fz t x.2 r
def Cells (fz:Nat->List Value)(b o:Nat)(vs:List Value):Prop:=∀(j:Nat) v,vs[j]?=some v->(fz b)[o+j]?=some v
def jo (fz:Nat->List Value)(t:dk):List (D t)->List Value->Prop
 |[],vs=>vs=[]
 |e::l,vs=>∃v r,vs=v++r/\mJ fz t e v/\jo fz t l r
section
variable{fz om:Nat->List Value}
theorem mJ.length:∀{t:List fN}{x:D t}{vs:List Value},mJ fz t x vs->vs.length=t.length
 |[],_,_,h=>by rw[show _=[] from h];rfl
 |l::t,x,_,⟨v,r,aa,_,ax⟩=>by rw[aa,gX,mJ.length ax,gX]
theorem mJ.ext (e:iy fz om):∀{t:List fN}{x:D t}{vs:List Value},mJ fz t x vs->mJ om t x vs
 |[],_,_,h=>h
 |l::t,x,_,⟨v,r,aa,af,ax⟩=>⟨v,r,aa,af.ext e,mJ.ext e ax⟩
theorem jo.ext {t:dk}(e:iy fz om):∀{l:List (D t)}{vs:List Value},jo fz t l vs->jo om t l vs
 |[],_,h=>h
 |x::l,_,⟨v,r,aa,af,ax⟩=>⟨v,r,aa,af.ext e,jo.ext e ax⟩
theorem jo.length {t:dk}:∀{l:List (D t)}{vs:List Value},jo fz t l vs->vs.length=l.length*t.length
 |[],_,h=>by rw[show _=[] from h];simp
 |x::l,_,⟨v,r,aa,af,ax⟩=>by rw[aa,bw,af.length,jo.length ax,gX,iQ];omega
theorem jo.append {t:dk}:∀{l eG:List (D t)}{vs gi:List Value},jo fz t l vs->jo fz t eG gi->jo fz t (l++eG) (vs++gi)
 |[],_,_,_,h,h'=>by rw[show _=[] from h];exact h'
 |x::l,_,_,_,⟨v,r,aa,af,ax⟩,h'=>⟨v,r++_,by rw[aa,cN],af,jo.append ax h'⟩
theorem ix.IY {b:Nat}:∀{t:List fN}{x:D t}{o:Nat},ix fz t x b o->∃vs,mJ fz t x vs/\Cells fz b o vs
 |[],x,o,_=>⟨[],rfl,λj v h=>by simp at h⟩
 |l::t,x,o,h=>by
  simp only[ix] at h;obtain⟨⟨v,aa,af⟩,ax⟩:=h;obtain⟨vs,aI,aQ⟩:=ix.IY ax;refine⟨v::vs,⟨v,vs,rfl,af,aI⟩,λj u hu=>?_⟩;cases j with
  |zero=>simp at hu;subst hu;exact aa
  |succ j=>rw[show o+(j+1)=o+1+j by omega];exact aQ j u (by simpa using hu)
theorem mJ.C0 {b:Nat}:∀{t:List fN}{x:D t}{o:Nat}{vs:List Value},mJ fz t x vs->Cells fz b o vs->ix fz t x b o
 |[],x,o,_,_,_=>by simp only[ix]
 |l::t,x,o,_,⟨v,r,aa,af,ax⟩,an=>by
  subst aa;simp only[ix];refine⟨⟨v,by simpa using an 0 v rfl,af⟩,mJ.C0 ax λj u hu=>?_⟩;rw[show o+1+j=o+(j+1) by omega];exact an (j+1) u (by simpa using hu)
theorem amR {t:dk}{b:Nat}:∀{l:List (D t)}{o:Nat},(∀(i:Nat)(e:D t),l[i]?=some e->ix fz t e b (o+i*t.length))->∃vs,jo fz t l vs/\Cells fz b o vs
 |[],o,_=>⟨[],rfl,λj v h=>by simp at h⟩
 |x::l,o,h=>by
  obtain⟨v,aa,af⟩:=(by simpa using h 0 x rfl:ix fz t x b o).IY;obtain⟨r,aI,aQ⟩:=amR (l:=l) (o:=o+t.length) λi e aj=>by
   have:=h (i+1) e (by simpa using aj);rw[iQ,Nat.one_mul] at this;rw[Nat.add_assoc,Nat.add_comm t.length];exact this
  refine⟨v++r,⟨v,r,rfl,aa,aI⟩,λj u hu=>?_⟩;by_cases aw:j<v.length
  ·rw[mL aw] at hu;exact af j u hu
  ·rw[mM ab] at hu;have:=aQ _ u hu;rw[aa.length] at this aw;rw[<-this];congr 1;omega
theorem jo.at_ {t:dk}{b:Nat}:∀{l:List (D t)}{o:Nat}{vs:List Value},jo fz t l vs->Cells fz b o vs->∀(i:Nat)(e:D t),l[i]?=some e->ix fz t e b (o+i*t.length)
 |[],o,_,_,_,i,e,aj=>by simp at aj
 |x::l,o,_,⟨v,r,aa,af,ax⟩,an,0,e,aj=>by
  simp at aj;subst aj aa;rw[Nat.zero_mul,cv];exact af.C0 λj u hu=>an j u (by rw[mL (ep.1 hu).1];exact hu)
 |x::l,o,_,⟨v,r,aa,af,ax⟩,an,i+1,e,aj=>by
  subst aa;have:=jo.at_ (o:=o+t.length) ax (λj u hu=>by
   have:=an (t.length+j) u (by rw[mM (by rw[af.length];omega),af.length];simpa using hu);rw[Nat.add_assoc];exact this) i e (by simpa using aj)
  rw[iQ,Nat.one_mul,Nat.add_comm (i*t.length),<-Nat.add_assoc];exact this
theorem XT {t:dk}{x:L (D t)}{v:Value}(h:dU fz (.a4 t) x v):∃A c vs,v=.slice A x.1.length c/\x.1.length<=c/\jo fz t x.1 vs/\(vs≠[]->∃b o,A=some ⟨b,o,none⟩/\Cells fz b o vs)/\(x.1≠[]->∃b o,A=some ⟨b,o,none⟩):=by
 simp only[dU] at h;obtain⟨A,c,aa,af,ax⟩:=h;by_cases az:x.1=[]
 ·exact⟨A,c,[],aa,af,by rw[az];rfl,λh=>absurd rfl h,λh=>absurd az h⟩
 ·obtain⟨b,o,aI,aQ⟩:=ax az;obtain⟨vs,bn,bB⟩:=amR aQ;exact⟨A,c,vs,aa,af,bn,λ_=>⟨b,o,aI,bB⟩,λ_=>⟨b,o,aI⟩⟩
theorem JH {t:dk}{x:L (D t)}{b o c:Nat}{vs:List Value}(aa:jo fz t x.1 vs)(af:Cells fz b o vs)(ax:x.1.length<=c):dU fz (.a4 t) x (.slice (some ⟨b,o,none⟩) x.1.length c):=by
 simp only[dU];exact⟨_,c,rfl,ax,λ_=>⟨b,o,rfl,λi e aj=>aa.at_ af i e aj⟩⟩
theorem mJ.p7:∀{t:List fN}{x:D t}{vs:List Value},mJ fz t x vs->∀v∈vs,(∀cs,v≠.agg cs)/\∀cs,v≠.tuple cs
 |[],_,vs,h,v,aT=>by rw[show vs=[] from h] at aT;simp at aT
 |l::t,x,_,⟨u,r,aa,af,ax⟩,v,aT=>by
  subst aa;rcases List.mem_cons.1 aT with rfl|aT
  ·exact dz.one (m:=⟨λ_=>none,λ_=>none,λ_ _ _=>none,fz,λ_=>none⟩) (dU.cell af)
  ·exact mJ.p7 ax v aT
theorem jo.p7 {t:dk}:∀{l:List (D t)}{vs:List Value},jo fz t l vs->∀v∈vs,(∀cs,v≠.agg cs)/\∀cs,v≠.tuple cs
 |[],vs,h,v,aT=>by rw[show vs=[] from h] at aT;simp at aT
 |x::l,_,⟨u,r,aa,af,ax⟩,v,aT=>by
  subst aa;rcases List.mem_append.1 aT with aT|aT
  ·exact af.p7 v aT
  ·exact jo.p7 ax v aT
theorem ZP {m:M}:∀{t:dk}{cs:List C}{vs:List Value}{x:D t},mR t cs=some x->cO (dz m) cs vs->mJ m.fz t x vs
 |[],[],[],x,h,_=>rfl
 |[],[],v::vs,x,h,an=>an.elim
 |[],c::cs,vs,x,h,_=>by rw[JE] at h;cases h
 |l::t,[],vs,x,h,_=>by rw[C4] at h;cases h
 |l::t,c::cs,[],x,h,an=>an.elim
 |l::t,c::cs,v::vs,x,h,an=>by
  obtain⟨aa,af⟩:=C3 h;exact⟨v,vs,rfl,C2 aa an.1,ZP af an.2⟩
end
def M.eH (m:M)(i:Nat)(r:Option Nat)(v:Value)(fz:Nat->List Value)(dB:Nat->Option (Nat×Option Nat)):M:=⟨λj=>if j=i then r else m.pl j,λj=>if j=i then some v else m.bj j,m.hO,fz,dB⟩
theorem M.Df {m:M}{i:Nat}{r:Option Nat}{v:Value}{fz:Nat->List Value}{dB:Nat->Option (Nat×Option Nat)}(h:m.pl i=none)(h':m.bj i=none)(ai:iy m.fz fz):Ext m (m.eH i r v fz dB):=⟨λj q aw=>by
 simp only[M.eH];split
 ·subst_vars;rw[h] at aw;cases aw
 ·exact aw,λj q aw=>by
 simp only[M.eH];split
 ·subst_vars;rw[h'] at aw;cases aw
 ·exact aw,λ_ _ _ _ h=>h,ai⟩
section
variable{aV:Program}{w:World}{m:M}{σ:bU}
theorem bQ.T_ (h:bQ m σ w)(t:dk):jR σ.next m (m.eH σ.next none (.slice none 0 0) m.fz m.dB)/\bQ (m.eH σ.next none (.slice none 0 0) m.fz m.dB) ⟨σ.heap.put σ.next (some (.bC t)),σ.next+1⟩ w/\
 hG m σ w (m.eH σ.next none (.slice none 0 0) m.fz m.dB) ⟨σ.heap.put σ.next (some (.bC t)),σ.next+1⟩ w:=by
 obtain⟨f1,f2,f3,f4⟩:=h.fresh σ.next (Nat.le_refl _);have e:Ext m (m.eH σ.next none (.slice none 0 0) m.fz m.dB):=M.Df f1 f2 (iy.refl _);refine⟨⟨e,λi aj=>by show(if i=σ.next then _ else m.pl i)=_;rw[if_neg ab]⟩,h.change (λj=>j=σ.next) e ⟨rfl,rfl,rfl⟩ (Nat.le_refl _) (λj aw=>?_) (λj b aw ah=>?_) (λj aw=>⟨bI.T.eQ _ _ aw,by simp[M.eH,aw],rfl⟩)
  (λb ah _=>⟨rfl,rfl,rfl⟩) (λj k _ _ _ aw aX _ _ _ _=>aw.trans aX.symm) (λj x R aw _ fp=>?_) h.own (λb R k aa af=>absurd aa af) h.stay⟩
 ·have aw:σ.next+1<=j:=aw;obtain⟨aI,aQ,bq,cA⟩:=h.fresh j ab;exact⟨by simp[M.eH,aI],by simp[M.eH,aQ];omega,bq,(bI.T.eQ _ _ ab).trans cA⟩
 ·subst aw;simp only[bI.T.ij] at ah;cases ah;exact⟨none,0,0,by simp[M.eH],Nat.le_refl _,.inl ⟨rfl,rfl,by simp[M.eH]⟩⟩
 ·subst aw;simp[M.eH] at fp
theorem bQ.atn (h:bQ m σ w){k r len c:Nat}{t:dk}{cur:Array Value}{ty:TypeId}{cm jI:Nat×Nat}(aX:σ.heap.get k=some (.bC t))(fP:m.bj k=some (.slice (some ⟨r,0,none⟩) len c))(hw:w.heap[r]?=some (.cells cur ty cm))(so:oK cur cm->oK cur jI):jR σ.next m m/\bQ m σ (ik w r (.cells cur ty jI))/\hG m σ w m σ (ik w r (.cells cur ty jI)):=by
 obtain⟨A,cB,c',aa,af,ax⟩:=h.live k _ aX;rw[fP] at aa;cases aa;rcases ax with⟨ax,_⟩|⟨mF,oe,mj,JU,ax,a8,cn,da,dS,ez,dM,gK⟩
 ·cases ax
 cases ax;rw[hw] at cn;cases cn;have bl:r<w.heap.size:=(oc.1 hw).1;refine⟨jR.refl _ m,h.change (m':=m) (bd:=σ) (λj=>j=k) (Ext.refl m) ⟨rfl,rfl,rfl⟩ (by rw[nD];exact Nat.le_refl _) (λj aw=>h.fresh j aw) (λj b aw ah=>?_) (λj aw=>⟨rfl,rfl,rfl⟩)
  (λb ah aO=>⟨mi _ _ λq=>?_,rfl,rfl⟩) (λj k _ _ _ aw aX _ _ _ _=>aw.trans aX.symm) (λj x R aw _ fp=>.inr (.inl ⟨k,_,rfl,aX,aw▸fp⟩)) (λb R k aa=>by rw[nD];exact h.own b R k aa) (λb R k aa af=>absurd aa af) (λb j v aT=>?_)⟩
 ·subst aw;rw[aX] at ah;cases ah;exact⟨_,_,_,fP,af,.inr ⟨r,cur,ty,jI,rfl,a8,oF _ _ bl,so da,dS,ez,dM,gK⟩⟩
 ·subst q;exact aO k _ b none rfl aX a8 dM
 ·obtain⟨ao7,IU,apP,aI,aQ⟩:=h.stay b j v aT;by_cases vB:b=r
  ·subst vB;rw[hw] at aI;cases aI;exact⟨cur,ty,jI,oF _ _ bl,aQ⟩
  ·exact⟨ao7,IU,apP,(mi _ _ vB).trans aI,aQ⟩
theorem bQ.aqa (h:bQ m σ w){k r len c:Nat}{t:dk}{vs:List Value}{n:Nat}(aX:σ.heap.get k=some (.bC t))(fP:m.bj k=some (.slice (some ⟨r,0,none⟩) len c))(az:vs.length=n*t.length)(hle:len+n<=c)(b6:∀v∈vs,(∀cs,v≠.agg cs)/\∀cs,v≠.tuple cs):
 ∃m' w',(storeCells ⟨r,len*t.length,none⟩ vs).run aV w=.ok () w'/\jR σ.next m m'/\bQ m' ⟨(σ.heap.put k none).put σ.next (some (.bC t)),σ.next+1⟩ w'/\hG m σ w m' ⟨(σ.heap.put k none).put σ.next (some (.bC t)),σ.next+1⟩ w'/\
  m'.bj σ.next=some (.slice (some ⟨r,0,none⟩) (len+n) c)/\Cells m'.fz r (len*t.length) vs:=by
 obtain⟨f1,f2,f3,f4⟩:=h.fresh σ.next (Nat.le_refl _);obtain⟨A,cB,c',aa,af,ax⟩:=h.live k _ aX;rw[fP] at aa;cases aa;rcases ax with⟨ax,_⟩|⟨q,cur,ty,cm,ax,a8,cn,da,dS,ez,dM,gK⟩
 ·cases ax
 cases ax;have bl:=rf cn;have fD:len*t.length+vs.length<=cur.size:=by
  have:(len+n)*t.length<=c*t.length:=nu _ hle;rw[iQ] at this;omega
 have sw:k≠σ.next:=λe=>by rw[e,f1] at a8;cases a8
 have e:Ext m (m.eH σ.next (some r) (.slice (some ⟨r,0,none⟩) (len+n) c) (λb=>if b=r then m.fz r++vs else m.fz b) m.dB):=M.Df f1 f2 λb j v aT=>by
  by_cases ah:b=r
  ·subst ah;simp only[if_true];rw[mL (ep.1 aT).1];exact aT
  ·rw[if_neg ah];exact aT
 refine⟨_,ik w r (.cells (ia cur (len*t.length) vs) ty cm),bI.Cf vs 0 w cur cn ab da.1 b6,⟨e,λi aj=>by show(if i=σ.next then _ else m.pl i)=_;rw[if_neg ab]⟩,?_⟩;have key:=h.change (m':=m.eH σ.next (some r) (.slice (some ⟨r,0,none⟩) (len+n) c) (λb=>if b=r then m.fz r++vs else m.fz b) m.dB)
  (bd:=⟨(σ.heap.put k none).put σ.next (some (.bC t)),σ.next+1⟩) (w':=ik w r (.cells (ia cur (len*t.length) vs) ty cm)) (λj=>j=σ.next\/j=k) e ⟨rfl,rfl,rfl⟩ (Nat.le_of_eq (nD ..).symm) (λj aw=>?_) (λj b aw ah=>?_)
  (λj aw=>⟨?_,by simp[M.eH,(not_or.1 aw).1],rfl⟩) (λb ah aO=>?_) (λj l _ _ _ aw aW l7 vA _ _=>?_) (λj x R aw ah fp=>?_) (λb R cB pS=>by rw[nD];exact h.own b R cB pS) (λb R k aa af=>absurd aa af) (λb j v gk=>?_)
 ·refine⟨key.1,key.2,by simp[M.eH],λj v aT=>?_⟩;simp only[M.eH,if_true];rw[mM (by rw[ez];omega),ez,Nat.add_sub_cancel_left];exact aT
 ·have aw:σ.next+1<=j:=aw;obtain⟨aI,aQ,bq,cA⟩:=h.fresh j ab;refine⟨by simp[M.eH,aI];omega,by simp[M.eH,aQ];omega,bq,?_⟩;simp only
  rw[bI.T.eQ _ _ ab,bI.T.m8];split
  ·rfl
  ·exact cA
 ·by_cases nc:j=σ.next
  ·subst nc;simp only[bI.T.ij] at ah;cases ah;exact⟨_,_,c,by simp[M.eH],hle,.inr ⟨r,_,ty,cm,rfl,by simp[M.eH],oF _ _ bl,by unfold oK;rw[mU];exact da,by rw[mU];exact dS,
    by simp[M.eH,ez,az,iQ],dM,gK⟩⟩
  ·have su:j=k:=aw.resolve_left nc;subst su;simp only at ah;rw[bI.T.eQ _ _ nc,bI.T.ij] at ah;cases ah
 ·have:=not_or.1 aw;simp only
  rw[bI.T.eQ _ _ this.1,bI.T.eQ _ _ this.2]
 ·have vB:b≠r:=λe=>aO k _ r none (.inr rfl) aX a8 (e▸dM);exact⟨mi _ _ vB,by simp[M.eH,vB],rfl⟩
 ·have dead:∀x,((σ.heap.put k none).put σ.next (some (B.bC t))).get k≠some x:=λx aO=>by
   rw[bI.T.eQ _ _ sw,bI.T.ij] at aO;cases aO
  rcases aw with aw|aw
  ·rcases aW with aW|aW
   ·rw[aw,aW]
   ·subst aW;exact absurd vA (dead _)
  ·subst aw;exact absurd l7 (dead _)
 ·rcases aw with aw|aw
  ·subst aw;simp[M.eH] at fp;subst fp;exact .inr (.inl ⟨k,_,.inr rfl,aX,a8⟩)
  ·subst aw;simp only at ah;rw[bI.T.eQ _ _ sw,bI.T.ij] at ah;cases ah
 ·simp only[M.eH] at gk;split at gk
  ·subst_vars
   refine⟨_,ty,cm,oF _ _ bl,?_⟩;rw[oC _ _ _ _ fD];by_cases aw:j<len*t.length
   ·rw[if_neg ab];rw[mL ab] at gk;obtain⟨hU,jm,jI,aI,aQ⟩:=h.stay _ j v gk;rw[cn] at aI;cases aI;exact aQ
   ·rw[mM ab,ez] at gk;have:=(ep.1 gk).1;rw[if_pos ab];exact gk
  ·rename_i ah;rw[mi _ _ ah];exact h.stay b j v gk
theorem bQ.aer (h:bQ m σ w){t:dk}{vs:List Value}{n c:Nat}{cur:Array Value}{ty:TypeId}(az:vs.length=n*t.length)(hle:n<=c)(an:c*t.length<=cur.size)(aT:∀(j:Nat) v,vs[j]?=some v->cur[j]?=some v):
 ∃m',jR σ.next m m'/\bQ m' ⟨σ.heap.put σ.next (some (.bC t)),σ.next+1⟩ (w.alloc (.cells cur ty))/\hG m σ w m' ⟨σ.heap.put σ.next (some (.bC t)),σ.next+1⟩ (w.alloc (.cells cur ty))/\
  m'.bj σ.next=some (.slice (some ⟨w.heap.size,0,none⟩) n c)/\Cells m'.fz w.heap.size 0 vs:=by
 obtain⟨f1,f2,f3,f4⟩:=h.fresh σ.next (Nat.le_refl _);have ai:=h.wT (Nat.le_refl w.heap.size);have e:Ext m (m.eH σ.next (some w.heap.size) (.slice (some ⟨w.heap.size,0,none⟩) n c) (λb=>if b=w.heap.size then vs else m.fz b) (λb=>if b=w.heap.size then some (w.heap.size,none) else m.dB b)):=M.Df f1 f2 λb j v ah=>by
  by_cases he:b=w.heap.size
  ·subst he;rw[ai] at ah;simp at ah
  ·rw[if_neg he];exact ah
 have key:=h.change (m':=m.eH σ.next (some w.heap.size) (.slice (some ⟨w.heap.size,0,none⟩) n c) (λb=>if b=w.heap.size then vs else m.fz b) (λb=>if b=w.heap.size then some (w.heap.size,none) else m.dB b))
  (bd:=⟨σ.heap.put σ.next (some (.bC t)),σ.next+1⟩) (w':=w.alloc (.cells cur ty)) (λj=>j=σ.next) e ⟨rfl,rfl,rfl⟩ (by simp) (λj aw=>?_) (λj b aw ah=>?_) (λj aw=>⟨bI.T.eQ _ _ aw,by simp[M.eH,aw],rfl⟩)
  (λb ah _=>⟨Below.heap_alloc _ _ _ ah,by simp[M.eH];omega,by simp[M.eH];omega⟩) (λj k _ _ _ aw aX _ _ _ _=>aw.trans aX.symm) (λj x R aw _ fp=>?_) (λb R k aX=>?_) (λb R k aX az=>?_) (λb j v gk=>?_)
 ·exact⟨_,⟨e,λi aj=>by show(if i=σ.next then _ else m.pl i)=_;rw[if_neg ab]⟩,key.1,key.2,by simp[M.eH],λj v aw=>by simpa[M.eH] using aw⟩
 ·have aw:σ.next+1<=j:=aw;obtain⟨aI,aQ,bq,cA⟩:=h.fresh j ab;exact⟨by simp[M.eH,aI];omega,by simp[M.eH,aQ];omega,bq,(bI.T.eQ _ _ ab).trans cA⟩
 ·subst aw;simp only[bI.T.ij] at ah;cases ah;refine⟨_,n,c,by simp[M.eH],hle,.inr ⟨w.heap.size,cur,ty,(0,0),rfl,by simp[M.eH],heap_alloc_new _ _,⟨λ_ _=>by omega,Nat.le_refl _⟩,an,by simp[M.eH,az],by simp[M.eH],λb k ah=>?_⟩⟩;simp only[M.eH] at ah;split at ah
  ·assumption
  ·have:=(h.own b _ k ah).2;have:=(h.own _ _ _ this).1;omega
 ·subst aw;simp[M.eH] at fp;exact .inl ab
 ·simp only[M.eH] at aX⊢;split at aX
  ·cases aX;subst_vars;simp
  ·obtain⟨aI,aQ⟩:=h.own b R k aX;have:=(h.own R R none aQ).1;exact⟨by simp;omega,by rw[if_neg ab];exact aQ⟩
 ·simp only[M.eH] at aX;split at aX
  ·cases aX;exact⟨σ.next,.bC t,rfl,bI.T.ij ..,by simp[M.eH]⟩
  ·exact absurd aX az
 ·simp only[M.eH] at gk;split at gk
  ·subst_vars
   exact⟨cur,ty,(0,0),heap_alloc_new _ _,aT j v gk⟩
  ·obtain⟨hU,jm,cm,aI,aQ⟩:=h.stay b j v gk;exact⟨hU,jm,cm,(Below.heap_alloc _ _ _ (rf aI)).trans aI,aQ⟩
end
theorem ZN {l:fN}(x:n6 l):tg l (pL l x)=some x:=by
 cases l with
 |int k=>simp[tg,pL]
 |bool=>rfl
 |str=>rfl
 |a4 t=>
  have:kB t t=true:=by
   have both:(∀l:fN,k_ l l=true)/\(∀t:List fN,kB t t=true):=by
    refine⟨λl=>?_,λt=>?_⟩
    ·exact fN.rec (motive_1:=λl=>k_ l l=true) (motive_2:=λt=>kB t t=true) (λk=>by simp[k_]) (by simp[k_]) (by simp[k_]) (λt cu=>by simp only[k_];exact cu) (by simp[kB]) (λl t aa af=>by simp only[kB,aa,af]) l
    ·exact fN.rec_1 (motive_1:=λl=>k_ l l=true) (motive_2:=λt=>kB t t=true) (λk=>by simp[k_]) (by simp[k_]) (by simp[k_]) (λt cu=>by simp only[k_];exact cu) (by simp[kB]) (λl t aa af=>by simp only[kB,aa,af]) t
   exact both.2 t
  simp[tg,pL,this]
section
variable{m m':M}{h h':Array Obj}{r n:Nat}{b6 gu:Option (Nat×Nat)}{cur hU:Array Value}{base:Nat}
theorem oQ.Sb {hole:Prop}{ap:Bool}{o:Nat}{l:fN}{x:n6 l}{v:Value}(aW:oQ m h r hole ap o l x v)(az:¬hole):dU m.fz l x v:=by
 cases l with
 |a4 t=>exact(aW az).1
 |int k=>exact aW
 |bool=>exact aW
 |str=>exact aW
theorem oQ.of {hole:Prop}{o:Nat}{l:fN}{x:n6 l}{v:Value}(aW:dU m.fz l x v):oQ m h r hole false o l x v:=by
 cases l with
 |a4 t=>exactλ_=>⟨aW,λq=>by cases q⟩
 |int k=>exact aW
 |bool=>exact aW
 |str=>exact aW
theorem oQ.abT {hole abS:Prop}{ap:Bool}{o:Nat}{l:fN}{x:n6 l}{v:Value}(aW:oQ m h r hole ap o l x v)(fP:hole->abS):oQ m h r abS ap o l x v:=by
 cases l with
 |a4 t=>exactλaz=>aW λq=>az (fP q)
 |int k=>exact aW
 |bool=>exact aW
 |str=>exact aW
theorem gO.cell:∀{t:List fN}{a3:List Bool}{x:D t}{f:Nat},gO m h r b6 n cur base t a3 x f->∀(j:Nat) c,(lN t x)[j]?=some c->b6≠some (n,f+j)->∃v,cur[base+(f+j)]?=some v/\dz m c v
 |[],_,_,_,_,j,c,aw,_=>by rw[Z3] at aw;simp at aw
 |l::t,a3,x,f,⟨⟨v,aa,af⟩,_⟩,0,c,aw,az=>by
  rw[vr] at aw;simp at aw;subst aw;exact⟨v,aa,(af.Sb az).cell⟩
 |l::t,a3,x,f,⟨_,ax⟩,j+1,c,aw,az=>by
  rw[vr] at aw;obtain⟨v,aI,aQ⟩:=gO.cell ax j c (by simpa using aw) (by rw[show f+1+j=f+(j+1) by omega];exact az);exact⟨v,by rw[<-aI];congr 1;omega,aQ⟩
theorem gO.CY:∀{t:List fN}{a3:List Bool}{x:D t}{f:Nat},gO m h r b6 n cur base t a3 x f->(∀j,f<=j->j<f+t.length->hU[base+j]?=cur[base+j]?)->(∀j,b6=some (n,j)->gu=some (n,j))->gO m h r gu n hU base t a3 x f
 |[],_,_,_,_,_,_=>trivial
 |l::t,a3,x,f,⟨⟨v,aa,af⟩,ax⟩,an,fP=>⟨⟨v,(an f (Nat.le_refl _) (by simp)).trans aa,af.abT (fP f)⟩,gO.CY ax (λj aa af=>an j ab (by simp at af⊢;omega)) fP⟩
theorem DG (a3:List Bool):a3.headD false=a3[0]?.getD false:=by cases a3<;>simp
theorem IS (a3:List Bool)(i:Nat):a3.tail[i]?.getD false=a3[i+1]?.getD false:=by cases a3<;>simp
theorem gO.lC:∀{t:List fN}{a3:List Bool}{x jn:D t}{f:Nat}{Ye:List C},gO m h r b6 n cur base t a3 x f->mR t Ye=some jn->
 (∀i c,Ye[i]?=some c->((lN t x)[i]?=some c/\hU[base+(f+i)]?=cur[base+(f+i)]?/\(b6=some (n,f+i)->gu=some (n,f+i)))\/
  (∃v,hU[base+(f+i)]?=some v/\∀(l:fN)(y:n6 l),t[i]?=some l->tg l c=some y->oQ m h r (gu=some (n,f+i)) (a3[i]?.getD false) (base+(f+i)) l y v))->gO m h r gu n hU base t a3 jn f
 |[],_,_,_,_,_,_,_,_=>trivial
 |l::t,a3,x,jn,f,[],_,bj,_=>by rw[C4] at bj;cases bj
 |l::t,a3,x,jn,f,c::Ye,⟨⟨v,aa,af⟩,ax⟩,bj,ai=>by
  obtain⟨d1,d2⟩:=C3 bj;refine⟨?_,gO.lC ax d2 λi c' kp=>?_⟩
  ·rcases ai 0 c rfl with⟨bn,bB,dc⟩|⟨u,bn,bB⟩
   ·rw[vr] at bn;simp at bn;subst bn;rw[ZN] at d1;have:jn.1=x.1:=by injection d1 with d1;exact d1.symm
    rw[this];exact⟨v,bB.trans aa,af.abT dc⟩
   ·exact⟨u,bn,by rw[DG];exact bB l jn.1 rfl d1⟩
  ·have:=ai (i+1) c' (by simpa using kp);rw[show f+(i+1)=f+1+i by omega] at this;rcases this with⟨bn,bB,dc⟩|⟨u,bn,bB⟩
   ·rw[vr] at bn;exact .inl ⟨by simpa using bn,bB,dc⟩
   ·exact .inr ⟨u,bn,λeG y aW cf=>by rw[IS];exact bB eG y (by simpa using aW) cf⟩
def oR (fz:Nat->List Value):(t:List fN)->List Bool->D t->List Value->Prop
 |[],_,_,vs=>vs=[]
 |l::t,a3,x,vs=>∃v q,vs=v::q/\dU fz l x.1 v/\(a3.headD false=true->∀t',l=.a4 t'->v=.slice none 0 0)/\oR fz t a3.tail x.2 q
def j6 (fz:Nat->List Value)(t:dk)(a3:List Bool):List (D t)->List Value->Prop
 |[],vs=>vs=[]
 |e::l,vs=>∃v q,vs=v++q/\oR fz t a3 e v/\j6 fz t a3 l q
theorem oR.length {fz:Nat->List Value}:∀{t:List fN}{a3:List Bool}{x:D t}{vs:List Value},oR fz t a3 x vs->vs.length=t.length
 |[],_,_,_,h=>by rw[show _=[] from h];rfl
 |l::t,a3,x,_,⟨v,r,aa,_,_,ax⟩=>by rw[aa,gX,oR.length ax,gX]
theorem oR.p7 {fz:Nat->List Value}:∀{t:List fN}{a3:List Bool}{x:D t}{vs:List Value},oR fz t a3 x vs->∀v∈vs,(∀cs,v≠.agg cs)/\∀cs,v≠.tuple cs
 |[],_,_,vs,h,v,aT=>by rw[show vs=[] from h] at aT;simp at aT
 |l::t,a3,x,_,⟨u,r,aa,af,_,ax⟩,v,aT=>by
  subst aa;rcases List.mem_cons.1 aT with rfl|aT
  ·exact dz.one (m:=⟨λ_=>none,λ_=>none,λ_ _ _=>none,fz,λ_=>none⟩) (dU.cell af)
  ·exact oR.p7 ax v aT
theorem j6.length {fz:Nat->List Value}{t:dk}{a3:List Bool}:∀{l:List (D t)}{vs:List Value},j6 fz t a3 l vs->vs.length=l.length*t.length
 |[],_,h=>by rw[show _=[] from h];simp
 |x::l,_,⟨v,r,aa,af,ax⟩=>by rw[aa,bw,af.length,j6.length ax,gX,iQ];omega
theorem j6.p7 {fz:Nat->List Value}{t:dk}{a3:List Bool}:∀{l:List (D t)}{vs:List Value},j6 fz t a3 l vs->∀v∈vs,(∀cs,v≠.agg cs)/\∀cs,v≠.tuple cs
 |[],vs,h,v,aT=>by rw[show vs=[] from h] at aT;simp at aT
 |x::l,_,⟨u,r,aa,af,ax⟩,v,aT=>by
  subst aa;rcases List.mem_append.1 aT with aT|aT
  ·exact af.p7 v aT
  ·exact j6.p7 ax v aT
theorem oR.ext {fz om:Nat->List Value}(e:iy fz om):∀{t:List fN}{a3:List Bool}{x:D t}{vs:List Value},oR fz t a3 x vs->oR om t a3 x vs
 |[],_,_,_,h=>h
 |l::t,a3,x,_,⟨v,r,aa,af,ax,a8⟩=>⟨v,r,aa,af.ext e,ax,oR.ext e a8⟩
theorem mJ.anl {fz:Nat->List Value}:∀{t:List fN}{a3:List Bool}{x:D t}{vs:List Value},mJ fz t x vs->(∀i:Nat,a3[i]?.getD false=false)->oR fz t a3 x vs
 |[],_,_,_,h,_=>h
 |l::t,a3,x,_,⟨v,r,aa,af,ax⟩,bZ=>⟨v,r,aa,af,(λq=>by rw[DG,bZ] at q;cases q),mJ.anl ax λi=>by rw[IS];exact bZ _⟩
theorem j6.agF {fz:Nat->List Value}{t:dk}{a3:List Bool}(bZ:∀i:Nat,a3[i]?.getD false=false):∀{l:List (D t)}{vs:List Value},jo fz t l vs->j6 fz t a3 l vs
 |[],_,h=>h
 |x::l,_,⟨v,r,aa,af,ax⟩=>⟨v,r,aa,af.anl bZ,j6.agF bZ ax⟩
theorem j6.ext {fz om:Nat->List Value}{t:dk}{a3:List Bool}(e:iy fz om):∀{l:List (D t)}{vs:List Value},j6 fz t a3 l vs->j6 om t a3 l vs
 |[],_,h=>h
 |x::l,_,⟨v,r,aa,af,ax⟩=>⟨v,r,aa,af.ext e,j6.ext e ax⟩
theorem oR.zJ:∀{t:List fN}{a3:List Bool}{x:D t}{f:Nat}{vs:List Value},oR m.fz t a3 x vs->(∀(j:Nat) v,vs[j]?=some v->cur[base+(f+j)]?=some v)->gO m h r none n cur base t a3 x f
 |[],_,_,_,_,_,_=>trivial
 |l::t,a3,x,f,_,⟨v,q,aa,af,ax,a8⟩,an=>by
  subst aa;refine⟨⟨v,by simpa using an 0 v rfl,?_⟩,a8.zJ λj u hu=>?_⟩
  ·cases l with
   |a4 t'=>exactλ_=>⟨af,λbZ=>⟨none,0,0,ax bZ t' rfl,Nat.le_refl _,.inl ⟨rfl,rfl⟩⟩⟩
   |int k=>exact af
   |bool=>exact af
   |str=>exact af
  ·rw[show base+(f+1+j)=base+(f+(j+1)) by omega];exact an (j+1) u (by simpa using hu)
theorem j6.zJ {t:dk}{a3:List Bool}:∀{l:List (D t)}{vs:List Value}{o:Nat},j6 m.fz t a3 l vs->(∀(j:Nat) v,vs[j]?=some v->cur[o+j]?=some v)->∀(i:Nat)(e:D t),l[i]?=some e->∀n,gO m h r none n cur (o+i*t.length) t a3 e 0
 |[],_,_,_,_,i,e,aj,n=>by simp at aj
 |x::l,_,o,⟨v,q,aa,af,ax⟩,an,0,e,aj,n=>by
  simp at aj;subst aj aa;rw[Nat.zero_mul,cv];refine af.zJ λj u hu=>?_;rw[gd];exact an j u (by rw[mL (ep.1 hu).1];exact hu)
 |x::l,_,o,⟨v,q,aa,af,ax⟩,an,i+1,e,aj,n=>by
  subst aa;have:=j6.zJ (o:=o+t.length) ax (λj u hu=>by
   have:=an (t.length+j) u (by rw[mM (by rw[af.length];omega),af.length];simpa using hu);rw[Nat.add_assoc];exact this) i e (by simpa using aj) n
  rw[iQ,Nat.one_mul,Nat.add_comm (i*t.length),<-Nat.add_assoc];exact this
end
open bI (T cO ik nD mi oF ia mU oC qN)
def snap (cur:Array Value)(a3:List Bool)(sz len o:Nat):Option Value:=if a3[o%sz]?=some true/\o/sz<len then cur[o]? else none
theorem QW {cur:Array Value}{a3:List Bool}{sz len o:Nat}{v:Value}:snap cur a3 sz len o=some v↔cur[o]?=some v/\a3[o%sz]?=some true/\o/sz<len:=by
 unfold snap;split
 ·rename_i h;exact⟨λq=>⟨q,h⟩,λq=>q.1⟩
 ·rename_i h;exact⟨(λq=>by cases q),λq=>absurd q.2 h⟩
def M.gb (m:M)(i:Nat)(r:Option Nat)(v:Value)(s:Nat->Option Value)(dB:Nat->Option (Nat×Option Nat)):M:=⟨λj=>if j=i then r else m.pl j,λj=>if j=i then some v else m.bj j,λj k o=>if j=i/\k=0 then s o else m.hO j k o,m.fz,dB⟩
theorem M.Sr {m:M}{i:Nat}{r:Option Nat}{v:Value}{s:Nat->Option Value}{dB:Nat->Option (Nat×Option Nat)}(h:m.pl i=none)(h':m.bj i=none)(aqd:∀k o,m.hO i k o=none):Ext m (m.gb i r v s dB):=
 ⟨λj q aw=>by
  simp only[M.gb];split
  ·subst_vars;rw[h] at aw;cases aw
  ·exact aw,λj q aw=>by
  simp only[M.gb];split
  ·subst_vars;rw[h'] at aw;cases aw
  ·exact aw,λj k o q aw=>by
  simp only[M.gb];split
  ·rename_i he;rw[he.1,aqd] at aw;cases aw
  ·exact aw,iy.refl _⟩
theorem T.Fs {α:Type}(t:T α){k n:Nat}(x:Option α)(h:k≠n):((t.put k none).put n x).get k=none:=by rw[bI.T.eQ _ _ h,bI.T.ij]
section
variable{aV:Program}{w:World}{m:M}{σ:bU}
theorem bQ.T7 (h:bQ m σ w){t:dk}{a3:List Bool}{l:L (D t)}{vs:List Value}{c:Nat}{cur:Array Value}{ty:TypeId}(cm:Nat×Nat)(so:oK cur cm)(aT:j6 m.fz t a3 l.1 vs)(hle:l.1.length<=c)(an:c*t.length<=cur.size)(SR:∀(j:Nat) v,vs[j]?=some v->cur[j]?=some v):
 ∃m',jR σ.next m m'/\bQ m' ⟨σ.heap.put σ.next (some (.arr t a3 l none 0)),σ.next+1⟩ (w.alloc (.cells cur ty cm))/\hG m σ w m' ⟨σ.heap.put σ.next (some (.arr t a3 l none 0)),σ.next+1⟩ (w.alloc (.cells cur ty cm))/\
  m'.bj σ.next=some (.slice (some ⟨w.heap.size,0,none⟩) l.1.length c):=by
 obtain⟨f1,f2,f3,f4⟩:=h.fresh σ.next (Nat.le_refl _);have e:Ext m (m.gb σ.next (some w.heap.size) (.slice (some ⟨w.heap.size,0,none⟩) l.1.length c) (snap cur a3 t.length l.1.length) (λb=>if b=w.heap.size then some (w.heap.size,none) else m.dB b)):=M.Sr f1 f2 f3;have key:=h.change (m':=m.gb σ.next (some w.heap.size) (.slice (some ⟨w.heap.size,0,none⟩) l.1.length c) (snap cur a3 t.length l.1.length) (λb=>if b=w.heap.size then some (w.heap.size,none) else m.dB b))
  (bd:=⟨σ.heap.put σ.next (some (.arr t a3 l none 0)),σ.next+1⟩) (w':=w.alloc (.cells cur ty cm)) (λj=>j=σ.next) e ⟨rfl,rfl,rfl⟩ (by simp) (λj aw=>?_) (λj b aw ah=>?_) (λj aw=>⟨bI.T.eQ _ _ aw,by simp[M.gb,aw],by funext k o;simp[M.gb,aw]⟩)
  (λb ah _=>⟨Below.heap_alloc _ _ _ ah,rfl,by simp[M.gb];omega⟩) (λj k _ _ _ aw aX _ _ _ _=>aw.trans aX.symm) (λj x R aw _ fp=>?_) (λb R k aX=>?_) (λb R k aX az=>?_) (λb j v gk=>?_)
 ·exact⟨_,⟨e,λi aj=>by show(if i=σ.next then _ else m.pl i)=_;rw[if_neg ab]⟩,key.1,key.2,by simp[M.gb]⟩
 ·have aw:σ.next+1<=j:=aw;obtain⟨aI,aQ,bq,cA⟩:=h.fresh j ab;exact⟨by simp[M.gb,aI];omega,by simp[M.gb,aQ];omega,λk o=>by simp[M.gb,bq];omega,(bI.T.eQ _ _ ab).trans cA⟩
 ·subst aw;simp only[bI.T.ij] at ah;cases ah;refine⟨_,c,by simp[M.gb],hle,λk aX o=>?_,.inr ⟨w.heap.size,cur,ty,cm,rfl,by simp[M.gb],heap_alloc_new _ _,so,an,by simp[M.gb],h.wT (Nat.le_refl _),λn x aO=>?_,λo v=>?_⟩⟩
  ·simp only[M.gb];rw[if_neg ab];exact f3 k o
  ·have:=j6.zJ (m:=m.gb σ.next (some w.heap.size) (.slice (some ⟨w.heap.size,0,none⟩) l.1.length c) (snap cur a3 t.length l.1.length) (λb=>if b=w.heap.size then some (w.heap.size,none) else m.dB b))
    (h:=(w.alloc (.cells cur ty cm)).heap) (r:=w.heap.size) (cur:=cur) (o:=0) aT (λj v aw=>by rw[gd];exact SR j v aw) n x aO n
   rwa [gd] at this
  ·simp only[M.gb,if_true,and_self];exact QW
 ·subst aw;simp[M.gb] at fp;exact .inl ab
 ·simp only[M.gb] at aX⊢;split at aX
  ·cases aX;subst_vars;simp
  ·obtain⟨aI,aQ⟩:=h.own b R k aX;have:=(h.own R R none aQ).1;exact⟨by simp;omega,by rw[if_neg ab];exact aQ⟩
 ·simp only[M.gb] at aX;split at aX
  ·cases aX;exact⟨σ.next,.arr t a3 l none 0,rfl,bI.T.ij ..,by simp[M.gb]⟩
  ·exact absurd aX az
 ·obtain⟨hU,jm,jI,aI,aQ⟩:=h.stay b j v gk;exact⟨hU,jm,jI,(Below.heap_alloc _ _ _ (rf aI)).trans aI,aQ⟩
theorem bQ.arr {i r:Nat}{t:dk}{a3:List Bool}{l:L (D t)}{b6:Option (Nat×Nat)}{c_ k c:Nat}(h:bQ m σ w)(aj:σ.heap.get i=some (.arr t a3 l b6 c_))(fP:m.bj i=some (.slice (some ⟨r,0,none⟩) k c)):
 k=l.1.length/\k<=c/\(∀k,c_<k->∀o,m.hO i k o=none)/\∃cur ty cm,m.pl i=some r/\w.heap[r]?=some (.cells cur ty cm)/\oK cur cm/\c*t.length<=cur.size/\m.dB r=some (r,none)/\m.fz r=[]/\
  (∀(n:Nat) e,l.1[n]?=some e->gO m w.heap r b6 n cur (n*t.length) t a3 e 0)/\(∀o v,m.hO i c_ o=some v↔cur[o]?=some v/\a3[o%t.length]?=some true/\o/t.length<l.1.length):=by
 obtain⟨A,c',aa,af,ax,a8⟩:=h.live i _ aj;rw[fP] at aa;cases aa;rcases a8 with⟨a8,_⟩|⟨q,cur,ty,cm,aI,aQ⟩
 ·cases a8
 ·cases aI;exact⟨rfl,af,ax,cur,ty,cm,aQ⟩
theorem bQ.ayZ {i r n f c k:Nat}{t:dk}{a3:List Bool}{l:L (D t)}{c_:Nat}{e e':D t}{cs:List C}{vs:List Value}(h:bQ m σ w)(aj:σ.heap.get i=some (.arr t a3 l none c_))(fP:m.bj i=some (.slice (some ⟨r,0,none⟩) k c))(az:l.1[n]?=some e)(he:mR t (rT (lN t e) f cs)=some e')(bE:f+cs.length<=t.length)(bZ:∀j,f<=j->j<f+cs.length->a3[j]?.getD false=false)(aT:cO (dz m) cs vs):
 ∃w',(storeCells ⟨r,n*t.length+f,none⟩ vs).run aV w=.ok () w'/\bQ m ⟨σ.heap.put i (some (.arr t a3 (ej l n e') none c_)),σ.next⟩ w'/\hG m σ w m ⟨σ.heap.put i (some (.arr t a3 (ej l n e') none c_)),σ.next⟩ w':=by
 obtain⟨rfl,arb,D4,cur,ty,cm,aa,af,ax,a8,cn,da,dS,ez⟩:=h.arr aj fP;have hlen:=aT.length;have bl:=rf af;have ou:=(ep.1 az).1;have hmul:(n+1)*t.length<=c*t.length:=nu _ ab;rw[iQ,Nat.one_mul] at hmul;have fD:n*t.length+f+vs.length<=cur.size:=ab;have pP:∀j,(ia cur (n*t.length+f) vs)[j]?=if n*t.length+f<=j/\j<n*t.length+f+vs.length then vs[j-(n*t.length+f)]? else cur[j]?:=λj=>oC _ _ _ _ fD
 refine⟨_,bI.Cf vs 0 w cur af ab ax.1 (p7 aT),?_⟩;refine h.change (w':=ik w r (.cells (ia cur (n*t.length+f) vs) ty cm)) (bd:=⟨σ.heap.put i (some (.arr t a3 (ej l n e') none c_)),σ.next⟩) (λj=>j=i) (Ext.refl m) ⟨rfl,rfl,rfl⟩ (Nat.le_of_eq (nD ..).symm) (λj aw=>?_) (λj b aw ah=>?_) (λj aw=>⟨bI.T.eQ _ _ aw,rfl,rfl⟩)
  (λb ah aO=>⟨mi _ _ λe=>aO i _ r none rfl aj aa (e▸cn),rfl,rfl⟩) (λj k _ _ _ aw aX _ _ _ _=>aw.trans aX.symm) (λj x R aw _ fp=>.inr (.inl ⟨i,_,rfl,aj,aw▸fp⟩))
  (λb R k aX=>by rw[nD];exact h.own b R k aX) (λb R k aa af=>absurd aa af) (λb j v gk=>?_)
 ·obtain⟨aI,aQ,bq,cA⟩:=h.fresh j aw;refine⟨aI,aQ,bq,?_⟩;rw[bI.T.m8];split
  ·subst_vars;rw[aI] at aa;cases aa
  ·exact cA
 ·subst aw;simp only[bI.T.ij] at ah;cases ah;refine⟨_,c,by rw[fP];simp[ej],by simpa[ej] using arb,D4,.inr ⟨r,_,ty,cm,rfl,aa,oF _ _ bl,by unfold oK;rw[mU];exact ax,by rw[mU];exact a8,cn,da,λn' x aO=>?_,λo v=>?_⟩⟩
  ·have An:∀{n' x},gO m w.heap r none n' cur (n'*t.length) t a3 x 0->gO m (ik w r (.cells (ia cur (n*t.length+f) vs) ty cm)).heap r none n' cur (n'*t.length) t a3 x 0:=λaA=>aA.frame (iy.refl _) λb k _ eN=>⟨mi _ _ eN,rfl,rfl⟩;simp only[ej] at aO;by_cases w5:n'=n
   ·subst w5;rw[List.getElem?_set_self (by exact ou)] at aO;cases aO;refine(An (dS n' e az)).lC he λj c' kp=>?_;have yG:=Db t e;rw[Us (by rw[yG];exact bE)] at kp;rw[gd];by_cases ma:f<=j/\j<f+cs.length
    ·rw[if_pos ma] at kp;obtain⟨u,bn,bB⟩:=aT.get kp;refine .inr ⟨u,?_,λeG y _ cf=>?_⟩
     ·rw[pP,if_pos ab,<-bn];congr 1;omega
     ·rw[bZ j ma.1 ma.2];exact oQ.of (C2 cf bB)
    ·rw[if_neg ma] at kp;refine .inl ⟨kp,?_,λq=>q⟩;rw[pP,if_neg];have:=(ep.1 kp).1;omega
   ·rw[mN (Ne.symm w5)] at aO;refine(An (dS n' x aO)).CY (λj _ aw=>?_) λ_ q=>q;rw[gd] at aw;rw[pP,if_neg];rcases Nat.lt_or_gt_of_ne w5 with o6|o6
    ·have:(n'+1)*t.length<=n*t.length:=nu _ o6;rw[iQ,Nat.one_mul] at this;omega
    ·have:(n+1)*t.length<=n'*t.length:=nu _ o6;rw[iQ,Nat.one_mul] at this;omega
  ·have pU:(ej l n e').1.length=l.1.length:=by simp[ej]
   rw[ez o v,pU];refine and_congr_left λ⟨cx,cI⟩=>?_;rw[pP,if_neg];rintro⟨eS,fI⟩;have bj:=Nat.div_add_mod o t.length;have lR:0<t.length:=by
    rcases Nat.eq_zero_or_pos t.length with ba|ba
    ·rw[ba] at bE;omega
    ·exact ba
   have hm:o%t.length=o-n*t.length:=by
    have:o=n*t.length+(o-n*t.length):=ab;rw[this,Nat.mul_comm n,Nat.mul_add_mod];rw[Nat.mod_eq_of_lt (by rw[Nat.mul_comm];omega)];rw[Nat.mul_comm];omega
   have:=bZ (o%t.length) ab ab;rw[cx] at this;cases this
 ·obtain⟨hU,jm,jI,aI,aQ⟩:=h.stay b j v gk;refine⟨hU,jm,jI,?_,aQ⟩;rw[mi]
  ·exact aI
  ·intro e;rw[e,da] at gk;simp at gk
end
theorem yb {o n f sz:Nat}(bE:f<sz)(b6:o=n*sz+f):o/sz=n/\o%sz=f:=by
 subst b6;have:0<sz:=ab;refine⟨?_,?_⟩
 ·rw[Nat.mul_comm,Nat.mul_add_div this,Nat.div_eq_of_lt bE,cv]
 ·rw[Nat.mul_comm,Nat.mul_add_mod,Nat.mod_eq_of_lt bE]
section
variable{m m':M}{h h':Array Obj}
theorem oQ.move {r mF:Nat}{hole:Prop}{ap:Bool}{o:Nat}{l:fN}{x:n6 l}{v:Value}(e:iy m.fz m'.fz)(ah:∀b,m.dB b=some (r,some o)->b≠r->h'[b]?=h[b]?/\m'.dB b=some (mF,some o)/\m'.fz b=m.fz b/\b≠mF)(aW:oQ m h r hole ap o l x v):oQ m' h' mF hole ap o l x v:=by
 cases l with
 |a4 t=>
  intro az;obtain⟨aa,af⟩:=aW az;refine⟨aa.ext e,λbZ=>?_⟩;obtain⟨A,k,c,aI,aQ,bq⟩:=af bZ;refine⟨A,k,c,aI,aQ,bq.imp id λ⟨b,cur,ty,cm,bn,bB,dc,ek,iU,o_,p1⟩=>?_⟩;obtain⟨aE,aP,bS,cR⟩:=ah b o_ p1;exact⟨b,cur,ty,cm,bn,aE.trans bB,dc,ek,by rw[bS];exact iU,aP,cR⟩
 |int k=>exact dU.ext (l:=.int k) e aW
 |bool=>exact dU.ext (l:=.bool) e aW
 |str=>exact dU.ext (l:=.str) e aW
theorem gO.move {r mF n:Nat}{b6:Option (Nat×Nat)}{cur:Array Value}{base:Nat}(e:iy m.fz m'.fz)(ah:∀b o,m.dB b=some (r,some o)->b≠r->h'[b]?=h[b]?/\m'.dB b=some (mF,some o)/\m'.fz b=m.fz b/\b≠mF):∀{t:List fN}{a3:List Bool}{x:D t}{f:Nat},gO m h r b6 n cur base t a3 x f->gO m' h' mF b6 n cur base t a3 x f
 |[],_,_,_,_=>trivial
 |l::t,a3,x,f,⟨⟨v,aa,af⟩,ax⟩=>⟨⟨v,aa,af.move e λb=>ah b _⟩,gO.move e ah ax⟩
theorem gO.hole {r n:Nat}{cur:Array Value}{base g9 f0 sz:Nat}(e:iy m.fz m'.fz)(sm:base=n*sz)(ah:∀b o,m.dB b=some (r,some o)->b≠r->o≠g9*sz+f0->h'[b]?=h[b]?/\m'.dB b=m.dB b/\m'.fz b=m.fz b)(ba:f0<sz):
 ∀{t:List fN}{a3:List Bool}{x:D t}{f:Nat},f+t.length<=sz->(∀l,n=g9->f<=f0->t[f0-f]?=some l->∃t',l=.a4 t')->gO m h r none n cur base t a3 x f->gO m' h' r (some (g9,f0)) n cur base t a3 x f
 |[],_,_,_,_,_,_=>trivial
 |l::t,a3,x,f,bE,aM,⟨⟨v,aa,af⟩,ax⟩=>by
  simp only[gX] at bE;refine⟨⟨v,aa,?_⟩,gO.hole e sm ah ba ab (λeG aI aQ bq=>aM eG aI ab (by rw[show f0-f=(f0-(f+1))+1 by omega];simpa using bq)) ax⟩;by_cases he:n=g9/\f=f0
  ·obtain⟨rfl,rfl⟩:=he;obtain⟨t',rfl⟩:=aM l rfl (Nat.le_refl _) (by simp);exactλq=>absurd rfl q
  ·have eN:base+f≠g9*sz+f0:=by
    intro q;have aa:=yb (n:=n) (f:=f) (sz:=sz) (o:=base+f) ab (by rw[sm]);have af:=yb (n:=g9) (f:=f0) (sz:=sz) (o:=base+f) ba q;exact he ⟨ab,ab⟩
   cases l with
   |a4 t'=>
    intro _;obtain⟨bn,bB⟩:=af (by simp);refine⟨bn.ext e,λbZ=>?_⟩;obtain⟨A,k,c,aI,aQ,bq⟩:=bB bZ;refine⟨A,k,c,aI,aQ,bq.imp id λ⟨b,cur,ty,cm,bD,cZ,bN,cK,gn,ig,mA⟩=>?_⟩;obtain⟨aE,aP,bS⟩:=ah b _ ig mA eN;exact⟨b,cur,ty,cm,bD,aE.trans cZ,bN,cK,by rw[bS];exact gn,aP.trans ig,mA⟩
   |int k=>exact dU.ext (l:=.int k) e af
   |bool=>exact dU.ext (l:=.bool) e af
   |str=>exact dU.ext (l:=.str) e af
theorem gO.leaf {r n:Nat}{b6:Option (Nat×Nat)}{cur:Array Value}{base:Nat}:∀{t:List fN}{a3:List Bool}{x:D t}{f j:Nat}{l:fN}{c:C},gO m h r b6 n cur base t a3 x f->t[j]?=some l->(lN t x)[j]?=some c->
 ∃(y:n6 l) (v:Value),c=pL l y/\cur[base+(f+j)]?=some v/\oQ m h r (b6=some (n,f+j)) (a3[j]?.getD false) (base+(f+j)) l y v
 |[],_,_,_,j,l,c,_,aw,_=>by simp at aw
 |l::t,a3,x,f,0,_,c,⟨⟨v,aa,af⟩,_⟩,aw,an=>by
  simp at aw;subst aw;rw[vr] at an;simp at an;exact⟨x.1,v,an.symm,aa,by rw[<-DG];exact af⟩
 |l::t,a3,x,f,j+1,eG,c,⟨_,ax⟩,aw,an=>by
  rw[vr] at an;obtain⟨y,v,aI,aQ,bq⟩:=gO.leaf ax (j:=j) (l:=eG) (c:=c) (by simpa using aw) (by simpa using an);rw[IS,show f+1+j=f+(j+1) by omega] at bq;rw[show f+1+j=f+(j+1) by omega] at aQ;exact⟨y,v,aI,aQ,bq⟩
theorem gO.C0 {r n:Nat}{cur:Array Value}{base b:Nat}{fz:Nat->List Value}(e:iy m.fz fz)(an:∀(j:Nat) v,cur[j]?=some v->(fz b)[j]?=some v):∀{t:List fN}{a3:List Bool}{x:D t}{f:Nat},gO m h r none n cur base t a3 x f->ix fz t x b (base+f)
 |[],_,_,_,_=>by simp only[ix]
 |l::t,a3,x,f,⟨⟨v,aa,af⟩,ax⟩=>by
  simp only[ix];exact⟨⟨v,an _ _ aa,(af.Sb (by simp)).ext e⟩,by have:=gO.C0 (b:=b) e an ax;rwa [<-Nat.add_assoc] at this⟩
end
section
variable{aV:Program}{w:World}{m:M}{σ:bU}
theorem bQ.aaD {i:Nat}{t:dk}{a3:List Bool}{l:L (D t)}{c_:Nat}{v:Value}(h:bQ m σ w)(aj:σ.heap.get i=some (.arr t a3 l none c_))(fP:m.bj i=some v):
 ∃m',jR σ.next m m'/\dU m'.fz (.a4 t) l v/\bQ m' ⟨σ.heap.put i none,σ.next⟩ w/\hG m σ w m' ⟨σ.heap.put i none,σ.next⟩ w:=by
 obtain⟨A,c,aa,af,_,ax⟩:=h.live i _ aj;rw[fP] at aa;cases aa;rcases ax with⟨rfl,rfl,bq⟩|⟨r,cur,ty,cm,rfl,aQ,bq,cA,eP,fy,gz,hJ,ic⟩
 ·obtain⟨bn,bB⟩:=h.drop i;refine⟨m,jR.refl _ m,?_,bn,bB⟩;simp only[dU];exact⟨none,0,rfl,af,λaz=>by
   have:=List.length_pos_iff.2 az
   omega⟩
 ·have e:Ext m (m.lH r cur.toList):=⟨λ_ _ h=>h,λ_ _ h=>h,λ_ _ _ _ h=>h,λb j v ah=>by
   simp only[M.lH];split
   ·subst_vars;rw[gz] at ah;simp at ah
   ·exact ah⟩
  refine⟨m.lH r cur.toList,⟨e,λ_ _=>rfl⟩,?_,?_⟩
  ·simp only[dU];refine⟨_,c,rfl,af,λ_=>⟨r,0,rfl,λn x aO=>?_⟩⟩;rw[gd];exact(hJ n x aO).C0 e.fz λj v aw=>by simpa[M.lH] using aw
  ·refine h.change (λj=>j=i) e ⟨rfl,rfl,rfl⟩ (Nat.le_refl _) (λj aw=>?_) (λj b aw ah=>?_) (λj aw=>⟨bI.T.eQ _ _ aw,rfl,rfl⟩)
    (λb ah az=>⟨rfl,by simp only[M.lH];rw[if_neg];intro e;exact az i _ r none rfl aj aQ (e▸fy),rfl⟩) (λj k _ _ _ aw aX _ _ _ _=>aw.trans aX.symm) (λj x R aw ah=>?_) h.own (λb R k aa af=>absurd aa af) (λb j v gk=>?_)
   ·obtain⟨bn,bB,dc,ek⟩:=h.fresh j aw;refine⟨bn,bB,dc,?_⟩;rw[bI.T.m8];split
    ·rfl
    ·exact ek
   ·subst aw;simp only[bI.T.ij] at ah;cases ah
   ·subst aw;simp only[bI.T.ij] at ah;cases ah
   ·simp only[M.lH] at gk;split at gk
    ·subst_vars;exact⟨cur,ty,cm,bq,by simpa using gk⟩
    ·exact h.stay b j v gk
theorem bQ.take {i n f c_:Nat}{t t':dk}{a3:List Bool}{l:L (D t)}{v:Value}(h:bQ m σ w)(aj:σ.heap.get i=some (.arr t a3 l none c_))(bR:t[f]?=some (.a4 t'))(aM:m.hO i c_ (n*t.length+f)=some v):
 ∃m',jR σ.next m m'/\bQ m' ⟨(σ.heap.put i (some (.arr t a3 l (some (n,f)) c_))).put σ.next (some (.bC t')),σ.next+1⟩ w/\hG m σ w m' ⟨(σ.heap.put i (some (.arr t a3 l (some (n,f)) c_))).put σ.next (some (.bC t')),σ.next+1⟩ w/\m'.bj σ.next=some v:=by
 obtain⟨f1,f2,f3,f4⟩:=h.fresh σ.next (Nat.le_refl _);obtain⟨A,c,aa,af,ba,ax⟩:=h.live i _ aj;have ma:i≠σ.next:=λe=>by rw[e,f4] at aj;cases aj
 have q5:=(ep.1 bR).1;rcases ax with⟨rfl,rfl,bq,cA⟩|⟨r,cur,ty,cm,rfl,aQ,bq,cA,eP,fy,gz,hJ,ic⟩
 ·rw[cA] at aM;cases aM
 ·obtain⟨s1,s2,tS⟩:=(ic _ _).1 aM;obtain⟨d1,d2⟩:=yb (o:=n*t.length+f) q5 rfl;rw[d2] at s2;rw[d1] at tS;have ar':=hJ n _ (fG tS);have aq1:(lN t l.1[n])[f]?=some ((lN t l.1[n])[f]'(by rw[Db];exact q5)):=fG _
  obtain⟨y,u,aq,aB,aK⟩:=ar'.leaf bR aq1;rw[gd] at aB;rw[s1] at aB;cases aB;obtain⟨aS,a9⟩:=aK (by simp);rw[s2] at a9;obtain⟨A,k,c',eg,e3,gq⟩:=a9 rfl;have ah:∃(mT:Option Nat),(A=none/\c'=0/\mT=none)\/(∃b hU jm jI,A=some ⟨b,0,none⟩/\mT=some b/\w.heap[b]?=some (.cells hU jm jI)/\oK hU jI/\c'*t'.length<=hU.size/\(m.fz b).length=k*t'.length/\
   m.dB b=some (r,some (n*t.length+f))/\b≠r):=by
   rcases gq with⟨gq,fJ⟩|⟨b,hU,jm,jI,gq,fJ,mm,k8,qO,iO,kO⟩
   ·exact⟨none,.inl ⟨gq,fJ,rfl⟩⟩
   ·exact⟨some b,.inr ⟨b,hU,jm,jI,gq,rfl,fJ,mm,k8,qO,by rw[iO,gd],kO⟩⟩
  obtain⟨mT,ah⟩:=ah;have vH:∀b,mT=some b->m.dB b=some (r,some (n*t.length+f))/\b≠r:=by
   intro b vz;rcases ah with⟨_,_,q⟩|⟨fZ,_,_,_,_,q,_,_,_,_,cx,cI⟩
   ·rw[q] at vz;cases vz
   ·rw[q] at vz;cases vz;exact⟨cx,cI⟩
  have e:Ext m (m.eH σ.next mT v m.fz (λb=>if mT=some b then some (b,none) else m.dB b)):=M.Df f1 f2 (iy.refl _);refine⟨_,⟨e,λi aj=>by show(if i=σ.next then _ else m.pl i)=_;rw[if_neg ab]⟩,?_⟩;have key:=h.change (m':=m.eH σ.next mT v m.fz (λb=>if mT=some b then some (b,none) else m.dB b)) (bd:=⟨(σ.heap.put i (some (.arr t a3 l (some (n,f)) c_))).put σ.next (some (.bC t')),σ.next+1⟩) (w':=w)
   (λj=>j=i\/j=σ.next) e ⟨rfl,rfl,rfl⟩ (Nat.le_refl _) (λj aw=>?_) (λj b aw l7=>?_) (λj aw=>⟨?_,by simp[M.eH,(not_or.1 aw).2],rfl⟩) (λb bl aO=>⟨rfl,rfl,?_⟩) (λj ku mo aoy q aw mb _ _ aA Kt=>?_) (λj x R aw l7 fp=>?_) (λb R k aX=>?_) (λb R k aX az=>?_) h.stay
  ·exact⟨key.1,key.2,by simp[M.eH]⟩
  ·have aw:σ.next+1<=j:=aw;obtain⟨bn,bB,dc,ek⟩:=h.fresh j ab;have uE:i≠j:=λe=>by rw[e,ek] at aj;cases aj
   refine⟨by simp[M.eH,bn];omega,by simp[M.eH,bB];omega,dc,?_⟩;simp only
   rw[bI.T.eQ _ _ ab,bI.T.eQ _ _ uE.symm];exact ek
  ·by_cases nc:j=σ.next
   ·subst nc;simp only[bI.T.ij] at l7;cases l7;refine⟨A,k,c',by simp[M.eH,eg],e3,?_⟩;rcases ah with⟨cx,cI,dw⟩|⟨b,hU,jm,jI,cx,cI,dw,fh,kJ,mE,Bc,gG⟩
    ·exact .inl ⟨cx,cI,by simp[M.eH,dw]⟩
    ·refine .inr ⟨b,hU,jm,jI,cx,by simp[M.eH,cI],dw,fh,kJ,mE,by simp[M.eH,cI],λfZ cB pS=>?_⟩;simp only[M.eH,cI,Option.some.injEq] at pS;split at pS
     ·rename_i he;exact he.symm
     ·have:=(h.own fZ b cB pS).2;rw[Bc] at this;cases this
   ·have iT:j=i:=aw.resolve_right nc;subst iT;simp only at l7;rw[bI.T.eQ _ _ nc,bI.T.ij] at l7;cases l7;refine⟨some ⟨r,0,none⟩,c,e.bj _ _ aa,af,ba,.inr ⟨r,cur,ty,cm,rfl,e.pl _ _ aQ,bq,cA,eP,?_,gz,λn' x aO=>?_,ic⟩⟩
    ·simp only[M.eH];rw[if_neg]
     ·exact fy
     ·intro q;exact(vH r q).2 rfl
    ·refine gO.hole e.fz rfl (λb o pO eN b6=>⟨rfl,?_,rfl⟩) q5 ab (λeG _ _ lQ=>?_) (hJ n' x aO)
     ·simp only[M.eH];rw[if_neg];intro q;rw[(vH b q).1] at pO;cases pO;exact b6 rfl
     ·rw[Nat.sub_zero,bR] at lQ;cases lQ;exact⟨t',rfl⟩
  ·have:=not_or.1 aw;simp only
   rw[bI.T.eQ _ _ this.2,bI.T.eQ _ _ this.1]
  ·simp only[M.eH];rw[if_neg];intro q;exact aO i _ r _ (.inl rfl) aj aQ (vH b q).1
  ·have w7:(m.eH σ.next mT v m.fz (λb=>if mT=some b then some (b,none) else m.dB b)).pl i=some r:=e.pl _ _ aQ;have Ks:(m.eH σ.next mT v m.fz (λb=>if mT=some b then some (b,none) else m.dB b)).pl σ.next=mT:=by simp[M.eH]
   rcases aw with rfl|rfl
   ·rcases mb with rfl|rfl
    ·rfl
    ·rw[w7] at aA;rw[Ks] at Kt;cases aA;exact absurd rfl (vH r Kt).2
   ·rcases mb with rfl|rfl
    ·rw[w7] at Kt;rw[Ks] at aA;cases Kt;exact absurd rfl (vH r aA).2
    ·rfl
  ·rcases aw with rfl|rfl
   ·have w7:(m.eH σ.next mT v m.fz (λb=>if mT=some b then some (b,none) else m.dB b)).pl j=some r:=e.pl _ _ aQ;rw[w7] at fp;cases fp;exact .inr (.inl ⟨j,_,.inl rfl,aj,aQ⟩)
   ·have Ks:(m.eH σ.next mT v m.fz (λb=>if mT=some b then some (b,none) else m.dB b)).pl σ.next=mT:=by simp[M.eH]
    rw[Ks] at fp;exact .inr (.inr ⟨i,_,r,_,.inl rfl,aj,aQ,(vH R fp).1,(vH R fp).2⟩)
  ·simp only[M.eH] at aX⊢;split at aX
   ·rename_i aA;cases aX;refine⟨(h.own _ _ _ (vH b aA).1).1,by rw[if_pos aA]⟩
   ·obtain⟨bn,bB⟩:=h.own b R k aX;refine⟨bn,?_⟩;rw[if_neg]
    ·exact bB
    ·intro q;rw[(vH R q).1] at bB;cases bB
  ·simp only[M.eH] at aX;split at aX
   ·rename_i aA;cases aX;exact⟨σ.next,.bC t',.inr rfl,bI.T.ij ..,by simp[M.eH,aA]⟩
   ·exact absurd aX az
end
def M.qs (m:M)(i c_:Nat)(s:Nat->Option Value)(s_:Option Nat)(o:Nat×Option Nat):M:=⟨m.pl,m.bj,λj k q=>if j=i/\k=c_ then s q else m.hO j k q,m.fz,λb=>if s_=some b then some o else m.dB b⟩
section
variable{aV:Program}{w:World}{m:M}{σ:bU}
theorem bQ.fill {i k n f c_ r len c:Nat}{t t':dk}{a3:List Bool}{l:L (D t)}{b6:Option (Nat×Nat)}{v:Value}{e e':D t}{y:L (D t')}(h:bQ m σ w)(aj:σ.heap.get i=some (.arr t a3 l b6 c_))(sq:b6=none\/b6=some (n,f))(fP:m.bj i=some (.slice (some ⟨r,0,none⟩) len c))(aX:σ.heap.get k=some (.bC t'))(are:m.bj k=some v)(bR:t[f]?=some (.a4 t'))(az:l.1[n]?=some e)(cf:dU m.fz (.a4 t') y v)(he:mR t ((lN t e).set f (.row t' y .no))=some e'):
 ∃m' w',(storeCells ⟨r,n*t.length+f,none⟩ [v]).run aV w=.ok () w'/\jR σ.next m m'/\bQ m' ⟨(σ.heap.put k none).put i (some (.arr t a3 (ej l n e') none (c_+1))),σ.next⟩ w'/\
  hG m σ w m' ⟨(σ.heap.put k none).put i (some (.arr t a3 (ej l n e') none (c_+1))),σ.next⟩ w':=by
 obtain⟨rfl,Kl,D4,cur,ty,cm,aa,af,ax,a8,cn,da,dS,ez⟩:=h.arr aj fP;obtain⟨A,TB,y5,bn,bB,dc⟩:=h.live k _ aX;rw[are] at bn;have asb:v=.slice A TB y5:=eF bn;have S0:i≠k:=λq=>by rw[q,aX] at aj;cases aj
 have q5:=(ep.1 bR).1;have ou:=(ep.1 az).1;have bl:=rf af;have hmul:(n+1)*t.length<=c*t.length:=nu _ ab;rw[iQ,Nat.one_mul] at hmul;have fD:n*t.length+f<cur.size:=ab;have ah:∃s_:Option Nat,m.pl k=s_/\((A=none/\y5=0/\s_=none)\/∃b hU jm jI,A=some ⟨b,0,none⟩/\s_=some b/\w.heap[b]?=some (.cells hU jm jI)/\oK hU jI/\y5*t'.length<=hU.size/\(m.fz b).length=TB*t'.length/\m.dB b=some (b,none)/\
  ∀fZ cB,m.dB fZ=some (b,cB)->fZ=b):=by
  rcases dc with⟨dc,ek,iU⟩|⟨b,hU,jm,jI,dc,ek,iU,o_,p1,D_,tF,acA⟩
  ·exact⟨none,iU,.inl ⟨dc,ek,rfl⟩⟩
  ·exact⟨some b,ek,.inr ⟨b,hU,jm,jI,dc,rfl,iU,o_,p1,D_,tF,acA⟩⟩
 obtain⟨s_,abV,ah⟩:=ah;have yA:∀b,s_=some b->m.dB b=some (b,none)/\b≠r/\∀fZ cB,m.dB fZ=some (b,cB)->fZ=b:=by
  intro b vz;rcases ah with⟨_,_,q⟩|⟨fZ,_,_,_,_,q,_,_,_,_,cx,cI⟩
  ·rw[q] at vz;cases vz
  ·rw[q] at vz;cases vz;refine⟨cx,λhe=>?_,cI⟩;exact S0 (h.inj i k _ _ r aj aX aa (by rw[abV,q,he]))
 generalize aM:snap (cur.setIfInBounds (n*t.length+f) v) a3 t.length l.1.length=s;have gv:Ext m (m.qs i (c_+1) s s_ (r,some (n*t.length+f))):=⟨λ_ _ h=>h,λ_ _ h=>h,λj cB o q aw=>by
  simp only[M.qs];split
  ·rename_i an;rw[an.1,an.2,D4 _ (Nat.lt_succ_self _)] at aw;cases aw
  ·exact aw,iy.refl _⟩
 have S_:(∀cs,v≠.agg cs)/\∀cs,v≠.tuple cs:=dz.one (m:=m) (cf.cell);refine⟨_,_,bI.Cf [v] 0 w cur af (by simp;omega) ax.1 (by simpa using S_),⟨gv,λ_ _=>rfl⟩,?_⟩;have arN:ia cur (n*t.length+f+0) [v]=cur.setIfInBounds (n*t.length+f) v:=rfl;rw[arN];have pP:∀j,(cur.setIfInBounds (n*t.length+f) v)[j]?=if j=n*t.length+f then some v else cur[j]?:=λj=>by
  by_cases aw:j=n*t.length+f
  ·subst aw;simp[fD]
  ·rw[if_neg aw,Array.getElem?_setIfInBounds_ne (Ne.symm aw)]
 refine h.change (m':=m.qs i (c_+1) s s_ (r,some (n*t.length+f))) (bd:=⟨(σ.heap.put k none).put i (some (.arr t a3 (ej l n e') none (c_+1))),σ.next⟩) (w':=ik w r (.cells (cur.setIfInBounds (n*t.length+f) v) ty cm)) (λj=>j=i\/j=k) gv ⟨rfl,rfl,rfl⟩ (Nat.le_of_eq (nD ..).symm)
  (λj aw=>?_) (λj b aw l7=>?_) (λj aw=>⟨?_,rfl,?_⟩) (λb o6 aO=>?_) (λj ku mo aoy q aw mb l7 aqN _ _=>?_) (λj x R aw l7 fp=>?_) (λb R u_ kI=>?_) (λb R u_ kI eN=>?_) (λb j u gk=>?_)
 ·obtain⟨aI,aQ,bq,cA⟩:=h.fresh j aw;have iT:j≠i:=λq=>by rw[q,aj] at cA;cases cA
  have su:j≠k:=λq=>by rw[q,aX] at cA;cases cA
  exact⟨aI,aQ,λcB o=>by simp[M.qs,iT,bq],by simp only;rw[bI.T.eQ _ _ iT,bI.T.eQ _ _ su];exact cA⟩
 ·by_cases iT:j=i
  ·subst iT;simp only[bI.T.ij] at l7;cases l7
   refine⟨_,c,by have q:(ej l n e').1.length=l.1.length:=by simp[ej]
                 rw[q];exact fP,by simpa[ej] using Kl,λcB pS o=>?_,.inr ⟨r,_,ty,cm,rfl,aa,oF _ _ bl,⟨λq aA=>ax.1 q (by simpa using aA),ax.2⟩,by simpa using a8,?_,da,λn' x aO=>?_,λo u=>?_⟩⟩
   ·simp only[M.qs];rw[if_neg ab];exact D4 cB ab o
   ·simp only[M.qs];rw[if_neg]
    ·exact cn
    ·intro q;exact(yA r q).2.1 rfl
   ·have An:∀{n' x},gO m w.heap r b6 n' cur (n'*t.length) t a3 x 0->gO (m.qs j (c_+1) s s_ (r,some (n*t.length+f))) (ik w r (.cells (cur.setIfInBounds (n*t.length+f) v) ty cm)).heap r b6 n' cur (n'*t.length) t a3 x 0:=
     λaA=>gO.frame (m:=m) (m':=m.qs j (c_+1) s s_ (r,some (n*t.length+f))) (h:=w.heap) (h':=(ik w r (.cells (cur.setIfInBounds (n*t.length+f) v) ty cm)).heap) (iy.refl m.fz) (λb u_ kI eN=>⟨mi _ _ eN,by
      simp only[M.qs];rw[if_neg];intro q;obtain⟨cx,cI,dw⟩:=yA b q;rw[cx] at kI;cases kI;exact eN rfl,rfl⟩) aA
    simp only[ej] at aO;by_cases w5:n'=n
    ·subst w5;rw[List.getElem?_set_self (by exact ou)] at aO;cases aO;refine(An (dS n' e az)).lC he λku c' kp=>?_;rw[gd];by_cases AB:ku=f
     ·subst AB;rw[List.getElem?_set_self (by rw[Db];exact q5)] at kp;cases kp;refine .inr ⟨v,by rw[pP,if_pos rfl],λeG mI lQ asg=>?_⟩;rw[bR] at lQ;cases lQ;have:mI=y:=by
       have aA:=ZN (l:=.a4 t') y;exact eF (asg.symm.trans aA)
      subst this;intro _;refine⟨cf,λ_=>⟨A,TB,y5,asb,bB,?_⟩⟩;rcases ah with⟨cx,cI,_⟩|⟨b,hU,jm,jI,cx,cI,dw,fh,kJ,mE,Bc,gG⟩
      ·exact .inl ⟨cx,cI⟩
      ·obtain⟨eg,e3,gq⟩:=yA b cI;exact .inr ⟨b,hU,jm,jI,cx,(mi _ _ e3).trans dw,fh,kJ,mE,by simp[M.qs,cI],e3⟩
     ·rw[mN (Ne.symm AB)] at kp;refine .inl ⟨kp,by rw[pP,if_neg ab],λq=>?_⟩;rcases sq with sq|sq
      ·rw[sq] at q;cases q
      ·rw[sq] at q;cases q;exact absurd rfl AB
    ·rw[mN (Ne.symm w5)] at aO;refine(An (dS n' x aO)).CY (λku _ mb=>?_) λku q=>?_
     ·rw[gd] at mb;rw[pP,if_neg];intro q;have aa:=yb (n:=n') (f:=ku) (sz:=t.length) (o:=n'*t.length+ku) mb rfl;have af:=yb (n:=n) (f:=f) (sz:=t.length) (o:=n'*t.length+ku) q5 q;omega
     ·rcases sq with sq|sq
      ·rw[sq] at q;cases q
      ·rw[sq] at q;cases q;exact absurd rfl w5
   ·have pU:(ej l n e').1.length=l.1.length:=by simp[ej]
    rw[pU];simp only[M.qs,and_self,if_true,<-aM];exact QW
  ·have su:j=k:=aw.resolve_left iT;subst su;simp only at l7;rw[bI.T.eQ _ _ iT,bI.T.ij] at l7;cases l7
 ·have:=not_or.1 aw;simp only
  rw[bI.T.eQ _ _ this.1,bI.T.eQ _ _ this.2]
 ·funext cB o;simp[M.qs,(not_or.1 aw).1]
 ·have vB:b≠r:=λq=>aO i _ r none (.inl rfl) aj aa (q▸cn);refine⟨mi _ _ vB,rfl,?_⟩;simp only[M.qs];rw[if_neg];intro q;exact aO k _ b none (.inr rfl) aX (by rw[abV,q]) (yA b q).1
 ·have dead:∀x,((σ.heap.put k none).put i (some (B.arr t a3 (ej l n e') none (c_+1)))).get k≠some x:=λx aO=>by
   rw[bI.T.eQ _ _ S0.symm,bI.T.ij] at aO;cases aO
  rcases aw with rfl|rfl
  ·rcases mb with rfl|rfl
   ·rfl
   ·exact absurd aqN (dead _)
  ·exact absurd l7 (dead _)
 ·rcases aw with rfl|rfl
  ·have fp:m.pl j=some R:=fp;rw[aa] at fp;cases fp;exact .inr (.inl ⟨j,_,.inl rfl,aj,aa⟩)
  ·simp only at l7;rw[bI.T.eQ _ _ S0.symm,bI.T.ij] at l7;cases l7
 ·rw[nD];simp only[M.qs] at kI⊢;split at kI
  ·rename_i aA;cases kI;obtain⟨eg,e3,gq⟩:=yA b aA;refine⟨(h.own _ _ _ eg).1,?_⟩;rw[if_neg]
   ·exact cn
   ·intro q;exact(yA _ q).2.1 rfl
  ·rename_i aA;obtain⟨aI,aQ⟩:=h.own b R u_ kI;refine⟨aI,?_⟩;rw[if_neg]
   ·exact aQ
   ·intro q;exact aA ((yA R q).2.2 b u_ kI▸q)
 ·simp only[M.qs] at kI;split at kI
  ·cases kI;exact⟨i,_,.inl rfl,bI.T.ij ..,aa⟩
  ·exact absurd kI eN
 ·obtain⟨hU,jm,jI,aI,aQ⟩:=h.stay b j u gk;refine⟨hU,jm,jI,?_,aQ⟩;rw[mi]
  ·exact aI
  ·intro q;have gk:(m.fz b)[j]?=some u:=gk;rw[q,da] at gk;simp at gk
end
section
variable{aV:Program}{w:World}{m:M}{σ:bU}
theorem bQ.T8 (h:bQ m σ w)(t:dk)(a3:List Bool):∃m',jR σ.next m m'/\bQ m' ⟨σ.heap.put σ.next (some (.arr t a3 L.nil none 0)),σ.next+1⟩ w/\hG m σ w m' ⟨σ.heap.put σ.next (some (.arr t a3 L.nil none 0)),σ.next+1⟩ w/\
 m'.bj σ.next=some (.slice none 0 0):=by
 obtain⟨f1,f2,f3,f4⟩:=h.fresh σ.next (Nat.le_refl _);have e:Ext m (m.eH σ.next none (.slice none 0 0) m.fz m.dB):=M.Df f1 f2 (iy.refl _);have key:=h.change (m':=m.eH σ.next none (.slice none 0 0) m.fz m.dB) (bd:=⟨σ.heap.put σ.next (some (.arr t a3 L.nil none 0)),σ.next+1⟩) (w':=w) (λj=>j=σ.next) e ⟨rfl,rfl,rfl⟩ (Nat.le_refl _) (λj aw=>?_) (λj b aw ah=>?_) (λj aw=>⟨bI.T.eQ _ _ aw,by simp[M.eH,aw],rfl⟩)
  (λb ah _=>⟨rfl,rfl,rfl⟩) (λj k _ _ _ aw aX _ _ _ _=>aw.trans aX.symm) (λj x R aw _ fp=>?_) h.own (λb R k aa af=>absurd aa af) h.stay
 ·exact⟨_,⟨e,λi aj=>by show(if i=σ.next then _ else m.pl i)=_;rw[if_neg ab]⟩,key.1,key.2,by simp[M.eH]⟩
 ·have aw:σ.next+1<=j:=aw;obtain⟨aI,aQ,bq,cA⟩:=h.fresh j ab;exact⟨by simp[M.eH,aI],by simp[M.eH,aQ];omega,bq,(bI.T.eQ _ _ ab).trans cA⟩
 ·subst aw;simp only[bI.T.ij] at ah;cases ah;exact⟨none,0,by simp[M.eH,L.nil],Nat.le_refl _,λk _ o=>f3 k o,.inl ⟨rfl,rfl,by simp[M.eH],f3⟩⟩
 ·subst aw;simp[M.eH] at fp
theorem bQ.ap' {k r len c c_:Nat}{t:dk}{a3:List Bool}{l gh:L (D t)}{ea:List (D t)}{vs:List Value}(h:bQ m σ w)(aX:σ.heap.get k=some (.arr t a3 l none c_))(fP:m.bj k=some (.slice (some ⟨r,0,none⟩) len c))(aT:j6 m.fz t a3 ea vs)(hle:len+ea.length<=c)(pU:gh.1=l.1++ea):
 ∃m' w',(storeCells ⟨r,len*t.length,none⟩ vs).run aV w=.ok () w'/\jR σ.next m m'/\bQ m' ⟨(σ.heap.put k none).put σ.next (some (.arr t a3 gh none 0)),σ.next+1⟩ w'/\hG m σ w m' ⟨(σ.heap.put k none).put σ.next (some (.arr t a3 gh none 0)),σ.next+1⟩ w'/\
  m'.bj σ.next=some (.slice (some ⟨r,0,none⟩) gh.1.length c):=by
 obtain⟨f1,f2,f3,f4⟩:=h.fresh σ.next (Nat.le_refl _);obtain⟨rfl,Kl,D4,cur,ty,cm,aa,af,ax,a8,cn,da,dS,ez⟩:=h.arr aX fP;have bl:=rf af;have Tn:=aT.length;have sw:k≠σ.next:=λe=>by rw[e,f1] at aa;cases aa
 have aQh:gh.1.length=l.1.length+ea.length:=by rw[pU];simp
 have fD:l.1.length*t.length+vs.length<=cur.size:=by
  have:(l.1.length+ea.length)*t.length<=c*t.length:=nu _ hle;rw[iQ] at this;omega
 have pP:∀j,(ia cur (l.1.length*t.length) vs)[j]?=if l.1.length*t.length<=j/\j<l.1.length*t.length+vs.length then vs[j-l.1.length*t.length]? else cur[j]?:=λj=>oC _ _ _ _ fD
 have e:Ext m (m.gb σ.next (some r) (.slice (some ⟨r,0,none⟩) gh.1.length c) (snap (ia cur (l.1.length*t.length) vs) a3 t.length gh.1.length) m.dB):=M.Sr f1 f2 f3;refine⟨_,ik w r (.cells (ia cur (l.1.length*t.length) vs) ty cm),bI.Cf vs 0 w cur af ab ax.1 aT.p7,⟨e,λi aj=>by show(if i=σ.next then _ else m.pl i)=_;rw[if_neg ab]⟩,?_⟩;have key:=h.change (m':=m.gb σ.next (some r) (.slice (some ⟨r,0,none⟩) gh.1.length c) (snap (ia cur (l.1.length*t.length) vs) a3 t.length gh.1.length) m.dB)
  (bd:=⟨(σ.heap.put k none).put σ.next (some (.arr t a3 gh none 0)),σ.next+1⟩) (w':=ik w r (.cells (ia cur (l.1.length*t.length) vs) ty cm)) (λj=>j=σ.next\/j=k) e ⟨rfl,rfl,rfl⟩ (Nat.le_of_eq (nD ..).symm) (λj aw=>?_) (λj b aw ah=>?_)
  (λj aw=>⟨?_,by simp[M.gb,(not_or.1 aw).1],by funext k o;simp[M.gb,(not_or.1 aw).1]⟩) (λb ah aO=>?_) (λj l _ _ _ aw aW l7 vA _ _=>?_) (λj x R aw ah fp=>?_) (λb R cB pS=>by rw[nD];exact h.own b R cB pS) (λb R k aa af=>absurd aa af) (λb j v gk=>?_)
 ·exact⟨key.1,key.2,by simp[M.gb]⟩
 ·have aw:σ.next+1<=j:=aw;obtain⟨aI,aQ,bq,cA⟩:=h.fresh j ab;refine⟨by simp[M.gb,aI];omega,by simp[M.gb,aQ];omega,λk o=>by simp[M.gb,bq];omega,?_⟩;simp only
  rw[bI.T.eQ _ _ ab,bI.T.m8];split
  ·rfl
  ·exact cA
 ·by_cases nc:j=σ.next
  ·subst nc;simp only[bI.T.ij] at ah;cases ah;refine⟨_,c,by simp[M.gb],ab,λcB pS o=>?_,.inr ⟨r,_,ty,cm,rfl,by simp[M.gb],oF _ _ bl,by unfold oK;rw[mU];exact ax,by rw[mU];exact a8,cn,da,λn x aO=>?_,λo v=>?_⟩⟩
   ·simp only[M.gb];rw[if_neg ab];exact f3 cB o
   ·rw[pU] at aO;by_cases az:n<l.1.length
    ·rw[mL az] at aO;refine(gO.frame (m:=m) (m':=m.gb σ.next (some r) (.slice (some ⟨r,0,none⟩) gh.1.length c) (snap (ia cur (l.1.length*t.length) vs) a3 t.length gh.1.length) m.dB) (h:=w.heap) (h':=(ik w r (.cells (ia cur (l.1.length*t.length) vs) ty cm)).heap) (iy.refl m.fz) (λb u_ kI eN=>⟨mi _ _ eN,rfl,rfl⟩) (dS n x aO)).CY (λku _ mb=>?_) λ_ q=>q;rw[pP,if_neg];have:(n+1)*t.length<=l.1.length*t.length:=nu _ az;rw[iQ,Nat.one_mul] at this;omega
    ·rw[mM ab] at aO;have:=j6.zJ (m:=m.gb σ.next (some r) (.slice (some ⟨r,0,none⟩) gh.1.length c) (snap (ia cur (l.1.length*t.length) vs) a3 t.length gh.1.length) m.dB)
      (h:=(ik w r (.cells (ia cur (l.1.length*t.length) vs) ty cm)).heap) (r:=r) (cur:=ia cur (l.1.length*t.length) vs) (o:=l.1.length*t.length) aT (λj v aw=>by
       have:=(ep.1 aw).1;rw[pP,if_pos ab,<-aw];congr 1;omega) _ x aO n
     rwa [<-iQ,Nat.add_sub_cancel' ab] at this
   ·simp only[M.gb,and_self,if_true];exact QW
  ·have su:j=k:=aw.resolve_left nc;subst su;simp only at ah;rw[bI.T.eQ _ _ nc,bI.T.ij] at ah;cases ah
 ·have:=not_or.1 aw;simp only
  rw[bI.T.eQ _ _ this.1,bI.T.eQ _ _ this.2]
 ·have vB:b≠r:=λe=>aO k _ r none (.inr rfl) aX aa (e▸cn);exact⟨mi _ _ vB,rfl,rfl⟩
 ·have dead:∀x,((σ.heap.put k none).put σ.next (some (B.arr t a3 gh none 0))).get k≠some x:=λx aO=>by
   rw[T.Fs _ _ sw] at aO;cases aO
  rcases aw with aw|aw
  ·rcases aW with aW|aW
   ·rw[aw,aW]
   ·subst aW;exact absurd vA (dead _)
  ·subst aw;exact absurd l7 (dead _)
 ·rcases aw with aw|aw
  ·subst aw;simp[M.gb] at fp;subst fp;exact .inr (.inl ⟨k,_,.inr rfl,aX,aa⟩)
  ·subst aw;simp only at ah;rw[T.Fs _ _ sw] at ah;cases ah
 ·obtain⟨hU,jm,jI,aI,aQ⟩:=h.stay b j v gk;refine⟨hU,jm,jI,?_,aQ⟩;rw[mi]
  ·exact aI
  ·intro q;have gk:(m.fz b)[j]?=some v:=gk;rw[q,da] at gk;simp at gk
def sP (dB:Nat->Option (Nat×Option Nat))(r n:Nat)(b:Nat):Option (Nat×Option Nat):=if b=n then some (n,none) else match dB b with
 |some (R,some o)=>if R=r then some (n,some o) else some (R,some o)
 |q=>q
theorem XE {dB:Nat->Option (Nat×Option Nat)}{r n b o:Nat}(h:dB b=some (r,some o))(az:b≠n):sP dB r n b=some (n,some o):=by simp[sP,az,h]
theorem QI {dB:Nat->Option (Nat×Option Nat)}{r n b:Nat}(h:∀o,dB b≠some (r,some o))(az:b≠n):sP dB r n b=dB b:=by
 unfold sP;rw[if_neg az];split
 ·rename_i R o ah;rw[if_neg]
  ·exact ah.symm
  ·intro q;exact h o (by rw[ah,q])
 ·rfl
theorem bQ.aNT {k len c c' c_:Nat}{A:Option Addr}{t:dk}{a3:List Bool}{l gh:L (D t)}{ea:List (D t)}{vs:List Value}{cur:Array Value}{ty:TypeId}(h:bQ m σ w)(aX:σ.heap.get k=some (.arr t a3 l none c_))(fP:m.bj k=some (.slice A len c))(aT:j6 m.fz t a3 ea vs)(pU:gh.1=l.1++ea)(an:gh.1.length<=c')(lg:c'*t.length<=cur.size)(hold:∀r oe ty cm,A=some ⟨r,0,none⟩->w.heap[r]?=some (.cells oe ty cm)->∀j,j<len*t.length->cur[j]?=oe[j]?)(arF:∀(j:Nat) v,vs[j]?=some v->cur[len*t.length+j]?=some v):
 ∃m',jR σ.next m m'/\bQ m' ⟨(σ.heap.put k none).put σ.next (some (.arr t a3 gh none 0)),σ.next+1⟩ (w.alloc (.cells cur ty))/\hG m σ w m' ⟨(σ.heap.put k none).put σ.next (some (.arr t a3 gh none 0)),σ.next+1⟩ (w.alloc (.cells cur ty))/\
  m'.bj σ.next=some (.slice (some ⟨w.heap.size,0,none⟩) gh.1.length c'):=by
 obtain⟨f1,f2,f3,f4⟩:=h.fresh σ.next (Nat.le_refl _);have sw:k≠σ.next:=λe=>by rw[e,f4] at aX;cases aX
 have DS:=h.live k _ aX;obtain⟨eZ,pI,dK,dh,a0,gT⟩:=DS;rw[fP] at dK;cases dK;have aU:∃r,(∀b o,m.dB b=some (r,some o)->∃q,m.pl k=some q/\q=r)/\(m.pl k=none\/m.pl k=some r)/\(∀n x,l.1[n]?=some x->∃oe ty cm,A=some ⟨r,0,none⟩/\w.heap[r]?=some (.cells oe ty cm)/\m.pl k=some r/\gO m w.heap r none n oe (n*t.length) t a3 x 0):=by
  rcases gT with⟨rfl,rfl,bq,_⟩|⟨r,oe,mj,JU,rfl,aQ,bq,cA,eP,fy,gz,hJ,ic⟩
  ·refine⟨w.heap.size,λb o ah=>?_,.inl bq,λn x aO=>?_⟩
   ·have:=(h.own b _ _ ah).2;have:=(h.own _ _ _ this).1;omega
   ·have:=(ep.1 aO).1;omega
  ·exact⟨r,λb o ah=>⟨r,aQ,rfl⟩,.inr aQ,λn x aO=>⟨oe,mj,JU,rfl,bq,aQ,hJ n x aO⟩⟩
 obtain⟨r,AH,D0,arX⟩:=aU;have ar3:∀b o,m.dB b=some (r,some o)->m.pl k=some r:=λb o ah=>by
  obtain⟨q,cx,cI⟩:=AH b o ah;rw[cx,cI]
 have e:Ext m (m.gb σ.next (some w.heap.size) (.slice (some ⟨w.heap.size,0,none⟩) gh.1.length c') (snap cur a3 t.length gh.1.length) (sP m.dB r w.heap.size)):=M.Sr f1 f2 f3;have key:=h.change (m':=m.gb σ.next (some w.heap.size) (.slice (some ⟨w.heap.size,0,none⟩) gh.1.length c') (snap cur a3 t.length gh.1.length) (sP m.dB r w.heap.size))
  (bd:=⟨(σ.heap.put k none).put σ.next (some (.arr t a3 gh none 0)),σ.next+1⟩) (w':=w.alloc (.cells cur ty)) (λj=>j=σ.next\/j=k) e ⟨rfl,rfl,rfl⟩ (by simp) (λj aw=>?_) (λj b aw ah=>?_)
  (λj aw=>⟨?_,by simp[M.gb,(not_or.1 aw).1],by funext k o;simp[M.gb,(not_or.1 aw).1]⟩) (λb ah aO=>⟨Below.heap_alloc _ _ _ ah,rfl,?_⟩) (λj l _ _ _ aw aW l7 vA _ _=>?_) (λj x R aw ah fp=>?_) (λb R u_ kI=>?_) (λb R u_ kI eN=>?_) (λb j v gk=>?_)
 ·exact⟨_,⟨e,λi aj=>by show(if i=σ.next then _ else m.pl i)=_;rw[if_neg ab]⟩,key.1,key.2,by simp[M.gb]⟩
 ·have aw:σ.next+1<=j:=aw;obtain⟨aI,aQ,bq,cA⟩:=h.fresh j ab;refine⟨by simp[M.gb,aI];omega,by simp[M.gb,aQ];omega,λk o=>by simp[M.gb,bq];omega,?_⟩;simp only
  rw[bI.T.eQ _ _ ab,bI.T.m8];split
  ·rfl
  ·exact cA
 ·by_cases nc:j=σ.next
  ·subst nc;simp only[bI.T.ij] at ah;cases ah;refine⟨_,c',by simp[M.gb],an,λcB pS o=>?_,.inr ⟨w.heap.size,cur,ty,(0,0),rfl,by simp[M.gb],heap_alloc_new _ _,⟨λ_ _=>by omega,Nat.le_refl _⟩,lg,by simp[M.gb,sP],h.wT (Nat.le_refl _),λn x aO=>?_,λo v=>?_⟩⟩
   ·simp only[M.gb];rw[if_neg ab];exact f3 cB o
   ·rw[pU] at aO;by_cases az:n<l.1.length
    ·rw[mL az] at aO;obtain⟨oe,mj,JU,eg,e3,gq,fJ⟩:=arX n x aO;refine gO.CY (cur:=oe) (gO.move (m:=m) (h:=w.heap) (r:=r) e.fz (λb o pO eN=>?_) fJ) (λku _ mb=>?_) λ_ q=>q
     ·have aqP:=(h.own b _ _ pO).1;exact⟨Below.heap_alloc _ _ _ aqP,XE pO ab,rfl,ab⟩
     ·refine hold r oe mj JU eg e3 _ ?_;have:(n+1)*t.length<=l.1.length*t.length:=nu _ az;rw[iQ,Nat.one_mul] at this;omega
    ·rw[mM ab] at aO;have:=j6.zJ (m:=m.gb σ.next (some w.heap.size) (.slice (some ⟨w.heap.size,0,none⟩) gh.1.length c') (snap cur a3 t.length gh.1.length) (sP m.dB r w.heap.size))
      (h:=(w.alloc (.cells cur ty)).heap) (r:=w.heap.size) (cur:=cur) (o:=l.1.length*t.length) aT arF _ x aO n
     rwa [<-iQ,Nat.add_sub_cancel' ab] at this
   ·simp only[M.gb,and_self,if_true];exact QW
  ·have su:j=k:=aw.resolve_left nc;subst su;simp only at ah;rw[T.Fs _ _ sw] at ah;cases ah
 ·have:=not_or.1 aw;simp only
  rw[bI.T.eQ _ _ this.1,bI.T.eQ _ _ this.2]
 ·exact QI (λo b6=>aO k _ r _ (.inr rfl) aX (ar3 b o b6) b6) ab
 ·have dead:∀x,((σ.heap.put k none).put σ.next (some (B.arr t a3 gh none 0))).get k≠some x:=λx aO=>by
   rw[T.Fs _ _ sw] at aO;cases aO
  rcases aw with aw|aw
  ·rcases aW with aW|aW
   ·rw[aw,aW]
   ·subst aW;exact absurd vA (dead _)
  ·subst aw;exact absurd l7 (dead _)
 ·rcases aw with aw|aw
  ·subst aw;simp[M.gb] at fp;exact .inl ab
  ·subst aw;simp only at ah;rw[T.Fs _ _ sw] at ah;cases ah
 ·simp only[M.gb] at kI⊢;by_cases yz:b=w.heap.size
  ·subst yz;simp[sP] at kI;obtain⟨rfl,rfl⟩:=kI;exact⟨by simp,by simp[sP]⟩
  ·by_cases pO:∃o,m.dB b=some (r,some o)
   ·obtain⟨o,pO⟩:=pO;rw[XE pO yz] at kI;cases kI;have:=(h.own b _ _ pO).1;exact⟨by simp;omega,by simp[sP]⟩
   ·rw[QI (λo b6=>pO ⟨o,b6⟩) yz] at kI;obtain⟨aI,aQ⟩:=h.own b R u_ kI;have bq:=(h.own R R none aQ).1;refine⟨by simp;omega,?_⟩;rw[QI (λo b6=>by rw[aQ] at b6;cases b6) ab];exact aQ
 ·simp only[M.gb] at kI;by_cases yz:b=w.heap.size
  ·subst yz;simp[sP] at kI;obtain⟨rfl,rfl⟩:=kI;exact⟨σ.next,_,.inl rfl,bI.T.ij ..,by simp[M.gb]⟩
  ·by_cases pO:∃o,m.dB b=some (r,some o)
   ·obtain⟨o,pO⟩:=pO;rw[XE pO yz] at kI;cases kI;exact⟨σ.next,_,.inl rfl,bI.T.ij ..,by simp[M.gb]⟩
   ·rw[QI (λo b6=>pO ⟨o,b6⟩) yz] at kI;exact absurd kI eN
 ·obtain⟨hU,jm,cm,aI,aQ⟩:=h.stay b j v gk;exact⟨hU,jm,cm,(Below.heap_alloc _ _ _ (rf aI)).trans aI,aQ⟩
end
end cF
end Go.Proofs.YtgmdfchkljaooaaGreat
