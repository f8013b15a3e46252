/- Typed values. -/
import Derived.Laws.StructEq
import Derived.ChangeKeysEq
import Derived.Laws.IdiomStrings
import Derived.Laws.BytesArg
import Derived.Deep.AppendSrc
import Derived.Test.YtgmdfchkljaooaaGreatM02
noncomputable section
namespace Go.Proofs.YtgmdfchkljaooaaGreat
open Go.RowKit
namespace cB
open bx (T cv under size j3 ff jr gZ lH qd)
set_option linter.unusedVariables false
set_option linter.unusedSimpArgs false
def Form (d:TypeDesc) (u eI:Value) (r:Bool):Prop:=(∃q k i j,d=.int q/\u=.int k i/\eI=.int k j/\r=decide (i=j))\/(∃s ep,d=.string/\u=.string s/\eI=.string ep/\r=decide (s=ep))\/(∃x y,d=.bool/\u=.bool x/\eI=.bool y/\r=decide (x=y))
theorem Form.same {d:TypeDesc} {u eI:Value} (h:Form d u eI true):u=eI:=by
 rcases h with⟨q,k,i,j,_,rfl,rfl,h⟩|⟨s,ep,_,rfl,rfl,h⟩|⟨x,y,_,rfl,rfl,h⟩
 ·rw[of_decide_eq_true h.symm]
 ·rw[of_decide_eq_true h.symm]
 ·rw[of_decide_eq_true h.symm]
section
variable{aS:Program} {w:World} {m:M} {F:Fr} {a:Go.Act} {n:Nat} {v:V} {t:TypeId} {x y z:Operand} {cg:T TypeInfo}
theorem Form.run {d:TypeDesc} {u eI:Value} {r:Bool} {k:Nat} (bH:aS.underlying t=some d) (h:Form d u eI r):(Op.equalIn (k+1) t u eI).run aS w=.ok r w:=by
 rcases h with⟨q,cj,i,j,rfl,rfl,rfl,rfl⟩|⟨s,ep,rfl,rfl,rfl,rfl⟩|⟨x,y,rfl,rfl,rfl,rfl⟩
 ·rw[run_equalIn_int w _ _ _ _ _ _ bH];rfl
 ·rw[run_equalIn_string w _ _ _ _ bH,aiE]
 ·rw[run_equalIn_bool w _ _ _ _ bH];rfl
theorem Form.part {d:TypeDesc} {u eI:Value} {r:Bool} {cs:Array Value} {off:Nat} (bH:aS.underlying t=some d) (h:Form d u eI r) {b:Value} (ai:cs[off]? =some b):(Go.part t cs off).run aS w=.ok b w:=by
 have bZ:(Go.isAgg t).run aS w=.ok false w:=by
  rcases h with⟨q,cj,i,j,rfl,rfl,rfl,rfl⟩|⟨s,ep,rfl,rfl,rfl,rfl⟩|⟨x,y,rfl,rfl,rfl,rfl⟩<;>simp[Go.isAgg,run_underlying bH]
 simp only[Go.part,iv,bZ,iV,Bool.false_eq_true,if_false,ai,ju]
def sn:List TypeDesc->List Value->List Value->Bool->Prop
 |[],[],[],r=>r=true
 |d::ds,u::us,eI::mJ,r=>∃x,Form d u eI x/\(x=true->sn ds us mJ r)/\(x=false->r=false)
 |_,_,_,_=>False
theorem sn.split:∀{lP xa:List TypeDesc} {us mJ:List Value} {b:Bool},sn (lP++xa) us mJ b->
 ∃cR,sn lP (us.take lP.length) (mJ.take lP.length) cR/\(cR=true->sn xa (us.drop lP.length) (mJ.drop lP.length) b)/\(cR=false->b=false)
 |[],xa,us,mJ,b,h=>⟨true,rfl,λ_=>h,λq=>by cases q⟩
 |d::lP,xa,u::us,eI::mJ,b,⟨x,aa,ae,az⟩=>by
  cases x with
  |true=>
   obtain⟨cR,aF,aQ,bn⟩:=sn.split (ae rfl);exact⟨cR,⟨true,aa,λ_=>aF,λq=>by cases q⟩,aQ,bn⟩
  |false=>exact⟨false,⟨false,aa,(λq=>by cases q),λ_=>rfl⟩,(λq=>by cases q),az⟩
 |d::lP,xa,[],l,b,h=>by cases l<;>exact h.elim
 |d::lP,xa,u::us,[],b,h=>h.elim
def so (aS:Program) (t:TypeId) (k:Nat) (ds:List TypeDesc):Prop:=∀(w:World) (d:Nat) (xs jd:Array Value) (b:Bool),sn ds xs.toList jd.toList b->(Op.equalIn (d+k) t (.agg xs) (.agg jd)).run aS w=.ok b w
inductive wS (aS:Program) (k:Nat):Nat->List Field->List TypeDesc->Prop
  |nil (i:Nat):wS aS k i [] []
  |leaf {i:Nat} {f:Field} {jH:List Field} {d:TypeDesc} {ds:List TypeDesc}:f.name≠ "_"->f.offset=i->aS.underlying f.type=some d->wS aS k (i+1) jH ds->wS aS k i (f::jH) (d::ds)
  |row {i:Nat} {f:Field} {jH:List Field} {lP ds:List TypeDesc} {fs':Array Field}:f.name≠ "_"->f.offset=i->aS.underlying f.type=some (.struct fs')->aS.cellsOf f.type=lP.length->so aS f.type k lP->wS aS k (i+lP.length) jH ds->wS aS k i (f::jH) (lP++ds)
theorem H_ {l:List Value} {i:Nat} {u:Value} {us:List Value} (h:l.drop i=u::us):l[i]? =some u/\l.drop (i+1)=us:=by
 refine⟨?_,by rw[<-List.drop_drop,h];rfl⟩;have:=congrArg List.head? h;simpa using this
theorem aHU {k:Nat} (d:Nat) (xs jd:Array Value) {b:Bool} {i:Nat} {jH:List Field} {ds:List TypeDesc} (bu:wS aS k i jH ds):sn ds (xs.toList.drop i) (jd.toList.drop i) b->
 (Op.eqFields (d+(k+1)) xs jd jH).run aS w=.ok b w:=by
 induction bu generalizing b with
 |nil i=>
  intro h;have:b=true:=by
   generalize xs.toList.drop i=p at h;generalize jd.toList.drop i=q at h;cases p<;>cases q<;>first|exact h|exact h.elim
  simp[Op.eqFields,this]
 |@leaf i f jH dd ds aa ae az a9 b_=>
  intro h
  match bw:xs.toList.drop i,ay:jd.toList.drop i,h with
  |u::us,eI::mJ,h=>
   obtain⟨x,aF,aQ,bn⟩:=h;obtain⟨aE,t1⟩:=H_ bw;obtain⟨aX,t2⟩:=H_ ay;have aE:xs[f.offset]? =some u:=by rw[ae];simpa using aE
   have aX:jd[f.offset]? =some eI:=by rw[ae];simpa using aX
   have PT:=aF.run (w:=w) (k:=d+k) az;simp only[Op.eqFields,if_pos aa,iv,aF.part az aE,aF.part az aX,iV];rw[show d+(k+1)=d+k+1 by omega,PT];cases x with
   |true=>
    simp only[iV,Bool.not_true,Bool.false_eq_true,if_false];rw[show d+k+1=d+(k+1) by omega];refine b_ ?_;rw[t1,t2];exact aQ rfl
   |false=>simp[bn rfl]
  |[],l,h=>cases l<;>exact h.elim
  |u::us,[],h=>exact h.elim
 |@row i f jH lP ds fs' aa ae az a9 cE dm b_=>
  intro h;obtain⟨cR,aF,aQ,bn⟩:=h.split;have bZ:(Go.isAgg f.type).run aS w=.ok true w:=by simp[Go.isAgg,run_underlying az]
  have aU:(sizeOf f.type).run aS w=.ok lP.length w:=by
   unfold Program.cellsOf at a9;unfold Program.underlying at az;cases aj:aS.info? f.type with
   |none=>rw[aj] at az;cases az
   |some i=>rw[aj] at a9;simp at a9;simp[sizeOf,typeInfo,aj,a9]
  have amZ:∀xs:Array Value,(Go.part f.type xs f.offset).run aS w=.ok (.agg (xs.extract i (i+lP.length))) w:=λxs=>by
   simp only[Go.part,iv,bZ,iV,if_true,aU,ju,ae]
  have aV:∀xs:Array Value,(xs.extract i (i+lP.length)).toList=(xs.toList.drop i).take lP.length:=λxs=>by simp
  have PT:=cE w (d+1) (xs.extract i (i+lP.length)) (jd.extract i (i+lP.length)) cR (by rw[aV,aV];exact aF);simp only[Op.eqFields,if_pos aa,iv,amZ,iV];rw[show d+(k+1)=d+1+k by omega,PT];cases cR with
  |true=>
   simp only[iV,Bool.not_true,Bool.false_eq_true,if_false];rw[show d+1+k=d+(k+1) by omega];refine b_ ?_;rw[<-List.drop_drop,<-List.drop_drop];exact aQ rfl
  |false=>simp[bn rfl]
theorem PK {k:Nat} {jH:Array Field} {ds:List TypeDesc} (hu:aS.underlying t=some (.struct jH)) (aU:aS.stoodInHeld t=false) (bu:wS aS k 0 jH.toList ds):so aS t (k+2) ds:=by
 have XQ:aS.fieldsOf t=jH:=by simp[Program.fieldsOf,hu]
 intro w d xs jd b h;rw[show d+(k+2)=d+(k+1)+1 by omega,run_equalIn_struct w (d+(k+1)) t xs jd (by rw[XQ];exact hu) aU,XQ];exact aHU d xs jd bu (by simpa using h)
theorem aih (d:Nat) {e:TypeId} {dd:TypeDesc} (he:aS.underlying e=some dd) (xs jd:Array Value) {b:Bool}:∀{k i:Nat},sn (List.replicate k dd) (xs.toList.drop i) (jd.toList.drop i) b->
 (Op.eqItems (d+1) e 1 xs jd (List.range' i k)).run aS w=.ok b w
 |0,i,h=>by
  have:b=true:=by
   generalize xs.toList.drop i=p at h;generalize jd.toList.drop i=q at h;cases p<;>cases q<;>first|exact h|exact h.elim
  simp[Op.eqItems,this]
 |k+1,i,h=>by
  rw[List.replicate_succ] at h
  match bw:xs.toList.drop i,ay:jd.toList.drop i,h with
  |u::us,eI::mJ,h=>
   obtain⟨x,aF,aQ,bn⟩:=h;obtain⟨aE,t1⟩:=H_ bw;obtain⟨aX,t2⟩:=H_ ay;rw[List.range'_succ,Op.eqItems];have aE:xs[i*1]? =some u:=by simpa using aE
   have aX:jd[i*1]? =some eI:=by simpa using aX
   simp only[iv,aF.part he aE,aF.part he aX,iV,aF.run he];cases x with
   |true=>
    simp only[Bool.not_true,Bool.false_eq_true,if_false];refine aih d he xs jd ?_;rw[t1,t2];exact aQ rfl
   |false=>simp[bn rfl]
  |[],l,h=>cases l<;>exact h.elim
  |u::us,[],h=>exact h.elim
theorem ak4 {k:Nat} {e:TypeId} {dd:TypeDesc} {i:TypeInfo} (hu:aS.underlying t=some (.array k e)) (he:aS.underlying e=some dd) (aj:aS.info? e=some i) (aa:aS.cellsOf e=1):
 so aS t 2 (List.replicate k dd):=by
 intro w d xs jd b h;rw[run_equalIn_array w (d+1) xs jd hu aj,aa,List.range_eq_range'];exact aih d he xs jd (by simpa using h)
def tA (aS:Program) (t:TypeId):sq->Prop
 |.leaf d=>aS.underlying t=some d
 |.flat ds=>(∃k,k<=9000/\so aS t k ds)/\aS.eqGuardType aS.depth t=false
def wU (k:sq) (u eI:Value) (r:Bool):Prop:=match k with
 |.leaf d=>Form d u eI r
 |.flat ds=>∃xs jd,u=.agg xs/\eI=.agg jd/\sn ds xs.toList jd.toList r
theorem wU.run {k:sq} {u eI:Value} {r:Bool} (aP:tA aS t k) (h:wU k u eI r):(Op.equal t u eI).run aS w=.ok r w:=by
 cases k with
 |leaf d=>exact Form.run (k:=9999) aP h
 |flat ds=>
  obtain⟨xs,jd,rfl,rfl,h⟩:=h;obtain⟨⟨k,aa,ae⟩,_⟩:=aP;have:=ae w (10000-k) xs jd r h
  rwa [Nat.sub_add_cancel ab] at this
theorem wU.guard {k:sq} {u eI:Value} {r:Bool} {op:BinOp} (aP:tA aS t k) (h:wU k u eI r):(eqGuard op t x y u eI).run aS w=.ok () w:=by
 cases k with
 |leaf d=>
  rcases h with⟨q,cj,i,j,_,rfl,rfl,_⟩|⟨s,ep,_,rfl,rfl,_⟩|⟨x,y,_,rfl,rfl,_⟩<;>(unfold eqGuard;cases op<;>simp)
 |flat ds=>
  obtain⟨xs,jd,rfl,rfl,h⟩:=h;exact run_eqGuard_agg w op t x y xs jd aP.2
theorem wU.bin {k:sq} {u eI:Value} {r:Bool} (aP:tA aS t k) (aA:(∀q,k≠.leaf (.int q))/\k≠.leaf .string) (h:wU k u eI r):
 (Go.binOp .eql t u eI).run aS w=.ok (.bool r) w/\(Go.binOp .neq t u eI).run aS w=.ok (.bool (!r)) w:=by
 have aJ:=h.run (w:=w) aP;cases k with
 |leaf d=>
  rcases h with⟨q,cj,i,j,rfl,rfl,rfl,_⟩|⟨s,ep,rfl,rfl,rfl,_⟩|⟨x,y,rfl,rfl,rfl,_⟩
  ·exact absurd rfl (aA.1 q)
  ·exact absurd rfl aA.2
  ·simp only[Go.binOp,iv,aJ,iV,ju,and_self]
 |flat ds=>
  obtain⟨xs,jd,rfl,rfl,h⟩:=h;simp only[Go.binOp,iv,aJ,iV,ju,and_self]
theorem aif {e:TypeId} (hu:aS.underlying t=some (.pointer e)) {A eO:Option Addr} {b:Bool} (h:A=none/\b=eO.isNone\/eO=none/\b=A.isNone):
 (Op.equal t (.pointer A) (.pointer eO)).run aS w=.ok b w:=by
 show(Op.equalIn (9999+1) t (.pointer A) (.pointer eO)).run aS w=.ok b w;generalize 9999=d;rcases h with⟨rfl,rfl⟩|⟨rfl,rfl⟩
 ·simp[Op.equalIn,run_underlying hu]
 ·cases A<;>simp[Op.equalIn,run_underlying hu]
theorem WX {d:TypeDesc} {c c':C} {u eI:Value} {r:Bool} (h:fits d c c'=some r) (aq:cT m c u) (jN:cT m c' eI):Form d u eI r:=by
 unfold fits at h;split at h
 ·split at h
  ·rename_i q k i cj j aP;subst aP;cases h;exact .inl ⟨q,_,_,_,rfl,aq,jN,rfl⟩
  ·cases h
 ·rename_i s ep;cases h;refine .inr (.inl ⟨_,_,rfl,aq,jN, ?_⟩);unfold cC;rw[Bool.eq_iff_iff,decide_eq_true_iff,decide_eq_true_iff];exact Subtype.ext_iff
 ·rename_i x y;cases h;exact .inr (.inr ⟨_,_,rfl,aq,jN,by cases x<;>cases y<;>rfl⟩)
 ·cases h
theorem WL:∀{ds:List TypeDesc} {l r:List C} {us mJ:List Value} {b:Bool},uP ds l r=some b->cv (cT m) l us->cv (cT m) r mJ->sn ds us mJ b
 |[],[],[],[],[],b,h,_,_=>by simp[uP] at h;subst h;exact rfl
 |d::ds,c::l,c'::r,u::us,eI::mJ,b,h,⟨aa,ae⟩,⟨az,a9⟩=>by
  rw[uP] at h;split at h
  ·rename_i x aV;have bu:=WX aV aa az;split at h
   ·rename_i y bT;cases h;refine⟨x,bu,λq=> ?_,λq=> ?_⟩
    ·rw[q,Bool.true_and];exact WL bT ae a9
    ·rw[q,Bool.false_and]
   ·cases h
  ·cases h
 |[],c::l,_,_,_,b,h,_,_=>by simp[uP] at h
 |[],[],c::r,_,_,b,h,_,_=>by simp[uP] at h
 |d::ds,[],_,_,_,b,h,_,_=>by simp[uP] at h
 |d::ds,c::l,[],_,_,b,h,_,_=>by simp[uP] at h
theorem YZ {k:sq} {p p':P} {u eI:Value} {r:Bool} (h:IE k p p'=some r) (bw:iT m p u) (xN:iT m p' eI):wU k u eI r:=by
 unfold IE at h;split at h
 ·exact WX h bw xN
 ·obtain⟨xs,rfl,aa⟩:=bw;obtain⟨jd,rfl,ae⟩:=xN;exact⟨xs,jd,rfl,rfl,WL h aa ae⟩
 ·cases h
theorem Zt {k:sq} {op:BinOp} (a5:dr m n F a) (aP:tA aS t k) (aA:(∀q,k≠.leaf (.int q))/\k≠.leaf .string):match zY k op x y with
 |.pure f=>jf aS m w (do eqGuard op t x y (a.eval x) (a.eval y);Go.binOp op t (a.eval x) (a.eval y)) (f F)
 |.bad=>True
 |_=>False:=by
 cases op with
 |eql=>
  intro v h;obtain⟨c,d,aq,bb,h⟩:=ac8 a5 h;obtain⟨b,aa,ae⟩:=gK h;obtain rfl:=iI ae;have bu:=YZ aa aq bb;exact⟨.bool b,by rw[iv,bu.guard aP];exact(bu.bin aP aA).1,rfl⟩
 |neq=>
  intro v h;obtain⟨c,d,aq,bb,h⟩:=ac8 a5 h;obtain⟨b,aa,ae⟩:=gK h;obtain rfl:=iI ae;have bu:=YZ aa aq bb;exact⟨.bool (!b),by rw[iv,bu.guard aP];exact(bu.bin aP aA).2,rfl⟩
 |_=>trivial
theorem WM {c d:C} {u eI:Value} {b:Bool} (h:HG c d=some b) (aq:cT m c u) (bb:cT m d eI):
 ∃A eO:Option Addr,u=.pointer A/\eI=.pointer eO/\(A=none/\b=eO.isNone\/eO=none/\b=A.isNone):=by
 have key:∀{a:Nat×Nat} {u:Value},cT m (.ptr (some a)) u->∃A,u=.pointer (some A):=λ{a u} h=>by
  obtain⟨r,_,rfl⟩:∃r,m.pl a.1=some r/\u=.pointer (some ⟨r,a.2,none⟩):=h;exact⟨_,rfl⟩
 have YY:∀{t:da} {x:D t} {o:Nat} {u:Value},cT m (.cW t x o) u->∃A,u=.pointer (some A):=λ{t x o u} h=>by
  obtain⟨b,a,rfl,_⟩:=h;exact⟨_,rfl⟩
 have nil:∀{u:Value},cT m (.ptr none) u->u=.pointer none:=λh=>h;unfold HG at h;split at h
 ·cases h;obtain rfl:=nil aq;obtain rfl:=nil bb;exact⟨none,none,rfl,rfl,.inl ⟨rfl,rfl⟩⟩
 ·cases h;obtain rfl:=nil aq;obtain⟨A,rfl⟩:=key bb;exact⟨none,some A,rfl,rfl,.inl ⟨rfl,rfl⟩⟩
 ·cases h;obtain rfl:=nil bb;obtain⟨A,rfl⟩:=key aq;exact⟨some A,none,rfl,rfl,.inr ⟨rfl,rfl⟩⟩
 ·cases h;obtain rfl:=nil bb;obtain⟨A,rfl⟩:=YY aq;exact⟨some A,none,rfl,rfl,.inr ⟨rfl,rfl⟩⟩
 ·cases h;obtain rfl:=nil aq;obtain⟨A,rfl⟩:=YY bb;exact⟨none,some A,rfl,rfl,.inl ⟨rfl,rfl⟩⟩
 ·cases h
theorem aoI {op:BinOp} {e:TypeId} (a5:dr m n F a) (hu:aS.underlying t=some (.pointer e)):match CG op x y with
 |.pure f=>jf aS m w (do eqGuard op t x y (a.eval x) (a.eval y);Go.binOp op t (a.eval x) (a.eval y)) (f F)
 |.bad=>True
 |_=>False:=by
 cases op with
 |eql=>
  intro v h;obtain⟨c,d,aq,bb,h⟩:=uj a5 h;obtain⟨b,aa,ae⟩:=gK h;obtain rfl:=iI ae;obtain⟨A,eO,aE,aX,ae⟩:=WM aa aq bb;exact⟨.bool b,by rw[aE,aX];simp[eqGuard,Go.binOp,aif hu ae],rfl⟩
 |neq=>
  intro v h;obtain⟨c,d,aq,bb,h⟩:=uj a5 h;obtain⟨b,aa,ae⟩:=gK h;obtain rfl:=iI ae;obtain⟨A,eO,aE,aX,ae⟩:=WM aa aq bb;exact⟨.bool (!b),by rw[aE,aX];simp[eqGuard,Go.binOp,aif hu ae],rfl⟩
 |_=>trivial
end
open bx (T cv under size j3 ff jr gZ lH qd qf)
structure Step (m:M) (σ:bF) (w:World) (m':M) (a8:bF) (w':World):Prop where
  ix:js σ.next m m'
  gu:gX m σ w m' a8 w'
  next:σ.next<=a8.next
  Bg:∀i cs,σ.heap.get i=some (.box cs)->m.pl i=none->a8.heap.get i=some (.box cs)
def Good (aS:Program) (m:M) (σ:bF) (w:World) (aH:Nat->Value) (s:Sem Next):R->Prop
 |.val v a8=>∃m' d_ w',Step m σ w m' a8 w'/\s.run aS w=.ok (.value d_) w'/\bt m' a8 w'/\dW m' v d_
 |.skip a8=>∃m' w',Step m σ w m' a8 w'/\s.run aS w=.ok .skip w'/\bt m' a8 w'
 |.qb t v a8=>∃m' w',Step m σ w m' a8 w'/\s.run aS w=.ok .skip w'/\bt m' a8 w'/\dW m' v (aH t)
 |.call f args a8=>a8=σ/\∃vs:Array Value,cv (dW m) args vs.toList/\s.run aS w=(callFunc f vs).run aS w
section
variable{aS:Program} {w:World} {m m':M} {σ a8:bF} {F:Fr} {a:Go.Act} {n:Nat} {v:V} {α:Type} {z:α} {t:TypeId} {x y:Operand} {cg:T TypeInfo}
theorem Step.refl (m:M) (σ:bF) (w:World):Step m σ w m σ w:=⟨js.refl _ m,gX.refl m σ w,Nat.le_refl _,λ_ _ h _=>h⟩
theorem Step.trans {lF:M} {tk:bF} {w' qh:World} (h:bt m σ w) (k:Step m σ w m' a8 w') (l:Step m' a8 w' lF tk qh):Step m σ w lF tk qh:=
 ⟨k.ix.trans l.ix k.next,k.gu.trans l.gu,ij k.next l.next,λi cs aa ae=>l.Bg i cs (k.Bg i cs aa ae) ((k.ix.pl i (by
  rcases jL i σ.next with az|az
  ·exact az
  ·rw[(h.fresh i az).2.2.2] at aa;cases aa)).trans ae)⟩
theorem mZ {i:Nat} {k:B->Q α} (h:cI (nN σ i k) z):∃b,σ.heap.get i=some b/\cI (k b) z:=by
 unfold nN at h;split at h
 ·exact⟨_,by assumption,h⟩
 ·exact h.b7.elim
theorem Jt {l:List C} {o:Nat} {k:C->Q α} (h:cI (yw l o k) z):∃c,l[o]? =some c/\cI (k c) z:=by
 unfold yw at h;split at h
 ·exact⟨_,by assumption,h⟩
 ·exact h.b7.elim
theorem VT {id n sz:Nat} {k:(t:da)->List Bool->L (D t)->Nat->D t->Q α} (h:cI (zb σ id n sz k) z):
 ∃t a4 l cX e,σ.heap.get id=some (.arr t a4 l none cX)/\t.length=sz/\l.1[n]? =some e/\cI (k t a4 l cX e) z:=by
 unfold zb at h;obtain⟨b,ai,h⟩:=mZ h;split at h
 ·rename_i t a4 l cX;split at h
  ·rename_i a3;obtain⟨e,aa,ae⟩:=h.mG;exact⟨t,a4,l,cX,e,ai,gq a3,aa,ae⟩
  ·exact h.b7.elim
 ·exact h.b7.elim
theorem aIE {ap:Bool} {c:C} {u:Value} {id cX k sz f:Nat} (aq:cT m c u) (h:ap=true->m.g3 id cX (k*sz+f)=some u):cT m (UN ap c id cX k sz f) u:=by
 cases ap with
 |false=>unfold UN;exact aq
 |true=>cases c with
  |row t l nW=>exact⟨aq.1,h rfl⟩
  |_=>exact aq
theorem Zi (bS:ff aS cg) (a5:dr m n F a) (bc:bt m σ w) (bZ:bx.isAgg cg t=some false):jf aS m w (Instr.loadAt t (a.eval x)) (lV x u9 F σ):=by
 intro v h;obtain⟨c,aq,h⟩:=z9 a5 h;have fin:∀{A:Addr} {u:Value},a.eval x=.pointer (some A)->(Go.load A).run aS w=.ok u w->(Instr.loadAt t (a.eval x)).run aS w=.ok u w:=λaa ae=>by
  simp only[aa,Instr.loadAt,Instr.sureAddr,loadVar,iv,ju,iV,qd bS bZ,Bool.false_eq_true,if_false,ae]
 unfold u9 at h;split at h
 ·rename_i t' g9 o;obtain⟨b,rA,aV,bb⟩:=aq;obtain⟨c,aq,h⟩:=Jt h;obtain rfl:=iI h;obtain⟨u,hu,xA⟩:=bb.cell o c aq;obtain⟨cur,ty,bQ,aF,aQ⟩:=bc.stay _ _ _ hu;exact⟨u,fin aV (qf aF aQ),xA⟩
 ·rename_i p;obtain⟨r,aJ,aV⟩:=aq;obtain⟨b,ai,h⟩:=mZ h;split at h
  ·obtain⟨c,aq,h⟩:=Jt h;obtain rfl:=iI h;obtain⟨u,aa,ae⟩:=bc.ajR (aS:=aS) ai aJ aq;exact⟨u,fin aV aa,ae⟩
  ·exact h.b7.elim
 ·rename_i id k sz f;obtain⟨b,len,cp,o8,aV⟩:=aq;obtain⟨t',a4,l,cX,e,aj,rfl,he,h⟩:=VT h;obtain⟨c,aq,h⟩:=Jt h;obtain rfl:=iI h;obtain⟨aF,aQ,bn,cur,ty,bQ,cy,fj,fX,gU,iO,jU,zu,mY⟩:=bc.arr aj o8;obtain⟨u,hu,xA⟩:=(zu k e he).cell f c aq (by simp);rw[fL] at hu;refine⟨u,fin aV (qf fj hu), ?_⟩;have qw:f<t'.length:=by
   have:=(ed.1 aq).1
   rwa [Bz] at this
  refine aIE xA λbW=>(mY _ _).2 ⟨hu, ?_, ?_⟩
  ·rw[(w_ qw rfl).2];cases ay:a4[f]? with
   |none=>rw[ay] at bW;cases bW
   |some b=>rw[ay] at bW;simp at bW;rw[bW]
  ·rw[(w_ qw rfl).1];exact(ed.1 he).1
 ·exact h.b7.elim
theorem Zh {sz:Nat} (bS:ff aS cg) (a5:dr m n F a) (bc:bt m σ w) (bZ:bx.isAgg cg t=some true) (aU:size cg t=some sz):jf aS m w (Instr.loadAt t (a.eval x)) (lV x (x9 sz) F σ):=by
 intro v h;obtain⟨c,aq,h⟩:=z9 a5 h;have fin:∀{A:Addr} {vs:List Value},a.eval x=.pointer (some A)->(loadCells A sz).run aS w=.ok vs.toArray w->(Instr.loadAt t (a.eval x)).run aS w=.ok (.agg vs.toArray) w:=λaa ae=>by
  simp[aa,Instr.loadAt,Instr.sureAddr,loadVar,qd bS bZ,lH bS aU,ae]
 unfold x9 at h;split at h
 ·rename_i t' g9 o;obtain⟨b,rA,aV,bb⟩:=aq;split at h
  ·exact h.b7.elim
  ·rename_i k aP;obtain⟨l,a3,h⟩:=gK h;obtain rfl:=h.eA;obtain⟨rfl,hle⟩:=Hv a3;obtain⟨vs,aF,aQ,bn⟩:=Km (m:=m) (g:=λj=>(m.fz b)[rA+j]?) (λj c aq=>bb.cell j c aq) sz o hle;have k_:0<sz:=Nat.pos_of_ne_zero λq=>aP q;have hu:(m.fz b)[rA+o]? =some (vs[0]'ab):=by
    have:=aQ 0 ab;simpa using this.trans (e_ ab)
   obtain⟨cur,ty,bQ,bq,bE⟩:=bc.stay _ _ _ hu;refine⟨_,fin aV (vs:=vs) ?_,_,rfl,by simpa using bn⟩;rw[<-aF];refine bx.run_loadCells bq vs λj au=> ?_;have hu:=aQ j au;rw[e_ au] at hu;have hu:(m.fz b)[rA+(o+j)]? =some vs[j]:=hu;obtain⟨g5,iS,jh,bo,cO⟩:=bc.stay _ _ _ hu;rw[bq] at bo;cases bo;rw[Nat.add_assoc,cO,e_ au]
 ·rename_i p;obtain⟨r,aJ,aV⟩:=aq;obtain⟨b,ai,h⟩:=mZ h;split at h
  ·obtain⟨l,a3,h⟩:=gK h;obtain rfl:=h.eA;obtain⟨vs,aF,aQ,bn⟩:=bc.ajS (aS:=aS) ai aJ a3;exact⟨_,fin aV aQ,_,rfl,by simpa using bn⟩
  ·exact h.b7.elim
 ·rename_i id k wI f;obtain⟨b,len,cp,o8,aV⟩:=aq;split at h
  ·exact h.b7.elim
  ·rename_i aP;obtain⟨t',a4,l,cX,e,aj,rfl,he,h⟩:=VT h;obtain⟨eu,a3,h⟩:=gK h;obtain rfl:=h.eA;obtain⟨rfl,hle⟩:=Hv a3;obtain⟨aF,aQ,bn,cur,ty,bQ,cy,fj,fX,gU,iO,jU,zu,mY⟩:=bc.arr aj o8;obtain⟨vs,bq,bE,c8⟩:=Km (m:=m) (g:=λj=>cur[k*t'.length+j]?) (λj c aq=>by
    obtain⟨u,hu,xA⟩:=(zu k e he).cell j c aq (by simp);rw[fL] at hu;exact⟨u,hu,xA⟩) sz f hle
   refine⟨_,fin aV (vs:=vs) ?_,_,rfl,by simpa using c8⟩;rw[<-bq];exact bx.run_loadCells fj vs λj au=>by rw[Nat.add_assoc];exact bE j au
 ·exact h.b7.elim
theorem aaQ {a4:List Bool}:∀{k f:Nat},Jo a4 f k=true->∀j,f<=j->j<f+k->a4[j]?.getD false=false
 |0,f,_,j,aa,ae=>by omega
 |k+1,f,h,j,aa,ae=>by
  rw[Jo] at h;split at h
  ·cases h
  ·rename_i bu;by_cases au:j=f
   ·rw[au];exact bu
   ·exact aaQ h j ab ab
theorem DK {i:Nat} {b:B} {j:Nat} {cs:List C} (aj:σ.heap.get i=some b) (aA:(∀q,b≠.box q)\/m.pl i≠none) (au:σ.heap.get j=some (.box cs)) (bw:m.pl j=none) (o:Option B):(σ.heap.put i o).get j=some (.box cs):=by
 rw[bx.T.eB _ _ ?_]
 ·exact au
 ·intro e;subst e;rw[aj] at au;cases au;rcases aA with aA|aA
  ·exact aA _ rfl
  ·exact aA bw
theorem Uz {sz:Nat} {bX:Option (Nat×da)} (bS:ff aS cg) (a5:dr m n F a) (bc:bt m σ w) (aU:size cg t=some sz) (ax:∀q,bX=some q->x=.tmp q.1) {r:R} (h:cI (z_ x y (wG sz bX) F σ) r):
 Good aS m σ w (λt=>a.tmps.getD t undef) (do Instr.storeAt t (a.eval x) (a.eval y);pure .skip) r:=by
 obtain⟨c,d,aq,bb,aa⟩:=auB a5 h;clear h;have h:=aa;clear aa;unfold wG at h;split at h
 ·exact h.b7.elim
 rename_i hlen;have hlen:=gq hlen;have kH:=bb.cells;have fh:(a.eval y).cells.size=sz:=by rw[<-hlen,kH.length];simp
 have fin:∀{A:Addr} {w'},a.eval x=.pointer (some A)->(storeCells A (a.eval y).cells.toList).run aS w=.ok () w'->(do Instr.storeAt t (a.eval x) (a.eval y);pure .skip:Sem Next).run aS w=.ok .skip w':=λaa ae=>by
  simp[aa,Instr.storeAt,Instr.sureAddr,storeVar,lH bS aU,fh,ae]
 split at h
 ·rename_i p;obtain⟨lY,aJ,aV⟩:=id aq;obtain⟨b,ai,h⟩:=mZ h;split at h
  ·rename_i cs;split at h
   ·rename_i hle;have hle:=Nat.le_of_ble_eq_true hle;obtain⟨w',aa,ae,az⟩:=bc.au8 (aS:=aS) ai aJ hle kH;cases bX with
    |none=>
     obtain rfl:=h.eA;exact⟨m,w',⟨js.refl _ m,az,Nat.le_refl _,λj k5 au bw=>DK ai (.inr (by rw[aJ];simp)) au bw _⟩,fin aV aa,ae⟩
    |some q=>
     simp only at h;split at h
     ·rename_i bR;obtain⟨l2,bT,h⟩:=gK h;obtain rfl:=h.eA;rw[bR] at bT;obtain⟨m',aE,aX,bL,cM⟩:=ae.alb (i:=p.1) (r:=lY) (by simp only[bx.T.hN,bR]) aJ bT;have aJ9:∀(t:T B) b,(t.put p.1 b).put p.1 none=(t.put p.1 b).put p.1 none:=λ_ _=>rfl;have akv:bt m' ⟨σ.heap.put p.1 none,σ.next⟩ w':=by
       refine⟨λi aj=> ?_,λi b aj=>bL.live i b ?_,λi j bi iM N9 aj au am8 am9=>bL.inj i j bi iM N9 ?_ ?_ am8 am9,bL.own,bL.stay⟩
       ·obtain⟨f1,f2,f3,f4⟩:=bL.fresh i aj;refine⟨f1,f2,f3, ?_⟩;have f4:((σ.heap.put p.1 _).put p.1 none).get i=none:=f4;rw[bx.T.kF] at f4⊢;split
        ·rfl
        ·rename_i aA;rw[if_neg aA,bx.T.eB _ _ aA] at f4;exact f4
       all_goals
        first
         |(have aj:(σ.heap.put p.1 none).get i=some b:=aj
           show((σ.heap.put p.1 _).put p.1 none).get i=some b;rw[bx.T.kF] at aj⊢;split at aj
           ·cases aj
           ·rename_i aA;rw[if_neg aA,bx.T.eB _ _ aA];exact aj)
         |(have aj:(σ.heap.put p.1 none).get i=some bi:=aj
           show((σ.heap.put p.1 _).put p.1 none).get i=some bi;rw[bx.T.kF] at aj⊢;split at aj
           ·cases aj
           ·rename_i aA;rw[if_neg aA,bx.T.eB _ _ aA];exact aj)
         |(have au:(σ.heap.put p.1 none).get j=some iM:=au
           show((σ.heap.put p.1 _).put p.1 none).get j=some iM;rw[bx.T.kF] at au⊢;split at au
           ·cases au
           ·rename_i aA;rw[if_neg aA,bx.T.eB _ _ aA];exact au)
      have Ps:gX m σ w m' ⟨σ.heap.put p.1 none,σ.next⟩ w':=by
       have:=az.trans cM;refine⟨this.os,this.tape,this.output,this.size,this.fz,λb ai bR=> ?_,this.own⟩;obtain⟨bq,bE,c8,ei⟩:=this.kept b ai bR;refine⟨bq,bE,c8, ?_⟩;rintro⟨R,uy,i,x,mj,lG,Jw⟩;refine ei ⟨R,uy,i,x,mj, ?_,Jw⟩;have lG:(σ.heap.put p.1 none).get i=some x:=lG;show((σ.heap.put p.1 _).put p.1 none).get i=some x;rw[bx.T.kF] at lG⊢;split at lG
       ·cases lG
       ·rename_i aA;rw[if_neg aA,bx.T.eB _ _ aA];exact lG
      refine⟨m',w',⟨aE,Ps,Nat.le_refl _,λj k5 au bw=>DK ai (.inr (by rw[aJ];simp)) au bw _⟩,fin aV aa,akv, ?_⟩;have ay:=ax q rfl;subst ay;show cT m' (.cW q.2 l2 0) (a.eval (.tmp q.1));rw[aV,bR];exact⟨lY,0,rfl,aX⟩
     ·exact h.b7.elim
   ·exact h.b7.elim
  ·exact h.b7.elim
 ·rename_i id k wI f;obtain⟨b,len,cp,o8,aV⟩:=aq;obtain⟨O3,ai,aa⟩:=mZ h;clear h;have h:=aa;clear aa;split at h
  ·rename_i t' a4 l bR cX;split at h
   ·exact h.b7.elim
   ·rename_i pd;have pd:=gq pd;subst pd;split at h
    ·exact h.b7.elim
    ·rename_i hle;have hle:=Nat.le_of_ble_eq_true hle;split at h
     ·rename_i Xq;split at h
      ·obtain⟨e,he,h⟩:=h.mG;obtain⟨e',fe,h⟩:=gK h;obtain rfl:=h.eA;obtain⟨w',aa,ae,az⟩:=bc.au7 (aS:=aS) ai o8 he fe hle (aaQ Xq) kH;exact⟨m,w',⟨js.refl _ m,az,Nat.le_refl _,λj k5 au bw=>DK ai (.inl (by simp)) au bw _⟩,fin aV aa,ae⟩
      ·exact h.b7.elim
     ·rename_i Xq;cases d with
      |agg wj=>exact h.b7.elim
      |c oY=>
      cases oY with
      |row t1 aB nW=>
       cases nW with
       |ny bq aqL aIg=>
       simp only at h;split at h
       ·rename_i t2 t3 Qb ani aJf;split at h
        ·rename_i heq;simp only[gJ] at heq;have cm:=jT heq.1;have cF:=jT heq.2;subst cm cF;obtain⟨e,he,h⟩:=h.mG;obtain⟨e',fe,h⟩:=gK h;have Ci:(a.eval y).cells.toList=[a.eval y]:=by
          have:=bx.Bj (cT.one (m:=m) (x:=.row t1 aB (.ny bq aqL aIg)) bb).1;rw[this]
         have ku:dO m.fz (.aH t1) aB (a.eval y)/\m.bb bq=some (a.eval y):=⟨bb.1,bb.2.1⟩;have main:(bR=none\/bR=some (k,f))->r=.skip ⟨(σ.heap.put bq none).put id (some (.arr t' a4 (ec l k e') none (cX+1))),σ.next⟩->Good aS m σ w (λt=>a.tmps.getD t undef) (do Instr.storeAt t (a.eval x) (a.eval y);pure .skip) r:=by
          intro rR aJ;subst aJ;obtain⟨m',w',aa,ae,az,a9⟩:=bc.fill (aS:=aS) ai rR o8 Qb ku.2 ani he ku.1 fe;refine⟨m',w',⟨ae,a9,Nat.le_refl _,λj k5 au bw=> ?_⟩,fin aV (by rw[Ci];exact aa),az⟩;have bo:j≠id:=λq=>by rw[q,ai] at au;cases au
          have cO:j≠bq:=λq=>by rw[q,Qb] at au;cases au
          show((σ.heap.put bq none).put id _).get j=_;rw[bx.T.eB _ _ bo,bx.T.eB _ _ cO];exact au
         split at h
         ·exact main (.inl rfl) h.eA
         ·rename_i aKG;split at h
          ·rename_i Qo;have Qo:=gq Qo;rcases h.vg with⟨i1,i2⟩|⟨_,i2⟩
           ·have i1:=of_decide_eq_true i1;exact main (.inr (by rw[<-i1,<-Qo])) i2.eA
           ·exact i2.b7.elim
          ·exact h.b7.elim
        ·exact h.b7.elim
       ·exact h.b7.elim
       |_=>exact h.b7.elim
      |_=>exact h.b7.elim
  ·exact h.b7.elim
 ·exact h.b7.elim
end
open bx (T cv under size j3 ff jr gZ lH qd qf g8 lh nu)
def vQ (cg:T TypeInfo) (t f:Nat):Option (Nat×Nat):=match under cg t with
 |some (.struct jH)=>match jH[f]? with
  |some g=>some (g.type,g.offset)
  |none=>none
 |_=>none
def Re (g:Operand) (F:Fr):Q V:=.ret (i_ g F)
def pick (c a b:Operand) (F:Fr):Q V:=match k4 (i_ c F) with
 |some (.bool x)=>.ite x (.ret (i_ a F)) (.ret (i_ b F))
 |_=>.fail
def aaT (c:C):Q V:=match c with
 |.ptr (some _)=>iH c
 |.cW _ _ _=>iH c
 |.jy _ _ _ _=>iH c
 |.fn _ _ _=>iH c
 |_=>.fail
def PH (g:Operand) (i:Nat) (F:Fr):Q V:=match i_ g F with
 |.yM l=>match l[i]? with
  |some x=>.ret (.p x)
  |none=>.fail
 |_=>.fail
def A_ (F:Fr):List Operand->Option (List (Nat×Nat))
 |[]=>some []
 |g::l=>match k4 (i_ g F) with
  |some (.ptr (some a))=>match A_ F l with
   |some r=>some (a::r)
   |none=>none
  |_=>none
def Zq (f:Nat) (first cap:List Operand) (F:Fr):Q V:=Q.lift (A_ F first) λus=>Q.lift (A_ F cap) λvs=>iH (.fn f us vs)
section
variable{aS:Program} {w:World} {m m':M} {σ a8:bF} {F:Fr} {a:Go.Act} {n:Nat} {v:V} {α:Type} {t:TypeId} {x y z:Operand} {cg:T TypeInfo}
theorem Ri {c:C} {u:Value} {k:Int->Q α} {z:α} (h:cI (CT c k) z) (aq:cT m c u):∃p8 n,u=.int p8 n/\p8.min<=n/\n<=p8.max/\cI (k n) z:=by
 unfold CT at h;split at h
 ·rename_i p8 i;exact⟨p8,i.1,aq,i.2.1,i.2.2,h⟩
 ·exact h.b7.elim
theorem anR {l:L α} {i:Int} {e:α} (h:a7 l i=some e):0<=i/\l.1[i.toNat]? =some e/\i<l.1.length:=by
 obtain⟨aa,ae⟩:=Bm h;have aa:=of_decide_eq_true aa;have:=(ed.1 ae).1;exact⟨aa,ae,ab⟩
theorem anS {e sz:Nat} (bS:ff aS cg) (a5:dr m n F a) (hu:under cg t=some (.slice e)) (aU:size cg e=some sz):jf aS m w (Instr.indexAt t (a.eval x) (a.eval y)) (iG x y (YR sz) F):=by
 intro v bl;obtain⟨c,d,aq,bb,aa⟩:=uj a5 bl;obtain⟨p8,i,bT,_,_,h⟩:=Ri aa bb;clear bl aa;have fin:∀{A:Addr} {len cap:Nat},a.eval x=.slice (some A) len cap->0<=i->i<len->(Instr.indexAt t (a.eval x) (a.eval y)).run aS w=.ok (.pointer (some (A.add (i.toNat*sz)))) w:=λaV bl ae=>by
  have tN:(0:Int)<=i/\i<(_:Int):=⟨bl,ae⟩;simp only[aV,bT,Instr.indexAt,asIntOf,iv,ju,iV,gZ bS hu,if_pos tN,lH bS aU]
 cases c with
 |row t' l nW=>
  simp only at h;split at h
  ·rename_i a3;have a3:=gq a3;subst a3;obtain⟨e',he,h⟩:=h.mG;obtain rfl:=iI h;obtain⟨bl,aa,ae⟩:=anR he;have ku:=aq.1;simp only[dO] at ku;obtain⟨A,cp,aV,hle,BY⟩:=ku;obtain⟨b,o,dx,P3⟩:=BY (λaA=>by rw[aA] at aa;simp at aa);subst dx;exact⟨.pointer (some ⟨b,o+i.toNat*t'.length,none⟩),by rw[fin aV bl ae,bx.add_eq],b,o+i.toNat*t'.length,by simp,P3 _ _ aa⟩
  ·exact h.b7.elim
 |aH id len=>
  obtain⟨A,cp,aV,fB,dx,hle⟩:=aq;rcases h.vg with⟨aa,ae⟩|⟨_,ae⟩
  ·obtain rfl:=iI ae;simp only[gJ,decide_eq_true_eq] at aa;obtain⟨b,rfl⟩:=dx ab;rw[aV] at fB;exact⟨.pointer (some ⟨b,i.toNat*sz,none⟩),by rw[fin aV aa.1 aa.2,bx.add_eq,fL],b,len,cp,fB,by simp⟩
  ·exact ae.b7.elim
 |_=>exact h.b7.elim
theorem VI {off:Nat} {c:C} {u:Value} (h:cI (A9 off c) v) (aq:cT m c u):∃b o,u=.pointer (some ⟨b,o,none⟩)/\dW m v (.pointer (some ⟨b,o+off,none⟩)):=by
 cases c with
 |ptr p=>cases p with
  |none=>exact h.b7.elim
  |some p=>
   obtain rfl:=iI h;obtain⟨r,aJ,aV⟩:=aq;exact⟨r,_,aV,r,aJ,rfl⟩
 |cW t' g9 o=>
  obtain rfl:=iI h;obtain⟨b,rA,aV,BY⟩:=aq;exact⟨b,_,aV,b,rA,by rw[Nat.add_assoc],BY⟩
 |jy id n sz f=>
  obtain rfl:=iI h;obtain⟨b,k,c,fB,aV⟩:=aq;exact⟨b,_,aV,b,k,c,fB,by rw[Nat.add_assoc]⟩
 |_=>exact h.b7.elim
theorem ajB {f o5 off k:Nat} (bS:ff aS cg) (a5:dr m n F a) (bu:vQ cg t f=some (o5,off)) (aU:size cg o5=some (k+1)):jf aS m w (Instr.fieldAt t (a.eval x) f) (mH x (A9 off) F):=by
 intro v h;obtain⟨c,aq,aP⟩:=ui a5 h;obtain⟨b,o,aV,aM⟩:=VI aP aq;unfold vQ at bu;split at bu
 ·rename_i jH hu;split at bu
  ·rename_i g bZ;cases bu;exact⟨.pointer (some ⟨b,o+g.offset,none⟩),
    by simp[aV,Instr.fieldAt,Instr.sureAddr,gZ bS hu,bZ,fieldPlace,lH bS aU,bx.add_eq],aM⟩
  ·cases bu
 ·cases bu
theorem anQ {e k sz:Nat} {j:Int} {p8:IntKind} (bS:ff aS cg) (a5:dr m n F a) (hu:under cg t=some (.array k e)) (aU:size cg e=some sz) (bl:0<=j) (aa:j<k):
 jf aS m w (Instr.indexAt t (a.eval x) (.int p8 j)) (mH x (A9 (j.toNat*sz)) F):=by
 intro v h;obtain⟨c,aq,aP⟩:=ui a5 h;obtain⟨b,o,aV,aM⟩:=VI aP aq;have tN:(0:Int)<=j/\j<(k:Int):=⟨bl,aa⟩;exact⟨.pointer (some ⟨b,o+j.toNat*sz,none⟩),
  by simp only[aV,Instr.indexAt,Instr.sureAddr,asIntOf,iv,ju,iV,gZ bS hu,if_pos tN,lH bS aU,bx.add_eq],aM⟩
theorem anT (bS:ff aS cg) (a5:dr m n F a) (aU:under cg t=some .string):jf aS m w (Instr.index t (a.eval x) (a.eval y)) (iG x y YS F):=by
 intro v bl;obtain⟨c,d,aq,bb,aa⟩:=uj a5 bl;obtain⟨p8,i,bT,_,_,h⟩:=Ri aa bb;clear bl aa;cases c with
 |str s=>
  have aV:a.eval x=.string s.1:=aq;obtain⟨b,ai,rfl⟩:=Ah h;obtain⟨aa,ae⟩:=Bm ai;have aa:=of_decide_eq_true aa;have hu:∃u,s.1.data[i.toNat]? =some u/\b.1=(u.toNat:Int):=by
   cases ay:s.1.data[i.toNat]? with
   |none=>rw[ay] at ae;cases ae
   |some u=>rw[ay] at ae;cases ae;exact⟨u,rfl,rfl⟩
  obtain⟨u,hu,al5⟩:=hu;obtain⟨bK,wg⟩:=nJ.1 hu;have ay:s.1[i.toNat]? =some u:=by
   have oA:i.toNat<s.1.size:=bK;rw[getElem?_pos s.1 i.toNat oA];exact congrArg some wg
  have tN:i.toNat<s.1.size:=bK;exact⟨.int .u8 (u.toNat:Int),by
   have:(0:Int)<=i/\i<(s.1.size:Int):=⟨aa,ab⟩;have Yj:s.1[i.toNat]'tN=u:=wg
   simp[aV,bT,Instr.index,asIntOf,gZ bS aU,ay,this,aa,Yj],by show Value.int .u8 _=.int .u8 b.1;rw[al5]⟩
 |_=>exact h.b7.elim
theorem aok (bS:ff aS cg) (a5:dr m n F a) (aU:under cg t=some .string) {ty:TypeId}:jf aS m w (Builtin.len_ #[t] ty #[a.eval x]) (mH x Zd F):=by
 intro v h;obtain⟨c,aq,h⟩:=ui a5 h;cases c with
 |str s=>
  obtain rfl:=iI h;have aV:a.eval x=.string s.1:=aq;exact⟨goInt s.1.size,by simp[aV,Builtin.len_,gZ bS aU],rfl⟩
 |_=>exact h.b7.elim
theorem aoj (bS:ff aS cg) (a5:dr m n F a) {e ty:TypeId} (aU:under cg t=some (.slice e)):jf aS m w (Builtin.len_ #[t] ty #[a.eval x]) (mH x Zc F):=by
 intro v h;obtain⟨c,aq,h⟩:=ui a5 h;cases c with
 |cP=>
  obtain rfl:=iI h;have aq:a.eval x=.slice none 0 0:=aq;exact⟨goInt 0,by simp[aq,Builtin.len_,gZ bS aU],rfl⟩
 |row t' l nW=>
  obtain rfl:=iI h;have ku:=aq.1;simp only[dO] at ku;obtain⟨A,cp,aV,_⟩:=ku;exact⟨goInt l.1.length,by simp[aV,Builtin.len_,gZ bS aU],rfl⟩
 |ux id di k sz=>
  obtain rfl:=iI h;obtain⟨A,cp,aV,aa,hle,ae⟩:=aq;refine⟨goInt k,by simp[aV,Builtin.len_,gZ bS aU], ?_⟩;show Value.int .i64 (k:Int)=.int .i64 (IntKind.i64.wrap k);rw[AT];simp[IntKind.min,IntKind.max,IntKind.bits,IntKind.signed];omega
 |aH id k=>
  obtain rfl:=iI h;obtain⟨A,cp,aV,fB,dx,hle⟩:=aq;refine⟨goInt k,by simp[aV,Builtin.len_,gZ bS aU], ?_⟩;show Value.int .i64 (k:Int)=.int .i64 (IntKind.i64.wrap k);rw[AT];simp[IntKind.min,IntKind.max,IntKind.bits,IntKind.signed];omega
 |_=>exact h.b7.elim
def OE (a:Go.Act) (b:Option Operand) (d h:Nat):Prop:=match b with
 |none=>h=d
 |some x=>∃p8,a.eval x=.int p8 (h:Nat)
theorem O7 {b:Bool} {len cap l h:Nat} {di aj:Option Operand} (fB:OE a aj len h) (a3:OE a di 0 l) (aa:l<=h) (ae:h<=cap):
 (Instr.sliceBounds b len cap (di.map a.eval) (aj.map a.eval) none).run aS w=.ok (l,h,cap) w:=by
 have i1:(0:Int)<=(h:Int)/\(h:Int)<=(cap:Int):=⟨ab,ab⟩;have i2:(0:Int)<=(l:Int)/\(l:Int)<=(h:Int):=⟨ab,ab⟩;cases aj with
 |none=>
  have fB:h=len:=fB;cases di with
  |none=>have a3:l=0:=a3;subst fB a3;simp[Instr.sliceBounds]
  |some y=>
   obtain⟨bE,aX⟩:=a3;subst fB;simp only[Instr.sliceBounds,Instr.sliceBound,asIntOf,aX,Option.map_some,Option.map_none,iv,ju,iV,if_pos i2,Int.toNat_natCast]
 |some x=>
  obtain⟨bq,aE⟩:=fB;cases di with
  |none=>
   have a3:l=0:=a3;subst a3;simp only[Instr.sliceBounds,Instr.sliceBound,asIntOf,aE,Option.map_some,Option.map_none,iv,ju,iV,if_pos i1,Int.toNat_natCast]
  |some y=>
   obtain⟨bE,aX⟩:=a3;simp only[Instr.sliceBounds,Instr.sliceBound,asIntOf,aE,aX,Option.map_some,Option.map_none,iv,ju,iV,if_pos i1,if_pos i2,Int.toNat_natCast]
theorem aie {e sz:Nat} (bS:ff aS cg) (hu:under cg t=some (.slice e)) (aU:size cg e=some sz) {A:Option Addr} {len cap l h wy:Nat} {cR fg hJ:Option Value}
 (ai:(Instr.sliceBounds true len cap cR fg hJ).run aS w=.ok (l,h,wy) w):
 (Instr.sliceAt t (.slice A len cap) cR fg hJ).run aS w=.ok (.slice (if wy=l then A else A.map (·.add (l*sz))) (h-l) (wy-l)) w:=by
 simp only[Instr.sliceAt,Instr.slice,iv,ju,iV,gZ bS hu,ai,lH bS aU]
theorem zR {g:Option Operand} {d:Int} {k:Int->Q α} {z:α} (a5:dr m n F a) (h:cI (x2 g d F k) z):∃i,cI (k i) z/\∀e:Nat,d=e->0<=i->OE a g e i.toNat:=by
 cases g with
 |none=>exact⟨d,h,λe he aj=>by show d.toNat=e;omega⟩
 |some g=>
  obtain⟨c,aq,h⟩:=gK h;obtain⟨p8,i,bT,_,_,h⟩:=Ri h (pP aq (lg a5 g));exact⟨i,h,λe _ aj=>⟨p8,by rw[bT,Int.toNat_of_nonneg aj]⟩⟩
theorem akq {di aj:Option Operand} (bS:ff aS cg) (a5:dr m n F a) (hu:under cg t=some .string):jf aS m w (Instr.sliceAt t (a.eval x) (di.map a.eval) (aj.map a.eval) none) (Pf x di aj F):=by
 intro v bl;unfold Pf at bl;split at bl
 ·rename_i s aU;have aV:a.eval x=.string s.1:=pP aU (lg a5 x);obtain⟨j,aa,au⟩:=zR a5 bl;obtain⟨i,ae,tP⟩:=zR a5 aa;obtain⟨r,aJ,rfl⟩:=Ah ae;unfold oo at aJ;split at aJ
  ·rename_i aq;cases aJ;simp only[gJ,decide_eq_true_eq] at aq;refine⟨.string (s.1.extract i.toNat j.toNat), ?_,rfl⟩;simp[aV,Instr.sliceAt,Instr.slice,gZ bS hu,O7 (b:=false) (au _ rfl ab) (tP 0 rfl ab) (show i.toNat<=j.toNat by omega) (show j.toNat<=s.1.size by omega)]
  ·cases aJ
 ·exact bl.b7.elim
theorem akp {e sz:Nat} {di aj:Option Operand} (bS:ff aS cg) (a5:dr m n F a) (hu:under cg t=some (.slice e)) (aU:size cg e=some sz):jf aS m w (Instr.sliceAt t (a.eval x) (di.map a.eval) (aj.map a.eval) none) (Pe sz x di aj F):=by
 intro v bl;unfold Pe at bl;split at bl
 ·rename_i t' l nW a3;have ku:=(show cT m (.row t' l nW) (a.eval x) from pP a3 (lg a5 x)).1;obtain⟨_,fh,aa⟩:=gK bl;have fh:t'.length=sz:=by
   split at fh
   ·rename_i ay;exact gq ay
   ·cases fh
  obtain⟨j,aa,au⟩:=zR a5 aa;obtain⟨i,ae,tP⟩:=zR a5 aa;obtain⟨r,aJ,rfl⟩:=Ah ae;obtain⟨aq,aJ⟩:=Bm aJ;cases aJ;simp only[gJ,decide_eq_true_eq] at aq;simp only[dO] at ku;obtain⟨A,cp,aV,hle,BY⟩:=ku;have ai:=O7 (aS:=aS) (w:=w) (a:=a) (b:=true) (cap:=cp) (au _ rfl ab) (tP 0 rfl ab) (show i.toNat<=j.toNat by omega) (show j.toNat<=cp by omega);refine⟨_,by rw[aV];exact aie bS hu aU ai, ?_,trivial⟩;have hlen:((l.1.drop i.toNat).take (j-i).toNat).length=j.toNat-i.toNat:=by
   rw[List.length_take,List.length_drop];omega
  simp only[dO];refine⟨_,_,by rw[hlen],by rw[hlen];omega,λaA=> ?_⟩;have k_:0<((l.1.drop i.toNat).take (j-i).toNat).length:=List.length_pos_iff.2 aA;rw[hlen] at k_;obtain⟨b,o,rfl,P3⟩:=BY (λq=>by rw[q] at aq;simp at aq;omega);refine⟨b,o+i.toNat*sz,by rw[if_neg ab];simp[bx.add_eq],λk e' aP=> ?_⟩;have o9:l.1[i.toNat+k]? =some e':=by
   rw[List.getElem?_take] at aP;split at aP
   ·rwa [List.getElem?_drop] at aP
   ·cases aP
  have:=P3 _ _ o9;rw[iC] at this;rw[fh] at this⊢;rw[Nat.add_assoc];exact this
 ·rename_i id n' a3;obtain⟨A,cp,aV,fB,dx,hle,Cg⟩:=(show cT m (.aH id n') (a.eval x) from pP a3 (lg a5 x));obtain⟨j,aa,au⟩:=zR a5 bl;obtain⟨i,ae,tP⟩:=zR a5 aa;rcases ae.vg with⟨aq,az⟩|⟨_,az⟩
  ·obtain rfl:=iI az;simp only[gJ,decide_eq_true_eq] at aq;have ai:=O7 (aS:=aS) (w:=w) (a:=a) (b:=true) (cap:=cp) (au _ rfl ab) (tP 0 rfl ab) (show i.toNat<=j.toNat by omega) (show j.toNat<=cp by omega);have hlen:(j-i).toNat=j.toNat-i.toNat:=ab;refine⟨_,by rw[aV];exact aie bS hu aU ai,_,_,by rw[hlen],by rw[hlen];omega,ab,λaA=> ?_⟩;rw[hlen] at aA;obtain⟨b,rfl⟩:=dx ab;refine⟨b,n',cp,by rw[fB,aV], ?_,ab⟩;rw[if_neg ab];simp[bx.add_eq]
  ·exact az.b7.elim
 ·exact bl.b7.elim
theorem aaI (a5:dr m n F a) (h:cI (Re x F) v):dW m v (a.eval x):=by
 obtain rfl:=h.eA;exact lg a5 x
theorem auP (a5:dr m n F a) (h:cI (pick x y z F) v):
 ∃d_,(do pure (.value (if<-asBool (a.eval x) then a.eval y else a.eval z)):Sem Next).run aS w=.ok (.value d_) w/\dW m v d_:=by
 unfold pick at h;split at h
 ·rename_i b ai;have aV:a.eval x=.bool b:=pP ai (lg a5 x);rcases h.vg with⟨aa,ae⟩|⟨aa,ae⟩
  ·obtain rfl:=ae.eA;exact⟨a.eval y,by simp[aV,asBool,aa],lg a5 y⟩
  ·obtain rfl:=ae.eA;exact⟨a.eval z,by simp[aV,asBool,aa],lg a5 z⟩
 ·exact h.b7.elim
theorem akR {i:Nat} (a5:dr m n F a):jf aS m w (Instr.extract (a.eval x) i) (PH x i F):=by
 intro v h;unfold PH at h;have aV:=lg a5 x;split at h
 ·rename_i l a3;rw[a3] at aV;obtain⟨vs,aM,ae⟩:=aV;split at h
  ·rename_i p bw;obtain rfl:=h.eA;obtain⟨u,az,a9⟩:=ae.get bw;exact⟨u,by simp[aM,Instr.extract,show vs[i]? =some u by simpa using az],a9⟩
  ·exact h.b7.elim
 ·exact h.b7.elim
theorem aIq (a5:dr m n F a):jf aS m w (Op.unary .not (a.eval x)) (mH x aiK F):=by
 intro v h;obtain⟨c,aq,h⟩:=ui a5 h;cases c with
 |bool b=>
  obtain rfl:=iI h;have aq:a.eval x=.bool b:=aq;exact⟨.bool (!b),by simp[aq,Op.unary],rfl⟩
 |_=>exact h.b7.elim
theorem aIp (a5:dr m n F a):jf aS m w (Op.unary .neg (a.eval x)) (mH x aiJ F):=by
 intro v h;obtain⟨c,aq,h⟩:=ui a5 h;cases c with
 |int k i=>
  obtain rfl:=iI h;have aq:a.eval x=.int k i.1:=aq;exact⟨.int k (k.wrap (0-i.1)),by simp[aq,Op.unary,Op.intArith],rfl⟩
 |_=>exact h.b7.elim
theorem aIr (a5:dr m n F a):jf aS m w (Op.unary .xor (a.eval x)) (mH x aiL F):=by
 intro v h;obtain⟨c,aq,h⟩:=ui a5 h;cases c with
 |int k i=>
  obtain rfl:=iI h;have aq:a.eval x=.int k i.1:=aq;exact⟨.int k (QC i).1,by simp[aq,Op.unary,Op.intBits,QC,aO.w],rfl⟩
 |_=>exact h.b7.elim
theorem aqQ (a5:dr m n F a) {o:Oper} (bR:o.op=.nilCheck x) (h:cI (mH x aaT F) v):∃d_,(execOp a.eval o).run aS w=.ok (.value d_) w/\dW m v d_:=by
 obtain⟨c,aq,h⟩:=ui a5 h;cases c with
 |ptr p=>cases p with
  |none=>exact h.b7.elim
  |some p=>
   obtain rfl:=iI h;obtain⟨q,ay,aV⟩:=id aq;exact⟨a.eval x,by simp[execOp,bR,aV],aq⟩
 |cW t' g9 o=>
  obtain rfl:=iI h;obtain⟨b,rA,aV,_⟩:=id aq;exact⟨a.eval x,by simp[execOp,bR,aV],aq⟩
 |jy xW k sz f=>
  obtain rfl:=iI h;obtain⟨b,_,_,_,aV⟩:=id aq;exact⟨a.eval x,by simp[execOp,bR,aV],aq⟩
 |fn f us vs=>
  obtain rfl:=iI h;obtain⟨us,vs,aV,_⟩:=id aq;exact⟨a.eval x,by simp[execOp,bR,aV],aq⟩
 |_=>exact h.b7.elim
theorem akg {s d:TypeId} {k:IntKind} {ds:TypeDesc} (bS:ff aS cg) (a5:dr m n F a) (aU:under cg s=some ds) (bb:under cg d=some (.int k)):jf aS m w (Go.convert s d (a.eval x)) (mH x (We k) F):=by
 intro v h;obtain⟨c,aq,h⟩:=ui a5 h;cases c with
 |int cj i=>
  obtain rfl:=iI h;have aq:a.eval x=.int cj i.1:=aq;exact⟨.int k (k.wrap i.1),by simp[aq,Go.convert,gZ bS aU,gZ bS bb,Conv.intToInt],rfl⟩
 |_=>exact h.b7.elim
theorem akj {s d:TypeId} (bS:ff aS cg) (a5:dr m n F a) (aU:under cg s=some .string) (bb:under cg d=some .string):jf aS m w (Go.convert s d (a.eval x)) (mH x Wf F):=by
 intro v h;obtain⟨c,aq,h⟩:=ui a5 h;cases c with
 |str ep=>
  obtain rfl:=iI h;have aV:a.eval x=.string ep.1:=aq;exact⟨.string ep.1,by simp[aV,Go.convert,gZ bS aU,gZ bS bb],rfl⟩
 |_=>exact h.b7.elim
theorem auM {c:P} {u:Value} {k off:Nat} {o5:TypeId} (bS:ff aS cg) (bZ:bx.isAgg cg o5=some true) (aU:size cg o5=some k) (aq:iT m c u) (h:cI (RT k off c) v):∃cs,u=.agg cs/\∃eI,(Go.part o5 cs off).run aS w=.ok eI w/\dW m v eI:=by
 cases c with
 |agg l=>
  obtain⟨r,aJ,h⟩:=gK h;obtain rfl:=h.eA;obtain⟨rfl,_⟩:=Hv aJ;obtain⟨cs,rfl,ae⟩:=aq;refine⟨cs,rfl,.agg (cs.extract off (off+k)),by simp only[part,iv,ju,iV,qd bS bZ,lH bS aU,if_true],_,rfl, ?_⟩;have:=(ae.drop off).take k;simpa using this
 |c _=>exact h.b7.elim
theorem auN {c:P} {u:Value} {off:Nat} {o5:TypeId} (bS:ff aS cg) (bZ:bx.isAgg cg o5=some false) (aq:iT m c u) (h:cI (RU off c) v):∃cs,u=.agg cs/\∃eI,(Go.part o5 cs off).run aS w=.ok eI w/\dW m v eI:=by
 cases c with
 |agg l=>
  obtain⟨r,aJ,h⟩:=Jt h;obtain rfl:=iI h;obtain⟨cs,rfl,ae⟩:=aq;obtain⟨u,a9,cE⟩:=ae.get aJ;rw[Array.getElem?_toList] at a9;exact⟨cs,rfl,u,by simp only[part,iv,ju,iV,qd bS bZ,Bool.false_eq_true,if_false,a9],cE⟩
 |c _=>exact h.b7.elim
theorem akZ {f o5 off k:Nat} (bS:ff aS cg) (a5:dr m n F a) (bu:vQ cg t f=some (o5,off)) (bZ:bx.isAgg cg o5=some true) (aU:size cg o5=some k):jf aS m w (Instr.field t (a.eval x) f) (uk x (RT k off) F):=by
 intro v h;obtain⟨c,aq,aP⟩:=Kg a5 h;unfold vQ at bu;split at bu
 ·rename_i jH hu;split at bu
  ·rename_i g B2;cases bu;obtain⟨cs,aV,eI,aa,ae⟩:=auM (aS:=aS) (w:=w) bS bZ aU aq aP;exact⟨eI,by simp only[aV,Instr.field,asAgg,iv,ju,iV,gZ bS hu,B2,aa],ae⟩
  ·cases bu
 ·cases bu
theorem ak0 {f o5 off:Nat} (bS:ff aS cg) (a5:dr m n F a) (bu:vQ cg t f=some (o5,off)) (bZ:bx.isAgg cg o5=some false):jf aS m w (Instr.field t (a.eval x) f) (uk x (RU off) F):=by
 intro v h;obtain⟨c,aq,aP⟩:=Kg a5 h;unfold vQ at bu;split at bu
 ·rename_i jH hu;split at bu
  ·rename_i g B2;cases bu;obtain⟨cs,aV,eI,aa,ae⟩:=auN (aS:=aS) (w:=w) bS bZ aq aP;exact⟨eI,by simp only[aV,Instr.field,asAgg,iv,ju,iV,gZ bS hu,B2,aa],ae⟩
  ·cases bu
 ·cases bu
theorem OX (a5:dr m n F a):∀(l:List Operand) {r:List (Nat×Nat)},A_ F l=some r->cv (l5 m) r (l.map a.eval)
 |[],r,h=>by cases h;trivial
 |g::l,r,h=>by
  rw[A_] at h;split at h
  ·rename_i p bw;split at h
   ·rename_i q ay;cases h;exact⟨pP bw (lg a5 g),OX a5 l ay⟩
   ·cases h
  ·cases h
theorem aoA {f:Nat} {first cap:Array Operand} (a5:dr m n F a):jf aS m w (Instr.makeFunc (.func f) (first.map a.eval) (cap.map a.eval)) (Zq f first.toList cap.toList F):=by
 intro v h;obtain⟨us,hu,h⟩:=gK h;obtain⟨vs,aM,h⟩:=gK h;obtain rfl:=iI h;exact⟨.func (.func f) (first.map a.eval) (cap.map a.eval),by simp[Instr.makeFunc],_,_,rfl,by simpa using OX a5 _ hu,by simpa using OX a5 _ aM⟩
end
theorem W0 (off:Nat):∀(vs:List Value) (i:Nat) (cur:Array Value),(vs.zipIdx i).foldl (λcs (x:Value×Nat)=>cs.setIfInBounds (off+x.2) x.1) cur=g8 cur (off+i) vs
 |[],_,_=>rfl
 |v::vs,i,cur=>by
  rw[List.zipIdx_cons,List.foldl_cons,W0 off vs (i+1),g8];rfl
section
variable{aS:Program} {w:World} {m m':M} {σ a8:bF} {F:Fr} {a:Go.Act} {n:Nat} {v:V} {α:Type} {t:TypeId} {x y z:Operand} {cg:T TypeInfo}
theorem auL {cs l:List C} {cur vs:Array Value} {off:Nat} (aa:cv (cT m) cs cur.toList) (ae:cv (cT m) l vs.toList) (hle:off+l.length<=cs.length):
 cv (cT m) (rk cs off l) (g8 cur off vs.toList).toList:=by
 have kf:=aa.length;have nm:=ae.length;simp only[Array.length_toList] at kf;refine cv.Kc (by rw[RK hle,kf,Array.length_toList,lh]) λj c u au hu=> ?_;rw[RJ hle] at au;rw[Array.getElem?_toList,nu _ _ _ _ ab] at hu;by_cases jY:off<=j/\j<off+l.length
 ·rw[if_pos jY] at au;rw[if_pos ab] at hu;obtain⟨eI,aF,aQ⟩:=ae.get au;rw[hu] at aF;cases aF;exact aQ
 ·rw[if_neg jY] at au;rw[if_neg ab] at hu;obtain⟨eI,aF,aQ⟩:=aa.get au;rw[Array.getElem?_toList,hu] at aF;cases aF;exact aQ
theorem HJ (a5:dr m n F a) (place:Nat->Option (Nat×Nat)):∀(b8:List (Nat×Operand)) {cs l:List C} {cur:Array Value},cv (cT m) cs cur.toList->xg place F b8 cs=some l->
 ∃cells,Instr.fill place cur (b8.map λp=>(p.1,a.eval p.2))=some cells/\cv (cT m) l cells.toList
 |[],cs,l,cur,aa,h=>by cases h;exact⟨cur,rfl,aa⟩
 |p::b8,cs,l,cur,aa,h=>by
  simp only[xg] at h;split at h
  ·cases h
  ·rename_i u hu;have hu:=Bb hu (lg a5 p.2);split at h
   ·cases h
   ·rename_i pl Ck;split at h
    ·rename_i ae;split at h
     ·rename_i az;have ae:=gq ae;have az:=Nat.le_of_ble_eq_true az;have Ig:=aa.length;have Cf:=hu.cells.length;simp only[Array.length_toList] at Ig Cf;obtain⟨cells,aF,aQ⟩:=HJ a5 place b8 (auL aa hu.cells ab) h;refine⟨cells, ?_,aQ⟩;rw[List.map_cons,Instr.fill];simp only[Ck];have aA:((a.eval p.2).cells.size≠pl.2||pl.1+(a.eval p.2).cells.size>cur.size)=false:=by
       simp only[ne_eq,Bool.or_eq_false_iff,decide_eq_false_iff_not,Decidable.not_not,gt_iff_lt,Nat.not_lt];omega
      rw[aA];simp only[Bool.false_eq_true,if_false];rw[<-Array.foldl_toList,Array.toList_zipIdx,W0 pl.1 _ 0,dH];exact aF
     ·cases h
    ·cases h
theorem adn (bS:ff aS cg):∀{jH:List Field} {pl:List (Nat×Nat)},DI cg jH=some pl->
 (jH.mapM (m:=Sem) λf=>do pure (f.offset,<-sizeOf f.type)).run aS w=.ok pl w
 |[],pl,h=>by cases h;simp
 |f::jH,pl,h=>by
  simp only[DI] at h;split at h
  ·rename_i k aP;split at h
   ·rename_i r aJ;cases h;have b_:=adn bS aJ;simp only[List.mapM_cons,iv,lH bS aP,iV,ju,b_]
   ·cases h
  ·cases h
theorem aHV {α β:Type} (f:α->Sem β) (xs:Array α) {l:List β} (h:(xs.toList.mapM f).run aS w=.ok l w):(xs.mapM f).run aS w=.ok l.toArray w:=by
 rw[Array.mapM_eq_mapM_toList];simp[h]
theorem ajW {jH:Array Field} {pl:List (Nat×Nat)} {b8:Array (Nat×Operand)} {pF:P} (bS:ff aS cg) (a5:dr m n F a) (ax:zero cg t=some pF) (hu:under cg t=some (.struct jH)) (bw:DI cg jH.toList=some pl):
 jf aS m w (Instr.build t (b8.map λ(i,x)=>(i,a.eval x))) (zh (λi=>pl[i]?) pF.cells b8.toList F):=by
 intro v h;unfold zh at h;split at h
 ·rename_i cs kH;obtain rfl:=h.eA;obtain⟨gD,aa,ae⟩:=GK bS (w:=w) m ax;obtain⟨cells,az,a9⟩:=HJ a5 _ _ ae.cells kH;refine⟨.agg cells, ?_,cells,rfl,a9⟩;have cE:=aHV (aS:=aS) (w:=w) _ jH (adn bS bw);have dm:Instr.fill (pl.toArray[·]?) gD.cells (b8.map λ(i,x)=>(i,a.eval x)).toList=some cells:=by
   rw[<-az,Array.toList_map];congr 1;funext i;simp
  simp only[Instr.build,iv,aa,iV,gZ bS hu,cE,dm,ju]
 ·exact h.b7.elim
theorem ajV {e k len:Nat} {b8:Array (Nat×Operand)} {pF:P} (bS:ff aS cg) (a5:dr m n F a) (ax:zero cg t=some pF) (hu:under cg t=some (.array len e)) (aU:size cg e=some k):
 jf aS m w (Instr.build t (b8.map λ(i,x)=>(i,a.eval x))) (zh (Kq k) pF.cells b8.toList F):=by
 intro v h;unfold zh at h;split at h
 ·rename_i cs kH;obtain rfl:=h.eA;obtain⟨gD,aa,ae⟩:=GK bS (w:=w) m ax;obtain⟨cells,az,a9⟩:=HJ a5 _ _ ae.cells kH;refine⟨.agg cells, ?_,cells,rfl,a9⟩;have dm:Instr.fill (λi=>some (i*k,k)) gD.cells (b8.map λ(i,x)=>(i,a.eval x)).toList=some cells:=by
   rw[<-az,Array.toList_map];rfl
  simp only[Instr.build,iv,aa,iV,gZ bS hu,lH bS aU,dm,ju]
 ·exact h.b7.elim
theorem aii:∀(us:List UInt8) (s:ByteArray),
 (forIn (m:=Sem) (us.map λu=>Value.int .u8 (u.toNat:Int)) s λc r=>do
  match c with
  |.int .u8 n=>pure (ForInStep.yield (r.push (UInt8.ofNat n.toNat)))
  |_=>do
   stuck "bytesToString: byte expected"
   pure (ForInStep.yield r)).run aS w=.ok (s++⟨us.toArray⟩) w
 |[],s=>by
  simp only[List.map_nil,List.forIn_nil,ju];congr 1;apply ByteArray.ext;simp[ByteArray.data_append]
 |u::us,s=>by
  simp only[List.map_cons,List.forIn_cons,iv,ju,iV];rw[aii us];congr 1;apply ByteArray.ext;simp[ByteArray.data_append]
end
def nY {α:Type} (l:L α) (di n:Nat):L α:=⟨(l.1.drop di).take n,by have:=l.2;simp;omega⟩
def cx {α:Type} (l:List α):L α:=if h:l.length<=140737488355328 then⟨l,h⟩ else L.nil
theorem fT {α:Type} {l:List α} (h:l.length<=140737488355328):(cx l).1=l:=by simp[cx,h]
def elemOf (cg:T TypeInfo) (e:Nat):Option (Nat×Nat×List C):=match size cg e with
 |none=>none
 |some sz=>match j3 cg e with
  |none=>none
  |some eR=>match zero cg e with
   |none=>none
   |some z=>match Nat.ble 1 sz&&Nat.ble eR 1048576&&Nat.beq z.cells.length sz with
    |true=>some (sz,eR,z.cells)
    |false=>none
def zS:C->Bool
 |.cP=>true
 |_=>false
def y9:List Bool->List C->Bool
 |_,[]=>true
 |a4,c::cs=>(bif a4.headD false then zS c else true)&&y9 a4.tail cs
def Hg (a4:List Bool) (sz:Nat):Nat->List C->Bool
 |0,_=>true
 |k+1,cs=>y9 a4 (cs.take sz)&&Hg a4 sz k (cs.drop sz)
def tJ:List Bool->List Bool->List Bool
 |a::l,b::r=>(a&&b)::tJ l r
 |_,_=>[]
def CX (sz:Nat):Nat->List C->List Bool
 |0,_=>[]
 |1,cs=>(cs.take sz).map zS
 |k+2,cs=>tJ ((cs.take sz).map zS) (CX sz (k+1) (cs.drop sz))
def yp (b:B) (c:C) (σ:bF):Q R:=.ret (.val (.p (.c c)) ⟨σ.heap.put σ.next (some b),σ.next+1⟩)
def V4 (t:da) (x:P):Q V:=Q.lift (mh t x.cells) λy=>iH (.cW t y 0)
def V5 (x:P) (σ:bF):Q R:=yp (.box x.cells) (.ptr (some (σ.next,0))) σ
def GM (t:da) (len sz:Nat) (z:List C) (l:List (Nat×Operand)) (F:Fr):Option (List C×List (D t)):=match Nat.beq t.length sz&&Nat.ble (len*sz) 100000 with
 |true=>match xg (Kq sz) F l (qM z len) with
  |some cs=>match w8 t len cs with
   |some xs=>some (cs,xs)
   |none=>none
  |none=>none
 |false=>none
def air (t:da) (len sz:Nat) (z:List C) (l:List (Nat×Operand)) (F:Fr):Q V:=Q.lift (GM t len sz z l F) λy=>iH (.row t (cx y.2) (.nl (CX sz len y.1) sz))
def Uu (t:da) (len sz:Nat) (z:List C) (l:List (Nat×Operand)) (F:Fr) (σ:bF):Q R:=Q.lift (GM t len sz z l F) λy=>yp (.a6 t) (.row t (cx y.2) (.ny σ.next [] 0)) σ
def Ut (a4:List Bool) (t:da) (len sz:Nat) (z:List C) (l:List (Nat×Operand)) (F:Fr) (σ:bF):Q R:=Q.lift (GM t len sz z l F) λy=>match Hg a4 sz len y.1 with
 |true=>yp (.arr t a4 (cx y.2) none 0) (.aH σ.next len) σ
 |false=>.fail
def yb (a4:List Bool) (t:da) (sz eR:Nat) (z:List C) (c:C) (σ:bF):Q R:=match Nat.beq t.length sz&&y9 a4 z with
 |true=>match mh t z with
  |some e=>match c with
   |.int .i64 n=>.bind (qE eR n e) λl=>yp (.arr t a4 l none 0) (.aH σ.next l.1.length) σ
   |_=>.fail
  |none=>.fail
 |false=>.fail
def rF (s:ew):Option (L (D [.int .u8])):=if h:s.1.size<=140737488355328 then some ⟨s.1.data.toList.map λu=>(⟨u.toNat,by have:=u.toNat_lt;simp[IntKind.min,IntKind.max,IntKind.bits,IntKind.signed];omega⟩,()),by simpa using h⟩ else none
def Oi (c:C) (σ:bF):Q R:=match c with
 |.str s=>.bind (rF s) λl=>yp (.arr [.int .u8] [] l none 0) (.aH σ.next l.1.length) σ
 |_=>.fail
def Bl (c:C) (σ:bF):Q R:=match c with
 |.row t l (.ny k nl sz)=>nN σ k λb=>match b with
  |.a6 t'=>match jS t' t with
   |true=>match Nat.beq l.1.length 0 with
    |true=>.fail
    |false=>.ret (.val (.p (.c (.row t l (.ny k nl sz)))) σ)
   |false=>.fail
  |_=>.fail
 |_=>.fail
def OH (aS:Program) (m:M) (σ:bF) (w:World) (s:Sem Value) (q:Q V):Prop:=∀v,cI q v->∃m' d_ w',Step m σ w m' σ w'/\s.run aS w=.ok d_ w'/\bt m' σ w'/\dW m' v d_
def mq (aS:Program) (m:M) (σ:bF) (w:World) (s:Sem Value):R->Prop
 |.val v a8=>∃m' d_ w',Step m σ w m' a8 w'/\s.run aS w=.ok d_ w'/\bt m' a8 w'/\dW m' v d_
 |_=>False
section
variable{aS:Program} {w:World} {m m':M} {σ a8:bF} {F:Fr} {a:Go.Act} {n:Nat} {v:V} {α:Type} {t:TypeId} {x y z:Operand} {cg:T TypeInfo} {r:R}
theorem mq.PS {s:Sem Value} {aH:Nat->Value} (h:mq aS m σ w s r):Good aS m σ w aH (do pure (.value (<-s))) r:=by
 cases r with
 |val v a8=>
  obtain⟨m',d_,w',aa,ae,az,a9⟩:=h;exact⟨m',d_,w',aa,by simp[ae],az,a9⟩
 |_=>exact h.elim
theorem Step.put {m':M} {b:B} {w':World} (h:bt m σ w) (e:js σ.next m m') (k:gX m σ w m' ⟨σ.heap.put σ.next (some b),σ.next+1⟩ w'):Step m σ w m' ⟨σ.heap.put σ.next (some b),σ.next+1⟩ w':=
 ⟨e,k,Nat.le_succ _,λi cs aj _=>(bx.T.eB _ _ λe=>by subst e;rw[(h.fresh _ (Nat.le_refl _)).2.2.2] at aj;cases aj).trans aj⟩
structure wR (aS:Program) (cg:T TypeInfo) (e sz eR:Nat) (z:List C):Prop where
  size:bx.size cg e=some sz
  pos:0<sz
  info:∃i gD,aS.info? e=some i/\i.size=sz/\i.bytes=eR/\i.bytes<=1048576/\i.zero=some gD/\(∀m,cv (cT m) z gD.cells.toList)
  len:z.length=sz
theorem xb (bS:ff aS cg) {e:Nat} {q:Nat×Nat×List C} (h:elemOf cg e=some q):wR aS cg e q.1 q.2.1 q.2.2:=by
 unfold elemOf at h;split at h
 ·cases h
 ·rename_i sz fh;split at h
  ·cases h
  ·rename_i eR p1;split at h
   ·cases h
   ·rename_i z ax;split at h
    ·rename_i ai;cases h;simp only[gJ] at ai;obtain⟨⟨aa,ae⟩,az⟩:=ai;have aa:=Nat.le_of_ble_eq_true aa;have ae:=Nat.le_of_ble_eq_true ae;have az:=gq az;refine⟨fh,aa, ?_,az⟩;unfold bx.size at fh;unfold j3 at p1;unfold zero at ax;split at fh
     ·rename_i i aj;rw[aj] at p1 ax;cases fh;cases p1;simp only at ax;split at ax
      ·rename_i gD anx;exact⟨i,gD,bS.info _ _ aj,rfl,rfl,ae,anx,λm=>(Dz m ax).cells⟩
      ·cases ax
     ·cases fh
    ·cases h
theorem N8 (z:List C):∀n,(qM z n).length=n*z.length
 |0=>by simp[qM]
 |n+1=>by simp[qM,N8 z n,iC,Nat.add_comm]
theorem ah4 (z:List C):∀(n j:Nat),j<n*z.length->(qM z n)[j]? =z[j%z.length]?
 |0,j,h=>by simp at h
 |n+1,j,h=>by
  rw[qM];by_cases au:j<z.length
  ·rw[lM au,Nat.mod_eq_of_lt au]
  ·rw[iC,Nat.one_mul] at h;rw[l8 ab,ah4 z n _ ab];congr 1;rw[<-Nat.mod_eq_sub_mod ab]
theorem ai1 {z:List C} {gD:Array Value} {sz k:Nat} (h:cv (cT m) z gD.toList) (aU:z.length=sz):cv (cT m) (qM z k) ((Array.range (k*sz)).map (λi=>gD[i%gD.size]!)).toList:=by
 have a3:=h.length;simp only[Array.length_toList] at a3;subst aU;refine cv.Kc (by simp[N8]) λj c u au hu=> ?_;have bK:j<k*z.length:=by
  rw[<-N8];exact(ed.1 au).1
 rw[ah4 z k j bK] at au;obtain⟨eI,aF,aQ⟩:=h.get au;have X7:j%z.length<gD.size:=by
  rw[<-a3];refine Nat.mod_lt _ ?_;rcases Nat.eq_zero_or_pos z.length with bl|bl
  ·rw[bl] at bK;simp at bK
  ·exact bl
 have:u=eI:=by
  rw[Array.getElem?_toList] at hu aF;rw[Array.getElem?_map,Array.getElem?_range,if_pos bK] at hu;simp only[Option.map_some,Option.some.injEq] at hu;rw[<-hu,<-a3];rw[Array.getElem?_eq_getElem X7] at aF;injection aF with aF
  rw[<-aF,getElem!_pos gD _ X7]
 rw[this];exact aQ
theorem Pg {t:da}:∀{k:Nat} {cs:List C} {xs:List (D t)} {vs:List Value},w8 t k cs=some xs->cv (cT m) cs vs->cs.length=k*t.length->xs.length=k/\iU m.fz t xs vs
 |0,cs,xs,vs,h,aq,a3=>by
  cases h;have:cs=[]:=oW (by simpa using a3);subst this;cases vs with
  |nil=>exact⟨rfl,rfl⟩
  |cons v vs=>exact aq.elim
 |k+1,cs,xs,vs,h,aq,a3=>by
  rw[w8] at h;split at h
  ·rename_i x aV;split at h
   ·rename_i r aJ;cases h;rw[iC,Nat.one_mul] at a3;obtain⟨aa,ae⟩:=Pg aJ (aq.drop t.length) (by rw[List.length_drop];omega);exact⟨by simp[aa],vs.take t.length,vs.drop t.length,(List.take_append_drop _ _).symm,Wr aV (aq.take t.length),ae⟩
   ·cases h
  ·cases h
theorem aiH {t:da}:∀{a4:List Bool} {cs:List C} {x:D t} {vs:List Value},mh t cs=some x->cv (cT m) cs vs->y9 a4 cs=true->oc m.fz t a4 x vs:=by
 induction t with
 |nil=>
  intro a4 cs x vs h aq _;cases cs with
  |nil=>cases vs with
   |nil=>rfl
   |cons v vs=>exact aq.elim
  |cons c cs=>rw[Hw] at h;cases h
 |cons l t b_=>
  intro a4 cs x vs h aq bW;cases cs with
  |nil=>rw[Bt] at h;cases h
  |cons c cs=>cases vs with
   |nil=>exact aq.elim
   |cons v vs=>
    obtain⟨aa,ae⟩:=Bs h;rw[y9,gJ] at bW;refine⟨v,vs,rfl,Br aa aq.1,λai t' _=> ?_,b_ ae aq.2 bW.2⟩;have bW:=bW.1;rw[ai] at bW;cases c with
    |cP=>exact aq.1
    |_=>cases bW
theorem Wq {t:da} {a4:List Bool}:∀{k:Nat} {cs:List C} {xs:List (D t)} {vs:List Value},w8 t k cs=some xs->cv (cT m) cs vs->cs.length=k*t.length->Hg a4 t.length k cs=true->xs.length=k/\jF m.fz t a4 xs vs
 |0,cs,xs,vs,h,aq,a3,_=>by
  cases h;have:cs=[]:=oW (by simpa using a3);subst this;cases vs with
  |nil=>exact⟨rfl,rfl⟩
  |cons v vs=>exact aq.elim
 |k+1,cs,xs,vs,h,aq,a3,bW=>by
  rw[w8] at h;rw[Hg,gJ] at bW;split at h
  ·rename_i x aV;split at h
   ·rename_i r aJ;cases h;rw[iC,Nat.one_mul] at a3;obtain⟨aa,ae⟩:=Wq aJ (aq.drop t.length) (by rw[List.length_drop];omega) bW.2;exact⟨by simp[aa],vs.take t.length,vs.drop t.length,(List.take_append_drop _ _).symm,aiH aV (aq.take t.length) bW.1,ae⟩
   ·cases h
  ·cases h
theorem ai2 {t:da} {a4:List Bool} {z:List C} {e:D t} (ax:mh t z=some e) (bW:y9 a4 z=true):∀{k:Nat} {vs:List Value},cv (cT m) (qM z k) vs->jF m.fz t a4 (List.replicate k e) vs
 |0,vs,h=>by
  cases vs with
  |nil=>rfl
  |cons v vs=>exact h.elim
 |k+1,vs,h=>by
  rw[qM] at h;have aa:=h.take z.length;have ae:=h.drop z.length;rw[List.take_left] at aa;rw[List.drop_left] at ae;exact⟨vs.take z.length,vs.drop z.length,(List.take_append_drop _ _).symm,aiH ax aa bW,ai2 ax bW ae⟩
theorem ajU (a5:dr m n F a) (bc:bt m σ w) (h:cI (uk x (λy=>V5 y σ) F) r):mq aS m σ w (Instr.box t (a.eval x)) r:=by
 obtain⟨c,aq,h⟩:=Kg a5 h;obtain rfl:=h.eA;obtain⟨az,a9⟩:=bc.aaK (ty:=t) aq.cells;have e:=M.PE (m:=m) (r:=w.heap.size) (bc.fresh σ.next (Nat.le_refl _)).1;exact⟨_,.pointer (some ⟨w.heap.size,0,none⟩),_,.put bc e a9,by simp[Instr.box,newVar,Go.newRow,newObj,Sem.run],az,w.heap.size,by simp[M.jg],rfl⟩
theorem Step.same {m':M} {w':World} (e:js σ.next m m') (k:gX m σ w m' σ w'):Step m σ w m' σ w':=⟨e,k,Nat.le_refl _,λ_ _ h _=>h⟩
theorem ajT {ty:da} (a5:dr m n F a) (bc:bt m σ w):OH aS m σ w (Instr.box t (a.eval x)) (uk x (V4 ty) F):=by
 intro v h;obtain⟨c,aq,h⟩:=Kg a5 h;obtain⟨y,bT,h⟩:=gK h;obtain rfl:=iI h;obtain⟨e,aa,ae⟩:=bc.aaM (cur:=(a.eval x).cells) (vs:=(a.eval x).cells.toList) (ty:=t) λj v au=>by simpa using au
 refine⟨_,.pointer (some ⟨w.heap.size,0,none⟩),_,.same ⟨e,λ_ _=>rfl⟩ ae,by simp[Instr.box,newVar,Go.newRow,newObj,Sem.run],aa,w.heap.size,0,rfl, ?_⟩;exact Pj (m:=m.k3 w.heap.size (a.eval x).cells.toList) bT (aq.cells.imp λ_ _=>cT.ext e) λj v au=>by simpa[M.k3] using au
theorem O8 {e len sz eR:Nat} {ty:da} {nB:List C} {b8:Array (Nat×Operand)} {q:List C×List (D ty)} (bS:ff aS cg) (a5:dr m n F a) (hu:under cg t=some (.slice e)) (he:wR aS cg e sz eR nB)
 (h:GM ty len sz nB b8.toList F=some q):ty.length=sz/\len<=100000/\q.1.length=len*sz/\w8 ty len q.1=some q.2/\
  ∃cells,(Instr.buildSlice t len (b8.map λ(i,x)=>(i,a.eval x))).run aS w=.ok (.slice (some ⟨w.heap.size,0,none⟩) len len) (w.alloc (.cells cells e))/\cv (cT m) q.1 cells.toList/\cells.size=len*sz:=by
 unfold GM at h;split at h
 ·rename_i ai;simp only[gJ] at ai;have aC:=gq ai.1;have aT:=Nat.le_of_ble_eq_true ai.2;split at h
  ·rename_i cs kH;split at h
   ·rename_i xs anq;cases h;obtain⟨i,gD,aj,aa,ae,BN,az,a9⟩:=he.info;have QB:(zeroValue e).run aS w=.ok gD w:=by simp[zeroValue,typeInfo,aj,az]
    have ax:cv (cT m) (qM nB len) ((Array.range (len*sz)).map (λi=>(if len*sz=0 then#[] else gD.cells)[i%(if len*sz=0 then(#[]:Array Value) else gD.cells).size]!)).toList:=by
     by_cases bl:len*sz=0
     ·have:len=0:=by
       rcases Nat.mul_eq_zero.1 bl with h|h
       ·exact h
       ·exact absurd he.pos ab
      subst this;simp[qM];trivial
     ·simp only[if_neg bl];exact ai1 (a9 m) he.len
    obtain⟨cells,aF,aQ⟩:=HJ a5 _ _ ax kH;have hlen:cs.length=len*sz:=by
     have key:∀(l:List (Nat×Operand)) {Ht cs:List C},xg (Kq sz) F l Ht=some cs->cs.length=Ht.length:=by
      intro l;induction l with
      |nil=>intro Ht cs h;cases h;rfl
      |cons p l b_=>
       intro Ht cs h;simp only[xg] at h;split at h
       ·cases h
       ·split at h
        ·cases h
        ·split at h
         ·split at h
          ·rename_i hle;rw[b_ h,RK (by have:=Nat.le_of_ble_eq_true hle;rename_i tM _;have:=gq tM;omega)]
          ·cases h
         ·cases h
     rw[key _ kH,N8,he.len]
    have k_:=he.pos;have aJt:len<=len*sz:=Nat.le_mul_of_pos_right _ k_;refine⟨aC,ab,hlen,anq,cells, ?_,aQ,by rw[<-Array.length_toList,<-aQ.length,hlen]⟩;have dm:Instr.fill (λi=>some (i*sz,sz)) ((Array.range (len*sz)).map (λi=>(if len*sz=0 then#[] else gD.cells)[i%(if len*sz=0 then(#[]:Array Value) else gD.cells).size]!)) (b8.map λ(i,x)=>(i,a.eval x)).toList=some cells:=by
     rw[<-aF,Array.toList_map];rfl
    have er:¬(len*sz>2^24):=by
     have:(2:Nat)^24=16777216:=by decide
     omega
    by_cases bl:len*sz=0
    ·simp only[if_pos bl] at dm;simp only[Instr.buildSlice,iv,gZ bS hu,iV,lH bS he.size,if_neg er,if_pos bl,ju,dm,Go.newRow,newObj,Sem.run];rfl
    ·simp only[if_neg bl] at dm;simp only[Instr.buildSlice,iv,gZ bS hu,iV,lH bS he.size,if_neg er,if_neg bl,ju,QB,dm,Go.newRow,newObj,Sem.run];rfl
   ·cases h
  ·cases h
 ·cases h
theorem Hf:∀{l r:List Bool} {f:Nat},(tJ l r)[f]?.getD false=true->l[f]?.getD false=true/\r[f]?.getD false=true
 |[],r,f,h=>by simp[tJ] at h
 |a::l,[],f,h=>by simp[tJ] at h
 |a::l,b::r,0,h=>by simpa[tJ] using h
 |a::l,b::r,f+1,h=>by
  have:=Hf (l:=l) (r:=r) (f:=f) (by simpa[tJ] using h);simpa using this
theorem YM {c:C} (h:zS c=true):c=.cP:=by
 cases c<;>first|rfl|cases h
theorem aaP {sz:Nat}:∀{k:Nat} {cs:List C} {f:Nat},(CX sz k cs)[f]?.getD false=true->f<sz->∀i,i<k->cs[i*sz+f]? =some .cP
 |0,cs,f,h,_,i,aj=>by omega
 |1,cs,f,h,bu,i,aj=>by
  have:i=0:=ab;subst this;rw[CX] at h;rw[Nat.zero_mul,fL];cases aq:cs[f]? with
  |none=>simp[List.getElem?_take,bu,aq] at h
  |some c=>simp[List.getElem?_take,bu,aq] at h;rw[YM h]
 |k+2,cs,f,h,bu,i,aj=>by
  rw[CX] at h;obtain⟨aa,ae⟩:=Hf h;cases i with
  |zero=>
   rw[Nat.zero_mul,fL];cases aq:cs[f]? with
   |none=>simp[List.getElem?_take,bu,aq] at aa
   |some c=>simp[List.getElem?_take,bu,aq] at aa;rw[YM aa]
  |succ i=>
   have:=aaP ae bu i ab;rw[List.getElem?_drop] at this;rw[<-this];congr 1;rw[iC];omega
theorem aH6 {e len sz eR:Nat} {ty:da} {nB:List C} {b8:Array (Nat×Operand)} (bS:ff aS cg) (a5:dr m n F a) (bc:bt m σ w) (hu:under cg t=some (.slice e)) (he:wR aS cg e sz eR nB):
 OH aS m σ w (Instr.buildSlice t len (b8.map λ(i,x)=>(i,a.eval x))) (air ty len sz nB b8.toList F):=by
 intro v h;obtain⟨q,ay,h⟩:=gK h;obtain rfl:=iI h;obtain⟨aa,ae,az,a9,cells,cE,dm,er⟩:=O8 (aS:=aS) (w:=w) bS a5 hu he ay;obtain⟨aF,aQ⟩:=Pg a9 dm (by rw[aa];exact az);obtain⟨aE,aX,bL⟩:=bc.aaM (cur:=cells) (vs:=cells.toList) (ty:=e) λj v au=>by simpa using au
 have a3:(cx q.2).1=q.2:=fT ab;refine⟨_,_,_,.same ⟨aE,λ_ _=>rfl⟩ bL,cE,aX, ?_,λb o aKr c aM i f aj bu bW=> ?_⟩
 rotate_left
 ·cases aM;have aq:=aaP bW bu i aj;obtain⟨u,jD,kj⟩:=dm.get aq;have kj:u=.slice none 0 0:=kj;simp only[M.k3,if_true];rw[fL,jD,kj]
 have:=Hz (fz:=(m.k3 w.heap.size cells.toList).fz) (x:=cx q.2) (b:=w.heap.size) (o:=0) (c:=len) (vs:=cells.toList) (by rw[a3];exact aQ.ext aE.fz) (λj v au=>by simpa[M.k3] using au) (by rw[a3];omega)
 rwa [a3,aF] at this
theorem aH8 {e len sz eR:Nat} {ty:da} {nB:List C} {b8:Array (Nat×Operand)} (bS:ff aS cg) (a5:dr m n F a) (bc:bt m σ w) (hu:under cg t=some (.slice e)) (he:wR aS cg e sz eR nB)
 (h:cI (Uu ty len sz nB b8.toList F σ) r):mq aS m σ w (Instr.buildSlice t len (b8.map λ(i,x)=>(i,a.eval x))) r:=by
 obtain⟨q,ay,h⟩:=gK h;obtain rfl:=h.eA;obtain⟨aa,ae,az,a9,cells,cE,dm,er⟩:=O8 (aS:=aS) (w:=w) bS a5 hu he ay;obtain⟨aF,aQ⟩:=Pg a9 dm (by rw[aa];exact az);obtain⟨m',aE,aX,bL,cM,dX⟩:=bc.aaN (t:=ty) (vs:=cells.toList) (n:=len) (c:=len) (cur:=cells) (ty:=e) (by rw[aa,Array.length_toList,er]) (Nat.le_refl _) (by rw[aa,er];exact Nat.le_refl _) λj v au=>by simpa using au
 have a3:(cx q.2).1=q.2:=fT ab;refine⟨m',_,_,.put bc aE bL,cE,aX, ?_,cM,nG.none⟩;have:=Hz (fz:=m'.fz) (x:=cx q.2) (b:=w.heap.size) (o:=0) (c:=len) (vs:=cells.toList) (by rw[a3];exact aQ.ext aE.ext.fz) dX (by rw[a3];omega)
 rwa [a3,aF] at this
theorem aH5 {a4:List Bool} {e len sz eR:Nat} {ty:da} {nB:List C} {b8:Array (Nat×Operand)} (bS:ff aS cg) (a5:dr m n F a) (bc:bt m σ w) (hu:under cg t=some (.slice e)) (he:wR aS cg e sz eR nB)
 (h:cI (Ut a4 ty len sz nB b8.toList F σ) r):mq aS m σ w (Instr.buildSlice t len (b8.map λ(i,x)=>(i,a.eval x))) r:=by
 obtain⟨q,ay,h⟩:=gK h;split at h
 ·rename_i bW;obtain rfl:=h.eA;obtain⟨aa,ae,az,a9,cells,cE,dm,er⟩:=O8 (aS:=aS) (w:=w) bS a5 hu he ay;subst aa;obtain⟨aF,aQ⟩:=Wq a9 dm az bW;have a3:(cx q.2).1=q.2:=fT ab;obtain⟨m',aE,aX,bL,cM⟩:=bc.Rj (0,0) ⟨λ_ _=>by omega,Nat.le_refl _⟩ (t:=ty) (a4:=a4) (l:=cx q.2) (vs:=cells.toList) (c:=len) (cur:=cells) (ty:=e) (by rw[a3];exact aQ) (by rw[a3];omega) (by rw[er];exact Nat.le_refl _) λj v au=>by simpa using au
  rw[a3,aF] at cM;exact⟨m',_,_,.put bc aE bL,cE,aX,_,_,rfl,cM,λ_=>⟨_,rfl⟩,ab⟩
 ·exact h.b7.elim
theorem ah9 {eR n:Nat} (h:room eR n=true):n*eR<=140737488355328/\n<=1048576000:=by
 simpa[room] using h
theorem Zn {a4:List Bool} {e sz eR:Nat} {ty:da} {nB:List C} (bS:ff aS cg) (a5:dr m n F a) (bc:bt m σ w) (hu:under cg t=some (.slice e)) (he:wR aS cg e sz eR nB)
 (h:cI (lV x (yb a4 ty sz eR nB) F σ) r):mq aS m σ w (Instr.makeSlice t (a.eval x) (a.eval x)) r:=by
 obtain⟨c,aq,aa⟩:=z9 a5 h;clear h;unfold yb at aa;split at aa
 ·rename_i ai;simp only[gJ] at ai;have pd:=gq ai.1;subst pd;split at aa
  ·rename_i g_ qC;cases c with
   |int k ue=>
    cases k with
    |i64=>
     obtain⟨l,a3,h⟩:=aa.mG;obtain rfl:=h.eA;unfold qE at a3;split at a3
     ·rename_i aJ;cases a3;simp only[gJ,decide_eq_true_eq] at aJ;obtain⟨gW,fU⟩:=ah9 aJ.2;have aV:a.eval x=.int .i64 ue.1:=aq;obtain⟨i,gD,aj,aF,aQ,HQ,bn,cy⟩:=he.info;have QB:(zeroValue e).run aS w=.ok gD w:=by simp[zeroValue,typeInfo,aj,bn]
      obtain⟨k,aP⟩:∃k,ue.1.toNat=k:=⟨_,rfl⟩;have xP:=aJ.1;rw[aP] at gW fU;have Yb:ue.1=(k:Int):=ab;have ax:cv (cT m) (qM nB k) ((Array.range (k*ty.length)).map (λi=>(if k*ty.length=0 then#[] else gD.cells)[i%(if k*ty.length=0 then(#[]:Array Value) else gD.cells).size]!)).toList:=by
       by_cases bl:k*ty.length=0
       ·have:k=0:=by
         rcases Nat.mul_eq_zero.1 bl with h|h
         ·exact h
         ·exact absurd he.pos ab
        subst this;simp[qM];trivial
       ·simp only[if_neg bl];exact ai1 (cy m) he.len
      generalize vV:((Array.range (k*ty.length)).map (λi=>(if k*ty.length=0 then#[] else gD.cells)[i%(if k*ty.length=0 then(#[]:Array Value) else gD.cells).size]!))=cells at ax;have kH:cells.size=k*ty.length:=by rw[<-vV];simp
      have m6:IntKind.i64.wrap (k:Int)=k:=AT (by simp[IntKind.min,IntKind.max,IntKind.bits,IntKind.signed];omega);have aJi:((i.bytes:Int)*(k:Int))<=140737488355328:=by
       have:((k*eR:Nat):Int)<=140737488355328:=ab;rw[aQ,Int.mul_comm];simpa using this
      have Yr:(typeInfo e).run aS w=.ok i w:=by simp[typeInfo,aj]
      have Xx:((decide ((k:Int)<0)||decide (((i.bytes:Nat):Int)*(k:Int)>2^48))||decide ((k:Int)<0)||decide ((k:Int)>(k:Int)))=false:=by
       have:(2:Int)^48=281474976710656:=by decide
       simp only[Bool.or_eq_false_iff,decide_eq_false_iff_not];omega
      have Xs:(askRoom (k*i.bytes)).run aS w=.ok () w:=by unfold askRoom;split<;>simp
      have Co:(Instr.makeSlice t (a.eval x) (a.eval x)).run aS w=.ok (.slice (some ⟨w.heap.size,0,none⟩) k k) (w.alloc (.cells cells e)):=by
       rw[<-vV];by_cases bl:k*ty.length=0
       ·simp only[Instr.makeSlice,aV,Yb,asInt,asIntOf,iv,ju,iV,gZ bS hu,Yr,m6,Xx,Bool.false_eq_true,if_false,Int.toNat_natCast,Xs,lH bS he.size,if_pos bl,Go.newRow,newObj,Sem.run];rfl
       ·simp only[Instr.makeSlice,aV,Yb,asInt,asIntOf,iv,ju,iV,gZ bS hu,Yr,m6,Xx,Bool.false_eq_true,if_false,Int.toNat_natCast,Xs,lH bS he.size,if_neg bl,QB,Go.newRow,newObj,Sem.run];rfl
      obtain⟨m',aE,aX,bL,cM⟩:=bc.Rj (0,0) ⟨λ_ _=>by omega,Nat.le_refl _⟩ (t:=ty) (a4:=a4) (l:=⟨List.replicate ue.1.toNat g_,by simp;omega⟩) (vs:=cells.toList) (c:=k) (cur:=cells) (ty:=e) (by rw[<-aP] at ax;exact ai2 qC ai.2 ax) (by simp[aP]) (by rw[kH];exact Nat.le_refl _) λj v au=>by simpa using au
      have akx:m'.bb σ.next=some (.slice (some ⟨w.heap.size,0,none⟩) k k):=by rw[cM];simp[aP]
      refine⟨m',_,_,.put bc aE bL,Co,aX,some ⟨w.heap.size,0,none⟩,k, ?_,akx,λ_=>⟨w.heap.size,rfl⟩, ?_⟩
      ·simp[aP]
      ·simp[aP];omega
     ·cases a3
    |_=>exact aa.b7.elim
   |_=>exact aa.b7.elim
  ·exact aa.b7.elim
 ·exact aa.b7.elim
open bx (g2 nw) in
theorem alc (w:World) {r:Nat} {cur:Array Value} {ty:TypeId} {bQ:Nat×Nat} (h:w.heap[r]? =some (.cells cur ty bQ)):
 w.freeze ⟨r,cur.size,none⟩ 1=g2 w r (.cells cur ty (if bQ.1==bQ.2 then(cur.size,cur.size+1) else(min bQ.1 cur.size,max bQ.2 (cur.size+1)))):=by
 have bK:r<w.heap.size:=(nJ.1 h).1;have bZ:w.heap[r]=.cells cur ty bQ:=by rw[Array.getElem?_eq_getElem bK] at h;exact hP h
 unfold World.freeze g2;rw[if_neg bp];congr 1;apply Array.ext
 ·simp
 ·intro i aa ae;rw[Array.getElem_modify];by_cases aj:r=i
  ·subst aj;simp[bZ]
  ·rw[if_neg aj,Array.getElem_setIfInBounds_ne _ aj]
theorem aki {s d e e':TypeId} (bS:ff aS cg) (a5:dr m n F a) (bc:bt m σ w) (aU:under cg s=some (.slice e)) (bb:under cg d=some (.slice e')) (Qt:s=d) (he:under cg e'=some (.int .u8))
 (h:cI (lV x Bl F σ) r):mq aS m σ w (Go.convert s d (a.eval x)) r:=by
 subst Qt;obtain⟨c,aq,aa⟩:=z9 a5 h;clear h;unfold Bl at aa;split at aa
 ·rename_i t l k nl sz;obtain⟨b,ai,ae⟩:=mZ aa;clear aa;split at ae
  ·split at ae
   ·rename_i ay;obtain rfl:=jT ay;split at ae
    ·exact ae.b7.elim
    ·rename_i eD;obtain rfl:=ae.eA;obtain⟨ku,o8,nQ⟩:=aq;obtain⟨A,cj,c',aF,aQ,bn⟩:=bc.live k _ ai;rw[o8] at aF;have aV:a.eval x=.slice A cj c':=hP aF;rcases bn with⟨rfl,rfl,_⟩|⟨q,cur,ty,bQ,rfl,cF,dy,e8,_⟩
     ·obtain⟨eO,dq,ey,fq,_⟩:=ku;rw[aV] at ey;cases ey;have bl:l.1.length=0:=ab;rw[bl] at eD;cases eD
     ·rw[aV] at o8;have rQ:n6 cur bQ->n6 cur (if bQ.1==bQ.2 then(cur.size,cur.size+1) else(min bQ.1 cur.size,max bQ.2 (cur.size+1))):=by
       intro⟨f1,f2⟩;split
       ·exact⟨λj au=>by simp only;omega,Nat.le_succ _⟩
       ·rename_i aA;have aA:bQ.1≠bQ.2:=by simpa using aA
        have lQ:cur.size<=bQ.1:=by
         rcases jL bQ.1 cur.size with g|g
         ·exact absurd ⟨Nat.le_refl _,ab⟩ (f1 bQ.1 g)
         ·exact g
        exact⟨λj au=>by simp only;omega,by simp only;omega⟩
      obtain⟨gn,dg,fi⟩:=bc.aox ai o8 dy rQ;have anc:w.shape? q=some (ty,cur.size):=by unfold World.shape?;rw[dy]
      refine⟨m,a.eval x,_,⟨gn,fi,Nat.le_refl _,λi cs aj bw=>aj⟩, ?_,dg,ku,by rw[aV];exact o8,nQ⟩;rw[aV];simp[Go.convert,gZ bS bb,gZ bS he,markStringish,anc];simpa using alc w dy
   ·exact ae.b7.elim
  ·exact ae.b7.elim
 ·exact aa.b7.elim
theorem aIe {s d e:TypeId} (bS:ff aS cg) (a5:dr m n F a) (bc:bt m σ w) (aU:under cg s=some .string) (bb:under cg d=some (.slice e)) (he:under cg e=some (.int .u8))
 (h:cI (lV x Oi F σ) r):mq aS m σ w (Go.convert s d (a.eval x)) r:=by
 obtain⟨c,aq,aa⟩:=z9 a5 h;clear h;cases c with
 |str ep=>
  obtain⟨l,a3,h⟩:=aa.mG;obtain rfl:=h.eA;have aV:a.eval x=.string ep.1:=aq;have aJ:=run_bytes_of_string (P:=aS) w s d e ep.1 (jr bS aU) (jr bS bb) (jr bS he);have lQ:=grownCap_ge w ep.1.size 0 e;unfold rF at a3;split at a3
  ·rename_i hle;cases a3;have qX:=bc.tc (w':=w.drew) ⟨rfl,rfl,rfl,Nat.le_refl _,λ_ _=>rfl⟩;have hlen:∀g:UInt8->D [.int .u8],(ep.1.data.toList.map g).length=ep.1.size:=λg=>by rw[List.length_map,Array.length_toList];rfl
   have al4:(bytesRow ep.1 (grownCap w ep.1.size 0 e)).size=grownCap w ep.1.size 0 e:=by
    unfold bytesRow;have:ep.1.data.size=ep.1.size:=rfl;simp[this];omega
   obtain⟨m',aF,aQ,bn,cy⟩:=qX.Rj ((bytesRow ep.1 (grownCap w ep.1.size 0 e)).size,(bytesRow ep.1 (grownCap w ep.1.size 0 e)).size+1) ⟨λj au=>by simp only;omega,Nat.le_succ _⟩ (t:=[.int .u8]) (a4:=[])
    (l:=⟨ep.1.data.toList.map λu=>((⟨u.toNat,by have:=u.toNat_lt;simp[IntKind.min,IntKind.max,IntKind.bits,IntKind.signed];omega⟩,()):D [.int .u8]),by simpa using hle⟩) (vs:=ep.1.data.toList.map λb=>Value.int .u8 b.toNat)
    (c:=grownCap w ep.1.size 0 e) (cur:=bytesRow ep.1 (grownCap w ep.1.size 0 e)) (ty:=e) (by
     refine jF.ac6 (λi=>by simp) ?_;show iU m.fz [.int .u8] (List.map _ ep.1.data.toList) (List.map _ ep.1.data.toList);induction ep.1.data.toList with
     |nil=>rfl
     |cons b l b_=>exact⟨[.int .u8 b.toNat],_,rfl,⟨_,[],rfl,by simp only[dO],rfl⟩,b_⟩) (by
     show(ep.1.data.toList.map _).length<=_;rw[hlen];exact lQ) (by rw[al4];simp) (λj v au=>by
     unfold bytesRow;rw[Array.getElem?_append_left (by
      have:=(ed.1 au).1;simpa using this)]
     rw[<-Array.getElem?_toList,Array.toList_map];exact au)
   refine⟨m',_,_,.put bc aF ((gX.tc (w':=w.drew) bc ⟨rfl,rfl,rfl,Nat.le_refl _,λ_ _=>rfl⟩).trans bn),by rw[aV];exact aJ,aQ,some ⟨w.heap.size,0,none⟩,grownCap w ep.1.size 0 e, ?_, ?_,λ_=>⟨_,rfl⟩, ?_, ?_⟩
   ·show Value.slice _ _ _=.slice _ (ep.1.data.toList.map _).length _;rw[hlen]
   ·rw[cy];show some (Value.slice _ (ep.1.data.toList.map _).length _)=_;rw[hlen];rfl
   ·show(ep.1.data.toList.map _).length<=_;rw[hlen];exact hle
   ·show(ep.1.data.toList.map _).length<=_;rw[hlen];exact lQ
  ·cases a3
 |_=>exact aa.b7.elim
end
def rp (t:da) (d:C) (σ:bF) (k:L (D t)->List Bool->Q R):Q R:=match d with
 |.cP=>k L.nil (t.map λ_=>true)
 |.ux id di n sz=>nN σ id λb=>match b with
  |.arr t' a4 l none cX=>if h:jS t' t=true then(match Nat.beq t'.length sz with
   |true=>k (cast (congrArg (λt=>L (D t)) (jT h)) (nY l di n)) []
   |false=>.fail) else .fail
  |_=>.fail
 |.row t' l nW=>if h:jS t' t=true then k (cast (congrArg (λt=>L (D t)) (jT h)) l) (match nW with
  |.nl a4 sz=>match Nat.beq t'.length sz with
   |true=>a4
   |false=>[]
  |.ny _ a4 sz=>match Nat.beq t'.length sz with
   |true=>a4
   |false=>[]
  |_=>[]) else .fail
 |.aH id n=>nN σ id λb=>match b with
  |.arr t' a4 l none cX=>if h:jS t' t=true then k (cast (congrArg (λt=>L (D t)) (jT h)) l) [] else .fail
  |_=>.fail
 |.str s=>if h:jS [.int .u8] t=true then .bind (rF s) λl=>k (cast (congrArg (λt=>L (D t)) (jT h)) l) [] else .fail
 |_=>.fail
def w3:List Bool->List Bool->Bool
 |[],_=>true
 |a::a4,gb=>(bif a then gb.headD false else true)&&w3 a4 gb.tail
def y_ (t:da) (eR:Nat) (k:Nat) (l:L (D t)) (nl:List Bool) (r:L (D t)) (gb:List Bool) (σ:bF):Q R:=.bind (de eR l r) λfN=>.ret (.val (.p (.c (.row t fN (.ny σ.next (tJ nl gb) t.length)))) ⟨(σ.heap.put k none).put σ.next (some (.a6 t)),σ.next+1⟩)
def Hh (t:da) (a4:List Bool) (eR:Nat) (k:Nat) (l:L (D t)) (r:L (D t)) (σ:bF):Q R:=.bind (de eR l r) λfN=>.ret (.val (.p (.c (.aH σ.next fN.1.length))) ⟨(σ.heap.put k none).put σ.next (some (.arr t a4 fN none 0)),σ.next+1⟩)
def app (eR sz:Nat) (ty:Option da) (jm:Option vC) (c d:C) (σ:bF):Q R:=match c with
 |.cP=>match ty with
  |some t=>match Nat.beq t.length sz with
   |true=>match jm with
    |some (.arr a4)=>rp t d σ λr gb=>match w3 a4 gb with
     |true=>Hh t a4 eR σ.next L.nil r ⟨σ.heap.put σ.next (some (.arr t a4 L.nil none 0)),σ.next+1⟩
     |false=>.fail
    |_=>rp t d σ λr gb=>y_ t eR σ.next L.nil (t.map λ_=>true) r gb ⟨σ.heap.put σ.next (some (.a6 t)),σ.next+1⟩
   |false=>.fail
  |none=>.fail
 |.row t l (.ny k nl aiA)=>nN σ k λb=>match b with
  |.a6 t'=>match jS t' t&&Nat.beq t.length sz with
   |true=>rp t d σ λr gb=>y_ t eR k l (match Nat.beq t.length aiA with
    |true=>nl
    |false=>[]) r gb σ
   |false=>.fail
  |_=>.fail
 |.row t l (.at_ id cX n wI f)=>nN σ id λb=>match b with
  |.arr t0 a4 wj none jE=>match Nat.beq cX jE&&Nat.beq t0.length wI&&Nat.beq t.length sz with
   |true=>match t0[f]? with
    |some (.aH t1)=>match jS t1 t with
     |true=>rp t d σ λr gb=>y_ t eR σ.next l [] r gb ⟨(σ.heap.put id (some (.arr t0 a4 wj (some (n,f)) jE))).put σ.next (some (.a6 t)),σ.next+1⟩
     |false=>.fail
    |_=>.fail
   |false=>.fail
  |_=>.fail
 |.aH id n=>nN σ id λb=>match b with
  |.arr t a4 l none cX=>match Nat.beq t.length sz with
   |true=>rp t d σ λr gb=>match w3 a4 gb with
    |true=>Hh t a4 eR id l r σ
    |false=>.fail
   |false=>.fail
  |_=>.fail
 |_=>.fail
section
variable{aS:Program} {w:World} {m m':M} {σ a8:bF} {F:Fr} {a:Go.Act} {n:Nat} {v:V} {α:Type} {t:TypeId} {x y z:Operand} {cg:T TypeInfo} {r:R}
theorem zf (w:World):Below w.heap.size w w.drew:=⟨rfl,rfl,rfl,Nat.le_refl _,λ_ _=>rfl⟩
theorem RH {vs:List Value} (h:∀v∈vs,(∀cs,v≠.agg cs)/\∀cs,v≠.tuple cs):∀u∈vs,u.oneCell'=true:=by
 intro u hu;obtain⟨aa,ae⟩:=h u hu;cases u with
 |agg cs=>exact absurd rfl (aa cs)
 |tuple cs=>exact absurd rfl (ae cs)
 |_=>rfl
theorem Bj {vs:List Value} (h:∀u∈vs,u.oneCell'=true):∀v∈vs,(∀cs,v≠.agg cs)/\∀cs,v≠.tuple cs:=by
 intro v aM;have:=h v aM;constructor<;>(intro cs aq;subst aq;simp[Value.oneCell'] at this)
theorem bt.aIa (bc:bt m σ w) {b o:Nat} {vs:List Value} (h:Cells m.fz b o vs):∀(j:Nat) u,vs[j]? =some u->w.cell? ⟨b,o+j,none⟩=some u:=λj u hu=>by
 obtain⟨cur,ty,bQ,aa,ae⟩:=bc.stay _ _ _ (h j u hu);rw[bx.Bi aa,ae]
theorem ak3 {fz:Nat->List Value} {t:da} {a4:List Bool}:∀{l:List (D t)} {vs:List Value},iU fz t l vs->(∀i f,i<l.length->f<t.length->a4[f]?.getD false=true->vs[i*t.length+f]? =some (.slice none 0 0))->jF fz t a4 l vs:=by
 have one:∀{t:List fy} {a4:List Bool} {x:D t} {vs:List Value},l3 fz t x vs->(∀f,f<t.length->a4[f]?.getD false=true->vs[f]? =some (.slice none 0 0))->oc fz t a4 x vs:=by
  intro t;induction t with
  |nil=>intro a4 x vs h _;exact h
  |cons l t b_=>
   intro a4 x vs ⟨v,r,aa,ae,az⟩ bu;subst aa;refine⟨v,r,rfl,ae,λai t' _=> ?_,b_ az λf qv vX=> ?_⟩
   ·rw[B1] at ai;simpa using bu 0 (by simp) ai
   ·rw[GR] at vX;simpa using bu (f+1) (by simpa using qv) vX
 intro l;induction l with
 |nil=>intro vs h _;exact h
 |cons e l b_=>
  intro vs ⟨v,r,aa,ae,az⟩ bu;subst aa;have a3:=ae.length;refine⟨v,r,rfl,one ae λf qv vX=> ?_,b_ az λi f aj qv vX=> ?_⟩
  ·have:=bu 0 f (by simp) qv vX;rw[Nat.zero_mul,fL,lM ab] at this;exact this
  ·have:=bu (i+1) f (by simpa using aj) qv vX;rw[iC,Nat.one_mul,l8 ab,a3] at this;rw[<-this];congr 1;omega
theorem OZ:∀{a4 gb:List Bool},w3 a4 gb=true->∀f:Nat,a4[f]?.getD false=true->gb[f]?.getD false=true
 |[],gb,_,f,h=>by simp at h
 |a::a4,gb,h,f,bu=>by
  rw[w3,gJ] at h;cases f with
  |zero=>
   simp at bu;rw[bu] at h;rw[<-B1];exact h.1
  |succ f=>
   rw[<-GR];exact OZ h.2 f (by simpa using bu)
theorem VV {h:Array Obj} {q:Nat} {cur:Array Value} {t1:da} {a4:List Bool} {l:List (D t1)} {o:Nat} (a3:∀(n:Nat) e,l[n]? =some e->∃n',gH m h q none n' cur (o+n*t1.length) t1 a4 e 0):∃vs,iU m.fz t1 l vs/\∀(j:Nat) v,vs[j]? =some v->cur[o+j]? =some v:=by
 have akE:∀{t:List fy} {a4:List Bool} {x:D t} {f n base:Nat},gH m h q none n cur base t a4 x f->∃vs,l3 m.fz t x vs/\∀(j:Nat) v,vs[j]? =some v->cur[base+(f+j)]? =some v:=by
  intro t;induction t with
  |nil=>intro a4 x f n base _;exact⟨[],rfl,λj v h=>by simp at h⟩
  |cons l t b_=>
   intro a4 x f n base ⟨⟨v,bq,bE⟩,c8⟩;obtain⟨vs,bo,cO⟩:=b_ c8;refine⟨v::vs,⟨v,vs,rfl,bE.Po (by simp),bo⟩,λj u hu=> ?_⟩;cases j with
   |zero=>simp at hu;subst hu;exact bq
   |succ j=>rw[show f+(j+1)=f+1+j by omega];exact cO j u (by simpa using hu)
 induction l generalizing o with
 |nil=>exact⟨[],rfl,λj v h=>by simp at h⟩
 |cons e l b_=>
  obtain⟨n',sR⟩:=a3 0 e rfl;obtain⟨v,bq,bE⟩:=akE sR;obtain⟨vs,bo,cO⟩:=b_ (o:=o+t1.length) λn e' fe=>by
   obtain⟨n',sR⟩:=a3 (n+1) e' (by simpa using fe);rw[iC,Nat.one_mul] at sR;exact⟨n',by rw[Nat.add_assoc,Nat.add_comm t1.length];exact sR⟩
  refine⟨v++vs,⟨v,vs,rfl,bq,bo⟩,λj u hu=> ?_⟩;have Qy:=bq.length;by_cases au:j<v.length
  ·rw[lM au] at hu;have:=bE j u hu
   rwa [Nat.zero_mul,dH,fL] at this
  ·rw[l8 ab] at hu;have:=cO _ u hu;rw[<-this];congr 1;omega
theorem VU {h:Array Obj} {q:Nat} {cur:Array Value} {t1:da} {a4:List Bool} {l:List (D t1)} (iO:∀(n:Nat) e,l[n]? =some e->gH m h q none n cur (n*t1.length) t1 a4 e 0):∃vs,iU m.fz t1 l vs/\∀(j:Nat) v,vs[j]? =some v->cur[j]? =some v:=by
 obtain⟨vs,bq,bE⟩:=VV (m:=m) (h:=h) (q:=q) (cur:=cur) (a4:=a4) (l:=l) (o:=0) λn e he=>⟨n,by rw[fL];exact iO n e he⟩;exact⟨vs,bq,λj v aM=>by have:=bE j v aM;rwa [fL] at this⟩
theorem GO {ty:da} {d:C} {u:Value} {k:L (D ty)->List Bool->Q R} {t' e':TypeId} (aP:(∃e',aS.underlying t'=some (.slice e'))\/aS.underlying t'=some .string) (bc:bt m σ w) (bb:cT m d u) (uZ:aS.underlying t'=some .string->∃s,d=.str s)
 (q3:(∃e',aS.underlying t'=some (.slice e'))->∀s,d≠.str s) (h:cI (rp ty d σ k) r):
 ∃l gb vs,cI (k l gb) r/\Src aS ty.length t' u l.1.length vs w/\iU m.fz ty l.1 vs/\(∀i f,i<l.1.length->f<ty.length->gb[f]?.getD false=true->vs[i*ty.length+f]? =some (.slice none 0 0)):=by
 have rW:(∀s,d≠.str s)->∃e',aS.underlying t'=some (.slice e'):=λaA=>aP.resolve_right λq=>by obtain⟨s,aU⟩:=uZ q;exact aA s aU
 cases d with
 |cP=>
  obtain⟨e',fe⟩:=rW (by simp);have hu:u=.slice none 0 0:=bb;subst hu;exact⟨L.nil,_,[],h,Src.ofNil w fe 0,rfl,λi f aj=>by simp[L.nil] at aj⟩
 |row t1 l nW=>
  obtain⟨e',fe⟩:=rW (by simp);unfold rp at h;simp only at h;split at h
  ·rename_i heq;have ay:=jT heq;subst ay;obtain⟨ku,Yi⟩:=bb;obtain⟨A,c,vs,rfl,hle,aa,ae,az⟩:=Us ku;have nR:Src aS t1.length t' (.slice A l.1.length c) l.1.length vs w:=by
    by_cases aA:l.1=[]
    ·have aM:vs=[]:=by rw[aA] at aa;exact aa
     subst aM;rw[aA];cases A with
     |none=>exact Src.ofNil w fe c
     |some A=>exact Src.ofSlice w fe A 0 c [] (by simp) (λj u hu=>by simp at hu) (λu hu=>by simp at hu)
    ·obtain⟨b,o,rfl⟩:=az aA;refine Src.ofSlice w fe _ _ c vs aa.length (λj u hu=> ?_) (RH aa.px);have xT:vs≠[]:=λq=>by rw[q] at hu;simp at hu
     obtain⟨fG,fl,aE,aX⟩:=ae xT;cases aE;rw[bx.add_eq];exact bc.aIa aX j u hu
   refine⟨l,_,vs,h,nR,aa,λi f aj bu bW=> ?_⟩;cases nW with
   |nl a4 sz=>
    simp only at bW;split at bW
    ·rename_i fh;have fh:=gq fh;subst fh;have hlen:=aa.length;have xT:vs≠[]:=λq=>by
      rw[q] at hlen;have:0<l.1.length*t1.length:=Nat.mul_pos ab ab;simp at hlen;omega
     obtain⟨b,o,rfl,aX⟩:=ae xT;have a9:=Yi b o _ _ rfl i f aj bu bW;have bK:i*t1.length+f<vs.length:=by
      have:(i+1)*t1.length<=l.1.length*t1.length:=mS _ aj;rw[iC,Nat.one_mul] at this;omega
     have cE:=aX _ _ (e_ bK);rw[e_ bK,<-cE];rw[Nat.add_assoc o] at a9;exact a9
    ·simp at bW
   |ny p7 a4 sz=>
    simp only at bW;split at bW
    ·rename_i fh;have fh:=gq fh;subst fh;have hlen:=aa.length;have xT:vs≠[]:=λq=>by
      rw[q] at hlen;have:0<l.1.length*t1.length:=Nat.mul_pos ab ab;simp at hlen;omega
     obtain⟨b,o,rfl,aX⟩:=ae xT;have a9:=Yi.2 b o _ _ rfl i f aj bu bW;have bK:i*t1.length+f<vs.length:=by
      have:(i+1)*t1.length<=l.1.length*t1.length:=mS _ aj;rw[iC,Nat.one_mul] at this;omega
     have cE:=aX _ _ (e_ bK);rw[e_ bK,<-cE];rw[Nat.add_assoc o] at a9;exact a9
    ·simp at bW
   |_=>simp at bW
  ·exact h.b7.elim
 |ux id di n sz=>
  obtain⟨e',fe⟩:=rW (by simp);unfold rp at h;simp only at h;obtain⟨b,ai,aa⟩:=mZ h;clear h;split at aa
  ·rename_i t1 a4 l cX;split at aa
   ·rename_i heq;have ay:=jT heq;subst ay;split at aa
    ·rename_i fh;have fh:=gq fh;subst fh;obtain⟨A,c,rfl,Cg,_,dx⟩:=bb;by_cases X':n=0
     ·subst X';have aA:(nY l di 0).1=[]:=by simp[nY]
      refine⟨nY l di 0,[],[],aa, ?_,by rw[aA];rfl,λi f aj=>by simp[aA] at aj⟩;rw[aA];cases A with
      |none=>exact Src.ofNil w fe c
      |some A=>exact Src.ofSlice w fe A 0 c [] (by simp) (λj u hu=>by simp at hu) (λu hu=>by simp at hu)
     ·obtain⟨b,p7,oY,aF,rfl,aQ⟩:=dx X';obtain⟨eO,c',aE,aX,bL,cM⟩:=bc.live id _ ai;rw[aF] at aE;cases aE;rcases cM with⟨yC,_⟩|⟨q,cur,ty,bQ,yC,bn,cy,fj,fX,gU,iO,jU,_⟩
      ·cases yC
      ·cases yC;have hlen:(nY l di n).1.length=n:=by
        show((l.1.drop di).take n).length=n;rw[List.length_take,List.length_drop];omega
       obtain⟨vs,bq,bE⟩:=VV (m:=m) (h:=w.heap) (q:=b) (cur:=cur) (a4:=a4) (l:=(nY l di n).1) (o:=di*t1.length) λi e he=>by
        refine⟨di+i, ?_⟩;have fe:((l.1.drop di).take n)[i]? =some e:=he;have bK:i<n:=by
         have:=(ed.1 fe).1;rw[List.length_take] at this;omega
        rw[List.getElem?_take,if_pos bK,List.getElem?_drop] at fe;have:=jU (di+i) e fe
        rwa [iC] at this
       refine⟨nY l di n,[],vs,aa, ?_,bq,λi f _ _ bW=>by simp at bW⟩;rw[hlen];refine Src.ofSlice w fe _ n c vs (by rw[bq.length,hlen]) (λj u hu=> ?_) (RH bq.px);rw[bx.add_eq,bx.Bi cy];exact bE j u hu
    ·exact aa.b7.elim
   ·exact aa.b7.elim
  ·exact aa.b7.elim
 |aH id n=>
  obtain⟨e',fe⟩:=rW (by simp);unfold rp at h;simp only at h;obtain⟨b,ai,aa⟩:=mZ h;clear h;split at aa
  ·rename_i t1 a4 l cX;split at aa
   ·rename_i heq;have ay:=jT heq;subst ay;obtain⟨A,c,rfl,o8,dx,_⟩:=bb;obtain⟨eO,c',aE,aX,bL,cM⟩:=bc.live id _ ai;rw[o8] at aE;cases aE;rcases cM with⟨rfl,rfl,_⟩|⟨q,cur,ty,bQ,rfl,aQ,bn,cy,fj,fX,gU,iO,jU⟩
    ·have aA:l.1=[]:=oW ab;refine⟨l,[],[],aa, ?_,by rw[aA];rfl,λi f aj=>by simp[aA] at aj⟩;rw[aA];exact Src.ofNil w fe 0
    ·have hex:=VU iO;obtain⟨vs,bq,bE⟩:=hex;refine⟨l,[],vs,aa, ?_,bq,λi f _ _ bW=>by simp at bW⟩;refine Src.ofSlice w fe _ _ c vs bq.length (λj u hu=> ?_) (RH bq.px);rw[bx.add_eq,bx.Bi bn,fL];exact bE j u hu
   ·exact aa.b7.elim
  ·exact aa.b7.elim
 |str s=>
  rcases aP with aP|aP
  ·exact absurd rfl (q3 aP s)
  unfold rp at h;simp only at h;split at h
  ·rename_i heq;have ay:=jT heq;subst ay;obtain⟨l,a3,h⟩:=h.mG;unfold rF at a3;split at a3
   ·cases a3;have hu:u=.string s.1:=bb;subst hu;refine⟨_,[],byteCells s.1,h, ?_, ?_,λi f _ _ bW=>by simp at bW⟩
    ·have:=Src.ofString (P:=aS) w aP s.1;have hlen:∀g:UInt8->D [.int .u8],(s.1.data.toList.map g).length=s.1.size:=λg=>by rw[List.length_map,Array.length_toList];rfl
     show Src aS 1 t' _ (List.map _ s.1.data.toList).length _ w;rw[hlen];exact this
    ·unfold byteCells;show iU m.fz [.int .u8] (List.map _ s.1.data.toList) (List.map _ s.1.data.toList);induction s.1.data.toList with
     |nil=>rfl
     |cons b l b_=>exact⟨[.int .u8 b.toNat],_,rfl,⟨_,[],rfl,by simp only[dO],rfl⟩,b_⟩
   ·cases a3
  ·exact h.b7.elim
 |_=>exact h.b7.elim
end
end cB
end Go.Proofs.YtgmdfchkljaooaaGreat
