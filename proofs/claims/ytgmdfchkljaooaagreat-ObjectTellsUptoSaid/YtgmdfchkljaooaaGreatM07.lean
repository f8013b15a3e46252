/- reparteemake.rounds. -/
import Derived.Deep.RegionHeld3
import Derived.Deep.DrawnRows
import Derived.StillTailTactics
import Derived.Deep.CutRange
import Derived.Deep.RegionLaw
import Derived.Test.YtgmdfchkljaooaaGreatM01
import Derived.Test.YtgmdfchkljaooaaGreatM04
import Derived.Test.YtgmdfchkljaooaaGreatM06
noncomputable section
namespace Go.Proofs.YtgmdfchkljaooaaGreat
open Go.RowKit
namespace cx
open bC (T cL)
set_option linter.unusedVariables false
section
variable{dS m:M}{d0 d:kY oT}{w0 w:World}{r:Nat}
theorem aMh (k:K dS d0 w0 m d w){y}(b7:zg ((),())=some y):
 Calls Tryz.prog 57 #[] w λe w'=>∃m' v,e=.returned v/\K dS d0 w0 m' d w'/\rX m w m' w'/\dQ m'.fz (.aR [.str]) y.1.1 v:=by
 refine(acU.run (σ:=nH d) (args:=[]) (z:=([],nH d)) (x:=(((),()),[])) rfl rfl b7 rfl #[] k.aO trivial).mono ?_;rintro ex w' ⟨m',v,rfl,s,h,aL⟩;obtain⟨cv,iy⟩:=k.call (d':=d) s h;exact⟨m',v,rfl,cv,iy,aL.1⟩
theorem arZ (k:K dS d0 w0 m d w){y}(b7:zf ((),())=some y):
 Calls Tryz.prog 58 #[] w λe w'=>∃m' v,e=.returned v/\K dS d0 w0 m' d w'/\rX m w m' w'/\dQ m'.fz (.aR [.str]) y.1.1 v:=by
 refine(acK.run (σ:=nH d) (args:=[]) (z:=([],nH d)) (x:=(((),()),[])) rfl rfl b7 rfl #[] k.aO trivial).mono ?_;rintro ex w' ⟨m',v,rfl,s,h,aL⟩;obtain⟨cv,iy⟩:=k.call (d':=d) s h;exact⟨m',v,rfl,cv,iy,aL.1⟩
theorem axG (k:K dS d0 w0 m d w)(aO:dS.pl 0=some r)(n:bc .i64){y}(b7:ia (((),n,()),(d,()))=some y):
 Calls Tryz.prog 108 #[.pointer (some ⟨r,0,none⟩),.int .i64 n.1] w λe w'=>∃m',e=.returned (.int .i64 y.1.1.1)/\K dS d0 w0 m' y.2.1 w'/\rX m w m' w':=by
 refine(q_.run (σ:=nH d) (args:=[.c (.ptr (some (0,0))),.c (.int .i64 n)]) (z:=([.c (.ptr (some (0,0))),.c (.int .i64 n)],nH d)) (x:=((((),n,()),(d,())),[0])) rfl rfl b7 rfl #[.pointer (some ⟨r,0,none⟩),.int .i64 n.1] k.aO ⟨⟨r,k.pl aO,rfl⟩,rfl,trivial⟩).mono ?_;rintro ex w' ⟨m',v,rfl,s,h,aL⟩;obtain⟨cv,iy⟩:=k.call (d':=y.2.1) s h;exact⟨m',by rw[show v=.int .i64 y.1.1.1 from aL],cv,iy⟩
theorem T8 (aO:dS.pl 0=some r){p:Int}{y:U D4}(b7:ia (((),(bc.w .i64 2),()),(d,()))=some y)(bF:y.1.1.1=p)(m:M)(w:World)(k:K dS d0 w0 m d w):
 Calls Tryz.prog 108 #[.pointer (some ⟨r,0,none⟩),.int .i64 2] w λe w'=>∃m',e=.returned (.int .i64 p)/\K dS d0 w0 m' y.2.1 w'/\rX m w m' w':=by
 have:=axG k aO (bc.w .i64 2) b7;rw[bF] at this;exact this
theorem Y9 (k:K dS d0 w0 m d w)(aO:dS.pl 0=some r){y}(b7:uH (((),()),(d,()))=some y):
 Calls Tryz.prog 237 #[.pointer (some ⟨r,0,none⟩)] w λe w'=>∃m',e=.returned (.agg #[.int .i64 y.1.1.1.1,.string y.1.1.2.1.1])/\K dS d0 w0 m' y.2.1 w'/\rX m w m' w':=by
 refine(acm.run (σ:=nH d) (args:=[.c (.ptr (some (0,0)))]) (z:=([.c (.ptr (some (0,0)))],nH d)) (x:=((((),()),(d,())),[0])) rfl rfl b7 rfl #[.pointer (some ⟨r,0,none⟩)] k.aO ⟨⟨r,k.pl aO,rfl⟩,trivial⟩).mono ?_;rintro ex w' ⟨m',v,rfl,s,h,aL⟩;obtain⟨cv,iy⟩:=k.call (d':=y.2.1) s h;obtain⟨cs,rfl,aL⟩:=aL;refine⟨m',?_,cv,iy⟩
 match cs,aL with
 |⟨[a,b]⟩,⟨aa,af,_⟩=>rw[show a=.int .i64 y.1.1.1.1 from aa,show b=.string y.1.1.2.1.1 from af]
theorem anD (k:K dS d0 w0 m d w)(aO:dS.pl 0=some r)(ts:L (D [.str])){u:Value}(hu:dQ m.fz (.aR [.str]) ts u){y}(b7:ze (((),ts,()),(d,()))=some y):
 Calls Tryz.prog 238 #[.pointer (some ⟨r,0,none⟩),u] w λe w'=>∃m',e=.returned (.agg #[.int .i64 y.1.1.1.1,.string y.1.1.2.1.1])/\K dS d0 w0 m' y.2.1 w'/\rX m w m' w':=by
 refine(acH.run (σ:=nH d) (args:=[.c (.ptr (some (0,0))),.c (.row [.str] ts .no)]) (z:=([.c (.ptr (some (0,0))),.c (.row [.str] ts .no)],nH d)) (x:=((((),ts,()),(d,())),[0])) rfl rfl b7 rfl #[.pointer (some ⟨r,0,none⟩),u] k.aO ⟨⟨r,k.pl aO,rfl⟩,⟨hu,trivial⟩,trivial⟩).mono ?_;rintro ex w' ⟨m',v,rfl,s,h,aL⟩;obtain⟨cv,iy⟩:=k.call (d':=y.2.1) s h;obtain⟨cs,rfl,aL⟩:=aL;refine⟨m',?_,cv,iy⟩
 match cs,aL with
 |⟨[a,b]⟩,⟨aa,af,_⟩=>rw[show a=.int .i64 y.1.1.1.1 from aa,show b=.string y.1.1.2.1.1 from af]
end
structure Yc (x:U D9)(y:U D_) where
  az:U acV
  bT:L (D [.str])
  aY:U acL
  a5:U D4
  db:D [.str]
  cu:U D4
  eS:D [.str]
  cd:U D4
  bY:U acn
  mF:List (D fi)×kY oT
  aa:2<=x.1.2.2.1.1
  af:x.1.2.2.1.1<=5
  dM:zg ((),())=some az
  di:x.1.2.2.1.1<=az.1.1.1.length
  gL:bT.1=az.1.1.1.take x.1.2.2.1.1.toNat
  k_:zf ((),())=some aY
  pq:ia (((),(bc.w .i64 (2)),()),(x.2.1,()))=some a5
  s0:0<=a5.1.1.1/\aY.1.1.1[a5.1.1.1.toNat]?=some db
  wy:ia (((),(bc.w .i64 (2)),()),(a5.2.1,()))=some cu
  s3:0<=(bj (bc.w .i64 (2)) cu.1.1).1/\aY.1.1.1[(bj (bc.w .i64 (2)) cu.1.1).1.toNat]?=some eS
  vf:ia (((),(bc.w .i64 (2)),()),(cu.2.1,()))=some cd
  xX:uH (((),()),(cd.2.1,()))=some bY
  vg:uI db.1 x.1.2.2.2.1 bT (x.1.2.2.1.1-2).toNat 1 bY.2.1=some mF
  wv:(cd.1.1.1=1/\∃cA,uH (((),()),(mF.2,()))=some cA/\
      y=(((x.1.2.1,bT,cD (AW db.1 eS.1 bT (x.1.2.2.1.1-2).toNat bY.1.1 mF.1 (some cA.1.1)),()),()),(cA.2.1,())))\/
    (cd.1.1.1≠1/\y=(((x.1.2.1,bT,cD (AW db.1 eS.1 bT (x.1.2.2.1.1-2).toNat bY.1.1 mF.1 none),()),()),(mF.2,())))
theorem abD {α:Type}{l:L α}{i:Int}{e:α}(h:aX l i=some e):0<=i/\l.1[i.toNat]?=some e:=by
 unfold aX at h;by_cases a6:0<=i
 ·rw[decide_eq_true a6] at h;exact⟨a6,h⟩
 ·rw[decide_eq_false a6] at h;cases h
theorem aMk {x:U D9}{y:U D_}(h:zh x=some y):Nonempty (Yc x y):=by
 unfold zh at h;cases aa:fN (bc.w .i64 2) x.1.2.2.1
 ·rw[aa] at h;cases h
 cases af:fN x.1.2.2.1 (bc.w .i64 5)
 ·rw[aa,af] at h;cases h
 rw[aa,af] at h;simp only[cond_true] at h;obtain⟨az,dM,h⟩:=Option.bind_eq_some_iff.1 h;obtain⟨v2,di,h⟩:=Option.bind_eq_some_iff.1 h;obtain⟨bT,gL,h⟩:=Option.bind_eq_some_iff.1 h;obtain⟨aY,k_,h⟩:=Option.bind_eq_some_iff.1 h;obtain⟨a5,pq,h⟩:=Option.bind_eq_some_iff.1 h;obtain⟨db,s0,h⟩:=Option.bind_eq_some_iff.1 h;obtain⟨cu,wy,h⟩:=Option.bind_eq_some_iff.1 h;obtain⟨eS,s3,h⟩:=Option.bind_eq_some_iff.1 h;obtain⟨cd,vf,h⟩:=Option.bind_eq_some_iff.1 h;obtain⟨bY,xX,h⟩:=Option.bind_eq_some_iff.1 h;obtain⟨mF,vg,h⟩:=Option.bind_eq_some_iff.1 h;have aG:2<=x.1.2.2.1.1:=of_decide_eq_true aa;have aN:x.1.2.2.1.1<=5:=of_decide_eq_true af;have fD:x.1.2.2.1.1<=az.1.1.1.length/\v2.1=az.1.1.1.take x.1.2.2.1.1.toNat:=by
  unfold nG at di;cases an:(decide (0<=(0:Int))&&decide (0<=x.1.2.2.1.1)&&decide (x.1.2.2.1.1<=az.1.1.1.length))
  ·rw[an] at di;cases di
  ·rw[an] at di;cases di;simp at an;exact⟨an.2,by simp⟩
 have ij:bT.1=v2.1:=by
  unfold c8 at gL;split at gL
  ·cases gL;simp[L.nil]
  ·cases gL
 refine⟨⟨az,bT,aY,a5,db,cu,eS,cd,bY,mF,aG,aN,dM,fD.1,by rw[ij,fD.2],k_,pq,abD s0,wy,abD s3,vf,xX,vg,?_⟩⟩;cases ax:a9 cd.1.1 (bc.w .i64 1)
 ·rw[ax] at h;refine .inr ⟨?_,(eD h).symm⟩;exact of_decide_eq_false ax
 ·rw[ax] at h;simp only[cond_true] at h;obtain⟨cA,wv,h⟩:=Option.bind_eq_some_iff.1 h;refine .inl ⟨of_decide_eq_true ax,cA,wv,(eD h).symm⟩
end cx
def dq (P:Program)(ops:Array Oper)(Q:Exit->Act->World->Prop)(S:World->Prop)(f:Nat):Nat->Array Bool->Act->World->Prop
 |0,l,a,w=>Region.ready .any ops l=[]/\Q .normal a w
 |n+1,l,a,w=>(Region.ready .any ops l=[]->Q .normal a w)/\∀i∈Region.ready .any ops l,wpOp P ops Q i (λc6 w'=>(i≠f->S w')/\dq P ops Q S f n (l.setIfInBounds i true) c6 w') a w
section
variable{P:Program}{ops:Array Oper}{Q:Exit->Act->World->Prop}{S:World->Prop}{f:Nat}
theorem dq.any:∀(n:Nat)(l:Array Bool)(a:Act)(w:World),dq P ops Q S f n l a w->wpAny P .any ops Q n l a w
 |0,_,_,_,h=>h
 |n+1,_,_,_,h=>⟨h.1,λi aj=>wpOp_mono (λc6 w' g=>dq.any n _ c6 w' g.2) (h.2 i aj)⟩
theorem dq.start {id:Nat}{a:Act}{w:World}(hm:P.follows .mixedOrders=true)(dI:S w.drew)(h:S w.drew->dq P ops Q S f ops.size (Array.replicate ops.size false) a w.drew):(Code.region id ops true).wp P Q a w:=wp_region_any hm (dq.any _ _ _ _ (h dI))
def waits (ops:Array Oper)(f i:Nat):Bool:=match ops[f]? with
 |some o=>o.after.any λe=>Region.binds .any e&&e.on==i
 |none=>false
theorem amp {i:Nat}(h:waits ops f i=true){l:Array Bool}(aZ:l.getD i true=false):f∉Region.ready .any ops l:=by
 unfold waits at h;split at h
 ·rename_i o bX;intro bB;obtain⟨_,fC,gu,m4⟩:=mem_ready.1 bB;rw[bX] at gu;cases gu;rw[Array.any_eq_true] at h;obtain⟨k,aU,ah⟩:=h;rw[gR,beq_iff_eq] at ah;have af:=m4 _ (Array.getElem_mem aU) ah.1;rw[ah.2] at af;rcases ky i l.size with h'|h'
  ·simp[h'] at aZ af;rw[aZ] at af;cases af
  ·simp[Array.getElem?_eq_none h'] at af
 ·cases h
theorem dq.first {i:Nat}{oy:Oper}{v:Value}(aj:ops[i]?=some oy)(SJ:Region.noSelect ops=true)(hw:waits ops f i=true)(fl:∀c a w,Q (.panic c) (a.put oy.dst v) w->Q (.panic c) a w):
 ∀(n:Nat)(l:Array Bool)(a:Act)(w:World),(∀j nR,ops[j]?=some nR->j≠i->l.getD j true=false->(∀e∈nR.after,Region.binds .any e=true->e.on≠i)->oy.apart ops nR=true)->
  i∈Region.ready .any ops l->YieldsIf P ops S oy v a->S w->dq P ops Q S f n (l.setIfInBounds i true) (a.put oy.dst v) w->dq P ops Q S f (n+1) l a w
 |n,l,a,w,aax,aO,b7,dI,H=>by
  have J3:l.getD i true=false:=(mem_ready.1 aO).1;have ap0:i≠f:=λe=>amp hw J3 (e▸aO);refine⟨λh=>(by rw[h] at aO;cases aO),λj aq=>?_⟩;by_cases iW:j=i
  ·subst iW;exact b7.wpOp aj dI ⟨λ_=>dI,H⟩
  have AA:j≠f:=λe=>amp hw J3 (e▸aq);have mc:=ready_mono aq iW;cases n with
  |zero=>rw[H.1] at mc;cases mc
  |succ n=>
   obtain⟨aaF,nR,vE,m4⟩:=mem_ready.1 aq;have aqA:∀e∈nR.after,Region.binds .any e=true->e.on≠i:=λe he ah heq=>by
    have aa:=m4 e he ah;rw[heq] at aa;rcases ky i l.size with h'|h'
    ·simp[h'] at J3 aa;rw[J3] at aa;cases aa
    ·simp[Array.getElem?_eq_none h'] at aa
   have af:=wpOp_putIf vE (aax j nR vE iW aaF aqA) (λcs b=>Region.noSelect_spec SJ i oy cs b aj) (λcs b=>Region.noSelect_spec SJ j nR cs b vE) fl b7 (H.2 j mc);refine wpOp_mono (λc6 w' g=>⟨λ_=>g.2.1 AA,dq.first aj SJ hw fl n (l.setIfInBounds j true) c6 w' (λk ok aU ap9 hu uw=>?_) (ready_mono aO (Ne.symm iW)) g.1 (g.2.1 AA) ?_⟩) af
   ·refine aax k ok aU ap9 ?_ uw;by_cases so:j=k
    ·subst so;exact aaF
    ·rw[getD_set_ne true so] at hu;exact hu
   ·rw[Array.setIfInBounds_comm _ _ iW];exact g.2.2
theorem dq.take {i:Nat}{oy:Oper}{v:Value}{n:Nat}{l:Array Bool}{a:Act}{w:World}(aj:ops[i]?=some oy)(aP:(Region.noSelect ops&&waits ops f i&&Region.free .any ops l i&&(Region.ready .any ops l).contains i)=true)(fl:∀c a w,Q (.panic c) (a.put oy.dst v) w->Q (.panic c) a w)(SO:Region.wanted oy (yielded ops a.tmps)=true)(b7:∀w,S w->(execOp a.eval oy).run P w=.ok (.value v) w)(dI:S w)(h:dq P ops Q S f n (l.setIfInBounds i true) (a.put oy.dst v) w):dq P ops Q S f (n+1) l a w:=by
 rw[gR,gR,gR] at aP;exact dq.first aj aP.1.1.1 aP.1.1.2 fl n l a w (Region.free_spec aj aP.1.2) (by simpa using aP.2) (.inl ⟨SO,b7⟩) dI h
theorem dq.dW (i:Nat){oy:Oper}{v:Value}{n:Nat}{l:Array Bool}{a:Act}{w:World}(dI:S w)(h:dq P ops Q S f n (l.setIfInBounds i true) (a.put oy.dst v) w)(aj:ops[i]?=some oy:=by rfl)(aP:(Region.noSelect ops&&waits ops f i&&Region.free .any ops l i&&(Region.ready .any ops l).contains i)=true:=by kernel_rfl)(fl:∀c a w,Q (.panic c) (a.put oy.dst v) w->Q (.panic c) a w:=by exactλ_ _ _ h=>h)(SO:Region.wanted oy (yielded ops a.tmps)=true:=by rfl)(b7:∀w,S w->(execOp a.eval oy).run P w=.ok (.value v) w:=by(intro w apn;(try dsimp only at apn);go_simp<;>with_reducible rfl)):dq P ops Q S f (n+1) l a w:=dq.take aj aP fl SO b7 dI h
theorem dq.one {i:Nat}{o:Oper}{n:Nat}{l:Array Bool}{a:Act}{w:World}(aj:ops[i]?=some o)(aO:Region.ready .any ops l=[i])(h:∀K:Act->World->Prop,Shut (∀a w,(i≠f->S w)->((i≠f->S w)->dq P ops Q S f n (l.setIfInBounds i true) a w)->K a w)->if Region.wanted o (yielded ops a.tmps)=true then Oper.wp P o a w K Q else K (a.put o.dst undef) w):dq P ops Q S f (n+1) l a w:=by
 refine⟨λa6=>(by rw[aO] at a6;cases a6),λj aq=>?_⟩;rw[aO,List.mem_singleton] at aq;subst aq;exact wpOp_step aj λK ev=>h K (λa w dI sc=>ev a w ⟨dI,sc dI⟩)
theorem dq.done {l:Array Bool}{a:Act}{w:World}(aO:Region.ready .any ops l=[])(h:Q .normal a w):∀n,dq P ops Q S f n l a w
 |0=>⟨aO,h⟩
 |n+1=>⟨λ_=>h,by rw[aO];simp⟩
end
theorem je {w:World}{o:Obj}{p:Addr}{v:Value}(h:w.cell? p=some v):(w.alloc o).cell? p=some v:=(World.cell?_alloc_lt w o p (World.block_lt_of_cell? w p h)).trans h
theorem d_:(∀(l:List Value)(i:Nat)(a:Value),l.toArray.setIfInBounds i a=(l.set i a).toArray)/\(∀(x:Value)(xs:List Value)(a:Value),(x::xs).set 0 a=a::xs)/\(∀(x:Value)(xs:List Value)(n:Nat)(a:Value),(x::xs).set (n+1) a=x::xs.set n a):=⟨λ_ _ _=>am_ ..,λ_ _ _=>Ys ..,λ_ _ _ _=>Q0 ..⟩
namespace cx
open bC (T cL)
set_option linter.unusedVariables false
set_option linter.unusedSimpArgs false
attribute[local go_sem↓] Go.wp_at_zero Go.wp_at_succ
theorem arl:(Tryz.prog.info? 148).map (λi=>(i.zero,i.size,i.bytes))=some (some (.agg #[.string ⟨#[]⟩,.string ⟨#[]⟩,.slice none 0 0]),3,56):=by kernel_rfl
theorem arn:(Tryz.prog.info? 9).map (λi=>(i.zero,i.size,i.bytes))=some (some (.string ⟨#[]⟩),1,16):=by kernel_rfl
theorem aoh {aS:Program}{f:Nat}{fn:Func}{c:Code}(bB:aS.funcs[f]?=some fn)(aA:(fn.name== "runtime.NumGoroutine")=false) (ah:fn.body=some c) (vs:Array Value) (w:World):(callFunc f vs).run aS w=.ok (.enter f vs) w:=by
 have ax:¬fn.name= "runtime.NumGoroutine":=by simpa using aA
 simp[callFunc,bB,ax,ah]
set_option maxRecDepth 100000 in
set_option maxHeartbeats 8000000 in
theorem aMm {dS:M}{d0:kY oT}{w0:World}{r:Nat}{u:Value}(fO:ee)(many:bc .i64)(ts:L (D [.str])){y:U D_}(h:Yc (((),fO,many,ts,()),(d0,())) y)(bf:bM dS (nH d0) w0)(aO:dS.pl 0=some r)(hu:dQ dS.fz (.aR [.str]) ts u):
 Calls Tryz.prog 193 #[.pointer (some ⟨r,0,none⟩),.string fO.1,.int .i64 many.1,u] w0 λe w'=>∃m' v1 v2,e=.returned (.agg #[.string y.1.1.1.1,v1,v2])/\K dS d0 w0 m' y.2.1 w'/\dQ m'.fz (.aR [.str]) y.1.1.2.1 v1/\dQ m'.fz (.aR fi) y.1.1.2.2.1 v2:=by
 obtain⟨az,bT,aY,a5,db,cu,eS,cd,bY,mF,aa,af,dM,di,gL,k_,pq,s0,wy,s3,vf,xX,vg,wv⟩:=h;dsimp only at aa af di gL pq vg wv;obtain⟨many,aO0⟩:=many;dsimp only at aa af di gL vg wv;obtain⟨e6,rfl⟩:∃e6:Nat,many=e6:=⟨many.toNat,ab⟩;have Sy:2<=e6:=ab;have aOZ:e6<=5:=ab;obtain⟨i0,sn,q5,DP,DQ⟩:=info_parts arl;obtain⟨SY,aaE,arF,arG,arH⟩:=info_parts arn;obtain⟨Yl,JH⟩:∃W,W=w0.alloc (.cells #[.string ⟨#[]⟩,.slice none 0 0,.slice none 0 0] 68):=⟨_,rfl⟩;have qu:K dS d0 w0 dS d0 w0:=⟨bf,bf,Step.refl ..⟩;have c4:Below w0.heap.size w0 Yl:=by rw[JH];exact(Below.refl _ _).alloc (Nat.le_refl _) _
 have X4:=Lib.hid (qu.below c4);have QH:=Lib.hid (show jb Yl w0.heap.size #[.string ⟨#[]⟩,.slice none 0 0,.slice none 0 0] 68 by rw[JH];exact jb.new ..);have X9:=Lib.hid (show kO dS w0.heap.size from bf.rQ (Nat.le_refl _));have amX:=Lib.hid JH;obtain⟨j1,SB⟩:∃p:Nat,a5.1.1.1=p:=⟨a5.1.1.1.toNat,ab⟩;obtain⟨ri,SC⟩:∃p:Nat,(bj (bc.w .i64 2) cu.1.1).1=p:=⟨(bj (bc.w .i64 2) cu.1.1).1.toNat,ab⟩;obtain⟨nl,oo⟩:∃n:Nat,n=aY.1.1.1.length:=⟨_,rfl⟩;have Sp:aY.1.1.1[j1]?=some db:=by have:=s0.2;rw[SB] at this;simpa using this
 have JO:aY.1.1.1[ri]?=some eS:=by have:=s3.2;rw[SC] at this;simpa using this
 have aqn:j1<nl:=by rw[oo];exact(eu.1 Sp).1
 have aqo:ri<nl:=by rw[oo];exact(eu.1 JO).1
 have aqz:nl=4:=by rw[oo];cases k_;rfl
 have apg:(j1:Int)<4:=ab;have aph:(ri:Int)<4:=ab;have X2:=Lib.hid Sp;have X3:=Lib.hid JO;have QQ:=Lib.hid oo;have QJ:=Lib.hid (λm d w (k:K dS d0 w0 m d w)=>arZ k k_);have XK:=Lib.hid (T8 (d0:=d0) (w0:=w0) aO pq SB);obtain⟨iQ,SR⟩:∃p:Int,cu.1.1.1=p:=⟨_,rfl⟩;have XL:=Lib.hid (T8 (d0:=d0) (w0:=w0) aO wy SR);have aq5:IntKind.i64.wrap (2+iQ)=(ri:Int):=by rw[<-SR,<-SC];rfl
 obtain⟨Iq,SQ⟩:∃p:Int,cd.1.1.1=p:=⟨_,rfl⟩;have amI:=Lib.hid (T8 (d0:=d0) (w0:=w0) aO vf SQ);have amJ:=Lib.hid (λm w (k:K dS d0 w0 m cd.2.1 w)=>Y9 k aO xX);rw[SQ] at wv;clear oo Sp JO SR SC SB SQ;have amH:=Lib.hid wv;have XE:=Lib.hid vg;have aNC:=Lib.hid xX;have tR:=Lib.hid vf;have aNG:=Lib.hid s3;have aNF:=Lib.hid wy;have XH:=Lib.hid s0;have aNE:=Lib.hid pq;have aND:=Lib.hid k_;have XG:=Lib.hid gL;have XY:=Lib.hid aO;have XZ:=Lib.hid hu;have aNI:=Lib.hid bf;have aNH:=Lib.hid (And.intro aa af);have XF:=Lib.hid di;have amF:=Lib.hid dM;clear dM wv vg xX vf s3 wy s0 pq k_ gL di JH aO hu bf qu c4 aa af
 go_enter Tryz.func193,Tryz.ntmps193
 go_wp2_with fail
 rw[<-amX.out];refine(aMh X4.out amF.out).mono ?_;rintro e eU ⟨dc,v2,rfl,bI,abP,Jb⟩;obtain⟨QF,aul,Y7,rfl⟩:∃A n c,v2=.slice A n c:=by
  simp only[dQ] at Jb;obtain⟨A,c,h,_⟩:=Jb;exact⟨A,_,c,h⟩
 obtain⟨aqB,aqv,alj⟩:=aMn Jb bI.aO;have am5:e6<=az.1.1.1.length:=by have:=XF.out;omega
 have hcut:=λW=>aMq (P:=Tryz.prog) 65 9 Tryz.underlying65 SY aaE QF aul Y7 e6 (e6:Int) rfl ab W;have alk:ku eU QF (rm bT.1):=by
  have:=alj.take e6;unfold rm at this⊢;rw[XG.out]
  rwa [<-List.map_take] at this
 have ko:bT.1.length=e6:=by rw[XG.out];simp;omega
 have u9:=Lib.hid ko;have Yb:=Lib.hid alk;have Iz:=Lib.hid bI;have IA:=Lib.hid abP;clear ko alk alj am5 bI abP Jb aqB aqv
 go_wp2_with (at_builtin;refine ams _ rfl _ _ _ rfl eU.heap.size 9 SY _ 1 16 Tryz.underlying65 aaE arF arG arH rfl ab (.slice none 0 0) 0 [] rfl (World.ownsRow_nil _ _ _ _) QF e6 Y7 (rm bT.1) rfl Yb.out (by unfold rm;rw[List.length_map,u9.out];omega) (axv _) ab (by unfold maxLen;omega) (Nat.le_refl _) ?_;intro zM eR gw JT yN Dr JK;have XT:=Lib.hid (And.intro JT (And.intro yN (And.intro Dr JK)));clear JT yN Dr JK)
 obtain⟨JT,yN,Dr,JK⟩:=XT.out;have bP:Below eU.heap.size eU gw:=(Below.refl _ _).grown Dr (Nat.le_refl _) (by intro k aU;cases aU);rw[List.nil_append] at yN;have JC:∀g,mL zM=some g->eU.heap.size<=g/\g<gw.heap.size:=λg cm=>yN.lt g (by rw[vV];exact cm);obtain⟨fw,ZA,c9,RA,agk⟩:=(Iz.out.below bP).row (l:=bT) yN λg cm=>⟨Iz.out.aO.rQ (JC g cm).1,by have:=(JC g cm).1;have:=Iz.out.st.gE.size;omega⟩;have SH:=IA.out.2.1;have ZY:=QH.out.lt;have dY:=IA.out.2.2 _ ZY X9.out;obtain⟨Ym,JI⟩:∃W,W=gw.alloc (.cells #[.string fO.1,.slice zM e6 eR,.slice none 0 0] 68):=⟨_,rfl⟩;have oQ:Below gw.heap.size gw Ym:=by rw[JI];exact(Below.refl _ _).alloc (Nat.le_refl _) _
 have Qc:ue dS d0 w0 68 68 w0.heap.size gw.heap.size #[.string ⟨#[]⟩,.slice none 0 0,.slice none 0 0] #[.string fO.1,.slice zM e6 eR,.slice none 0 0] bT ts (.slice zM e6 eR) u fw d0 Ym:=by
  rw[fW] at RA;refine⟨c9.below oQ,?_,?_,?_,c9.aO.rQ (Nat.le_refl _),RA,(XZ.out.ext IA.out.1.fz).ext ZA.fz⟩
  ·exact(oQ.block _ (by have:=bP.size;omega)).trans ((bP.block _ ab).trans (dY.1.trans QH.out))
  ·exact agk _ (λe=>by have:=(JC _ e.symm).1;omega) dY.2
  ·rw[JI];exact jb.new ..
 have ay:w0.heap.size<gw.heap.size:=by have:=bP.size;omega
 have X0:=Lib.hid JI;have Ye:=Lib.hid Qc;clear XT JT yN Dr JK bP JC ZA c9 RA agk SH ZY dY oQ Qc JI IA Iz Yb hcut XZ X9 QH X4;rw[<-X0.out];clear X0;have QS:=Lib.hid (Ye.out.below (Below.refl _ _).drew)
 go_cut [10,11] from 24 to 34 (λxv aMv Xz=>xv=.string db.1.1/\aMv=.string eS.1.1/\Hid (∃m,ue dS d0 w0 68 68 w0.heap.size gw.heap.size #[.string ⟨#[]⟩,.slice none 0 0,.slice none 0 0] #[.string fO.1,.slice zM e6 eR,.slice none 0 0] bT ts (.slice zM e6 eR) u m cu.2.1 Xz))
 case first=>
  go_region_law (first
   |(go_simp;go_at_call 108;refine(XL.out _ _ Yg.out.k).mono ?_;rintro e ng ⟨asf,rfl,pT,Kf⟩;have Bc:=pT.aO.cellOf (Kf.1.fz _ _ _ f6.out);have gz:=pT.aO.cellOf (Kf.1.fz _ _ _ (DV.out.1.fz _ _ _ (AS.out.1.fz _ _ _ f4.out)));have IE:=Lib.hid (Yg.out.call pT Kf);clear pT Kf;go_simp)
   |(go_simp;go_at_call 58;refine(QJ.out _ _ _ vc.out.k).mono ?_;rintro e aNs ⟨acb,v6,rfl,o4,DV,Zf⟩;have fH:=o4.aO.cellOf (DV.1.fz _ _ _ (AS.out.1.fz _ _ _ f4.out));obtain⟨aNS,aPx,m2,rfl,apO,f6⟩:=Zf.alX X3.out;rw[<-QQ.out] at apO⊢;have Yg:=Lib.hid (vc.out.call o4 DV);have f6:=Lib.hid f6;have DV:=Lib.hid DV;clear o4 Zf;go_simp)
   |(go_simp;go_at_call 108;refine(XK.out _ _ Yf.out.k).mono ?_;rintro e amn ⟨vN,rfl,jJ,AS⟩;have eM:=jJ.aO.cellOf (AS.1.fz _ _ _ f4.out);have vc:=Lib.hid (Yf.out.call jJ AS);have AS:=Lib.hid AS;clear jJ;go_simp)
   |(go_simp;go_at_call 58;refine(QJ.out _ _ _ QS.out.k).mono ?_;rintro e aPN ⟨sA,v4,rfl,ei,abQ,Ze⟩;obtain⟨oQ,aPw,iS,rfl,apN,f4⟩:=Ze.alX X2.out;rw[<-QQ.out] at apN⊢;have Yf:=Lib.hid (QS.out.call ei abQ);have f4:=Lib.hid f4;clear ei abQ Ze;go_simp))
  all_goals
   go_wp2_with fail
   go_meet
   exact⟨rfl,rfl,Lib.hid ⟨_,IE.out⟩⟩
 case rest=>
  obtain⟨rfl,rfl,dI⟩:=hcut;obtain⟨aPs,W9⟩:=dI.out;have QT:=Lib.hid W9;clear W9 dI QS Ye apg aph aqn aqo aqz aq5;clear QJ XK XL X2 X3 QQ
  go_wp2_with fail
  refine(amI.out _ _ QT.out.k).mono ?_;rintro e aPO ⟨aPt,rfl,abL,abR⟩;have bd:=Lib.hid (QT.out.call abL abR);clear abL abR QT
  go_wp2_with fail
  refine(amJ.out _ _ bd.out.k).mono ?_;rintro e Cc ⟨acf,rfl,y5,abS⟩;have Yh:=Lib.hid (bd.out.call y5 abS);clear y5 abS bd;generalize aac:(Iq==1)=av;have XV:=Lib.hid aac;clear aac
  go_wp2_with fail
  obtain⟨nE,JJ⟩:∃W,W=Cc.alloc (.cells #[.int .i64 bY.1.1.1.1,.string bY.1.1.2.1.1] 120):=⟨_,rfl⟩;have IT:Below Cc.heap.size Cc nE:=by rw[JJ];exact(Below.refl _ _).alloc (Nat.le_refl _) _
  have QG:jb nE Cc.heap.size #[.int .i64 bY.1.1.1.1,.string bY.1.1.2.1.1] 120:=by rw[JJ];exact jb.new ..
  have B8:=Yh.out.below IT;obtain⟨jU,k5,rfl,k2⟩:=rowAt B8.ro (λe=>by have:=u9.out;rw[e] at this;simp at this;omega);have vc:=Lib.hid B8;have Rn:∀i,i<e6->nE.cell? ⟨jU,k5+i,none⟩=some (.string (gp bT i).1):=λi aj=>by
   obtain⟨e,aa,af⟩:=alB (l:=bT) (i:=i) (by rw[u9.out];exact aj);rw[<-af];exact B8.k.aO.cellOf (k2 i e aa)
  have pz:nE.cell? ⟨jU,k5,none⟩=some (.string (gp bT 0).1):=Rn 0 ab;have cW:=Rn 1 ab;obtain⟨amv,sL,nW⟩:=wI B8.CH;have QB:=QG.cell 0;have amx:=QG.cell 1;have QO:=Lib.hid (B8.start (kf:=148) (j2:=151));have Z2:(1:Int)<(e6:Int):=ab;have aN9:0<e6:=ab;have aN_:1<e6:=ab;have X1:=Lib.hid JJ;clear JJ IT B8 Rn QG Yh;rw[<-X1.out];refine dq.start (f:=20) (S:=λW=>W.cell? ⟨gw.heap.size,1,none⟩=some (.slice (some ⟨jU,k5,none⟩) e6 eR)/\W.cell? ⟨gw.heap.size,2,none⟩=some (.slice none 0 0)/\W.cell? ⟨jU,k5,none⟩=some (.string (gp bT 0).1)/\W.cell? ⟨jU,k5+1,none⟩=some (.string (gp bT 1).1)/\W.cell? ⟨Cc.heap.size,0,none⟩=some (.int .i64 bY.1.1.1.1)/\W.cell? ⟨Cc.heap.size,1,none⟩=some (.string bY.1.1.2.1.1)) (by kernel_rfl) ⟨sL,nW,pz,cW,QB,amx⟩ (λcY=>?_);clear amv sL nW pz cW QB amx;refine dq.dW 0 cY ?_;(try simp only[Act.put,d_]);refine dq.dW 1 cY ?_;(try simp only[Act.put,d_]);refine dq.dW 2 cY ?_;(try simp only[Act.put,d_]);refine dq.dW 3 cY ?_;(try simp only[Act.put,d_]);refine dq.dW 4 cY ?_;(try simp only[Act.put,d_]);refine dq.dW 5 cY ?_;(try simp only[Act.put,d_]);refine dq.dW 6 cY ?_;(try simp only[Act.put,d_]);refine dq.dW 7 cY ?_;(try simp only[Act.put,d_]);refine dq.dW 8 cY ?_;(try simp only[Act.put,d_]);refine dq.dW 9 cY ?_;(try simp only[Act.put,d_]);refine dq.dW 10 cY ?_;(try simp only[Act.put,d_]);refine dq.dW 11 cY ?_;(try simp only[Act.put,d_]);refine dq.dW 12 cY ?_;(try simp only[Act.put,d_]);refine dq.dW 13 cY ?_;(try simp only[Act.put,d_]);refine dq.dW 14 cY ?_;(try simp only[Act.put,d_]);refine dq.one (i:=15) rfl (by kernel_rfl) ?_;intro K ev
  go_simp
  refine ev.out _ _ (λ_=>?_) (λdI=>?_)
  ·exact⟨je cY.1,je cY.2.1,je cY.2.2.1,je cY.2.2.2.1,je cY.2.2.2.2.1,je cY.2.2.2.2.2⟩
  replace cY:=dI bk;clear ev K dI;(try simp only[Act.put,d_]);refine dq.dW 16 cY ?_;(try simp only[Act.put,d_]);refine dq.one (i:=17) rfl (by kernel_rfl) ?_;intro K ev
  go_simp
  refine ev.out _ _ (λ_=>?_) (λdI=>?_)
  ·exact⟨je cY.1,je cY.2.1,je cY.2.2.1,je cY.2.2.2.1,je cY.2.2.2.2.1,je cY.2.2.2.2.2⟩
  replace cY:=dI bk;clear ev K dI;(try simp only[Act.put,d_]);refine dq.one (i:=18) rfl (by kernel_rfl) ?_;intro K ev;refine Ql _ (by rfl) _ _ _ (by rfl) nE.heap.size 148 i0 _ 3 56 Tryz.underlying66 sn q5 DP DQ rfl ab (.slice none 0 0) 0 [] (by rfl) (World.ownsRow_nil _ _ _ _) (some ⟨nE.heap.size+1,0,none⟩) 1 1 [.string (gp bT 0).1,.string (gp bT 1).1,.slice (some ⟨nE.heap.size,0,none⟩) 2 2] (by rfl) (ku.two _ _ _ _ _) rfl (by simp[Value.oneCell']) ab (by unfold maxLen;omega) (Q7 _ _ _).size ?_;intro XH m2 aNs Dz DH yH Di;have k8:=QO.out.pre (Q7 _ _ _) yH;obtain⟨cn,ed,eX⟩:=wI k8;obtain⟨f0,f1,f2⟩:=Aa k8;have XU:=Lib.hid (And.intro Dz (And.intro DH (And.intro yH Di)));have gE:∀{p v},_->_:=λ{p v} (h:_)=>yH.cell (a:=p) (v:=v) h (by simp[Value.ownBlock]);clear Dz DH yH Di k8;refine ev.out _ _ (λ_=>?_) (λdI=>?_)
  ·exact⟨gE cY.1,gE cY.2.1,gE cY.2.2.1,gE cY.2.2.2.1,gE cY.2.2.2.2.1,gE cY.2.2.2.2.2⟩
  replace cY:=dI bk;clear ev K dI;(try simp only[Act.put,d_]);refine dq.dW 19 cY ?_;(try simp only[Act.put,d_]);refine dq.one (i:=20) rfl (by kernel_rfl) ?_;intro K ev
  go_simp
  refine ev.out _ _ (λh=>absurd rfl h) (λyw=>?_);clear ev K cY yw;(try simp only[Act.put,d_]);refine dq.done (by kernel_rfl) ?_ _;obtain⟨Dz,DH,yH,Di⟩:=XU.out;have IE:mV dS d0 w0 68 148 151 w0.heap.size gw.heap.size nE.heap.size #[.string ⟨#[]⟩,.slice none 0 0,.slice none 0 0] (.string fO.1) bT ts (.slice (some ⟨jU,k5,none⟩) e6 eR) u none 0 [] acf bY.2.1 nE:=
   ⟨vc.out.k,QO.out,vc.out.lu,vc.out.ri,ay,Nat.le_refl _,vc.out.ro,vc.out.ts⟩
  obtain⟨X8,JD⟩:∃p:gW,p=(gp bT 0,gp bT 1,cD [(db.1,bY.1.1.1,bY.1.1.2.1,bc.w .i64 1,()),(eS.1,bc.w .i64 0,S ⟨#[]⟩,bc.w .i64 0,())],()):=⟨_,rfl⟩;have alL:=IE.add (p:=X8) (b:=nE.heap.size) (Q7 _ _ _) (Nat.le_refl _) (aM5 _ _ _) (λ_=>by rw[JD];exact(jb.new nE.drew _ _).alloc _) yH (by rw[JD];exact DH) Di Dz;have amZ:=Lib.hid alL;have amR:=Lib.hid JD;have amG:=Lib.hid (show uI db.1 ts bT (e6-1-1) 1 bY.2.1=some (mF.1,mF.2) by rw[show e6-1-1=((e6:Int)-2).toNat by omega];exact XE.out);have aNJ:=Lib.hid k2;clear alL JD IE XU DH yH Di Dz cn ed eX f0 f1 f2 gE QO vc X1 k2
  go_wp2_with fail
  go_loopw [14] (λi wr=>∃(dV:Nat) (A:Option Addr) (c:Nat) (ck:List (Nat×gW)) (m:M) (d:kY oT) (done rest:List gW),i=.int .i64 (dV:Int)/\1<=dV/\dV+1<=e6/\ck.length=dV/\
   Hid (mV dS d0 w0 68 148 151 w0.heap.size gw.heap.size nE.heap.size #[.string ⟨#[]⟩,.slice none 0 0,.slice none 0 0] (.string fO.1) bT ts (.slice (some ⟨jU,k5,none⟩) e6 eR) u A c ck m d wr)/\
   Hid (ck.map (·.2)=X8::done)/\Hid (uI db.1 ts bT (e6-1-dV) dV d=some (rest,mF.2))/\Hid (done++rest=mF.1)) (λi _=>e6-(intOf i).toNat)
  case atStart=>exact⟨1,XH,m2,_,acf,bY.2.1,[],mF.1,rfl,Nat.le_refl _,ab,rfl,Lib.hid amZ.out,Lib.hid rfl,amG,Lib.hid rfl⟩
  case round=>
   obtain⟨dV,A,c,ck,m,d,done,rest,rfl,apY,So,hlen,dI,DI,DE,qn⟩:=hrel;have JX:ck.length=dV:=hlen;by_cases bn:dV+1<e6
   ·obtain⟨n,aA⟩:∃n,e6-1-dV=n+1:=⟨e6-2-dV,ab⟩;have tt:=DE.out;rw[aA,uI] at tt;obtain⟨xI,abq,aaR⟩:=Option.bind_eq_some_iff.1 tt;obtain⟨Qa,aa8,aaS⟩:=Option.bind_eq_some_iff.1 aaR;obtain⟨AG,DJ⟩:=Prod.mk.inj (eD aaS);obtain⟨PP,wV⟩:∃p:gW,p=(gp bT dV,gp bT (dV+1),cD [(db.1,xI.1.1.1,xI.1.1.2.1,bc.w .i64 ((dV+1:Nat):Int),())],()):=⟨_,rfl⟩;rw[<-wV] at AG;have QM:=Lib.hid wV;have amT:=Lib.hid AG;have amU:=Lib.hid DJ;have amW:=Lib.hid aa8;have amY:=Lib.hid abq;have amQ:=Lib.hid aA;have Dt:dV<bT.1.length:=by rw[u9.out];omega
    have Du:dV+1<bT.1.length:=by rw[u9.out];omega
    have p8:=Lib.hid (And.intro Dt Du);have p9:=Lib.hid (dI.out.below (Below.refl _ _).drew);have b6:dV<e6:=ab;have Z6:(dV:Int)<(e6:Int):=ab;have apr:(dV:Int)+1<(e6:Int):=ab;have apq:(0:Int)<=(dV:Int)+1:=ab;have Zz:IntKind.i64.wrap ((dV:Int)+1)=(dV:Int)+1:=IntWalk.i64_in _ ab;have aok:((dV:Int)+1).toNat=dV+1:=ab;have ph:=Lib.hid JX;clear tt aaR aaS AG DJ aa8 abq aA wV Dt Du dI JX hlen
    go_wp2_with fail
    refine dq.start (f:=27) (S:=λW=>W.cell? ⟨gw.heap.size,1,none⟩=some (.slice (some ⟨jU,k5,none⟩) e6 eR)/\W.cell? ⟨gw.heap.size,2,none⟩=some (.slice A dV c)/\W.cell? ⟨jU,k5+dV,none⟩=some (.string (gp bT dV).1)/\W.cell? ⟨jU,k5+(dV+1),none⟩=some (.string (gp bT (dV+1)).1)) (by kernel_rfl) (p9.out.held ph.out p8.out.1 p8.out.2) (λcY=>?_);refine dq.dW 0 cY ?_;(try simp only[Act.put,d_]);refine dq.dW 1 cY ?_;(try simp only[Act.put,d_]);refine dq.dW 2 cY ?_;(try simp only[Act.put,d_]);refine dq.dW 3 cY ?_;(try simp only[Act.put,d_]);refine dq.dW 4 cY ?_;(try simp only[Act.put,d_]);refine dq.dW 5 cY ?_;(try simp only[Act.put,d_]);refine dq.dW 6 cY ?_;(try simp only[Act.put,d_]);refine dq.dW 7 cY ?_;(try simp only[Act.put,d_]);refine dq.dW 8 cY ?_;(try simp only[Act.put,d_]);refine dq.dW 9 cY ?_;(try simp only[Act.put,d_]);refine dq.dW 10 cY ?_;(try simp only[Act.put,d_]);refine dq.dW 11 cY ?_;(try simp only[Act.put,d_]);refine dq.dW 12 cY ?_;(try simp only[Act.put,d_]);refine dq.dW 13 cY ?_;(try simp only[Act.put,d_]);refine dq.dW 14 cY ?_;(try simp only[Act.put,d_]);refine dq.dW 15 cY ?_;(try simp only[Act.put,d_]);refine dq.dW 17 cY ?_;(try simp only[Act.put,d_]);refine dq.dW 18 cY ?_;(try simp only[Act.put,d_]);refine dq.dW 19 cY ?_;(try simp only[Act.put,d_]);refine dq.dW 20 cY ?_;(try simp only[Act.put,d_]);refine dq.one (i:=16) rfl (by kernel_rfl) ?_;intro K ev
    go_simp
    go_at_call 238
    refine(anD p9.out.k XY.out ts p9.out.ts amY.out).mono ?_;rintro e p0 ⟨Tf,rfl,tB,DW⟩;have ru:=Lib.hid (p9.out.call tB DW);clear tB DW
    go_simp
    refine ev.out _ _ (λ_=>?_) (λdI=>?_)
    ·exact ru.out.held ph.out p8.out.1 p8.out.2
    replace cY:=dI bk;clear ev K dI;(try simp only[Act.put,d_]);refine dq.dW 21 cY ?_;(try simp only[Act.put,d_]);refine dq.one (i:=22) rfl (by kernel_rfl) ?_;intro K ev
    go_simp
    refine ev.out _ _ (λ_=>?_) (λdI=>?_)
    ·exact⟨je cY.1,je cY.2.1,je cY.2.2.1,je cY.2.2.2⟩
    replace cY:=dI bk;clear ev K dI;(try simp only[Act.put,d_]);refine dq.dW 23 cY ?_;(try simp only[Act.put,d_]);refine dq.one (i:=24) rfl (by kernel_rfl) ?_;intro K ev
    go_simp
    refine ev.out _ _ (λ_=>?_) (λdI=>?_)
    ·exact⟨je cY.1,je cY.2.1,je cY.2.2.1,je cY.2.2.2⟩
    replace cY:=dI bk;clear ev K dI;(try simp only[Act.put,d_]);refine dq.one (i:=25) rfl (by kernel_rfl) ?_;intro K ev;have tz:=λa p=>LV ru.out.jj.row (r5 p0 a p);rw[ph.out] at tz;refine Ql _ (by rfl) _ _ _ (by rfl) nE.heap.size 148 i0 _ 3 56 Tryz.underlying66 sn q5 DP DQ rfl ab (.slice A dV c) dV (ck.flatMap l1) (by rfl) (tz _ _) (some ⟨p0.heap.size+1,0,none⟩) 1 1 [.string (gp bT dV).1,.string (gp bT (dV+1)).1,.slice (some ⟨p0.heap.size,0,none⟩) 1 1] (by rfl) (ku.two _ _ _ _ _) rfl (by simp[Value.oneCell']) ab (by unfold maxLen;omega) (jd ru.out.jj.qp (r5 _ _ _).size) ?_;intro tR nF Xv oY o2 mb oU;have oE:=ru.out.jj.pre (r5 _ _ _) (by rw[ph.out];exact mb);rw[ph.out] at oE;obtain⟨cn,ed,eX⟩:=wI oE;obtain⟨f0,f1,f2⟩:=Aa oE;have eJ:=ru.out.ne (λe=>by have:=p8.out.1;rw[e] at this;simp at this);rw[<-vV A dV c] at eJ;have gE:=λ(o:Nat) v (h:_=some v)=>mb.cell (a:=⟨jU,o,none⟩) h eJ;have Cn:=Lib.hid (And.intro oY (And.intro o2 (And.intro mb oU)));clear oY o2 mb oU oE tz eJ;refine ev.out _ _ (λ_=>?_) (λdI=>?_)
    ·exact⟨ed,eX,gE _ _ cY.2.2.1,gE _ _ cY.2.2.2⟩
    replace cY:=dI bk;clear ev K dI;(try simp only[Act.put,d_]);refine dq.dW 26 cY ?_;(try simp only[Act.put,d_]);refine dq.one (i:=27) rfl (by kernel_rfl) ?_;intro K ev;clear gE
    go_simp
    refine ev.out _ _ (λh=>absurd rfl h) (λyw=>?_);clear ev K cY yw;(try simp only[Act.put,d_]);refine dq.done (by kernel_rfl) ?_ _
    go_wp2_with fail
    go_roundw
    case rel=>
     obtain⟨oY,o2,mb,oU⟩:=Cn.out;have aZ:=ph.out;subst aZ;have Sd:mJ PP=[.string db.1.1,.int .i64 xI.1.1.1.1,.string xI.1.1.2.1.1,.int .i64 ((ck.length:Int)+1)]:=by
      rw[QM.out];show[Value.string db.1.1,.int .i64 xI.1.1.1.1,.string xI.1.1.2.1.1,.int .i64 (bc.w .i64 ((ck.length+1:Nat):Int)).1]=_;rw[SX ab];rfl
     have xv:=ru.out.add (p:=PP) (b:=p0.heap.size) (r5 _ _ _) (Nat.le_refl _) (D0 _ _ _) (λ_=>by rw[Sd];exact(jb.new p0 _ _).alloc _) mb (by rw[Uc (by rw[QM.out];rfl),QM.out];exact o2) oU oY;have aA:=amQ.out;exact⟨ck.length+1,tR,nF,_,Tf,xI.2.1,done++[PP],Qa.1,rfl,ab,ab,by simp,Lib.hid xv,Lib.hid (by rw[List.map_append,DI.out];rfl),Lib.hid (by rw[show e6-1-(ck.length+1)=n by omega,amW.out,<-amU.out]),Lib.hid (by rw[<-qn.out,<-amT.out];simp)⟩
    case measure=>simp[intOf];omega
   ·have aaT:e6=dV+1:=ab;have a6:=DE.out;rw[show e6-1-dV=0 by omega,uI] at a6;obtain⟨aa5,yD⟩:=Prod.mk.inj (eD a6);have aa2:ck.map (·.2)=qz db.1 eS.1 bT bY.1.1 0::mF.1:=by
     rw[DI.out,<-qn.out,<-aa5,dr,amR.out];rfl
    have QU:=dI.out;rw[yD] at QU;have zV:=Lib.hid QU;have Iy:=Lib.hid aa2;have Z6:(dV:Int)<(e6:Int):=ab;have aOb:dV<e6:=ab;have aN0:IntKind.i64.wrap ((e6:Int)-1)=(dV:Int):=by rw[IntWalk.i64_in _ ab];omega
    have ph:=Lib.hid JX;have XX:=Lib.hid aaT;have oo:¬((dV:Int)+1<(e6:Int)):=ab;have Zz:IntKind.i64.wrap ((dV:Int)+1)=(dV:Int)+1:=IntWalk.i64_in _ ab;clear a6 aa5 yD QU aa2 dI DI DE qn JX hlen bn aaT
    go_upto_if 93 with fail
    go_cut [15] from 94 to 125 (λW8 Xz=>∃(A:Option Addr) (c:Nat) (cR:Nat) (a0:p4) (T:List (Nat×gW)) (m:M),T.length<=8/\
     Hid (mV dS d0 w0 68 148 151 w0.heap.size gw.heap.size nE.heap.size #[.string ⟨#[]⟩,.slice none 0 0,.slice none 0 0] (.string fO.1) bT ts (.slice (some ⟨jU,k5,none⟩) e6 eR) u A c ((cR,qS eS.1 bT a0 0)::T) m y.2.1 Xz)/\
     Hid (y.1.1=(fO,bT,cD ((qS eS.1 bT a0 ((T.length+1:Nat):Int)::T.map (·.2))++tE eS.1 bT (e6-2) 1 (T.length+1)++[tQ]),())))
    case first=>
     have sj:((e6:Int)-2).toNat=e6-2:=ab;rcases amH.out with⟨ai,cA,Yn,b7⟩|⟨ai,b7⟩
     ·obtain rfl:av=true:=by rw[<-XV.out,ai];rfl
      rw[sj] at b7;clear ai;have Cp:=Lib.hid b7;have amK:=Lib.hid (λm w (k:K dS d0 w0 m mF.2 w)=>Y9 k XY.out Yn);have p9:=Lib.hid (zV.out.below (Below.refl _ _).drew);have Ay:dV<bT.1.length:=by rw[u9.out];omega
      have aaC:0<bT.1.length:=by rw[u9.out];omega
      have p8:=Lib.hid (And.intro Ay aaC);clear b7 Yn sj Ay aaC
      go_wp2_with fail
      refine dq.start (f:=20) (S:=λW=>W.cell? ⟨gw.heap.size,1,none⟩=some (.slice (some ⟨jU,k5,none⟩) e6 eR)/\W.cell? ⟨gw.heap.size,2,none⟩=some (.slice A dV c)/\W.cell? ⟨jU,k5+dV,none⟩=some (.string (gp bT dV).1)/\W.cell? ⟨jU,k5,none⟩=some (.string (gp bT 0).1)) (by kernel_rfl) (p9.out.held ph.out p8.out.1 p8.out.2) (λcY=>?_);refine dq.dW 0 cY ?_;(try simp only[Act.put,d_]);refine dq.dW 1 cY ?_;(try simp only[Act.put,d_]);refine dq.dW 2 cY ?_;(try simp only[Act.put,d_]);refine dq.dW 3 cY ?_;(try simp only[Act.put,d_]);refine dq.dW 4 cY ?_;(try simp only[Act.put,d_]);refine dq.dW 5 cY ?_;(try simp only[Act.put,d_]);refine dq.dW 6 cY ?_;(try simp only[Act.put,d_]);refine dq.dW 7 cY ?_;(try simp only[Act.put,d_]);refine dq.dW 8 cY ?_;(try simp only[Act.put,d_]);refine dq.dW 9 cY ?_;(try simp only[Act.put,d_]);refine dq.dW 10 cY ?_;(try simp only[Act.put,d_]);refine dq.dW 11 cY ?_;(try simp only[Act.put,d_]);refine dq.dW 12 cY ?_;(try simp only[Act.put,d_]);refine dq.one (i:=13) rfl (by kernel_rfl) ?_;intro K ev
      go_simp
      go_at_call 237
      refine(amK.out _ _ p9.out.k).mono ?_;rintro e p0 ⟨Tf,rfl,tB,DW⟩;have ru:=Lib.hid (p9.out.call tB DW);clear tB DW
      go_simp
      refine ev.out _ _ (λ_=>?_) (λdI=>?_)
      ·exact ru.out.held ph.out p8.out.1 p8.out.2
      replace cY:=dI bk;clear ev K dI;(try simp only[Act.put,d_]);refine dq.dW 14 cY ?_;(try simp only[Act.put,d_]);refine dq.one (i:=15) rfl (by kernel_rfl) ?_;intro K ev
      go_simp
      refine ev.out _ _ (λ_=>?_) (λdI=>?_)
      ·exact⟨je cY.1,je cY.2.1,je cY.2.2.1,je cY.2.2.2⟩
      replace cY:=dI bk;clear ev K dI;(try simp only[Act.put,d_]);refine dq.dW 16 cY ?_;(try simp only[Act.put,d_]);refine dq.one (i:=17) rfl (by kernel_rfl) ?_;intro K ev
      go_simp
      refine ev.out _ _ (λ_=>?_) (λdI=>?_)
      ·exact⟨je cY.1,je cY.2.1,je cY.2.2.1,je cY.2.2.2⟩
      replace cY:=dI bk;clear ev K dI;(try simp only[Act.put,d_]);refine dq.one (i:=18) rfl (by kernel_rfl) ?_;intro K ev;have tz:=λa p=>LV ru.out.jj.row (r5 p0 a p);rw[ph.out] at tz;refine Ql _ (by rfl) _ _ _ (by rfl) nE.heap.size 148 i0 _ 3 56 Tryz.underlying66 sn q5 DP DQ rfl ab (.slice A dV c) dV (ck.flatMap l1) (by rfl) (tz _ _) (some ⟨p0.heap.size+1,0,none⟩) 1 1 [.string (gp bT dV).1,.string (gp bT 0).1,.slice (some ⟨p0.heap.size,0,none⟩) 1 1] (by rfl) (ku.two _ _ _ _ _) rfl (by simp[Value.oneCell']) ab (by unfold maxLen;omega) (jd ru.out.jj.qp (r5 _ _ _).size) ?_;intro tR nF Xv oY o2 mb oU;have oE:=ru.out.jj.pre (r5 _ _ _) (by rw[ph.out];exact mb);rw[ph.out] at oE;obtain⟨cn,ed,eX⟩:=wI oE;obtain⟨f0,f1,f2⟩:=Aa oE;have eJ:=ru.out.ne (λe=>by have:=p8.out.1;rw[e] at this;simp at this);rw[<-vV A dV c] at eJ;have gE:=λ(o:Nat) v (h:_=some v)=>mb.cell (a:=⟨jU,o,none⟩) h eJ;have Cn:=Lib.hid (And.intro oY (And.intro o2 (And.intro mb oU)));clear oY o2 mb oU oE tz eJ;refine ev.out _ _ (λ_=>?_) (λdI=>?_)
      ·exact⟨ed,eX,gE _ _ cY.2.2.1,gE _ _ cY.2.2.2⟩
      replace cY:=dI bk;clear ev K dI;(try simp only[Act.put,d_]);refine dq.dW 19 cY ?_;(try simp only[Act.put,d_]);refine dq.one (i:=20) rfl (by kernel_rfl) ?_;intro K ev;clear gE
      go_simp
      refine ev.out _ _ (λh=>absurd rfl h) (λyw=>?_);clear ev K cY yw;(try simp only[Act.put,d_]);refine dq.done (by kernel_rfl) ?_ _
      go_wp2_with fail
      go_meet
      obtain⟨oY,o2,mb,oU⟩:=Cn.out;have aZ:=ph.out;subst aZ;have hm:=XX.out;have xv:=ru.out.add (p:=(gp bT (e6-2+1),gp bT 0,cD [(S ⟨#[111,107]⟩,cA.1.1.1,cA.1.1.2.1,bc.w .i64 0,())],())) (b:=p0.heap.size) (r5 _ _ _) (Nat.le_refl _) (D0 _ _ _) (λ_=>(jb.new p0 _ _).alloc _) mb (by rw[Uc rfl,show e6-2+1=ck.length by omega];exact o2) oU oY;obtain⟨cR,a0,T,b6,ah⟩:=aMl db.1 eS.1 bT bY.1.1 (b:=p0.heap.size) (n8:=cA.1.1) Iy.out (e6-2);have cz:y.2.1=cA.2.1:=by rw[Cp.out]
      have bn:=congrArg List.length b6;rw[bl,gS,gS,bN] at bn;rw[b6,<-cz] at xv;exact⟨tR,nF,cR,a0,T,Tf,ab,Lib.hid xv,Lib.hid (by rw[Cp.out,ah])⟩
     ·obtain rfl:av=false:=by rw[<-XV.out];simpa using ai
      have hm:=XX.out;rw[sj] at b7;clear ai;have Cp:=Lib.hid b7;have eJ:ck≠[]:=λe=>by have:=ph.out;rw[e] at this;simp at this;omega
      obtain⟨dk,⟨iJ,pl⟩,w5⟩:∃dk e,ck=dk++[e]:=⟨ck.dropLast,ck.getLast eJ,(List.dropLast_concat_getLast eJ).symm⟩;clear eJ;subst w5;obtain⟨a,t,ju⟩:∃a t,pl.2.2.1.1=a::t:=by
       have Sz:pl∈qz db.1 eS.1 bT bY.1.1 0::mF.1:=by rw[<-Iy.out];simp
       rcases List.mem_cons.1 Sz with e|e
       ·rw[e];exact⟨_,_,rfl⟩
       ·obtain⟨a,h⟩:=aly XE.out pl e;exact⟨a,[],h⟩
      have hlen:dk.length+1=dV:=by have:=ph.out;simpa using this
      obtain⟨Db,dH,Ds⟩:=zV.out.jj.aaf (i:=dk.length) (e:=(iJ,pl)) (by simp);subst dH;have aaA:qn iJ pl=.slice (some ⟨iJ,0,none⟩) (t.length+1) (t.length+1):=by
       unfold qn;rw[if_neg (by rw[ju];simp),ju];rfl
      have fM:wr.cell? ⟨Db,dk.length*3+2,none⟩=some (.slice (some ⟨iJ,0,none⟩) (t.length+1) (t.length+1)):=by rw[<-aaA];exact Ds
      have ah:=(zV.out.jj.el (iJ,pl) (by simp)).2.2.2.2 (by rw[ju];simp);have bP:wr.cell? ⟨iJ,3,none⟩=some (.int .i64 a.2.2.2.1.1):=(ah.cell 3).trans (ang ju);have aaw:wr.frozen? ⟨iJ,3,none⟩=false:=ah.frozen 3;have nW:wr.cell? ⟨gw.heap.size,2,none⟩=some (.slice (some ⟨Db,0,none⟩) dV c):=by
       have:=zV.out.jj.nT.cell 2;rw[show(dk++[(iJ,pl)]).length=dV from ph.out] at this;exact this
      have aN1:IntKind.i64.wrap ((dV:Int)-1)=(dk.length:Int):=by rw[IntWalk.i64_in _ ab];omega
      have aC:(dk.length:Int)<(dV:Int):=ab;have aV:dk.length<dV:=ab;have Ix:=Lib.hid ju;have amN:=Lib.hid hlen;have amP:=Lib.hid hm;clear Ds aaA ah ju hlen b7 sj hm;have lW:0<t.length+1:=Nat.succ_pos _
      go_wp2_with fail
      go_meet
      have s:=zV.out.Qe (dk:=dk) (dg:=[]) (p':=p1 pl) (j:=3) (v:=.int .i64 0) (by rw[Ix.out];simp) (aNz Ix.out) rfl rfl (by rw[amC Ix.out,Ix.out];rfl);obtain⟨cR,a0,T,b6,ah⟩:=aMj db.1 eS.1 bT bY.1.1 Iy.out (e6-2);have cz:y.2.1=mF.2:=by rw[Cp.out]
      have bn:=congrArg List.length b6;have DC:=amN.out;have hm:=amP.out;rw[bl,gS,gS,bN] at bn;rw[b6,<-cz] at s;exact⟨_,c,cR,a0,T,m,ab,Lib.hid s,Lib.hid (by rw[Cp.out,ah])⟩
    case rest=>
     obtain⟨A,c,cR,a0,T,m,apo,De,Z7⟩:=hcut;obtain⟨xa,JP⟩:∃k,k=T.length+1:=⟨_,rfl⟩;rw[<-JP] at Z7;obtain⟨Db,dH,Ds⟩:=De.out.jj.aaf (i:=0) (e:=(cR,qS eS.1 bT a0 0)) rfl;subst dH;have fM:wc.cell? ⟨Db,2,none⟩=some (.slice (some ⟨cR,0,none⟩) 2 2):=Ds;have ah:=(De.out.jj.el (cR,qS eS.1 bT a0 0) mY).2.2.2.2 (by intro e;cases e);have g9:wc.cell? ⟨cR,7,none⟩=some (.int .i64 0):=(ah.cell 7).trans aoR;have aOk:wc.frozen? ⟨cR,7,none⟩=false:=ah.frozen 7;have nW:wc.cell? ⟨gw.heap.size,2,none⟩=some (.slice (some ⟨Db,0,none⟩) xa c):=by
      have:=De.out.jj.nT.cell 2;rw[show((cR,qS eS.1 bT a0 0)::T).length=xa by rw[gS,JP]] at this;exact this
     have W8:=mV.Qe (dk:=[]) (dg:=T) (p':=qS eS.1 bT a0 (xa:Int)) (j:=7) (v:=.int .i64 (xa:Int)) De.out (by intro e;cases e) (aoS ab) rfl rfl rfl;have am0:=Lib.hid W8;have XW:=Lib.hid JP;have aaH:0<xa:=ab;have aOo:xa<=9:=ab;clear W8 ah De JP apo zV Iy Ds
     go_wp2_with fail
     go_loopw [17] (λi wr=>∃(dV:Nat) (A:Option Addr) (c:Nat) (ck:List (Nat×gW)) (m:M),i=.int .i64 (dV:Int)/\1<=dV/\dV+1<=e6/\ck.length+(e6-dV)<=20/\
      Hid (mV dS d0 w0 68 148 151 w0.heap.size gw.heap.size nE.heap.size #[.string ⟨#[]⟩,.slice none 0 0,.slice none 0 0] (.string fO.1) bT ts (.slice (some ⟨jU,k5,none⟩) e6 eR) u A c ck m y.2.1 wr)/\
      Hid (ck.map (·.2)++tE eS.1 bT (e6-1-dV) dV ck.length=(qS eS.1 bT a0 (xa:Int)::T.map (·.2))++tE eS.1 bT (e6-2) 1 xa)) (λi _=>e6-(intOf i).toNat)
     case atStart=>exact⟨1,_,c,_,m,rfl,Nat.le_refl _,ab,by have:=XW.out;rw[bl,gS,bN];omega,am0,Lib.hid (by rw[List.nil_append,List.map_cons,gS,XW.out,show e6-1-1=e6-2 by omega])⟩
     case round=>
      obtain⟨dV,A,c,ck,m,rfl,apY,So,hlen,dI,fl⟩:=hrel;obtain⟨tH,yM⟩:∃k,ck.length=k:=⟨_,rfl⟩;have Co:=Lib.hid yM;have aO4:tH<=20:=ab;have aO5:tH+(e6-dV)<=20:=ab;have Zz:IntKind.i64.wrap ((dV:Int)+1)=(dV:Int)+1:=IntWalk.i64_in _ ab;by_cases bn:dV+1<e6
      ·have Dt:dV<bT.1.length:=by rw[u9.out];omega
       have Du:dV+1<bT.1.length:=by rw[u9.out];omega
       have p8:=Lib.hid (And.intro Dt Du);have p9:=Lib.hid (dI.out.below (Below.refl _ _).drew);have b6:dV<e6:=ab;have Z6:(dV:Int)<(e6:Int):=ab;have apr:(dV:Int)+1<(e6:Int):=ab;have apq:(0:Int)<=(dV:Int)+1:=ab;have aok:((dV:Int)+1).toNat=dV+1:=ab;have aN2:IntKind.i64.wrap ((tH:Int)+1)=(tH:Int)+1:=IntWalk.i64_in _ ab;clear Dt Du dI yM hlen oo
       go_wp2_with fail
       refine dq.start (f:=24) (S:=λW=>W.cell? ⟨gw.heap.size,1,none⟩=some (.slice (some ⟨jU,k5,none⟩) e6 eR)/\W.cell? ⟨gw.heap.size,2,none⟩=some (.slice A tH c)/\W.cell? ⟨jU,k5+dV,none⟩=some (.string (gp bT dV).1)/\W.cell? ⟨jU,k5+(dV+1),none⟩=some (.string (gp bT (dV+1)).1)) (by kernel_rfl) (p9.out.held Co.out p8.out.1 p8.out.2) (λcY=>?_);refine dq.dW 0 cY ?_;(try simp only[Act.put,d_]);refine dq.dW 1 cY ?_;(try simp only[Act.put,d_]);refine dq.dW 2 cY ?_;(try simp only[Act.put,d_]);refine dq.dW 3 cY ?_;(try simp only[Act.put,d_]);refine dq.dW 4 cY ?_;(try simp only[Act.put,d_]);refine dq.dW 5 cY ?_;(try simp only[Act.put,d_]);refine dq.dW 6 cY ?_;(try simp only[Act.put,d_]);refine dq.dW 7 cY ?_;(try simp only[Act.put,d_]);refine dq.dW 8 cY ?_;(try simp only[Act.put,d_]);refine dq.dW 9 cY ?_;(try simp only[Act.put,d_]);refine dq.dW 10 cY ?_;(try simp only[Act.put,d_]);refine dq.dW 11 cY ?_;(try simp only[Act.put,d_]);refine dq.dW 12 cY ?_;(try simp only[Act.put,d_]);refine dq.dW 13 cY ?_;(try simp only[Act.put,d_]);refine dq.dW 14 cY ?_;(try simp only[Act.put,d_]);refine dq.dW 15 cY ?_;(try simp only[Act.put,d_]);refine dq.dW 16 cY ?_;(try simp only[Act.put,d_]);refine dq.dW 17 cY ?_;(try simp only[Act.put,d_]);refine dq.dW 18 cY ?_;(try simp only[Act.put,d_]);refine dq.one (i:=19) rfl (by kernel_rfl) ?_;intro K ev
       go_simp
       refine ev.out _ _ (λ_=>?_) (λdI=>?_)
       ·exact⟨je cY.1,je cY.2.1,je cY.2.2.1,je cY.2.2.2⟩
       replace cY:=dI bk;clear ev K dI;(try simp only[Act.put,d_]);refine dq.dW 20 cY ?_;(try simp only[Act.put,d_]);refine dq.one (i:=21) rfl (by kernel_rfl) ?_;intro K ev
       go_simp
       refine ev.out _ _ (λ_=>?_) (λdI=>?_)
       ·exact⟨je cY.1,je cY.2.1,je cY.2.2.1,je cY.2.2.2⟩
       replace cY:=dI bk;clear ev K dI;(try simp only[Act.put,d_]);refine dq.one (i:=22) rfl (by kernel_rfl) ?_;intro K ev;have tz:=λa p=>LV p9.out.jj.row (r5 _ a p);rw[Co.out] at tz;refine Ql _ (by rfl) _ _ _ (by rfl) nE.heap.size 148 i0 _ 3 56 Tryz.underlying66 sn q5 DP DQ rfl ab (.slice A tH c) tH (ck.flatMap l1) (by rfl) (tz _ _) (some ⟨wr.heap.size+1,0,none⟩) 1 1 [.string (gp bT dV).1,.string (gp bT (dV+1)).1,.slice (some ⟨wr.heap.size,0,none⟩) 1 1] (by rfl) (ku.two _ _ _ _ _) rfl (by simp[Value.oneCell']) ab (by unfold maxLen;omega) (jd p9.out.jj.qp (r5 _ _ _).size) ?_;intro tR nF Xv oY o2 mb oU;have oE:=p9.out.jj.pre (r5 _ _ _) (by rw[Co.out];exact mb);rw[Co.out] at oE;obtain⟨cn,ed,eX⟩:=wI oE;obtain⟨f0,f1,f2⟩:=Aa oE;have eJ:=p9.out.ne (λe=>by have:=p8.out.1;rw[e] at this;simp at this);rw[<-vV A tH c] at eJ;have gE:=λ(o:Nat) v (h:_=some v)=>mb.cell (a:=⟨jU,o,none⟩) h eJ;have Cn:=Lib.hid (And.intro oY (And.intro o2 (And.intro mb oU)));clear oY o2 mb oU oE tz eJ;refine ev.out _ _ (λ_=>?_) (λdI=>?_)
       ·exact⟨ed,eX,gE _ _ cY.2.2.1,gE _ _ cY.2.2.2⟩
       replace cY:=dI bk;clear ev K dI;(try simp only[Act.put,d_]);refine dq.dW 23 cY ?_;(try simp only[Act.put,d_]);refine dq.one (i:=24) rfl (by kernel_rfl) ?_;intro K ev;clear gE
       go_simp
       refine ev.out _ _ (λh=>absurd rfl h) (λyw=>?_);clear ev K cY yw;(try simp only[Act.put,d_]);refine dq.done (by kernel_rfl) ?_ _
       go_wp2_with fail
       go_roundw
       case rel=>
        obtain⟨oY,o2,mb,oU⟩:=Cn.out;have aZ:=Co.out;subst aZ;obtain⟨PP,wV⟩:∃p:gW,p=(gp bT dV,gp bT (dV+1),cD [(eS.1,bc.w .i64 0,S ⟨#[]⟩,bc.w .i64 ((ck.length+1:Nat):Int),())],()):=⟨_,rfl⟩;have Sd:mJ PP=[.string eS.1.1,.int .i64 0,.string ⟨#[]⟩,.int .i64 ((ck.length:Int)+1)]:=by
         rw[wV];show[Value.string eS.1.1,.int .i64 0,.string ⟨#[]⟩,.int .i64 (bc.w .i64 ((ck.length+1:Nat):Int)).1]=_;rw[SX ab];rfl
        have xv:=p9.out.add (p:=PP) (b:=wr.heap.size) (r5 _ _ _) (Nat.le_refl _) (D0 _ _ _) (λ_=>by rw[Sd];exact(jb.new wr.drew _ _).alloc _) mb (by rw[Uc (by rw[wV];rfl),wV];exact o2) oU oY;obtain⟨n,aA⟩:∃n,e6-1-dV=n+1:=⟨e6-2-dV,ab⟩;refine⟨dV+1,tR,nF,_,m,rfl,ab,ab,by rw[bl,gS,bN];omega,Lib.hid xv,Lib.hid ?_⟩;rw[<-fl.out,aA,tE,show e6-1-(dV+1)=n by omega,List.map_append,bl,wV];simp
       case measure=>simp[intOf];omega
      ·subst yM;have m7:wr.cell? ⟨gw.heap.size,2,none⟩=some (.slice A ck.length c):=dI.out.jj.nT.cell 2;have amV:=Lib.hid (λo=>LV dI.out.jj.row (IU wr o));have sg:=Lib.hid (λo=>jd dI.out.jj.qp (IU wr o).size);have amO:=Lib.hid bn;have aO3:¬((dV:Int)+1<(e6:Int)):=ab;have amM:=Lib.hid (λ(eW:Option Addr) (c':Nat) (gw:World) o (cm:(wr.alloc o).grownBy gw (Value.slice A ck.length c).ownBlock) (q3:gw.ownsRow nE.heap.size 148 3 (.slice eW (ck.length+1) c') (ck.length+1) (ck.flatMap l1++[.string ⟨#[]⟩,.string ⟨#[]⟩,.slice none 0 0])) ju hle=>
        dI.out.add (p:=tQ) (b:=wr.heap.size) (eW:=eW) (c':=c') (IU wr o) (Nat.le_refl _) (by rw[World.size_alloc];omega) (λh=>absurd rfl h) cm (by rw[ax1];exact q3) ju hle)
       have amS:=Lib.hid (λ(gw:World) o (cm:(wr.alloc o).grownBy gw (Value.slice A ck.length c).ownBlock)=>dI.out.jj.pre (IU wr o) cm);clear hlen bn
       go_wp2_with (at_builtin;refine ams _ rfl _ _ _ rfl nE.heap.size 148 i0 _ 3 56 Tryz.underlying66 sn q5 DP DQ rfl ab (.slice A ck.length c) ck.length (ck.flatMap l1) rfl (amV.out _) (some ⟨wr.heap.size,0,none⟩) 1 1 [.string ⟨#[]⟩,.string ⟨#[]⟩,.slice none 0 0] rfl (ku.new wr #[.string ⟨#[]⟩,.string ⟨#[]⟩,.slice none 0 0] 148) rfl (by simp[Value.oneCell']) ab (by unfold maxLen;omega) (sg.out _) ?_;intro tR nF Xv oY o2 mb oU;have oE:=amS.out _ _ mb;obtain⟨cn,ed,eX⟩:=wI oE;obtain⟨f0,f1,f2⟩:=Aa oE;have xw:=amM.out _ _ _ _ mb o2 oU oY;have A8:=xw.jj.nT;rw[bl,gS,bN,fW] at A8;obtain⟨tL,cr,cI⟩:=wI A8;obtain⟨E7,fQ,eQ⟩:=wI xw.lu;obtain⟨jX,aG,aN⟩:=Aa xw.lu;have Yd:=Lib.hid xw;clear xw A8 oE oY o2 mb oU)
       have lu:=((Yd.out.lu.H_ 0 (.string fO.1)).H_ 1 (.slice (some ⟨jU,k5,none⟩) e6 eR)).H_ 2 (.slice tR (ck.length+1) nF);have qu:=lu.cell 0;have bA:=lu.cell 1;have bI:=lu.cell 2;clear lu E7 fQ eQ jX aG aN tL cr cI cn ed eX f0 f1 f2;refine bodyPost_ret (v:=.agg #[.string fO.1,.slice (some ⟨jU,k5,none⟩) e6 eR,.slice tR (ck.length+1) nF]) (by simp[results,Tryz.results193,go_sem,qu,bA,bI]) rfl ?_;have ai:=amO.out;have ay:=fl.out;rw[show e6-1-dV=0 by omega,tE,dr] at ay;have b7:=Z7.out;rw[<-ay] at b7;have aZ:y.1.1.2.2.1.1=(ck++[(wr.heap.size,tQ)]).map (·.2):=by
        rw[b7];show(cD (ck.map (·.2)++[tQ])).1=_;rw[fI (by rw[bl,List.length_map,List.length_singleton];omega),List.map_append];rfl
       have s:=Yd.out;obtain⟨m',ex,cv,dl,zz⟩:=s.jj.done s.k (by have:=s.a6;have:=s.dY;omega) y.1.1.2.2.1 aZ;rw[bl,gS,bN,fW] at dl;refine⟨m',.slice (some ⟨jU,k5,none⟩) e6 eR,.slice tR (ck.length+1) nF,by rw[b7],K.end dS d0 w0 cv (zz _ (by have:=s.dY;have:=s.jj.ay;omega) s.ri) s.a6 _ _ _,?_,dl⟩;have:=s.ro.ext ex.fz;rw[b7];exact this
theorem atk:tZ Tryz.prog 193 ⟨D9,D_,zh⟩:=by
 intro x y cm m w vs bf fS aL;obtain⟨aMg⟩:=aMk cm;obtain⟨⟨Qs,fO,many,ts,j3⟩,d0,kW⟩:=x
 match vs,aL with
 |⟨[a0,dM,di,gL]⟩,⟨⟨r,aO,gv⟩,aD,aQ,bO,_⟩=>
  have gv:a0=.pointer (some ⟨r,0,none⟩):=gv;have aD:dM=.string fO.1:=aD;have aQ:di=.int .i64 many.1:=aQ;subst gv aD aQ;refine⟨aoh (f:=193) (fn:=qh 193) (c:=pE 193) (by kernel_rfl) (by kernel_rfl) (by kernel_rfl) _ _,(aMm fO many ts aMg bf aO bO.1).mono ?_⟩;rintro ex w' ⟨m',v1,v2,rfl,k,aa,af⟩;refine⟨m',nH y.2.1,[.agg #[.string y.1.1.1.1,v1,v2]],rfl,k.st,k.aO,?_⟩;exact RR (vs:=[.agg [.str y.1.1.1,.row [.str] y.1.1.2.1 .no,.row fi y.1.1.2.2.1 .no]]) k.aO rfl ⟨⟨_,rfl,rfl,⟨aa,trivial⟩,⟨af,trivial⟩,trivial⟩,trivial⟩
open bC (T)
set_option maxRecDepth 100000
theorem asK:bw 157 Kz:=bD ⟨.nil,[aI q_,aI acB,aI atk]⟩ [] []
theorem asQ:bw 107 D5:=bD ⟨(put .nil 7 .bW),[aI Wi,aI asK,aI acB]⟩ [] []
noncomputable def acz:dn:=⟨(put .nil 1 .bW),[]⟩
theorem asV:bZ 109 0 KC:=b9 acz [] []
theorem asY:bw 109 KB:=bD acz [b8 asV] []
theorem asN:bw 53 KA:=bD ⟨(put (put .nil 3 .bW) 8 .tok),[aI asQ,aI q_,aI asY]⟩ [] []
theorem Kt:bw 112 zc:=bD ⟨(put .nil 2 .bW),[]⟩ [] []
theorem xe:bw 115 nP:=bD fj [] []
theorem A0:bw 118 sC:=bD fj [] []
theorem A1:bw 119 rL:=bD ⟨.nil,[aI A0]⟩ [] []
theorem ac_:bw 164 AY:=bD ⟨.nil,[aI xe,aI A0,aI A1]⟩ [] []
theorem Ed:bw 170 uK:=bD ⟨(put .nil 3 .bW),[]⟩ [] []
theorem zk:bw 117 rK:=bD ⟨.nil,[aI Ed]⟩ [] []
theorem zj:bw 116 qx:=bD ⟨.nil,[aI Ed]⟩ [] []
theorem KK:bw 167 tF:=bD ⟨.nil,[aI Ed]⟩ [] []
theorem atF:bw 206 KO:=bD ⟨.nil,[aI zj,aI zk,aI KK]⟩ [] []
theorem atl:bw 165 KJ:=bD ⟨.nil,[aI xe,aI zj,aI zk,aI A0,aI ac_,aI KK,aI atF]⟩ [] []
theorem ada:bw 169 Eb:=bD ⟨.nil,[aI ah6]⟩ [] []
theorem atY:bZ 208 1 KS:=b9 fj [] []
theorem atW:bZ 208 0 KR:=b9 fj [b8 atY] []
theorem adx:bw 208 Ee:=bD fj [b8 atW] []
theorem atT:bw 207 KQ:=bD ⟨(put (put .nil 5 .bW) 8 .bW),[aI q_,aI Kt,aI xe,aI zj,aI zk,aI A1,aI adx]⟩ [] []
noncomputable def adp:dn:=⟨(put .nil 4 .bW),[aI q_,aI Kt,aI xe,aI zk,aI A1,aI ada]⟩
theorem atJ:bZ 114 0 KP:=b9 adp [] []
theorem ado:bw 114 Ec:=bD adp [b8 atJ] []
theorem atx:bw 209 KL:=bD ⟨.nil,[aI q_,aI zj,aI zk,aI KK,aI Ed,aI ah6]⟩ [] []
abbrev zi:={g:U o6->Option (U ra)//bw 113 g}
noncomputable def atN (r:zi):dn:=⟨(put (put (put .nil 10 .bW) 11 .bW) 13 .bW),[aI r.2,aI ado,aI xe,aI zj,aI A1,aI adx,aI atx]⟩
theorem atM:∀r:zi,bw 168 (AZ r.1):=Al atN (λr=>[]) []
noncomputable def adj (r:zi):dn:=⟨(put (put .nil 6 .bW) 11 .bW),[aI q_,aI r.2,aI xe,aI A0,aI A1,aI ada,aI Ed,aI atT]⟩
theorem atA:∀r:zi,bZ 166 0 (KN r.1):=ab' adj (λr=>[]) [.c 11 adh adg]
theorem atC:∀r:zi,bw 166 (KM r.1):=Al adj (λr=>[b8 (atA r)]) []
noncomputable def atr (r:zi):dn:=⟨(put .nil 6 .bW),[aI q_,aI xe,aI zj,aI zk,aI A0,aI ac_,aI atl,aI (atC r),aI KK,aI (atM r)]⟩
theorem atn:∀r:zi,bw 113 (AX r.1):=Al atr (λr=>[]) [.c 8 ac2 ac1,.c 12 ac4 ac3,.c 20 ac7 ac6]
theorem ato (n:Nat):bw 113 (xg n):=by
 induction n with
 |zero=>exactλx y h=>by cases h
 |succ n cj=>exact atn ⟨xg n,cj⟩
theorem atq:bw 113 Tl:=ato pg
theorem ath:bw 55 KI:=bD ⟨(put .nil 8 .bW),[aI q_,aI Kt,aI atq]⟩ [] []
noncomputable def acR:dn:=⟨(put .nil 8 .bW),[aI q_,aI Kt,aI ado,aI xe,aI zj,aI zk,aI A0,aI A1]⟩
theorem atc:bZ 56 0 KH:=b9 acR [] [.c 17 acP acO]
theorem ate:bw 56 KG:=bD acR [b8 atc] []
noncomputable def Ti:dn:=⟨.nil,[aI asy,aI asN,aI Wi,aI ath,aI ate]⟩
theorem asE:bZ 25 1 Kx:=b9 Ti [] []
theorem asC:bZ 25 0 Kw:=b9 Ti [b8 asE] []
theorem asH:bw 25 Kv:=bD Ti [b8 asC] []
theorem asT:bw 26 acx:=λx y h=>by cases h
theorem axP:bw 8 L4:=bD ⟨.nil,[aI asH,aI asT]⟩ [] []
theorem axL:bw 7 L2:=bD ⟨(put (put .nil 1 .bW) 4 .bW),[aI aEd]⟩ [] []
theorem agc:bw 15 zy:=bD fj [] []
theorem axS:bw 59 L5:=bD ⟨(put (put (put (put (put .nil 3 .bW) 11 (.arr [false])) 15 (.arr [false,false,false])) 19 (.arr [false,false,false])) 86 (.arr [false])),[]⟩ [] []
theorem axU:bw 27 L6:=bD ⟨(put (put .nil 3 .bW) 21 (.arr [false,false,false,false,false,false,false,false,false])),[aI agc,aI axS]⟩ [] [.c 11 T' T_]
theorem axI:bw 9 L1:=bD ⟨(put (put .nil 3 .bW) 21 (.arr nJ)),[aI agc,aI axU]⟩ [] []
def adQ:=aH [(0,au)]
def auu:=aH [(0,a_)]
def TH:a4:=⟨[(3,uD),(4,.tok [.int .u8] 0 [])],[.bG [.int .u8]]⟩
def aut:bE:=[((.exit 0),⟨[(3,uD),(4,.tok [.int .u8] 1 [])],[.gone,.bG [.int .u8]]⟩)]
def K5 (x:U TH):Option (U TH⊕bq aut):=cond (fN (bc.w .u64 128) x.1.1) ((c8 1 x.1.2.1 (cD [((rH (eN .u8 x.1.1) (bc.w .u8 128)),())])).bind λbT=>(rI x.1.1 (bc.w .u64 7)).bind λv4=>some (.inl ((v4,bT,()),((),())))) (some (.inr ((x.1.1,x.1.2.1,()),((),(),()))))
def zu (x:U adQ):Option (U auu):=(AR (eN .u64 x.1.1) (bc.w .u64 1)).bind λv1=>(rI x.1.1 (bc.w .u64 63)).bind λv2=>(a3 K5 (((q7 v1 (eN .u64 v2)),L.nil,()),((),()))).bind λa5=>(c8 1 a5.1.2.1 (cD [((eN .u8 a5.1.1),())])).bind λmN=>some (((py mN),()),())
def afL:a4:=⟨[(0,cC),(1,au)],lQ⟩
def axe:a4:=⟨[],lP⟩
def EX (x:U afL):Option (U axe):=(zu ((x.1.2.1,()),())).bind λaz=>(s6 az.1.1).bind λdg=>(c8 1 x.2.1.1 dg).bind λbT=>some ((),((bT,()),(),(),()))
def afI:a4:=⟨[(0,cC),(1,au)],lQ⟩
def aw9:a4:=⟨[],lP⟩
def lF (x:U afI):Option (U aw9):=(EX (((),x.1.2.1,()),((x.2.1.1,()),(),()))).bind λaz=>some ((),((az.2.1.1,()),(),(),()))
def afR:a4:=⟨[(0,cC),(1,a_)],lQ⟩
def axo:a4:=⟨[],lP⟩
def o8 (x:U afR):Option (U axo):=(lF (((),(mO x.1.2.1),()),((x.2.1.1,()),(),()))).bind λaz=>(s6 x.1.2.1).bind λdg=>(c8 1 az.2.1.1 dg).bind λbT=>some ((),((bT,()),(),(),()))
def aeE:a4:=⟨[(0,cC),(1,aB cl),(2,.fn 61 [(0,0)] [])],lQ⟩
def avv:a4:=⟨[],lP⟩
def aeD:a4:=⟨[(2,.fn 61 [(0,0)] []),(12,aB cl),(13,au),(14,au)],lQ⟩
def avt:bE:=[((.exit 0),⟨[],lP⟩)]
def EE (x:U aeD):Option (U aeD⊕bq avt):=cond (bh x.1.2.2.2.1 x.1.2.2.1) ((aX x.1.2.1 (x.1.2.2.2.1).1).bind λaQ=>(o8 (((),aQ.1,()),((x.2.1.1,()),(),()))).bind λaT=>some (.inl (((),x.1.2.1,x.1.2.2.1,(bj x.1.2.2.2.1 (W 1)),()),((aT.2.1.1,()),(),())))) (some (.inr ((),((x.2.1.1,()),(),(),()))))
def Lj (x:U aeE):Option (U avv):=(lF (((),(ba x.1.2.1),()),((x.2.1.1,()),(),()))).bind λaz=>(a3 EE (((),x.1.2.1,(ba x.1.2.1),(W 0),()),((az.2.1.1,()),(),()))).bind λaY=>some ((),((aY.2.1.1,()),(),(),()))
def afC:a4:=⟨[(0,cC),(1,.agg ig)],lQ⟩
def awZ:a4:=⟨[],lP⟩
def EW (x:U afC):Option (U awZ):=(lF (((),x.1.2.1.1,()),((x.2.1.1,()),(),()))).bind λaz=>(o8 (((),x.1.2.1.2.1,()),((az.2.1.1,()),(),()))).bind λaF=>some ((),((aF.2.1.1,()),(),(),()))
def afB:a4:=⟨[(0,cC),(1,.agg dR)],lQ⟩
def awX:a4:=⟨[],lP⟩
def LF (x:U afB):Option (U awX):=(o8 (((),x.1.2.1.1,()),((x.2.1.1,()),(),()))).bind λaz=>(EW (((),(x.1.2.1.2.1,x.1.2.1.2.2.1,()),()),((az.2.1.1,()),(),()))).bind λaF=>(lF (((),x.1.2.1.2.2.2.1,()),((aF.2.1.1,()),(),()))).bind λaT=>some ((),((aT.2.1.1,()),(),(),()))
def ad5:a4:=⟨[(0,cC),(1,aB dR),(2,.fn 66 [(0,0)] [])],lQ⟩
def auH:a4:=⟨[],lP⟩
def ad4:a4:=⟨[(2,.fn 66 [(0,0)] []),(12,aB dR),(13,au),(14,au)],lQ⟩
def auG:bE:=[((.exit 0),⟨[],lP⟩)]
def Es (x:U ad4):Option (U ad4⊕bq auG):=cond (bh x.1.2.2.2.1 x.1.2.2.1) ((aX x.1.2.1 (x.1.2.2.2.1).1).bind λaQ=>(LF (((),aQ,()),((x.2.1.1,()),(),()))).bind λaT=>some (.inl (((),x.1.2.1,x.1.2.2.1,(bj x.1.2.2.2.1 (W 1)),()),((aT.2.1.1,()),(),())))) (some (.inr ((),((x.2.1.1,()),(),(),()))))
def Er (x:U ad5):Option (U auH):=(lF (((),(ba x.1.2.1),()),((x.2.1.1,()),(),()))).bind λaz=>(a3 Es (((),x.1.2.1,(ba x.1.2.1),(W 0),()),((az.2.1.1,()),(),()))).bind λaY=>some ((),((aY.2.1.1,()),(),(),()))
def afP:a4:=⟨[(0,.agg fi),(1,cC)],wH⟩
def axj:a4:=⟨[],wG⟩
def LN (x:U afP):Option (U axj):=(o8 (((),x.1.1.1,()),((x.2.2.1.1,()),(),()))).bind λaz=>(o8 (((),x.1.1.2.1,()),((az.2.1.1,()),(),()))).bind λaF=>(Er (((),x.1.1.2.2.1,(),()),((aF.2.1.1,()),(),()))).bind λaT=>some ((),(((),()),(aT.2.1.1,()),(),(),()))
def aeq:a4:=⟨[(0,cC),(1,aB fi),(2,.fn 64 [] [(2,0)])],IX⟩
def avd:a4:=⟨[],IW⟩
def aep:a4:=⟨[(2,.fn 64 [] [(0,0)]),(12,aB fi),(13,au),(14,au)],wH⟩
def avb:bE:=[((.exit 0),⟨[],wG⟩)]
def Ez (x:U aep):Option (U aep⊕bq avb):=cond (bh x.1.2.2.2.1 x.1.2.2.1) ((aX x.1.2.1 (x.1.2.2.2.1).1).bind λaQ=>(LN ((aQ,(),()),(((),()),(x.2.2.1.1,()),(),()))).bind λaT=>some (.inl (((),x.1.2.1,x.1.2.2.1,(bj x.1.2.2.2.1 (W 1)),()),(((),()),(aT.2.2.1.1,()),(),())))) (some (.inr ((),(((),()),(x.2.2.1.1,()),(),(),()))))
def Lg (x:U aeq):Option (U avd):=(lF (((),(ba x.1.2.1),()),((x.2.1.1,()),(),()))).bind λaz=>(a3 Ez (((),x.1.2.1,(ba x.1.2.1),(W 0),()),(((),()),(az.2.1.1,()),(),()))).bind λaY=>some ((),((aY.2.2.1.1,()),(),((),()),(),()))
def afQ:a4:=⟨[(0,cC),(1,.agg dE)],lQ⟩
def axm:a4:=⟨[],lP⟩
def LM (x:U afQ):Option (U axm):=(o8 (((),x.1.2.1.1,()),((x.2.1.1,()),(),()))).bind λaz=>(Lj (((),x.1.2.1.2.1,(),()),((az.2.1.1,()),(),()))).bind λaF=>(Lg (((),x.1.2.1.2.2.1,(),()),((aF.2.1.1,()),(),((),()),()))).bind λaT=>some ((),((aT.2.1.1,()),(),(),()))
def aet:a4:=⟨[(0,cC),(1,aB dE),(2,.fn 29 [(0,0)] [])],lQ⟩
def avi:a4:=⟨[],lP⟩
def aes:a4:=⟨[(2,.fn 29 [(0,0)] []),(12,aB dE),(13,au),(14,au)],lQ⟩
def avg:bE:=[((.exit 0),⟨[],lP⟩)]
def EA (x:U aes):Option (U aes⊕bq avg):=cond (bh x.1.2.2.2.1 x.1.2.2.1) ((aX x.1.2.1 (x.1.2.2.2.1).1).bind λaQ=>(LM (((),aQ,()),((x.2.1.1,()),(),()))).bind λaT=>some (.inl (((),x.1.2.1,x.1.2.2.1,(bj x.1.2.2.2.1 (W 1)),()),((aT.2.1.1,()),(),())))) (some (.inr ((),((x.2.1.1,()),(),(),()))))
def Lh (x:U aet):Option (U avi):=(lF (((),(ba x.1.2.1),()),((x.2.1.1,()),(),()))).bind λaz=>(a3 EA (((),x.1.2.1,(ba x.1.2.1),(W 0),()),((az.2.1.1,()),(),()))).bind λaY=>some ((),((aY.2.1.1,()),(),(),()))
def afJ:a4:=⟨[(0,.agg fZ),(1,cC)],wH⟩
def aw':a4:=⟨[],wG⟩
def LK (x:U afJ):Option (U aw'):=(lF (((),x.1.1.1,()),((x.2.2.1.1,()),(),()))).bind λaz=>(o8 (((),x.1.1.2.1,()),((az.2.1.1,()),(),()))).bind λaF=>(Er (((),x.1.1.2.2.1,(),()),((aF.2.1.1,()),(),()))).bind λaT=>some ((),(((),()),(aT.2.1.1,()),(),(),()))
def aew:a4:=⟨[(0,cC),(1,aB fZ),(2,.fn 68 [] [(2,0)])],IX⟩
def avn:a4:=⟨[],IW⟩
def aev:a4:=⟨[(2,.fn 68 [] [(0,0)]),(12,aB fZ),(13,au),(14,au)],wH⟩
def avl:bE:=[((.exit 0),⟨[],wG⟩)]
def EB (x:U aev):Option (U aev⊕bq avl):=cond (bh x.1.2.2.2.1 x.1.2.2.1) ((aX x.1.2.1 (x.1.2.2.2.1).1).bind λaQ=>(LK ((aQ,(),()),(((),()),(x.2.2.1.1,()),(),()))).bind λaT=>some (.inl (((),x.1.2.1,x.1.2.2.1,(bj x.1.2.2.2.1 (W 1)),()),(((),()),(aT.2.2.1.1,()),(),())))) (some (.inr ((),(((),()),(x.2.2.1.1,()),(),(),()))))
def Li (x:U aew):Option (U avn):=(lF (((),(ba x.1.2.1),()),((x.2.1.1,()),(),()))).bind λaz=>(a3 EB (((),x.1.2.1,(ba x.1.2.1),(W 0),()),(((),()),(az.2.1.1,()),(),()))).bind λaY=>some ((),((aY.2.2.1.1,()),(),((),()),(),()))
def afK:a4:=⟨[(0,cC),(1,.agg ek)],lQ⟩
def axc:a4:=⟨[],lP⟩
def LJ (x:U afK):Option (U axc):=(o8 (((),x.1.2.1.1,()),((x.2.1.1,()),(),()))).bind λaz=>(Li (((),x.1.2.1.2.1,(),()),((az.2.1.1,()),(),((),()),()))).bind λaF=>some ((),((aF.2.1.1,()),(),(),()))
def aen:a4:=⟨[(0,cC),(1,aB ek),(2,.fn 31 [(0,0)] [])],lQ⟩
def au_:a4:=⟨[],lP⟩
def aem:a4:=⟨[(2,.fn 31 [(0,0)] []),(12,aB ek),(13,au),(14,au)],lQ⟩
def au8:bE:=[((.exit 0),⟨[],lP⟩)]
def Ey (x:U aem):Option (U aem⊕bq au8):=cond (bh x.1.2.2.2.1 x.1.2.2.1) ((aX x.1.2.1 (x.1.2.2.2.1).1).bind λaQ=>(LJ (((),aQ,()),((x.2.1.1,()),(),()))).bind λaT=>some (.inl (((),x.1.2.1,x.1.2.2.1,(bj x.1.2.2.2.1 (W 1)),()),((aT.2.1.1,()),(),())))) (some (.inr ((),((x.2.1.1,()),(),(),()))))
def Lf (x:U aen):Option (U au_):=(lF (((),(ba x.1.2.1),()),((x.2.1.1,()),(),()))).bind λaz=>(a3 Ey (((),x.1.2.1,(ba x.1.2.1),(W 0),()),((az.2.1.1,()),(),()))).bind λaY=>some ((),((aY.2.1.1,()),(),(),()))
def ad_:a4:=⟨[(0,cC),(1,aB ig),(2,.fn 70 [(0,0)] [])],lQ⟩
def auL:a4:=⟨[],lP⟩
def ad9:a4:=⟨[(2,.fn 70 [(0,0)] []),(12,aB ig),(13,au),(14,au)],lQ⟩
def auJ:bE:=[((.exit 0),⟨[],lP⟩)]
def Et (x:U ad9):Option (U ad9⊕bq auJ):=cond (bh x.1.2.2.2.1 x.1.2.2.1) ((aX x.1.2.1 (x.1.2.2.2.1).1).bind λaQ=>(EW (((),aQ,()),((x.2.1.1,()),(),()))).bind λaT=>some (.inl (((),x.1.2.1,x.1.2.2.1,(bj x.1.2.2.2.1 (W 1)),()),((aT.2.1.1,()),(),())))) (some (.inr ((),((x.2.1.1,()),(),(),()))))
def La (x:U ad_):Option (U auL):=(lF (((),(ba x.1.2.1),()),((x.2.1.1,()),(),()))).bind λaz=>(a3 Et (((),x.1.2.1,(ba x.1.2.1),(W 0),()),((az.2.1.1,()),(),()))).bind λaY=>some ((),((aY.2.1.1,()),(),(),()))
def aez:a4:=⟨[(0,cC),(1,aB bp),(2,.fn 60 [(0,0)] [])],lQ⟩
def avr:a4:=⟨[],lP⟩
def aey:a4:=⟨[(2,.fn 60 [(0,0)] []),(12,aB bp),(13,au),(14,au)],lQ⟩
def avq:bE:=[((.exit 0),⟨[],lP⟩)]
def ED (x:U aey):Option (U aey⊕bq avq):=cond (bh x.1.2.2.2.1 x.1.2.2.1) ((aX x.1.2.1 (x.1.2.2.2.1).1).bind λaQ=>(lF (((),aQ.1,()),((x.2.1.1,()),(),()))).bind λaT=>some (.inl (((),x.1.2.1,x.1.2.2.1,(bj x.1.2.2.2.1 (W 1)),()),((aT.2.1.1,()),(),())))) (some (.inr ((),((x.2.1.1,()),(),(),()))))
def EC (x:U aez):Option (U avr):=(lF (((),(ba x.1.2.1),()),((x.2.1.1,()),(),()))).bind λaz=>(a3 ED (((),x.1.2.1,(ba x.1.2.1),(W 0),()),((az.2.1.1,()),(),()))).bind λaY=>some ((),((aY.2.1.1,()),(),(),()))
def afF:a4:=⟨[(0,.agg c_),(1,cC)],wH⟩
def aw1:a4:=⟨[],wG⟩
def LH (x:U afF):Option (U aw1):=(o8 (((),x.1.1.1,()),((x.2.2.1.1,()),(),()))).bind λaz=>(lF (((),x.1.1.2.1,()),((az.2.1.1,()),(),()))).bind λaF=>(lF (((),x.1.1.2.2.1,()),((aF.2.1.1,()),(),()))).bind λaT=>some ((),(((),()),(aT.2.1.1,()),(),(),()))
def aek:a4:=⟨[(0,cC),(1,aB c_),(2,.fn 123 [] [(2,0)])],IX⟩
def au5:a4:=⟨[],IW⟩
def aej:a4:=⟨[(2,.fn 123 [] [(0,0)]),(12,aB c_),(13,au),(14,au)],wH⟩
def au3:bE:=[((.exit 0),⟨[],wG⟩)]
def Ex (x:U aej):Option (U aej⊕bq au3):=cond (bh x.1.2.2.2.1 x.1.2.2.1) ((aX x.1.2.1 (x.1.2.2.2.1).1).bind λaQ=>(LH ((aQ,(),()),(((),()),(x.2.2.1.1,()),(),()))).bind λaT=>some (.inl (((),x.1.2.1,x.1.2.2.1,(bj x.1.2.2.2.1 (W 1)),()),(((),()),(aT.2.2.1.1,()),(),())))) (some (.inr ((),(((),()),(x.2.2.1.1,()),(),(),()))))
def Le (x:U aek):Option (U au5):=(lF (((),(ba x.1.2.1),()),((x.2.1.1,()),(),()))).bind λaz=>(a3 Ex (((),x.1.2.1,(ba x.1.2.1),(W 0),()),(((),()),(az.2.1.1,()),(),()))).bind λaY=>some ((),((aY.2.2.1.1,()),(),((),()),(),()))
def afG:a4:=⟨[(0,.agg fV),(1,cC)],wH⟩
def aw4:a4:=⟨[],wG⟩
def LI (x:U afG):Option (U aw4):=(o8 (((),x.1.1.1,()),((x.2.2.1.1,()),(),()))).bind λaz=>(o8 (((),x.1.1.2.1,()),((az.2.1.1,()),(),()))).bind λaF=>(EC (((),x.1.1.2.2.1,(),()),((aF.2.1.1,()),(),()))).bind λaT=>some ((),(((),()),(aT.2.1.1,()),(),(),()))
def aee:a4:=⟨[(0,cC),(1,aB fV),(2,.fn 125 [] [(2,0)])],IX⟩
def auV:a4:=⟨[],IW⟩
def aed:a4:=⟨[(2,.fn 125 [] [(0,0)]),(12,aB fV),(13,au),(14,au)],wH⟩
def auT:bE:=[((.exit 0),⟨[],wG⟩)]
def Ev (x:U aed):Option (U aed⊕bq auT):=cond (bh x.1.2.2.2.1 x.1.2.2.1) ((aX x.1.2.1 (x.1.2.2.2.1).1).bind λaQ=>(LI ((aQ,(),()),(((),()),(x.2.2.1.1,()),(),()))).bind λaT=>some (.inl (((),x.1.2.1,x.1.2.2.1,(bj x.1.2.2.2.1 (W 1)),()),(((),()),(aT.2.2.1.1,()),(),())))) (some (.inr ((),(((),()),(x.2.2.1.1,()),(),(),()))))
def Lc (x:U aee):Option (U auV):=(lF (((),(ba x.1.2.1),()),((x.2.1.1,()),(),()))).bind λaz=>(a3 Ev (((),x.1.2.1,(ba x.1.2.1),(W 0),()),(((),()),(az.2.1.1,()),(),()))).bind λaY=>some ((),((aY.2.2.1.1,()),(),((),()),(),()))
def afH:a4:=⟨[(0,cC),(1,.agg ey)],lQ⟩
def aw7:a4:=⟨[],lP⟩
def LG (x:U afH):Option (U aw7):=(lF (((),x.1.2.1.1,()),((x.2.1.1,()),(),()))).bind λaz=>(lF (((),x.1.2.1.2.1,()),((az.2.1.1,()),(),()))).bind λaF=>(lF (((),x.1.2.1.2.2.1,()),((aF.2.1.1,()),(),()))).bind λaT=>(EX (((),x.1.2.1.2.2.2.1,()),((aT.2.1.1,()),(),()))).bind λaY=>(o8 (((),x.1.2.1.2.2.2.2.1,()),((aY.2.1.1,()),(),()))).bind λa5=>(o8 (((),x.1.2.1.2.2.2.2.2.1,()),((a5.2.1.1,()),(),()))).bind λbK=>(EC (((),x.1.2.1.2.2.2.2.2.2.1,(),()),((bK.2.1.1,()),(),()))).bind λbL=>(Le (((),x.1.2.1.2.2.2.2.2.2.2.1,(),()),((bL.2.1.1,()),(),((),()),()))).bind λcu=>(Lc (((),x.1.2.1.2.2.2.2.2.2.2.2.1,(),()),((cu.2.1.1,()),(),((),()),()))).bind λbU=>some ((),((bU.2.1.1,()),(),(),()))
def aeh:a4:=⟨[(0,cC),(1,aB ey),(2,.fn 72 [(0,0)] [])],lQ⟩
def au0:a4:=⟨[],lP⟩
def aeg:a4:=⟨[(2,.fn 72 [(0,0)] []),(12,aB ey),(13,au),(14,au)],lQ⟩
def auY:bE:=[((.exit 0),⟨[],lP⟩)]
def Ew (x:U aeg):Option (U aeg⊕bq auY):=cond (bh x.1.2.2.2.1 x.1.2.2.1) ((aX x.1.2.1 (x.1.2.2.2.1).1).bind λaQ=>(LG (((),aQ,()),((x.2.1.1,()),(),()))).bind λaT=>some (.inl (((),x.1.2.1,x.1.2.2.1,(bj x.1.2.2.2.1 (W 1)),()),((aT.2.1.1,()),(),())))) (some (.inr ((),((x.2.1.1,()),(),(),()))))
def Ld (x:U aeh):Option (U au0):=(lF (((),(ba x.1.2.1),()),((x.2.1.1,()),(),()))).bind λaz=>(a3 Ew (((),x.1.2.1,(ba x.1.2.1),(W 0),()),((az.2.1.1,()),(),()))).bind λaY=>some ((),((aY.2.1.1,()),(),(),()))
def afO:a4:=⟨[(0,cC),(1,.agg hU)],lQ⟩
def axg:a4:=⟨[],lP⟩
def LL (x:U afO):Option (U axg):=(o8 (((),x.1.2.1.1,()),((x.2.1.1,()),(),()))).bind λaz=>(La (((),x.1.2.1.2.1,(),()),((az.2.1.1,()),(),()))).bind λaF=>(lF (((),x.1.2.1.2.2.1,()),((aF.2.1.1,()),(),()))).bind λaT=>(Ld (((),x.1.2.1.2.2.2.1,(),()),((aT.2.1.1,()),(),()))).bind λaY=>some ((),((aY.2.1.1,()),(),(),()))
def aeb:a4:=⟨[(0,cC),(1,aB hU),(2,.fn 33 [(0,0)] [])],lQ⟩
def auQ:a4:=⟨[],lP⟩
def aea:a4:=⟨[(2,.fn 33 [(0,0)] []),(12,aB hU),(13,au),(14,au)],lQ⟩
def auO:bE:=[((.exit 0),⟨[],lP⟩)]
def Eu (x:U aea):Option (U aea⊕bq auO):=cond (bh x.1.2.2.2.1 x.1.2.2.1) ((aX x.1.2.1 (x.1.2.2.2.1).1).bind λaQ=>(LL (((),aQ,()),((x.2.1.1,()),(),()))).bind λaT=>some (.inl (((),x.1.2.1,x.1.2.2.1,(bj x.1.2.2.2.1 (W 1)),()),((aT.2.1.1,()),(),())))) (some (.inr ((),((x.2.1.1,()),(),(),()))))
def Lb (x:U aeb):Option (U auQ):=(lF (((),(ba x.1.2.1),()),((x.2.1.1,()),(),()))).bind λaz=>(a3 Eu (((),x.1.2.1,(ba x.1.2.1),(W 0),()),((az.2.1.1,()),(),()))).bind λaY=>some ((),((aY.2.1.1,()),(),(),()))
def ad0:=aH [(0,a_)]
def auD:=aH [(0,.leaf (.int .u32))]
def TJ:=aH [(0,a_),(3,.leaf (.int .u32)),(6,au),(7,au)]
def adZ:bE:=[((.exit 0),aH [(3,.leaf (.int .u32))])]
def K_ (x:U TJ):Option (U TJ⊕bq adZ):=cond (bh x.1.2.2.2.1 x.1.2.2.1) ((uC x.1.1 (x.1.2.2.2.1).1).bind λv1=>some (.inl ((x.1.1,(vI (q7 x.1.2.1 (eN .u32 v1)) (bc.w .u32 16777619)),x.1.2.2.1,(bj x.1.2.2.2.1 (W 1)),()),()))) (some (.inr ((x.1.2.1,()),())))
def A2 (x:U ad0):Option (U auD):=(a3 K_ ((x.1.1,(bc.w .u32 2166136261),(mO x.1.1),(W 0),()),())).bind λaF=>some ((aF.1.1,()),())
def aeG:=aH [(0,.leaf (.int .u32))]
def avx:=aH [(0,a_)]
def EF (x:U aeG):Option (U avx):=(rI x.1.1 (bc.w .u64 24)).bind λv1=>(rI x.1.1 (bc.w .u64 16)).bind λv2=>(rI x.1.1 (bc.w .u64 8)).bind λcK=>some (((py (cD [((eN .u8 v1),()),((eN .u8 v2),()),((eN .u8 cK),()),((eN .u8 x.1.1),())])),()),())
def ad1:=aH [(0,.agg gX)]
def auE:=aH [(0,a_),(1,au)]
def Ep (x:U ad1):Option (U auE):=(Lh (((),x.1.1.1,(),()),(((cD [((bc.w .u8 82),()),((bc.w .u8 80),()),((bc.w .u8 84),()),((bc.w .u8 49),())]),()),(),()))).bind λaz=>(Lf (((),x.1.1.2.1,(),()),((az.2.1.1,()),(),()))).bind λaF=>(Lb (((),x.1.1.2.2.1,(),()),((aF.2.1.1,()),(),()))).bind λaT=>(A2 (((py aT.2.1.1),()),())).bind λaY=>(EF ((aY.1.1,()),())).bind λa5=>(s6 a5.1.1).bind λmN=>(c8 1 aT.2.1.1 mN).bind λj'=>cond (bh (W 65536) (ba j')) (some (((S ⟨#[]⟩),(W 3300),()),())) (some (((py j'),(W 0),()),()))
def adV:=aH [(0,a_)]
def auz:=aH [(0,au),(1,au),(2,bR)]
def adU:=aH [(6,au),(7,.leaf (.int .u8))]
def adT:bE:=[jL [],((.exit 0),aH [])]
def adS (x:U adU):Option (bq adT):=cond (a9 x.1.1 (W 9)) (cond (bh (bc.w .u8 1) x.1.2.1) (some (.inr ((),()))) (some (.inl ((),())))) (some (.inl ((),())))
def TI:=aH [(0,a_),(5,uD),(6,au)]
def auw:bE:=[((.exit 0),aH []),fP [(2,au),(3,au),(4,bR)]]
def K9 (x:U TI):Option (U TI⊕bq auw):=cond (bh x.1.2.2.1 (mO x.1.1)) (cond (bh x.1.2.2.1 (W 10)) ((uC x.1.1 (x.1.2.2.1).1).bind λv1=>(adS ((x.1.2.2.1,v1,()),())).bind λaF=>Sum.elim (λaT=>(AR (eN .u64 (rG v1 (bc.w .u8 127))) (vI (W 7) x.1.2.2.1)).bind λcV=>cond (bh v1 (bc.w .u8 128)) (cond (a9 v1 (bc.w .u8 0)) (cond (bh (W 0) x.1.2.2.1) (some (.inr (.inl ((),())))) ((rI (rH x.1.2.1 cV) (bc.w .u64 1)).bind λv6=>some (.inr (.inr (((q7 (eN .i64 v6) (uA (eN .i64 (rG (rH x.1.2.1 cV) (bc.w .u64 1))))),(bj x.1.2.2.1 (W 1)),true,()),()))))) ((rI (rH x.1.2.1 cV) (bc.w .u64 1)).bind λdU=>some (.inr (.inr (((q7 (eN .i64 dU) (uA (eN .i64 (rG (rH x.1.2.1 cV) (bc.w .u64 1))))),(bj x.1.2.2.1 (W 1)),true,()),()))))) (some (.inl ((x.1.1,(rH x.1.2.1 cV),(bj x.1.2.2.1 (W 1)),()),())))) (λaY=>some (.inr (.inl ((),())))) aF) (some (.inr (.inl ((),()))))) (some (.inr (.inl ((),()))))
def K8 (x:U adV):Option (U auz):=(a3 K9 ((x.1.1,(bc.w .u64 0),(W 0),()),())).bind λcu=>Sum.elim (λbU=>some (((W 0),(W 0),false,()),())) (λcd=>some ((cd.1.1,cd.1.2.1,cd.1.2.2.1,()),())) cu
def afw:a4:=⟨[(0,cC)],[.box [a_,bR]]⟩
def awL:a4:=⟨[(0,au)],[.box [a_,bR]]⟩
def A3 (x:U afw):Option (U awL):=(K8 ((x.2.1.1,()),())).bind λaz=>cond (!az.1.2.2.1) (some (((W 0),()),((x.2.1.1,true,()),()))) (cond (x.2.1.2.1) (some (((W 0),()),((x.2.1.1,true,()),()))) ((pF x.2.1.1 (az.1.2.1).1 x.2.1.1.1.size).bind λv2=>some ((az.1.1,()),((v2,x.2.1.2.1,()),()))))
def afv:a4:=⟨[(0,cC)],[.box [a_,bR]]⟩
def awK:a4:=⟨[(0,au)],[.box [a_,bR]]⟩
def pW (x:U afv):Option (U awK):=(A3 (((),()),(x.2.1,()))).bind λaz=>cond (bh az.1.1 (W 0)) (some (((W 0),()),((az.2.1.1,true,()),()))) (cond (bh (mO az.2.1.1) az.1.1) (some (((W 0),()),((az.2.1.1,true,()),()))) (cond (az.2.1.2.1) (some (((W 0),()),(az.2.1,()))) (some ((az.1.1,()),(az.2.1,())))))
def afA:a4:=⟨[(0,cC)],[.box [a_,bR]]⟩
def awV:a4:=⟨[(0,a_)],[.box [a_,bR]]⟩
def o7 (x:U afA):Option (U awV):=(pW (((),()),(x.2.1,()))).bind λaz=>(pF az.2.1.1 0 (az.1.1).1).bind λv2=>(pF az.2.1.1 (az.1.1).1 az.2.1.1.1.size).bind λcK=>some ((v2,()),((cK,az.2.1.2.1,()),()))
def afj:a4:=⟨[(0,cC),(1,.fn 78 [(0,0)] [])],[.box [a_,bR]]⟩
def awo:a4:=⟨[(0,aB cl)],[.box [a_,bR]]⟩
def afi:a4:=⟨[(0,cC),(1,.fn 78 [(0,0)] []),(5,.tok cl 1 []),(6,au)],[.box [a_,bR],.bG cl]⟩
def awm:bE:=[((.exit 0),⟨[(5,.tok cl 2 [])],[.box [a_,bR],.gone,.bG cl]⟩)]
def EU (x:U afi):Option (U afi⊕bq awm):=cond (bh (W 0) x.1.2.2.2.1) (cond (!x.2.1.2.1) ((o7 (((),()),(x.2.1,()))).bind λaF=>(c8 16 x.1.2.2.1 (cD [(aF.1.1,())])).bind λbT=>some (.inl (((),(),bT,(eF x.1.2.2.2.1 (W 1)),()),(aF.2.1,(),())))) (some (.inr ((x.1.2.2.1,()),(x.2.1,(),(),()))))) (some (.inr ((x.1.2.2.1,()),(x.2.1,(),(),()))))
def Lu (x:U afj):Option (U awo):=(pW (((),()),(x.2.1,()))).bind λaz=>(a3 EU (((),(),L.nil,az.1.1,()),(az.2.1,(),()))).bind λaY=>some ((aY.1.1,()),(aY.2.1,()))
def afs:a4:=⟨[(0,cC)],[.box [a_,bR]]⟩
def awD:a4:=⟨[(0,au)],[.box [a_,bR]]⟩
def rM (x:U afs):Option (U awD):=(A3 (((),()),(x.2.1,()))).bind λaz=>some ((az.1.1,()),(az.2.1,()))
def afm:a4:=⟨[(0,cC)],[.box [a_,bR]]⟩
def awt:a4:=⟨[(0,.agg ig)],[.box [a_,bR]]⟩
def EV (x:U afm):Option (U awt):=(rM (((),()),(x.2.1,()))).bind λaz=>(o7 (((),()),(az.2.1,()))).bind λaF=>some (((az.1.1,aF.1.1,()),()),(aF.2.1,()))
def afl:a4:=⟨[(0,cC)],[.box [a_,bR]]⟩
def awr:a4:=⟨[(0,.agg dR)],[.box [a_,bR]]⟩
def Lv (x:U afl):Option (U awr):=(o7 (((),()),(x.2.1,()))).bind λaz=>(EV (((),()),(az.2.1,()))).bind λaF=>(rM (((),()),(aF.2.1,()))).bind λaT=>some (((az.1.1,aF.1.1.1,aF.1.1.2.1,aT.1.1,()),()),(aT.2.1,()))
def aeK:a4:=⟨[(0,cC),(1,.fn 83 [(0,0)] [])],[.box [a_,bR]]⟩
def avA:a4:=⟨[(0,aB dR)],[.box [a_,bR]]⟩
def aeJ:a4:=⟨[(0,cC),(1,.fn 83 [(0,0)] []),(5,.tok dR 1 []),(6,au)],[.box [a_,bR],.bG dR]⟩
def avz:bE:=[((.exit 0),⟨[(5,.tok dR 2 [])],[.box [a_,bR],.gone,.bG dR]⟩)]
def EH (x:U aeJ):Option (U aeJ⊕bq avz):=cond (bh (W 0) x.1.2.2.2.1) (cond (!x.2.1.2.1) ((Lv (((),()),(x.2.1,()))).bind λaF=>(c8 48 x.1.2.2.1 (cD [aF.1.1])).bind λbT=>some (.inl (((),(),bT,(eF x.1.2.2.2.1 (W 1)),()),(aF.2.1,(),())))) (some (.inr ((x.1.2.2.1,()),(x.2.1,(),(),()))))) (some (.inr ((x.1.2.2.1,()),(x.2.1,(),(),()))))
def EG (x:U aeK):Option (U avA):=(pW (((),()),(x.2.1,()))).bind λaz=>(a3 EH (((),(),L.nil,az.1.1,()),(az.2.1,(),()))).bind λaY=>some ((aY.1.1,()),(aY.2.1,()))
def afy:a4:=⟨[(0,cC)],wE⟩
def awQ:a4:=⟨[(0,.agg fi)],wE⟩
def LD (x:U afy):Option (U awQ):=(o7 (((),()),(x.2.2.1,()))).bind λaz=>(o7 (((),()),(az.2.1,()))).bind λaF=>(EG (((),(),()),(aF.2.1,()))).bind λaT=>some (((az.1.1,aF.1.1,aT.1.1,()),()),(((),()),aT.2.1,()))
def ae7:a4:=⟨[(0,cC),(1,.fn 81 [] [(1,0)])],wF⟩
def av8:a4:=⟨[(0,aB fi)],wF⟩
def ae6:a4:=⟨[(0,cC),(1,.fn 81 [] [(1,0)]),(5,.tok fi 2 []),(6,au)],[.box [a_,bR],.box [cC],.bG fi]⟩
def av6:bE:=[((.exit 0),⟨[(5,.tok fi 3 [])],[.box [a_,bR],.box [cC],.gone,.bG fi]⟩)]
def EO (x:U ae6):Option (U ae6⊕bq av6):=cond (bh (W 0) x.1.2.2.2.1) (cond (!x.2.1.2.1) ((LD (((),()),(((),()),x.2.1,()))).bind λaF=>(c8 56 x.1.2.2.1 (cD [aF.1.1])).bind λbT=>some (.inl (((),(),bT,(eF x.1.2.2.2.1 (W 1)),()),(aF.2.2.1,((),()),(),())))) (some (.inr ((x.1.2.2.1,()),(x.2.1,((),()),(),(),()))))) (some (.inr ((x.1.2.2.1,()),(x.2.1,((),()),(),(),()))))
def Lr (x:U ae7):Option (U av8):=(pW (((),()),(x.2.1,()))).bind λaz=>(a3 EO (((),(),L.nil,az.1.1,()),(az.2.1,((),()),(),()))).bind λaY=>some ((aY.1.1,()),(aY.2.1,((),()),()))
def afz:a4:=⟨[(0,cC)],[.box [a_,bR]]⟩
def awT:a4:=⟨[(0,.agg dE)],[.box [a_,bR]]⟩
def LC (x:U afz):Option (U awT):=(o7 (((),()),(x.2.1,()))).bind λaz=>(Lu (((),(),()),(az.2.1,()))).bind λaF=>(Lr (((),(),()),(aF.2.1,((),()),()))).bind λaT=>some (((az.1.1,aF.1.1,aT.1.1,()),()),(aT.2.1,()))
def ae_:a4:=⟨[(0,cC),(1,.fn 37 [(0,0)] [])],[.box [a_,bR]]⟩
def awb:a4:=⟨[(0,aB dE)],[.box [a_,bR]]⟩
def ae9:a4:=⟨[(0,cC),(1,.fn 37 [(0,0)] []),(5,.tok dE 1 []),(6,au)],[.box [a_,bR],.bG dE]⟩
def av':bE:=[((.exit 0),⟨[(5,.tok dE 2 [])],[.box [a_,bR],.gone,.bG dE]⟩)]
def EP (x:U ae9):Option (U ae9⊕bq av'):=cond (bh (W 0) x.1.2.2.2.1) (cond (!x.2.1.2.1) ((LC (((),()),(x.2.1,()))).bind λaF=>(c8 64 x.1.2.2.1 (cD [aF.1.1])).bind λbT=>some (.inl (((),(),bT,(eF x.1.2.2.2.1 (W 1)),()),(aF.2.1,(),())))) (some (.inr ((x.1.2.2.1,()),(x.2.1,(),(),()))))) (some (.inr ((x.1.2.2.1,()),(x.2.1,(),(),()))))
def Ls (x:U ae_):Option (U awb):=(pW (((),()),(x.2.1,()))).bind λaz=>(a3 EP (((),(),L.nil,az.1.1,()),(az.2.1,(),()))).bind λaY=>some ((aY.1.1,()),(aY.2.1,()))
def aft:a4:=⟨[(0,cC)],wE⟩
def awF:a4:=⟨[(0,.agg fZ)],wE⟩
def LA (x:U aft):Option (U awF):=(rM (((),()),(x.2.2.1,()))).bind λaz=>(o7 (((),()),(az.2.1,()))).bind λaF=>(EG (((),(),()),(aF.2.1,()))).bind λaT=>some (((az.1.1,aF.1.1,aT.1.1,()),()),(((),()),aT.2.1,()))
def afb:a4:=⟨[(0,cC),(1,.fn 85 [] [(1,0)])],wF⟩
def awg:a4:=⟨[(0,aB fZ)],wF⟩
def afa:a4:=⟨[(0,cC),(1,.fn 85 [] [(1,0)]),(5,.tok fZ 2 []),(6,au)],[.box [a_,bR],.box [cC],.bG fZ]⟩
def awe:bE:=[((.exit 0),⟨[(5,.tok fZ 3 [])],[.box [a_,bR],.box [cC],.gone,.bG fZ]⟩)]
def ER (x:U afa):Option (U afa⊕bq awe):=cond (bh (W 0) x.1.2.2.2.1) (cond (!x.2.1.2.1) ((LA (((),()),(((),()),x.2.1,()))).bind λaF=>(c8 48 x.1.2.2.1 (cD [aF.1.1])).bind λbT=>some (.inl (((),(),bT,(eF x.1.2.2.2.1 (W 1)),()),(aF.2.2.1,((),()),(),())))) (some (.inr ((x.1.2.2.1,()),(x.2.1,((),()),(),(),()))))) (some (.inr ((x.1.2.2.1,()),(x.2.1,((),()),(),(),()))))
def Lt (x:U afb):Option (U awg):=(pW (((),()),(x.2.1,()))).bind λaz=>(a3 ER (((),(),L.nil,az.1.1,()),(az.2.1,((),()),(),()))).bind λaY=>some ((aY.1.1,()),(aY.2.1,((),()),()))
def afu:a4:=⟨[(0,cC)],[.box [a_,bR]]⟩
def awI:a4:=⟨[(0,.agg ek)],[.box [a_,bR]]⟩
def Lz (x:U afu):Option (U awI):=(o7 (((),()),(x.2.1,()))).bind λaz=>(Lt (((),(),()),(az.2.1,((),()),()))).bind λaF=>some (((az.1.1,aF.1.1,()),()),(aF.2.1,()))
def ae4:a4:=⟨[(0,cC),(1,.fn 39 [(0,0)] [])],[.box [a_,bR]]⟩
def av3:a4:=⟨[(0,aB ek)],[.box [a_,bR]]⟩
def ae3:a4:=⟨[(0,cC),(1,.fn 39 [(0,0)] []),(5,.tok ek 1 []),(6,au)],[.box [a_,bR],.bG ek]⟩
def av1:bE:=[((.exit 0),⟨[(5,.tok ek 2 [])],[.box [a_,bR],.gone,.bG ek]⟩)]
def EN (x:U ae3):Option (U ae3⊕bq av1):=cond (bh (W 0) x.1.2.2.2.1) (cond (!x.2.1.2.1) ((Lz (((),()),(x.2.1,()))).bind λaF=>(c8 40 x.1.2.2.1 (cD [aF.1.1])).bind λbT=>some (.inl (((),(),bT,(eF x.1.2.2.2.1 (W 1)),()),(aF.2.1,(),())))) (some (.inr ((x.1.2.2.1,()),(x.2.1,(),(),()))))) (some (.inr ((x.1.2.2.1,()),(x.2.1,(),(),()))))
def Lp (x:U ae4):Option (U av3):=(pW (((),()),(x.2.1,()))).bind λaz=>(a3 EN (((),(),L.nil,az.1.1,()),(az.2.1,(),()))).bind λaY=>some ((aY.1.1,()),(aY.2.1,()))
def aeP:a4:=⟨[(0,cC),(1,.fn 88 [(0,0)] [])],[.box [a_,bR]]⟩
def avE:a4:=⟨[(0,aB ig)],[.box [a_,bR]]⟩
def aeO:a4:=⟨[(0,cC),(1,.fn 88 [(0,0)] []),(5,.tok ig 1 []),(6,au)],[.box [a_,bR],.bG ig]⟩
def avC:bE:=[((.exit 0),⟨[(5,.tok ig 2 [])],[.box [a_,bR],.gone,.bG ig]⟩)]
def EI (x:U aeO):Option (U aeO⊕bq avC):=cond (bh (W 0) x.1.2.2.2.1) (cond (!x.2.1.2.1) ((EV (((),()),(x.2.1,()))).bind λaF=>(c8 24 x.1.2.2.1 (cD [aF.1.1])).bind λbT=>some (.inl (((),(),bT,(eF x.1.2.2.2.1 (W 1)),()),(aF.2.1,(),())))) (some (.inr ((x.1.2.2.1,()),(x.2.1,(),(),()))))) (some (.inr ((x.1.2.2.1,()),(x.2.1,(),(),()))))
def Lk (x:U aeP):Option (U avE):=(pW (((),()),(x.2.1,()))).bind λaz=>(a3 EI (((),(),L.nil,az.1.1,()),(az.2.1,(),()))).bind λaY=>some ((aY.1.1,()),(aY.2.1,()))
def afe:a4:=⟨[(0,cC),(1,.fn 86 [(0,0)] [])],[.box [a_,bR]]⟩
def awk:a4:=⟨[(0,aB bp)],[.box [a_,bR]]⟩
def afd:a4:=⟨[(0,cC),(1,.fn 86 [(0,0)] []),(5,.tok bp 1 []),(6,au)],[.box [a_,bR],.bG bp]⟩
def awj:bE:=[((.exit 0),⟨[(5,.tok bp 2 [])],[.box [a_,bR],.gone,.bG bp]⟩)]
def ET (x:U afd):Option (U afd⊕bq awj):=cond (bh (W 0) x.1.2.2.2.1) (cond (!x.2.1.2.1) ((rM (((),()),(x.2.1,()))).bind λaF=>(c8 8 x.1.2.2.1 (cD [(aF.1.1,())])).bind λbT=>some (.inl (((),(),bT,(eF x.1.2.2.2.1 (W 1)),()),(aF.2.1,(),())))) (some (.inr ((x.1.2.2.1,()),(x.2.1,(),(),()))))) (some (.inr ((x.1.2.2.1,()),(x.2.1,(),(),()))))
def ES (x:U afe):Option (U awk):=(pW (((),()),(x.2.1,()))).bind λaz=>(a3 ET (((),(),L.nil,az.1.1,()),(az.2.1,(),()))).bind λaY=>some ((aY.1.1,()),(aY.2.1,()))
def afp:a4:=⟨[(0,cC)],wE⟩
def awv:a4:=⟨[(0,.agg c_)],wE⟩
def Lx (x:U afp):Option (U awv):=(o7 (((),()),(x.2.2.1,()))).bind λaz=>(rM (((),()),(az.2.1,()))).bind λaF=>(rM (((),()),(aF.2.1,()))).bind λaT=>some (((az.1.1,aF.1.1,aT.1.1,()),()),(((),()),aT.2.1,()))
def ae1:a4:=⟨[(0,cC),(1,.fn 134 [] [(1,0)])],wF⟩
def avY:a4:=⟨[(0,aB c_)],wF⟩
def ae0:a4:=⟨[(0,cC),(1,.fn 134 [] [(1,0)]),(5,.tok c_ 2 []),(6,au)],[.box [a_,bR],.box [cC],.bG c_]⟩
def avW:bE:=[((.exit 0),⟨[(5,.tok c_ 3 [])],[.box [a_,bR],.box [cC],.gone,.bG c_]⟩)]
def EM (x:U ae0):Option (U ae0⊕bq avW):=cond (bh (W 0) x.1.2.2.2.1) (cond (!x.2.1.2.1) ((Lx (((),()),(((),()),x.2.1,()))).bind λaF=>(c8 32 x.1.2.2.1 (cD [aF.1.1])).bind λbT=>some (.inl (((),(),bT,(eF x.1.2.2.2.1 (W 1)),()),(aF.2.2.1,((),()),(),())))) (some (.inr ((x.1.2.2.1,()),(x.2.1,((),()),(),(),()))))) (some (.inr ((x.1.2.2.1,()),(x.2.1,((),()),(),(),()))))
def Lo (x:U ae1):Option (U avY):=(pW (((),()),(x.2.1,()))).bind λaz=>(a3 EM (((),(),L.nil,az.1.1,()),(az.2.1,((),()),(),()))).bind λaY=>some ((aY.1.1,()),(aY.2.1,((),()),()))
def afq:a4:=⟨[(0,cC)],wE⟩
def awy:a4:=⟨[(0,.agg fV)],wE⟩
def Ly (x:U afq):Option (U awy):=(o7 (((),()),(x.2.2.1,()))).bind λaz=>(o7 (((),()),(az.2.1,()))).bind λaF=>(ES (((),(),()),(aF.2.1,()))).bind λaT=>some (((az.1.1,aF.1.1,aT.1.1,()),()),(((),()),aT.2.1,()))
def aeV:a4:=⟨[(0,cC),(1,.fn 136 [] [(1,0)])],wF⟩
def avO:a4:=⟨[(0,aB fV)],wF⟩
def aeU:a4:=⟨[(0,cC),(1,.fn 136 [] [(1,0)]),(5,.tok fV 2 []),(6,au)],[.box [a_,bR],.box [cC],.bG fV]⟩
def avM:bE:=[((.exit 0),⟨[(5,.tok fV 3 [])],[.box [a_,bR],.box [cC],.gone,.bG fV]⟩)]
def EK (x:U aeU):Option (U aeU⊕bq avM):=cond (bh (W 0) x.1.2.2.2.1) (cond (!x.2.1.2.1) ((Ly (((),()),(((),()),x.2.1,()))).bind λaF=>(c8 56 x.1.2.2.1 (cD [aF.1.1])).bind λbT=>some (.inl (((),(),bT,(eF x.1.2.2.2.1 (W 1)),()),(aF.2.2.1,((),()),(),())))) (some (.inr ((x.1.2.2.1,()),(x.2.1,((),()),(),(),()))))) (some (.inr ((x.1.2.2.1,()),(x.2.1,((),()),(),(),()))))
def Lm (x:U aeV):Option (U avO):=(pW (((),()),(x.2.1,()))).bind λaz=>(a3 EK (((),(),L.nil,az.1.1,()),(az.2.1,((),()),(),()))).bind λaY=>some ((aY.1.1,()),(aY.2.1,((),()),()))
def afr:a4:=⟨[(0,cC)],[.box [a_,bR]]⟩
def awB:a4:=⟨[(0,.agg ey)],[.box [a_,bR]]⟩
def Lw (x:U afr):Option (U awB):=(rM (((),()),(x.2.1,()))).bind λaz=>(rM (((),()),(az.2.1,()))).bind λaF=>(rM (((),()),(aF.2.1,()))).bind λaT=>(A3 (((),()),(aT.2.1,()))).bind λaY=>(o7 (((),()),(aY.2.1,()))).bind λa5=>(o7 (((),()),(a5.2.1,()))).bind λbK=>(ES (((),(),()),(bK.2.1,()))).bind λbL=>(Lo (((),(),()),(bL.2.1,((),()),()))).bind λcu=>(Lm (((),(),()),(cu.2.1,((),()),()))).bind λbU=>some (((az.1.1,aF.1.1,aT.1.1,aY.1.1,a5.1.1,bK.1.1,bL.1.1,cu.1.1,bU.1.1,()),()),(bU.2.1,()))
def aeY:a4:=⟨[(0,cC),(1,.fn 90 [(0,0)] [])],[.box [a_,bR]]⟩
def avT:a4:=⟨[(0,aB ey)],[.box [a_,bR]]⟩
def aeX:a4:=⟨[(0,cC),(1,.fn 90 [(0,0)] []),(5,.tok ey 1 []),(6,au)],[.box [a_,bR],.bG ey]⟩
def avR:bE:=[((.exit 0),⟨[(5,.tok ey 2 [])],[.box [a_,bR],.gone,.bG ey]⟩)]
def EL (x:U aeX):Option (U aeX⊕bq avR):=cond (bh (W 0) x.1.2.2.2.1) (cond (!x.2.1.2.1) ((Lw (((),()),(x.2.1,()))).bind λaF=>(c8 136 x.1.2.2.1 (cD [aF.1.1])).bind λbT=>some (.inl (((),(),bT,(eF x.1.2.2.2.1 (W 1)),()),(aF.2.1,(),())))) (some (.inr ((x.1.2.2.1,()),(x.2.1,(),(),()))))) (some (.inr ((x.1.2.2.1,()),(x.2.1,(),(),()))))
def Ln (x:U aeY):Option (U avT):=(pW (((),()),(x.2.1,()))).bind λaz=>(a3 EL (((),(),L.nil,az.1.1,()),(az.2.1,(),()))).bind λaY=>some ((aY.1.1,()),(aY.2.1,()))
def afx:a4:=⟨[(0,cC)],[.box [a_,bR]]⟩
def awN:a4:=⟨[(0,.agg hU)],[.box [a_,bR]]⟩
def LB (x:U afx):Option (U awN):=(o7 (((),()),(x.2.1,()))).bind λaz=>(Lk (((),(),()),(az.2.1,()))).bind λaF=>(rM (((),()),(aF.2.1,()))).bind λaT=>(Ln (((),(),()),(aT.2.1,()))).bind λaY=>some (((az.1.1,aF.1.1,aT.1.1,aY.1.1,()),()),(aY.2.1,()))
def aeS:a4:=⟨[(0,cC),(1,.fn 41 [(0,0)] [])],[.box [a_,bR]]⟩
def avJ:a4:=⟨[(0,aB hU)],[.box [a_,bR]]⟩
def aeR:a4:=⟨[(0,cC),(1,.fn 41 [(0,0)] []),(5,.tok hU 1 []),(6,au)],[.box [a_,bR],.bG hU]⟩
def avH:bE:=[((.exit 0),⟨[(5,.tok hU 2 [])],[.box [a_,bR],.gone,.bG hU]⟩)]
def EJ (x:U aeR):Option (U aeR⊕bq avH):=cond (bh (W 0) x.1.2.2.2.1) (cond (!x.2.1.2.1) ((LB (((),()),(x.2.1,()))).bind λaF=>(c8 72 x.1.2.2.1 (cD [aF.1.1])).bind λbT=>some (.inl (((),(),bT,(eF x.1.2.2.2.1 (W 1)),()),(aF.2.1,(),())))) (some (.inr ((x.1.2.2.1,()),(x.2.1,(),(),()))))) (some (.inr ((x.1.2.2.1,()),(x.2.1,(),(),()))))
def Ll (x:U aeS):Option (U avJ):=(pW (((),()),(x.2.1,()))).bind λaz=>(a3 EJ (((),(),L.nil,az.1.1,()),(az.2.1,(),()))).bind λaY=>some ((aY.1.1,()),(aY.2.1,()))
def adW:=aH [(0,a_)]
def adX:=aH [(0,.agg gX),(1,au)]
def K7 (x:U adW):Option (U adX):=cond (bh (mO x.1.1) (W 8)) (some (((L.nil,L.nil,L.nil,()),(W 3301),()),())) (cond (bh (W 65536) (mO x.1.1)) (some (((L.nil,L.nil,L.nil,()),(W 3301),()),())) ((pF x.1.1 0 ((W 4)).1).bind λv1=>cond (!cB v1 (S ⟨#[82,80,84,49]⟩)) (some (((L.nil,L.nil,L.nil,()),(W 3301),()),())) ((pF x.1.1 0 ((eF (mO x.1.1) (W 4))).1).bind λv2=>(pF x.1.1 ((eF (mO x.1.1) (W 4))).1 x.1.1.1.size).bind λcK=>(A2 ((v2,()),())).bind λaY=>(EF ((aY.1.1,()),())).bind λa5=>cond (!cB a5.1.1 cK) (some (((L.nil,L.nil,L.nil,()),(W 3301),()),())) ((pF v2 ((W 4)).1 v2.1.size).bind λv6=>(Ls (((),(),()),((v6,false,()),()))).bind λbL=>(Lp (((),(),()),(bL.2.1,()))).bind λcu=>(Ll (((),(),()),(cu.2.1,()))).bind λbU=>cond (bU.2.1.2.1) (some (((L.nil,L.nil,L.nil,()),(W 3301),()),())) (cond (!cB bU.2.1.1 (S ⟨#[]⟩)) (some (((L.nil,L.nil,L.nil,()),(W 3301),()),())) (some (((bL.1.1,cu.1.1,bU.1.1,()),(W 0),()),())))))))
theorem aus:bZ 22 0 K5:=b9 fj [] []
theorem adR:bw 22 zu:=bD fj [b8 aus] []
theorem afM:bw 120 EX:=bD ⟨.nil,[aI adR]⟩ [] []
theorem nQ:bw 60 lF:=bD ⟨.nil,[aI afM]⟩ [] []
theorem tK:bw 61 o8:=bD ⟨.nil,[aI nQ]⟩ [] []
noncomputable def aeF:dn:=⟨.nil,[aI nQ,aI tK]⟩
theorem avs:bZ 62 0 EE:=b9 aeF [] []
theorem avu:bw 62 Lj:=bD aeF [b8 avs] []
theorem afD:bw 70 EW:=bD ⟨(put .nil 3 .bW),[aI nQ,aI tK]⟩ [] []
theorem awW:bw 66 LF:=bD ⟨(put .nil 3 .bW),[aI nQ,aI tK,aI afD]⟩ [] []
noncomputable def ad7:dn:=⟨(put .nil 7 .bW),[aI nQ,aI awW]⟩
theorem auF:bZ 65 0 Es:=b9 ad7 [] []
theorem ad6:bw 65 Er:=bD ad7 [b8 auF] []
theorem axi:bw 64 LN:=bD ⟨(put .nil 2 .bW),[aI tK,aI ad6]⟩ [] []
noncomputable def aer:dn:=⟨(put .nil 7 .bW),[aI nQ,aI axi]⟩
theorem ava:bZ 63 0 Ez:=b9 aer [] []
theorem avc:bw 63 Lg:=bD aer [b8 ava] []
theorem axl:bw 29 LM:=bD ⟨(put .nil 3 .bW),[aI tK,aI avu,aI avc]⟩ [] []
noncomputable def aeu:dn:=⟨(put .nil 7 .bW),[aI axl,aI nQ]⟩
theorem avf:bZ 28 0 EA:=b9 aeu [] []
theorem avh:bw 28 Lh:=bD aeu [b8 avf] []
theorem aw_:bw 68 LK:=bD ⟨(put .nil 2 .bW),[aI nQ,aI tK,aI ad6]⟩ [] []
noncomputable def aex:dn:=⟨(put .nil 7 .bW),[aI nQ,aI aw_]⟩
theorem avk:bZ 67 0 EB:=b9 aex [] []
theorem avm:bw 67 Li:=bD aex [b8 avk] []
theorem axb:bw 31 LJ:=bD ⟨(put .nil 3 .bW),[aI tK,aI avm]⟩ [] []
noncomputable def aeo:dn:=⟨(put .nil 7 .bW),[aI axb,aI nQ]⟩
theorem au7:bZ 30 0 Ey:=b9 aeo [] []
theorem au9:bw 30 Lf:=bD aeo [b8 au7] []
noncomputable def ad':dn:=⟨(put .nil 7 .bW),[aI nQ,aI afD]⟩
theorem auI:bZ 69 0 Et:=b9 ad' [] []
theorem auK:bw 69 La:=bD ad' [b8 auI] []
noncomputable def aeB:dn:=⟨.nil,[aI nQ]⟩
theorem avp:bZ 121 0 ED:=b9 aeB [] []
theorem aeA:bw 121 EC:=bD aeB [b8 avp] []
theorem aw0:bw 123 LH:=bD ⟨(put .nil 2 .bW),[aI nQ,aI tK]⟩ [] []
noncomputable def ael:dn:=⟨(put .nil 7 .bW),[aI nQ,aI aw0]⟩
theorem au2:bZ 122 0 Ex:=b9 ael [] []
theorem au4:bw 122 Le:=bD ael [b8 au2] []
theorem aw3:bw 125 LI:=bD ⟨(put .nil 2 .bW),[aI tK,aI aeA]⟩ [] []
noncomputable def aef:dn:=⟨(put .nil 7 .bW),[aI nQ,aI aw3]⟩
theorem auS:bZ 124 0 Ev:=b9 aef [] []
theorem auU:bw 124 Lc:=bD aef [b8 auS] []
theorem aw6:bw 72 LG:=bD ⟨(put .nil 3 .bW),[aI nQ,aI tK,aI afM,aI aeA,aI au4,aI auU]⟩ [] []
noncomputable def aei:dn:=⟨(put .nil 7 .bW),[aI nQ,aI aw6]⟩
theorem auX:bZ 71 0 Ew:=b9 aei [] []
theorem auZ:bw 71 Ld:=bD aei [b8 auX] []
theorem axf:bw 33 LL:=bD ⟨(put .nil 3 .bW),[aI nQ,aI tK,aI auK,aI auZ]⟩ [] []
noncomputable def aec:dn:=⟨(put .nil 7 .bW),[aI axf,aI nQ]⟩
theorem auN:bZ 32 0 Eu:=b9 aec [] []
theorem auP:bw 32 Lb:=bD aec [b8 auN] []
theorem auC:bZ 20 0 K_:=b9 fj [] []
theorem TK:bw 20 A2:=bD fj [b8 auC] []
theorem aeH:bw 34 EF:=bD fj [] []
theorem ad2:bw 11 Ep:=bD ⟨(put (put .nil 1 .bW) 5 .tok),[aI TK,aI avh,aI au9,aI auP,aI aeH]⟩ [] []
theorem auv:bZ 18 0 K9:=b9 fj [] [.c 11 adU adT]
theorem auy:bw 18 K8:=bD fj [b8 auv] []
theorem TM:bw 131 A3:=bD ⟨.nil,[aI auy]⟩ [] []
theorem rN:bw 77 pW:=bD ⟨.nil,[aI TM]⟩ [] []
theorem tJ:bw 78 o7:=bD ⟨.nil,[aI rN]⟩ [] []
noncomputable def afk:dn:=⟨.nil,[aI rN,aI tJ]⟩
theorem awl:bZ 79 0 EU:=b9 afk [] []
theorem awn:bw 79 Lu:=bD afk [b8 awl] []
theorem zv:bw 86 rM:=bD ⟨.nil,[aI TM]⟩ [] []
theorem afn:bw 88 EV:=bD ⟨.nil,[aI tJ,aI zv]⟩ [] []
theorem awq:bw 83 Lv:=bD ⟨.nil,[aI tJ,aI zv,aI afn]⟩ [] []
noncomputable def aeM:dn:=⟨.nil,[aI rN,aI awq]⟩
theorem avy:bZ 82 0 EH:=b9 aeM [] []
theorem aeL:bw 82 EG:=bD aeM [b8 avy] []
theorem awP:bw 81 LD:=bD ⟨.nil,[aI tJ,aI aeL]⟩ [] []
noncomputable def ae8:dn:=⟨.nil,[aI rN,aI awP]⟩
theorem av5:bZ 80 0 EO:=b9 ae8 [] []
theorem av7:bw 80 Lr:=bD ae8 [b8 av5] []
theorem awS:bw 37 LC:=bD ⟨.nil,[aI tJ,aI awn,aI av7]⟩ [] []
noncomputable def ae':dn:=⟨.nil,[aI awS,aI rN]⟩
theorem av_:bZ 36 0 EP:=b9 ae' [] []
theorem awa:bw 36 Ls:=bD ae' [b8 av_] []
theorem awE:bw 85 LA:=bD ⟨.nil,[aI tJ,aI aeL,aI zv]⟩ [] []
noncomputable def afc:dn:=⟨.nil,[aI rN,aI awE]⟩
theorem awd:bZ 84 0 ER:=b9 afc [] []
theorem awf:bw 84 Lt:=bD afc [b8 awd] []
theorem awH:bw 39 Lz:=bD ⟨.nil,[aI tJ,aI awf]⟩ [] []
noncomputable def ae5:dn:=⟨.nil,[aI awH,aI rN]⟩
theorem av0:bZ 38 0 EN:=b9 ae5 [] []
theorem av2:bw 38 Lp:=bD ae5 [b8 av0] []
noncomputable def aeQ:dn:=⟨.nil,[aI rN,aI afn]⟩
theorem avB:bZ 87 0 EI:=b9 aeQ [] []
theorem avD:bw 87 Lk:=bD aeQ [b8 avB] []
noncomputable def afg:dn:=⟨.nil,[aI rN,aI zv]⟩
theorem awi:bZ 132 0 ET:=b9 afg [] []
theorem aff:bw 132 ES:=bD afg [b8 awi] []
theorem awu:bw 134 Lx:=bD ⟨.nil,[aI tJ,aI zv]⟩ [] []
noncomputable def ae2:dn:=⟨.nil,[aI rN,aI awu]⟩
theorem avV:bZ 133 0 EM:=b9 ae2 [] []
theorem avX:bw 133 Lo:=bD ae2 [b8 avV] []
theorem awx:bw 136 Ly:=bD ⟨.nil,[aI tJ,aI aff]⟩ [] []
noncomputable def aeW:dn:=⟨.nil,[aI rN,aI awx]⟩
theorem avL:bZ 135 0 EK:=b9 aeW [] []
theorem avN:bw 135 Lm:=bD aeW [b8 avL] []
theorem awA:bw 90 Lw:=bD ⟨.nil,[aI tJ,aI zv,aI TM,aI aff,aI avX,aI avN]⟩ [] []
noncomputable def aeZ:dn:=⟨.nil,[aI rN,aI awA]⟩
theorem avQ:bZ 89 0 EL:=b9 aeZ [] []
theorem avS:bw 89 Ln:=bD aeZ [b8 avQ] []
theorem awM:bw 41 LB:=bD ⟨.nil,[aI tJ,aI zv,aI avD,aI avS]⟩ [] []
noncomputable def aeT:dn:=⟨.nil,[aI awM,aI rN]⟩
theorem avG:bZ 40 0 EJ:=b9 aeT [] []
theorem avI:bw 40 Ll:=bD aeT [b8 avG] []
theorem auB:bw 13 K7:=bD ⟨.nil,[aI TK,aI aeH,aI awa,aI av2,aI avI]⟩ [] []
def als:=aH []
def aMb:=aH [(0,bR)]
def P9 (x:U als):Option (U aMb):=(Ep (((L.nil,L.nil,L.nil,()),()),())).bind λaz=>(zu (((W 0),()),())).bind λaF=>cond (cB aF.1.1 (S ⟨#[0]⟩)) ((zu (((W (-1)),()),())).bind λaT=>cond (cB aT.1.1 (S ⟨#[1]⟩)) ((zu (((W 64),()),())).bind λaY=>cond (cB aY.1.1 (S ⟨#[128,1]⟩)) (cond (a9 az.1.2.1 (W 0)) (cond (a9 (mO az.1.1) (W 11)) ((pF az.1.1 0 ((W 7)).1).bind λcV=>cond (cB cV (S ⟨#[82,80,84,49,0,0,0]⟩)) ((A2 (((S ⟨#[]⟩),()),())).bind λbK=>some (((a9 bK.1.1 (bc.w .u32 2166136261)),()),())) (some ((false,()),()))) (some ((false,()),()))) (some ((false,()),()))) (some ((false,()),()))) (some ((false,()),()))) (some ((false,()),()))
def alq:=aH [(0,.agg gX)]
def aL':=aH [(0,bR)]
def W3:=aH [(1,.cH gX 0),(3,au),(4,au)]
def aL9:bE:=[((.exit 0),aH [(3,au)])]
def P8 (x:U W3):Option (U W3⊕bq aL9):=cond (bh x.1.2.2.1 (ba x.1.1.2.2.1)) (cond (bh x.1.2.2.1 (W 40)) ((aX x.1.1.2.2.1 (x.1.2.2.1).1).bind λaD=>(aX x.1.1.2.2.1 (x.1.2.2.1).1).bind λaQ=>some (.inl ((x.1.1,(bj (bj x.1.2.1 (ba aD.2.2.2.1)) (ba aQ.2.1)),(bj x.1.2.2.1 (W 1)),()),()))) (some (.inr ((x.1.2.1,()),())))) (some (.inr ((x.1.2.1,()),())))
def P7 (x:U alq):Option (U aL'):=(a3 P8 ((x.1.1,(W 0),(W 0),()),())).bind λaT=>cond (fN (ba x.1.1.2.2.1) (W 30)) (cond (fN (ba x.1.1.1) (W 20)) (cond (fN (ba x.1.1.2.1) (W 20)) (some (((bh aT.1.1 (W 2000)),()),())) (some ((false,()),()))) (some ((false,()),()))) (some ((false,()),()))
def alp:=aH [(0,aB bp),(1,au),(2,au),(3,.agg gX),(4,bR)]
def aL7:=aH [(0,bR)]
def W2:a4:=⟨[(0,aB bp),(1,au),(2,au),(4,bR),(11,cC)],[.box [aB dE,aB ek,aB hU]]⟩
def alo:bE:=[(.normal,⟨[],[.box [aB dE,aB ek,aB hU]]⟩)]
def W1 (x:U W2):Option (bq alo):=cond (!x.1.2.2.2.1) ((L4 ((x.1.1,(W 0),(W 0),()),())).bind λaF=>(L2 ((aF.1.1,()),())).bind λaT=>cond (bh (W 0) x.1.2.1) ((L1 ((aT.1.1,x.1.2.1,x.1.2.2.1,()),())).bind λaY=>some ((),((aY.1.1.1,aY.1.1.2.1,aY.1.1.2.2.1,()),()))) (some ((),((aT.1.1.1,aT.1.1.2.1,aT.1.1.2.2.1,()),())))) (some ((),(x.2.1,())))
def W0 (x:U alp):Option (U aL7):=(P9 ((),())).bind λaz=>cond (!az.1.1) (some ((false,()),())) ((W1 ((x.1.1,x.1.2.1,x.1.2.2.1,x.1.2.2.2.2.1,(),()),((x.1.2.2.2.1.1,x.1.2.2.2.1.2.1,x.1.2.2.2.1.2.2.1,()),()))).bind λa5=>(P7 (((a5.2.1.1,a5.2.1.2.1,a5.2.1.2.2.1,()),()),())).bind λbK=>cond (!bK.1.1) (some ((true,()),())) ((Ep (((a5.2.1.1,a5.2.1.2.1,a5.2.1.2.2.1,()),()),())).bind λbL=>(N3 (((a5.2.1.1,a5.2.1.2.1,a5.2.1.2.2.1,()),()),())).bind λcu=>cond (!a9 bL.1.2.1 cu.1.2.1) (some ((false,()),())) (cond (!cB bL.1.1 cu.1.1) (some ((false,()),())) ((K7 ((bL.1.1,()),())).bind λbU=>cond (!a9 bL.1.2.1 (W 0)) (cond (a9 bL.1.2.1 (W 3300)) (some (((cB bL.1.1 (S ⟨#[]⟩)),()),())) (some ((false,()),()))) (cond (a9 bU.1.2.1 (W 0)) ((NY (((a5.2.1.1,a5.2.1.2.1,a5.2.1.2.2.1,()),bU.1.1,()),())).bind λcd=>some ((cd.1.1,()),())) (some ((false,()),())))))))
theorem aMa:bw 6 P9:=bD ⟨.nil,[aI ad2,aI TK,aI adR]⟩ [] []
noncomputable def alr:dn:=⟨(put .nil 1 .bW),[]⟩
theorem aL8:bZ 10 0 P8:=b9 alr [] []
theorem aL_:bw 10 P7:=bD alr [b8 aL8] []
theorem aL6:bw 3 W0:=bD ⟨(put (put .nil 8 .bW) 16 .bW),[aI aMa,aI axL,aI axP,aI axI,aI aL_,aI ad2,aI aEW,aI auB,aI aEM]⟩ [] [.c 13 W2 alo]
def aw {α:Type}(o:Option α)(P:α->Prop):Prop:=∃y,o=some y/\P y
section
variable{α β Cl:Type}{P Q:α->Prop}{R:β->Prop}
theorem ak {y:α}(h:P y):aw (some y) P:=⟨y,rfl,h⟩
theorem bz {R:β->Prop}{y:α}(h:P y):aw (some (Sum.inl y:α⊕β)) (Sum.elim P R):=⟨_,rfl,h⟩
theorem a7 {R:β->Prop}{y:β}(h:R y):aw (some (Sum.inr y:α⊕β)) (Sum.elim P R):=⟨_,rfl,h⟩
theorem ae {o:Option α}{f:α->Option β}(h:aw o P)(bB:∀a,P a->aw (f a) R):aw (o.bind f) R:=by
 obtain⟨a,rfl,cf⟩:=h;exact bB a cf
theorem ag {b:Bool}{x y:Option α}(aa:b=true->aw x P)(af:b=false->aw y P):aw (cond b x y) P:=by
 cases b with
 |true=>exact aa rfl
 |false=>exact af rfl
theorem eg {S:Cl->Prop}{s:α⊕β}{f:α->Option Cl}{g:β->Option Cl}(aP:Sum.elim P R s)(aa:∀a,P a->aw (f a) S)(af:∀b,R b->aw (g b) S):aw (Sum.elim f g s) S:=by
 cases s with
 |inl a=>exact aa a aP
 |inr b=>exact af b aP
theorem aw.mono {o:Option α}(h:aw o P)(ay:∀y,P y->Q y):aw o Q:=by
 obtain⟨y,aa,af⟩:=h;exact⟨y,aa,ay y af⟩
theorem cQ {h:α->Option (α⊕β)}(Cr:α->Prop)(Is:α->Nat)(aP:∀x,Cr x->aw (h x) (Sum.elim (λjn=>Cr jn/\Is jn<Is x) R)):∀x,Cr x->aw (a3 h x) R:=by
 have key:∀n x,Is x<n->Cr x->aw (a3 h x) R:=by
  intro n;induction n with
  |zero=>intro x aW;omega
  |succ n cj=>
   intro x aW aE;obtain⟨r,aa,af⟩:=aP x aE;cases r with
   |inl jn=>
    rw[ar8 aa];have af:Cr jn/\Is jn<Is x:=af;exact cj jn ab af.1
   |inr y=>exact⟨y,ar7 aa,af⟩
 exactλx=>key _ x (Nat.lt_succ_self _)
end
section
variable{k cv:IntKind}
theorem wrap64 (n:Int):IntKind.i64.wrap n=(n+9223372036854775808)%18446744073709551616-9223372036854775808:=by
 show(if(true&&decide (n%(2^64:Int)>=(2^(64-1):Int)))=true then n%(2^64:Int)-(2^64:Int) else n%(2^64:Int))=_;have aD:(2^64:Int)=18446744073709551616:=by decide
 have aQ:(2^(64-1):Int)=9223372036854775808:=by decide
 rw[aD,aQ];simp only[Bool.true_and,decide_eq_true_eq];split<;>omega
theorem oD (n:Int):IntKind.u64.wrap n=n%18446744073709551616:=by
 show(if(false&&decide (n%(2^64:Int)>=(2^(64-1):Int)))=true then n%(2^64:Int)-(2^64:Int) else n%(2^64:Int))=_;have aD:(2^64:Int)=18446744073709551616:=by decide
 rw[aD];simp
theorem xG (n:Int):IntKind.u8.wrap n=n%256:=by
 show(if(false&&decide (n%(2^8:Int)>=(2^(8-1):Int)))=true then n%(2^8:Int)-(2^8:Int) else n%(2^8:Int))=_;have aD:(2^8:Int)=256:=by decide
 rw[aD];simp
theorem L.b {α:Type}(l:L α):l.1.length<=140737488355328:=l.2
theorem S.b (s:ee):s.1.size<=9223372036854775807:=s.2
theorem bc.ry (x:bc .i64):-9223372036854775808<=x.1/\x.1<=9223372036854775807:=x.2
theorem abC (n:Int):(bc.w k n).1=k.wrap n:=rfl
theorem abr (a b:bc k):(bj a b).1=k.wrap (a.1+b.1):=rfl
theorem abB (a b:bc k):(eF a b).1=k.wrap (a.1-b.1):=rfl
theorem SU (a b:bc k):(vI a b).1=k.wrap (a.1*b.1):=rfl
theorem q6 (a:bc k):(eN cv a).1=cv.wrap a.1:=rfl
theorem abw (a:bc k):(uA a).1=k.wrap (0-a.1):=rfl
theorem ark (a b:bc k):(AM a b).1=min a.1 b.1:=by
 unfold AM;by_cases h:a.1<=b.1
 ·simp[h,Int.min_eq_left h]
 ·simp[h];omega
theorem arj (a b:bc k):(imax a b).1=max a.1 b.1:=by
 unfold imax;by_cases h:b.1<=a.1
 ·simp[h,Int.max_eq_left h]
 ·simp[h];omega
theorem Tc {α:Type}(l:L α):(ba l).1=l.1.length:=rfl
theorem ar1 (s:ee):(mO s).1=s.1.size:=rfl
theorem ari (a b:bc k):bh a b=true↔a.1<b.1:=by simp[bh]
theorem arh (a b:bc k):bh a b=false↔b.1<=a.1:=by simp[bh]
theorem arf (a b:bc k):fN a b=true↔a.1<=b.1:=by simp[fN]
theorem are (a b:bc k):fN a b=false↔b.1<a.1:=by simp[fN]
theorem abv (a b:bc k):a9 a b=true↔a.1=b.1:=by simp[a9]
theorem ard (a b:bc k):a9 a b=false↔¬a.1=b.1:=by simp[a9]
theorem Zy (s t:ee):cB s t=true↔s=t:=by simp[cB]
theorem aoj (s t:ee):cB s t=false↔¬s=t:=by simp[cB]
theorem auk (b:Bool):(!b)=true↔b=false:=by cases b<;>simp
theorem aui (b:Bool):(!b)=false↔b=true:=by cases b<;>simp
theorem xl {α:Type}:(L.nil:L α).1=[]:=rfl
end
section
variable{α:Type}{k cv:IntKind}
theorem c5 {l:L α}{i:Int}(h:0<=i/\i<l.1.length):aw (aX l i) (λe=>l.1[i.toNat]?=some e):=by
 have bn:i.toNat<l.1.length:=ab;refine⟨l.1[i.toNat],?_,fy bn⟩;unfold aX;rw[show decide (0<=i)=true from decide_eq_true h.1];exact fy bn
theorem j_ {l:L α}{i:Nat}(h:i<l.1.length):aw (eO l i) (λe=>l.1[i]?=some e):=⟨l.1[i],fy h,fy h⟩
theorem y4 {s:ee}{i:Int}(h:0<=i/\i<s.1.size):aw (uC s i) (λu=>∃b,s.1.data[i.toNat]?=some b/\u.1=(b.toNat:Int)):=by
 have bn:i.toNat<s.1.data.size:=by have:s.1.data.size=s.1.size:=rfl;omega
 unfold uC;rw[show decide (0<=i)=true from decide_eq_true h.1,Array.getElem?_eq_getElem bn];exact⟨_,rfl,_,rfl,rfl⟩
theorem qd {l:L α}{dx aj:Int}(h:0<=dx/\dx<=aj/\aj<=l.1.length):aw (nG l dx aj) (λr=>r.1=(l.1.drop dx.toNat).take (aj-dx).toNat/\(r.1.length:Int)=aj-dx):=by
 unfold nG;rw[show(decide (0<=dx)&&decide (dx<=aj)&&decide (aj<=l.1.length))=true by simp[h]];refine⟨_,rfl,rfl,?_⟩;show(((l.1.drop dx.toNat).take (aj-dx).toNat).length:Int)=_;rw[List.length_take,List.length_drop];omega
theorem Rr {s:ee}{dx aj:Int}(h:0<=dx/\dx<=aj/\aj<=s.1.size):aw (pF s dx aj) (λr=>r.1=s.1.extract dx.toNat aj.toNat/\(r.1.size:Int)=aj-dx):=by
 unfold pF;rw[dif_pos (by simp[h])];refine⟨_,rfl,rfl,?_⟩;show((s.1.extract dx.toNat aj.toNat).size:Int)=_;rw[ByteArray.size_extract];omega
theorem du {eZ:Nat}{l r:L α}(h:(l.1.length+r.1.length)*eZ<=140737488355328/\l.1.length+r.1.length<=1048576000):aw (c8 eZ l r) (λx=>x.1=l.1++r.1/\x.1.length=l.1.length+r.1.length):=by
 unfold c8;rw[dif_pos (by simp[room,h])];exact⟨_,rfl,rfl,bl⟩
theorem oR {s t:ee}(h:s.1.size+t.1.size<=9223372036854775807):aw (fF s t) (λu=>u.1=s.1++t.1/\u.1.size=s.1.size+t.1.size):=by
 unfold fF;rw[dif_pos h];exact⟨_,rfl,rfl,ByteArray.size_append⟩
theorem uG {eZ:Nat}{n:bc k}{z:α}(h:0<=n.1/\n.1.toNat*eZ<=140737488355328/\n.1.toNat<=1048576000):aw (q9 eZ n z) (λl=>l.1=List.replicate n.1.toNat z/\l.1.length=n.1.toNat):=by
 unfold q9;rw[dif_pos (by simp[room,h])];exact⟨_,rfl,rfl,List.length_replicate⟩
theorem AP {a b:bc k}(h:b.1≠0):aw (vK a b) (λc=>c.1=k.wrap (Int.tdiv a.1 b.1)):=by
 unfold vK;rw[show decide (b.1=0)=false from decide_eq_false h];exact⟨_,rfl,rfl⟩
theorem me {a b:bc k}(h:b.1≠0):aw (lk a b) (λc=>c.1=k.wrap (Int.tmod a.1 b.1)):=by
 unfold lk;rw[show decide (b.1=0)=false from decide_eq_false h];exact⟨_,rfl,rfl⟩
theorem SW {a:bc k}{b:bc cv}(h:0<=b.1):aw (AR a b) (λc=>c.1=k.wrap (a.1*(2^(min b.1.toNat k.bits):Nat))):=by
 unfold AR;rw[show decide (0<=b.1)=true from decide_eq_true h];exact⟨_,rfl,rfl⟩
theorem uB {a:bc k}{b:bc cv}(h:0<=b.1):aw (rI a b) (λc=>c.1=k.wrap (Int.fdiv a.1 (2^(min b.1.toNat k.bits):Nat))):=by
 unfold rI;rw[show decide (0<=b.1)=true from decide_eq_true h];exact⟨_,rfl,rfl⟩
theorem anx {s:ee}(h:s.1.size<=140737488355328):aw (s6 s) (λl=>l.1.length=s.1.size):=by
 unfold s6;rw[dif_pos h];refine⟨_,rfl,?_⟩;show(s.1.data.toList.map _).length=_;rw[List.length_map,Array.length_toList];rfl
end
theorem aM:(∀{k:IntKind}(n:Int),(bc.w k n).1=k.wrap n)/\(∀{k:IntKind}(a b:bc k),(bj a b).1=k.wrap (a.1+b.1))/\(∀{k:IntKind}(a b:bc k),(eF a b).1=k.wrap (a.1-b.1))/\(∀{k:IntKind}(a b:bc k),(vI a b).1=k.wrap (a.1*b.1))/\(∀{k:IntKind}(a:bc k),(uA a).1=k.wrap (0-a.1))/\(∀{k cv:IntKind}(a:bc k),(eN cv a).1=cv.wrap a.1)/\(∀{α:Type}(l:L α),(ba l).1=l.1.length)/\(∀s:ee,(mO s).1=s.1.size)/\(∀{α:Type},(L.nil:L α).1=[])/\(∀n:Int,IntKind.i64.wrap n=(n+9223372036854775808)%18446744073709551616-9223372036854775808)/\(∀n:Int,IntKind.u64.wrap n=n%18446744073709551616)/\(∀n:Int,IntKind.u8.wrap n=n%256)/\(∀{k:IntKind}(a b:bc k),(AM a b).1=min a.1 b.1)/\(∀{k:IntKind}(a b:bc k),(imax a b).1=max a.1 b.1):=⟨abC,abr,abB,SU,abw,q6,Tc,ar1,xl,wrap64,oD,xG,ark,arj⟩
theorem y_ {α:Type}(l:List α)(h:l.length<=100):(cD l).1.length=l.length:=by rw[fI ab]
theorem b5:(∀{α:Type},([]:List α).length=0)/\(∀{α:Type}(a:α)(l:List α),(a::l).length=l.length+1)/\(∀{α:Type}(l r:List α),(l++r).length=l.length+r.length)/\
 (∀{α:Type}(l:L α)(i:Nat)(x:α),(dO l i x).1.length=l.1.length)/\(∀{α:Type},(cD ([]:List α)).1.length=0)/\(∀{α:Type}(a:α),(cD [a]).1.length=1)/\(∀{α:Type}(a b:α),(cD [a,b]).1.length=2)/\
 (∀{α:Type}(a b c:α),(cD [a,b,c]).1.length=3)/\(∀{α:Type}(a b c d:α),(cD [a,b,c,d]).1.length=4)/\(∀{α:Type}(a b c d e:α),(cD [a,b,c,d,e]).1.length=5)/\(∀{α:Type}(a b c d e f:α),(cD [a,b,c,d,e,f]).1.length=6)/\
 (∀l:L (D [.int .u8]),(py l).1.size=l.1.length):=
 ⟨λ{_}=>bN,λ{_} _ _=>gS,λ{_} _ _=>bl,λ{_} l i x=>by simp[dO],λ{_}=>y_ [] (by simp),λ{_} a=>y_ [a] (by simp),λ{_} a b=>y_ [a,b] (by simp),
  λ{_} a b c=>y_ [a,b,c] (by simp),λ{_} a b c d=>y_ [a,b,c,d] (by simp),λ{_} a b c d e=>y_ [a,b,c,d,e] (by simp),λ{_} a b c d e f=>y_ [a,b,c,d,e,f] (by simp),λl=>by
  show((l.1.map _).toArray).size=_
  simp⟩
theorem cG:(∀{k:IntKind}(a b:bc k),(bh a b=true)=(a.1<b.1))/\(∀{k:IntKind}(a b:bc k),(bh a b=false)=(b.1<=a.1))/\(∀{k:IntKind}(a b:bc k),(fN a b=true)=(a.1<=b.1))/\
 (∀{k:IntKind}(a b:bc k),(fN a b=false)=(b.1<a.1))/\(∀{k:IntKind}(a b:bc k),(a9 a b=true)=(a.1=b.1))/\(∀{k:IntKind}(a b:bc k),(a9 a b=false)=¬a.1=b.1)/\
 (∀s t:ee,(cB s t=true)=(s=t))/\(∀s t:ee,(cB s t=false)=¬s=t)/\(∀b:Bool,((!b)=true)=(b=false))/\(∀b:Bool,((!b)=false)=(b=true))/\
 (∀p q:Bool,((p&&q)=true)=(p=true/\q=true))/\(∀p q:Bool,((p||q)=true)=(p=true\/q=true))/\(∀p q:Bool,((p&&q)=false)=(p=true->q=false))/\(∀p q:Bool,((p||q)=false)=(p=false/\q=false)):=
 ⟨λa b=>propext (ari a b),λa b=>propext (arh a b),λa b=>propext (arf a b),λa b=>propext (are a b),λa b=>propext (abv a b),λa b=>propext (ard a b),
  λs t=>propext (Zy s t),λs t=>propext (aoj s t),λb=>propext (auk b),λb=>propext (aui b),λp q=>by cases p<;>simp,λp q=>by simp,λp q=>by cases p<;>simp,λp q=>by simp⟩
theorem av:type_of%(And.intro cG (And.intro aM (And.intro (@decide_eq_true_eq) (@decide_eq_false_iff_not)))):=And.intro cG (And.intro aM (And.intro (@decide_eq_true_eq) (@decide_eq_false_iff_not)))
theorem dJ {p:Prop}(h:p:=by simp only[aM,b5] at*<;>omega):p:=h
theorem de {p:Prop}(h:p:=by simp only[aM,b5];omega):p:=h
theorem lM {p:Prop}(h:p:=by simp only[b5];omega):p:=h
theorem dX {p:Prop}(h:p:=by dsimp only<;>simp only[aM,b5] at*<;>omega):p:=h
theorem eY {p:Prop}(h:p:=by dsimp only<;>simp only[aM]<;>omega):p:=h
theorem gQ {p:Prop}(h:p:=by dsimp only[Sum.elim]<;>omega):p:=h
theorem gk {p:Prop}(h:p:=by dsimp only<;>omega):p:=h
theorem da {p:Prop}(h:p:=by dsimp only[Sum.elim]<;>exact aK):p:=h
theorem iH {p:Prop}(h:p:=by dsimp only[Sum.elim]<;>rfl):p:=h
theorem r0 {p:Prop}(h:p:=by dsimp only[Sum.elim]<;>(simp only[aM];decide)):p:=h
theorem mX {p:Prop}(h:p:=by dsimp only<;>(intro ay;contradiction)):p:=h
theorem bt {α β:Type}{l:L α}{i:Int}{f:α->Option β}{R:β->Prop}(bB:∀e,l.1[i.toNat]?=some e->aw (f e) R)(h:0<=i/\i<l.1.length:=by omega):aw ((aX l i).bind f) R:=ae (c5 h) bB
theorem iv {α β:Type}{l:L α}{i:Nat}{f:α->Option β}{R:β->Prop}(bB:∀e,l.1[i]?=some e->aw (f e) R)(h:i<l.1.length:=by omega):aw ((eO l i).bind f) R:=ae (j_ h) bB
end cx
end Go.Proofs.YtgmdfchkljaooaaGreat
