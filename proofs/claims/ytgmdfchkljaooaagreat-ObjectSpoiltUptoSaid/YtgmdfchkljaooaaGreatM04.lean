/- Typed values. -/
import Derived.Orders
import Derived.Test.YtgmdfchkljaooaaGreatM03
noncomputable section
namespace Go.Proofs.YtgmdfchkljaooaaGreat
open Go.RowKit
namespace cB
open bx (T cv under size j3 ff jr gZ lH qd qf g8 lh nu)
set_option linter.unusedVariables false
set_option linter.unusedSimpArgs false
section
variable{aS:Program} {w:World} {m m':M} {σ a8:bF} {F:Fr} {a:Go.Act} {n:Nat} {v:V} {α:Type} {t t':TypeId} {x y z:Operand} {cg:T TypeInfo} {r:R} {e lI eR:Nat} {i:TypeInfo} {gD u:Value} {ty:da}
theorem aic (hu:aS.underlying t=some (.slice e)) (aj:aS.info? e=some i) {news:List Value} (nR:Src aS i.size t' u 0 news w) {A:Option Addr} {len cap:Nat} (hle:len<=cap):
 (Builtin.append_ #[t,t'] lI #[.slice A len cap,u]).run aS w=.ok (.slice A len cap) w:=by
 have aA:news=[]:=oW (by simpa using nR.newsLen);have aq:=nR.cells;rw[aA] at aq;rcases nR.kind with⟨e',aP⟩|aP<;>cases A<;>simp[Builtin.append_,run_underlying hu,run_underlying aP,sizeOf,typeInfo,aj,nR.len,hle,aq,storeCells]
theorem aid (hu:aS.underlying t=some (.slice e)) (aj:aS.info? e=some i) {k:Nat} {news:List Value} (nR:Src aS i.size t' u k news w) {b o len cap:Nat} {w':World} (hle:len+k<=cap)
 (gM:(storeCells ⟨b,o+len*i.size,none⟩ news).run aS w=.ok () w'):
 (Builtin.append_ #[t,t'] lI #[.slice (some ⟨b,o,none⟩) len cap,u]).run aS w=.ok (.slice (some ⟨b,o,none⟩) (len+k) cap) w':=by
 rcases nR.kind with⟨e',aP⟩|aP<;>simp[Builtin.append_,run_underlying hu,run_underlying aP,sizeOf,typeInfo,aj,nR.len,hle,nR.cells,bx.add_eq,gM]
structure OG (aS:Program) (e eR:Nat) (ty:da) (i:TypeInfo) (gD:Value):Prop where
  info:aS.info? e=some i
  size:i.size=ty.length
  bytes:i.bytes=eR
  zero:i.zero=some gD
  ai3:gD.cells.size=ty.length
theorem VP {l eu fN:L α} (h:de eR l eu=some fN):fN.1=l.1++eu.1/\(l.1.length+eu.1.length)*eR<=140737488355328/\l.1.length+eu.1.length<=1048576000:=by
 unfold de at h;split at h
 ·rename_i aJ;cases h;exact⟨rfl,ah9 aJ⟩
 ·cases h
theorem Xc {w:World} {iF news:List Value} {sz CU cap e:Nat} {nB:Array Value} (a3:(iF++news).length=CU*sz) (ax:nB.size=sz):
 ((iF++news).toArray++Builtin.zeroCells nB (grownCap w CU cap e-CU)).size=grownCap w CU cap e*sz:=by
 have:=grownCap_ge w CU cap e;rw[Array.size_append,size_zeroCells,ax,List.size_toArray,a3,<-iC];congr 1;omega
theorem Step.tok {m':M} {k:Nat} {b fG:B} {w':World} (h:bt m σ w) (aP:σ.heap.get k=some fG) (ai:∀cs,fG≠.box cs) (e:js σ.next m m') (gu:gX m σ w m' ⟨(σ.heap.put k none).put σ.next (some b),σ.next+1⟩ w'):Step m σ w m' ⟨(σ.heap.put k none).put σ.next (some b),σ.next+1⟩ w':=
 ⟨e,gu,Nat.le_succ _,λj cs au _=>by
  have aa:j≠σ.next:=λq=>by subst q;rw[(h.fresh _ (Nat.le_refl _)).2.2.2] at au;cases au
  have ae:j≠k:=λq=>by subst q;rw[aP] at au;cases au;exact ai _ rfl
  show((σ.heap.put k none).put σ.next (some b)).get j=_;rw[bx.T.eB _ _ aa,bx.T.eB _ _ ae];exact au⟩
theorem gX.drop (h:bt m σ w) {k:Nat} {m':M} {a8:bF} {w':World} (gu:gX m ⟨σ.heap.put k none,σ.next⟩ w m' a8 w'):gX m σ w m' a8 w':=(h.drop k).2.trans gu
theorem aqM {iF vs:List Value} {kW p_ sz:Nat} {nl gb:List Bool} (bR:iF.length=kW*sz) (aa:∀i f,i<kW->f<sz->nl[f]?.getD false=true->iF[i*sz+f]? =some (.slice none 0 0))
 (ae:∀i f,i<p_->f<sz->gb[f]?.getD false=true->vs[i*sz+f]? =some (.slice none 0 0)):∀i f,i<kW+p_->f<sz->(tJ nl gb)[f]?.getD false=true->(iF++vs)[i*sz+f]? =some (.slice none 0 0):=by
 intro i f aj bu bW;obtain⟨dE,dc⟩:=Hf bW;by_cases bK:i<kW
 ·have:(i+1)*sz<=kW*sz:=mS _ bK;rw[iC,Nat.one_mul] at this;rw[lM ab];exact aa i f bK bu dE
 ·have e:i*sz=kW*sz+(i-kW)*sz:=by rw[<-iC];congr 1;omega
  rw[l8 ab];have:=ae (i-kW) f ab bu dc;rw[<-this];congr 1;omega
theorem O1 {k:Nat} {nl gb:List Bool} {l eu:L (D ty)} {v0:Value} {vs:List Value} (gQ:OG aS e eR ty i gD) (hu:aS.underlying t=some (.slice e)) (bc:bt m σ w) (aP:σ.heap.get k=some (.a6 ty)) (fB:m.bb k=some v0) (ku:dO m.fz (.aH ty) l v0)
 (nR:Src aS ty.length t' u eu.1.length vs w) (u4:iU m.fz ty eu.1 vs) (nQ:nG m.fz nl ty.length v0) (qw:∀i f,i<eu.1.length->f<ty.length->gb[f]?.getD false=true->vs[i*ty.length+f]? =some (.slice none 0 0)) (h:cI (y_ ty eR k l nl eu gb σ) r):mq aS m σ w (Builtin.append_ #[t,t'] lI #[v0,u]) r:=by
 obtain⟨fN,qA,h⟩:=h.mG;obtain rfl:=h.eA;obtain⟨aE,aX,bL⟩:=VP qA;have hlen:fN.1.length=l.1.length+eu.1.length:=by rw[aE,bY]
 obtain⟨A,c,iF,rfl,hle,mj,lG,Jw⟩:=Us ku;have u3:=nR;rw[<-gQ.size] at u3;obtain⟨eO,cj,c',cm,cF,dy⟩:=bc.live k _ aP;rw[fB] at cm;cases cm;have qu:=bc.drop k;have X0:∀{m' w'},gX m ⟨σ.heap.put k none,σ.next⟩ w m' ⟨(σ.heap.put k none).put σ.next (some (.a6 ty)),σ.next+1⟩ w'->js σ.next m m'->Step m σ w m' ⟨(σ.heap.put k none).put σ.next (some (.a6 ty)),σ.next+1⟩ w':=λgu ex=>.tok bc aP (by simp) ex (gu.drop bc);have grow:∀(iF:List Value),iU m.fz ty l.1 iF->c<l.1.length+eu.1.length->(Builtin.firstCells ty.length l.1.length (.slice A l.1.length c)).run aS w.drew=.ok iF.toArray w.drew->
  (∀i f,i<l.1.length->f<ty.length->nl[f]?.getD false=true->iF[i*ty.length+f]? =some (.slice none 0 0))->
  mq aS m σ w (Builtin.append_ #[t,t'] lI #[.slice A l.1.length c,u]) (.val (.p (.c (.row ty fN (.ny σ.next (tJ nl gb) ty.length)))) ⟨(σ.heap.put k none).put σ.next (some (.a6 ty)),σ.next+1⟩):=by
  intro iF bR bZ bu amU;have aJ:=run_append_grow_src (P:=aS) w t t' lI e i gD hu gQ.info gQ.zero A l.1.length c iF (by rw[gQ.size];exact bu) u eu.1.length vs u3 bZ ab (growslice_fits bZ (by rw[gQ.bytes];exact aX));have Ch:(iF++vs).length=(l.1.length+eu.1.length)*ty.length:=by rw[bY,bR.length,nR.newsLen,iC]
  have lQ:=grownCap_ge w (l.1.length+eu.1.length) c e;obtain⟨m',aF,aQ,bn,cy,fj⟩:=(qu.1.tc (zf w)).aaN (t:=ty) (vs:=iF++vs) (n:=l.1.length+eu.1.length) (c:=grownCap w (l.1.length+eu.1.length) c e)
   (cur:=(iF++vs).toArray++Builtin.zeroCells gD.cells (grownCap w (l.1.length+eu.1.length) c e-(l.1.length+eu.1.length))) (ty:=e) Ch lQ (by rw[Xc Ch gQ.ai3];exact Nat.le_refl _)
   (λj v au=>by rw[Array.getElem?_append_left (by rw[List.size_toArray];exact(ed.1 au).1)];simpa using au)
  refine⟨m',_,_,X0 ((gX.tc qu.1 (zf w)).trans bn) aF,aJ,aQ, ?_,cy,λb o len aj6 aM i f aj bu bW=> ?_⟩
  rotate_left
  ·cases aM;have:=fj _ _ (aqM bR.length amU qw i f aj bu bW);rw[fL] at this⊢;exact this
  have:=Hz (fz:=m'.fz) (x:=fN) (b:=w.heap.size) (o:=0) (c:=grownCap w (l.1.length+eu.1.length) c e) (vs:=iF++vs) (by rw[aE];exact(bR.append u4).ext aF.ext.fz) fj (by rw[hlen];exact lQ)
  rwa [hlen] at this
 rcases dy with⟨rfl,rfl,ki⟩|⟨b,cur,GW,bQ,rfl,ki,lX,Ag,gx,jn,au9,au_⟩
 ·have qx:l.1=[]:=oW ab;by_cases aA:eu.1.length=0
  ·have Qg:fN.1=[]:=oW (by rw[hlen,qx,aA];rfl);obtain⟨aF,aQ,bn⟩:=qu.1.Rm ty;have aJ:=aic (aS:=aS) (w:=w) (t':=t') (u:=u) (lI:=lI) hu gQ.info (by rw[<-aA];exact u3) (A:=none) (len:=l.1.length) (cap:=0) ab;refine⟨_,_,_,X0 bn aF,aJ,aQ, ?_, ?_,nG.nil⟩
   ·rw[qx];have:=dO.nil (m.ez σ.next none (.slice none 0 0) m.fz m.dn).fz ty;have ay:fN=L.nil:=Subtype.ext Qg;rw[ay];exact this
   ·rw[qx];show(m.ez σ.next none (.slice none 0 0) m.fz m.dn).bb σ.next=_;simp[M.ez]
  ·refine grow [] (by rw[qx];rfl) ab ?_ λi f aj=>by simp[qx] at aj
   rw[qx];simp[Builtin.firstCells]
 ·have vV:∀(j:Nat) u,iF[j]? =some u->(m.fz b)[j]? =some u:=λj u hu=>by
   obtain⟨fG,fl,ey,fq⟩:=lG λq=>by rw[q] at hu;simp at hu
   cases ey;have:=fq j u hu
   rwa [fL] at this
  by_cases zM:l.1.length+eu.1.length<=c
  ·obtain⟨m',w',jz,aF,aQ,bn,cy,fj⟩:=bc.alq (aS:=aS) aP fB (n:=eu.1.length) (vs:=vs) nR.newsLen zM (Bj nR.one);have aJ:=aid (aS:=aS) (w:=w) (lI:=lI) (o:=0) (w':=w') hu gQ.info u3 zM (by rw[gQ.size,fL];exact jz);refine⟨m',_,w',.tok bc aP (by simp) aF bn,aJ,aQ, ?_,cy,λfG o len aj6 aM i f aj bu bW=> ?_⟩
   rotate_left
   ·cases aM;obtain⟨dE,dc⟩:=Hf bW;rw[fL];by_cases bK:i<l.1.length
    ·have:=nQ _ _ _ _ rfl i f bK bu dE;rw[fL] at this;exact aF.ext.fz _ _ _ this
    ·have e:i*ty.length=l.1.length*ty.length+(i-l.1.length)*ty.length:=by rw[<-iC];congr 1;omega
     have:=fj _ _ (qw (i-l.1.length) f ab bu dc);rw[<-this];congr 1;omega
   have:=Hz (fz:=m'.fz) (x:=fN) (b:=b) (o:=0) (c:=c) (vs:=iF++vs) (by rw[aE];exact(mj.append u4).ext aF.ext.fz) (λj u hu=> ?_) (by rw[hlen];exact zM)
   ·rwa [hlen] at this
   ·have Ch:=mj.length;by_cases au:j<iF.length
    ·rw[lM au] at hu;rw[fL];exact aF.ext.fz _ _ _ (vV j u hu)
    ·rw[l8 ab] at hu;have:=fj _ u hu;rw[<-this];congr 1;omega
  ·refine grow iF mj ab ?_ λi f aj bu bW=> ?_
   rotate_left
   ·have aa:=nQ _ _ _ _ rfl i f aj bu bW;rw[fL] at aa;have bK:i*ty.length+f<iF.length:=by
     have:(i+1)*ty.length<=l.1.length*ty.length:=mS _ aj;rw[iC,Nat.one_mul] at this;rw[mj.length];omega
    have ae:=vV _ _ (e_ bK);rw[e_ bK,<-ae,aa]
   have:(loadCells ⟨b,0,none⟩ iF.length).run aS w.drew=.ok iF.toArray w.drew:=by
    refine bx.run_loadCells (w:=w.drew) lX iF λj au=> ?_;obtain⟨g5,iS,jh,ey,fq⟩:=bc.stay _ _ _ (vV j _ (e_ au));rw[lX] at ey;cases ey;rw[fL,fq,e_ au]
   rw[mj.length] at this;exact this
theorem VO {k cX:Nat} {a4:List Bool} {l eu:L (D ty)} {v0:Value} {vs:List Value} (gQ:OG aS e eR ty i gD) (hu:aS.underlying t=some (.slice e)) (bc:bt m σ w) (aP:σ.heap.get k=some (.arr ty a4 l none cX)) (fB:m.bb k=some v0)
 (nR:Src aS ty.length t' u eu.1.length vs w) (u4:jF m.fz ty a4 eu.1 vs) (h:cI (Hh ty a4 eR k l eu σ) r):mq aS m σ w (Builtin.append_ #[t,t'] lI #[v0,u]) r:=by
 obtain⟨fN,qA,h⟩:=h.mG;obtain rfl:=h.eA;obtain⟨aE,aX,bL⟩:=VP qA;have hlen:fN.1.length=l.1.length+eu.1.length:=by rw[aE,bY]
 have u3:=nR;rw[<-gQ.size] at u3;obtain⟨A,c,cm,cF,yC,dy⟩:=bc.live k _ aP;rw[fB] at cm;cases cm;have grow:∀(iF:List Value),iF.length=l.1.length*ty.length->c<l.1.length+eu.1.length->(Builtin.firstCells ty.length l.1.length (.slice A l.1.length c)).run aS w.drew=.ok iF.toArray w.drew->
  (∀r nK ty bQ,A=some ⟨r,0,none⟩->w.heap[r]? =some (.cells nK ty bQ)->∀j,j<iF.length->iF[j]? =nK[j]?)->
  mq aS m σ w (Builtin.append_ #[t,t'] lI #[.slice A l.1.length c,u]) (.val (.p (.c (.aH σ.next fN.1.length))) ⟨(σ.heap.put k none).put σ.next (some (.arr ty a4 fN none 0)),σ.next+1⟩):=by
  intro iF bR bZ bu hold;have aJ:=run_append_grow_src (P:=aS) w t t' lI e i gD hu gQ.info gQ.zero A l.1.length c iF (by rw[gQ.size];exact bu) u eu.1.length vs u3 bZ ab (growslice_fits bZ (by rw[gQ.bytes];exact aX));have Ch:(iF++vs).length=(l.1.length+eu.1.length)*ty.length:=by rw[bY,bR,nR.newsLen,iC]
  have lQ:=grownCap_ge w (l.1.length+eu.1.length) c e;have nO:∀j,j<(iF++vs).length->((iF++vs).toArray++Builtin.zeroCells gD.cells (grownCap w (l.1.length+eu.1.length) c e-(l.1.length+eu.1.length)))[j]? =(iF++vs)[j]? :=λj au=>by
   rw[Array.getElem?_append_left (by rw[List.size_toArray];exact au)];simp
  obtain⟨m',aF,aQ,bn,cy⟩:=(bc.tc (zf w)).aHy (fN:=fN) (eo:=eu.1) (vs:=vs) (c':=grownCap w (l.1.length+eu.1.length) c e)
   (cur:=(iF++vs).toArray++Builtin.zeroCells gD.cells (grownCap w (l.1.length+eu.1.length) c e-(l.1.length+eu.1.length))) (ty:=e) aP fB u4 aE (by rw[hlen];exact lQ) (by rw[Xc Ch gQ.ai3];exact Nat.le_refl _)
   (λr nK GW bQ dx P4 j au=>by
    rw[nO j (by rw[bY];omega),lM ab];exact hold r nK GW bQ dx P4 j ab)
   (λj v au=>by
    have:=(ed.1 au).1;rw[nO _ (by rw[bY];omega),l8 ab,bR,Nat.add_sub_cancel_left];exact au)
  refine⟨m',_,_,.tok bc aP (by simp) aF ((gX.tc bc (zf w)).trans bn),aJ,aQ,_,_,by rw[hlen],by rw[cy,hlen];rfl,λ_=>⟨_,rfl⟩,fN.2,by rw[hlen];omega⟩
 rcases dy with⟨rfl,rfl,ki,lX⟩|⟨b,cur,GW,bQ,rfl,ki,lX,Ag,gx,jn,au9,au_,aKA⟩
 ·have qx:l.1=[]:=oW ab;by_cases aA:eu.1.length=0
  ·have Qg:fN=L.nil:=Subtype.ext (oW (by rw[hlen,qx,aA];rfl));subst Qg;have qu:=bc.drop k;obtain⟨m',aF,aQ,bn,cy⟩:=qu.1.Rk ty a4;have aJ:=aic (aS:=aS) (w:=w) (t':=t') (u:=u) (lI:=lI) hu gQ.info (by rw[<-aA];exact u3) (A:=none) (len:=l.1.length) (cap:=0) ab;refine⟨m',_,_,.tok bc aP (by simp) aF (bn.drop bc),aJ,aQ,none,0, ?_, ?_,λax=>absurd rfl ax,by simp[L.nil]⟩
   ·rw[qx];rfl
   ·rw[qx];exact cy
  ·refine grow [] (by rw[qx];simp) ab (by rw[qx];simp[Builtin.firstCells]) λr nK ty bQ dx=>by cases dx
 ·by_cases zM:l.1.length+eu.1.length<=c
  ·obtain⟨m',w',jz,aF,aQ,bn,cy⟩:=bc.alp (aS:=aS) (fN:=fN) (eo:=eu.1) (vs:=vs) aP fB u4 zM aE;have aJ:=aid (aS:=aS) (w:=w) (lI:=lI) (o:=0) (w':=w') hu gQ.info u3 zM (by rw[gQ.size,fL];exact jz);exact⟨m',_,w',.tok bc aP (by simp) aF bn,aJ,aQ,_,_,by rw[hlen],by rw[cy,hlen],λ_=>⟨_,rfl⟩,fN.2,by rw[hlen];omega⟩
  ·have fh:l.1.length*ty.length<=cur.size:=ij (mS _ cF) gx;have p4:(cur.toList.take (l.1.length*ty.length)).length=l.1.length*ty.length:=by simp;omega
   refine grow (cur.toList.take (l.1.length*ty.length)) p4 ab ?_ λr nK aKI zt dx aq j au=> ?_
   ·have:(loadCells ⟨b,0,none⟩ (cur.toList.take (l.1.length*ty.length)).length).run aS w.drew=.ok (cur.toList.take (l.1.length*ty.length)).toArray w.drew:=
     bx.run_loadCells (w:=w.drew) lX _ λj au=>by rw[List.getElem?_take,if_pos ab];simp
    rw[p4] at this;exact this
   ·cases dx;rw[lX] at aq;cases aq;rw[List.getElem?_take,if_pos ab];simp
end
section
variable{aS:Program} {w:World} {m m':M} {σ a8:bF} {F:Fr} {a:Go.Act} {n:Nat} {v:V} {α:Type} {t t':TypeId} {x y z:Operand} {cg:T TypeInfo} {r:R} {e lI eR sz:Nat}
theorem mq.trans {s:Sem Value} (bc:bt m σ w) (st:Step m σ w m' a8 w) (h:mq aS m' a8 w s r):mq aS m σ w s r:=by
 cases r with
 |val v e5=>
  obtain⟨dg,d_,w',aa,ae,az,a9⟩:=h;exact⟨dg,d_,w',Step.trans bc st aa,ae,az,a9⟩
 |_=>exact h.elim
theorem jF.aaO {fz:Nat->List Value} {t:da} {a4 gb:List Bool} {l:List (D t)} {vs:List Value} (h:iU fz t l vs) (bW:w3 a4 gb=true) (bu:∀i f,i<l.length->f<t.length->gb[f]?.getD false=true->vs[i*t.length+f]? =some (.slice none 0 0)):jF fz t a4 l vs:=ak3 h λi f aa ae az=>bu i f aa ae (OZ bW f az)
theorem VR {g_:List C} {ty:Option da} {jm:Option vC} {d':TypeDesc} (bS:ff aS cg) (a5:dr m n F a) (bc:bt m σ w) (hu:under cg t=some (.slice e)) (wg:under cg t'=some d') (uW:(∃e',d'=.slice e')\/d'=.string) (he:wR aS cg e sz eR g_)
 (gM:d'=.string->∀d,k4 (i_ y F)=some d->∃s,d=.str s) (rW:(∃e',d'=.slice e')->∀d,k4 (i_ y F)=some d->∀s,d≠.str s)
 (h:cI (yz x y (app eR sz ty jm) F σ) r):mq aS m σ w (Builtin.append_ #[t,t'] lI #[a.eval x,a.eval y]) r:=by
 obtain⟨c,zz,dx⟩:=gK h;obtain⟨d,xB,aa⟩:=gK dx;clear dx;have aq:=pP zz (lg a5 x);have bb:=pP xB (lg a5 y);have BQ:=jr bS hu;have H2:=jr bS wg;obtain⟨i,gD,i1,i2,i3,i4,i5,i6⟩:=he.info;have B8:(∃e',aS.underlying t'=some (.slice e'))\/aS.underlying t'=some .string:=by
  rcases uW with⟨e',rfl⟩|rfl
  ·exact .inl ⟨e',H2⟩
  ·exact .inr H2
 have uZ:aS.underlying t'=some .string->∃s,d=.str s:=λay=>by
  rw[H2] at ay;exact gM (hP ay) d xB
 have q3:(∃e',aS.underlying t'=some (.slice e'))->∀s,d≠.str s:=λ⟨e',ay⟩=>by
  rw[H2] at ay;exact rW ⟨e',hP ay⟩ d xB
 have xF:∀{ty:da},ty.length=sz->OG aS e eR ty i gD:=λa3=>⟨i1,i2.trans a3.symm,i3,i5,by
  have:=(i6 m).length;rw[he.len] at this;simp at this
  omega⟩
 clear h zz xB gM rW;have h:=aa;clear aa;cases c with
 |cP=>
  have aV:a.eval x=.slice none 0 0:=aq;rw[aV];simp only[app] at h;cases ty with
  |none=>exact h.b7.elim
  |some t0=>
   simp only at h;split at h
   ·rename_i a3;have a3:=gq a3;have tok:cI (rp t0 d σ λr gb=>y_ t0 eR σ.next L.nil (t0.map λ_=>true) r gb ⟨σ.heap.put σ.next (some (.a6 t0)),σ.next+1⟩) r->mq aS m σ w (Builtin.append_ #[t,t'] lI #[.slice none 0 0,a.eval y]) r:=by
     intro h;obtain⟨l,gb,vs,bq,bE,c8,ei⟩:=GO (e':=0) B8 bc bb uZ q3 h;obtain⟨aF,aQ,bn⟩:=bc.Rm t0;refine mq.trans bc (.put bc aF bn) ?_;refine O1 (i:=i) (gD:=gD) (xF a3) BQ aQ (by simp only[bx.T.hN]) (by simp[M.ez]) (dO.nil _ _) bE (c8.ext aF.ext.fz) nG.nil ei bq
    cases jm with
    |none=>exact tok h
    |some p=>
     cases p with
     |arr a4=>
      simp only at h;obtain⟨l,gb,vs,bq,bE,c8,ei⟩:=GO (e':=0) B8 bc bb uZ q3 h;split at bq
      ·rename_i bW;obtain⟨m',aF,aQ,bn,cy⟩:=bc.Rk t0 a4;refine mq.trans bc (.put bc aF bn) ?_;exact VO (cX:=0) (i:=i) (gD:=gD) (xF a3) BQ aQ (by simp only[bx.T.hN]) cy bE ((jF.aaO c8 bW ei).ext aF.ext.fz) bq
      ·exact bq.b7.elim
     |_=>exact tok h
   ·exact h.b7.elim
 |row t0 l nW=>
  cases nW with
  |ny k aKx aiA=>
   simp only[app] at h;obtain⟨b,ai,aa⟩:=mZ h;clear h;split at aa
   ·rename_i t1;split at aa
    ·rename_i ay;simp only[gJ] at ay;have cm:=jT ay.1;have cF:=gq ay.2;subst cm;obtain⟨eu,gb,vs,bq,bE,c8,ei⟩:=GO (e':=0) B8 bc bb uZ q3 aa;refine O1 (i:=i) (gD:=gD) (xF cF) BQ bc ai aq.2.1 aq.1 bE c8 ?_ ei bq;split
     ·rename_i fh;rw[gq fh];exact aq.2.2
     ·exact nG.none
    ·exact aa.b7.elim
   ·exact aa.b7.elim
  |at_ id cX jJ wI f=>
   simp only[app] at h;obtain⟨b,ai,aa⟩:=mZ h;clear h;split at aa
   ·rename_i t1 a4 wj jE;split at aa
    ·rename_i ay;simp only[gJ] at ay;have cm:=gq ay.1.1;have cF:=gq ay.1.2;have dy:=gq ay.2;subst cm cF;split at aa
     ·rename_i t2 anh;split at aa
      ·rename_i heq;have heq:=jT heq;subst heq;obtain⟨eu,gb,vs,bq,bE,c8,ei⟩:=GO (e':=0) B8 bc bb uZ q3 aa;obtain⟨m',aF,aQ,bn,cy⟩:=bc.take ai anh aq.2;refine mq.trans bc ⟨aF,bn,Nat.le_succ _,λj cs au _=> ?_⟩ ?_
       ·have bo:j≠id:=λq=>by subst q;rw[ai] at au;cases au
        have cO:j≠σ.next:=λq=>by subst q;rw[(bc.fresh _ (Nat.le_refl _)).2.2.2] at au;cases au
        show((σ.heap.put id _).put σ.next _).get j=_;rw[bx.T.eB _ _ cO,bx.T.eB _ _ bo];exact au
       ·exact O1 (i:=i) (gD:=gD) (xF dy) BQ aQ (by simp only[bx.T.hN]) cy (aq.1.ext aF.ext.fz) bE (c8.ext aF.ext.fz) nG.none ei bq
      ·exact aa.b7.elim
     ·exact aa.b7.elim
    ·exact aa.b7.elim
   ·exact aa.b7.elim
  |_=>exact h.b7.elim
 |aH id jJ=>
  simp only[app] at h;obtain⟨b,ai,aa⟩:=mZ h;clear h;split at aa
  ·rename_i t1 a4 l cX;split at aa
   ·rename_i a3;have a3:=gq a3;obtain⟨eu,gb,vs,bq,bE,c8,ei⟩:=GO (e':=0) B8 bc bb uZ q3 aa;split at bq
    ·rename_i bW;obtain⟨A,cp,aV,fB,_⟩:=aq;exact VO (cX:=cX) (i:=i) (gD:=gD) (xF a3) BQ bc ai fB bE (jF.aaO c8 bW ei) bq
    ·exact bq.b7.elim
   ·exact aa.b7.elim
  ·exact aa.b7.elim
 |_=>exact h.b7.elim
theorem aj0 {l:List (D [.int .u8])} {fz:Nat->List Value}:∀{vs:List Value},iU fz [.int .u8] l vs->vs=(l.map λx=>UInt8.ofNat x.1.1.toNat).map λu=>Value.int .u8 (u.toNat:Int):=by
 induction l with
 |nil=>intro vs h;exact h
 |cons x l b_=>
  intro vs ⟨v,r,aa,ae,az⟩;obtain⟨v0,DL,aE,aX,bL⟩:=ae;have bL:DL=[]:=bL;subst bL aE aa;simp only[dO] at aX;subst aX;rw[b_ az];simp only[List.map_cons,List.cons_append,List.nil_append,List.cons.injEq,and_true];have si:IntKind.u8.min<=x.1.1:=x.1.2.1;have nA:x.1.1<=IntKind.u8.max:=x.1.2.2;have aKP:IntKind.u8.min=0:=by decide
  have aKQ:IntKind.u8.max=255:=by decide
  congr 1;have:(UInt8.ofNat x.1.1.toNat).toNat=x.1.1.toNat:=by simp;omega
  rw[this];omega
theorem ake {s d:TypeId} (bS:ff aS cg) (a5:dr m n F a) (bc:bt m σ w) (aU:under cg s=some (.slice e)) (bb:under cg d=some .string) (he:under cg e=some (.int .u8)):
 jf aS m w (Go.convert s d (a.eval x)) (lV x w7 F σ):=by
 intro v h;obtain⟨c,aq,aa⟩:=z9 a5 h;clear h;have fin:∀{l:L (D [.int .u8])} {vs:List Value} {A:Option Addr} {cp:Nat},a.eval x=.slice A l.1.length cp->iU m.fz [.int .u8] l.1 vs->(∀eO,A=some eO->(loadCells eO l.1.length).run aS w=.ok vs.toArray w)->(A=none->l.1=[])->
  (Go.convert s d (a.eval x)).run aS w=.ok (.string (og l).1) w:=λ{l vs A cp} aV aM a3 aA=>by
  have u4:=aj0 aM;cases A with
  |none=>
   have:l=L.nil:=Subtype.ext (aA rfl);subst this;simp[aV,Go.convert,gZ bS aU,gZ bS bb,gZ bS he,Conv.bytesToString,og,L.nil];rfl
  |some A=>
   have aa:=a3 A rfl;have:=aii (aS:=aS) (w:=w) (l.1.map λx=>UInt8.ofNat x.1.1.toNat) .empty;rw[u4] at aa;simp only[aV,Go.convert,iv,ju,iV,gZ bS aU,gZ bS bb,gZ bS he,Conv.bytesToString,aa];rw[List.forIn_toArray];refine(congrArg (λr=>Result.andThen r λa w'=>Result.ok (Value.string a) w') this).trans ?_;simp only[iV];congr 2
 cases c with
 |cP=>
  obtain rfl:=iI aa;have aV:a.eval x=.slice none 0 0:=aq;exact⟨_,fin (l:=L.nil) (vs:=[]) (A:=none) (cp:=0) aV rfl (λ_ h=>by cases h) λ_=>rfl,rfl⟩
 |row t0 l nW=>
  simp only[w7] at aa;split at aa
  ·rename_i ay;have ay:=jT ay;subst ay;obtain rfl:=iI aa;obtain⟨A,cp,vs,aV,hle,aF,aQ,bn⟩:=Us aq.1;refine⟨_,fin aV aF (λeO dx=> ?_) (λdx=> ?_),rfl⟩
   ·subst dx;have hlen:=aF.length;simp only[List.length_singleton,Nat.mul_one] at hlen;rw[<-hlen];by_cases aA:vs=[]
    ·subst aA;simp[loadCells,loadCellsFrom]
    ·obtain⟨b,o,aE,aX⟩:=aQ aA;cases aE;obtain⟨cur,ty,bQ,bq,bE⟩:=bc.stay b (o+0) (vs[0]'(List.length_pos_iff.2 aA)) (aX 0 _ (e_ _))
     refine bx.run_loadCells bq vs λj au=> ?_;obtain⟨g5,iS,jh,bo,cO⟩:=bc.stay _ _ _ (aX j _ (e_ au));rw[bq] at bo;cases bo;rw[cO,e_ au]
   ·by_cases aA:l.1=[]
    ·exact aA
    ·obtain⟨b,o,aE⟩:=bn aA;rw[dx] at aE;cases aE
  ·exact aa.b7.elim
 |aH id k=>
  simp only[w7] at aa;obtain⟨b,ai,ae⟩:=mZ aa;clear aa;split at ae
  ·rename_i t0 a4 l cX;split at ae
   ·rename_i ay;have ay:=jT ay;subst ay;obtain rfl:=iI ae;obtain⟨A,cp,aV,fB,_⟩:=aq;obtain⟨eO,c',cm,cF,_,dy⟩:=bc.live id _ ai;rw[fB,aV] at cm;cases cm;rcases dy with⟨rfl,rfl,_⟩|⟨q,cur,ty,bQ,rfl,aQ,bn,cy,fj,fX,gU,iO,jU⟩
    ·have aA:l.1=[]:=oW ab;exact⟨_,fin (vs:=[]) aV (by rw[aA];rfl) (λ_ h=>by cases h) λ_=>aA,rfl⟩
    ·obtain⟨vs,bq,bE⟩:=VU iO;refine⟨_,fin aV bq (λeO dx=> ?_) (λdx=>by cases dx),rfl⟩;cases dx;have hlen:=bq.length;simp only[List.length_singleton,Nat.mul_one] at hlen;rw[<-hlen];exact bx.run_loadCells bn vs λj au=>by rw[fL,e_ au];exact bE j _ (e_ au)
   ·exact ae.b7.elim
  ·exact ae.b7.elim
 |_=>exact aa.b7.elim
end
open bx (T cv under size j3 ff jr gZ lH qd)
structure Env where
  cg:T TypeInfo
  gb:T (List TypeDesc)
  ty:T da
  jm:T vC
def V8 (f:Nat) (args:List Operand) (F:Fr) (σ:bF):Q R:=.ret (.call f (args.map λx=>i_ x F) σ)
def R1 (l:List (Nat×Nat)):List V:=l.map λa=>.c (.ptr (some a))
def Hs (f:Operand) (args:List Operand) (F:Fr) (σ:bF):Q R:=match k4 (i_ f F) with
 |some (.fn g first cap)=>.ret (.call g (R1 first++args.map (λx=>i_ x F)++R1 cap) σ)
 |_=>.fail
def Oj (k:C->C->bF->Q R) (c d:C) (σ:bF):Q R:=match d with
 |.str _=>k c d σ
 |_=>.fail
def Jp (k:C->C->bF->Q R) (c d:C) (σ:bF):Q R:=match d with
 |.str _=>.fail
 |_=>k c d σ
def CF (E:Env) (dst:Option Nat) (b:Builtin) (eE:List TypeId) (xs:List Operand):mN:=match b,eE,xs with
 |.len,[t],[x]=>match under E.cg t with
  |some .string=>.pure (mH x Zd)
  |some (.slice _)=>.pure (mH x Zc)
  |_=>.bad
 |.append,[t,t'],[x,y]=>match under E.cg t with
  |some (.slice e)=>match elemOf E.cg e with
   |some q=>match under E.cg t' with
    |some .string=>.iZ (yz x y (Oj (app q.2.1 q.1 (E.ty.get e) (dst.bind E.jm.get))))
    |some (.slice _)=>.iZ (yz x y (Jp (app q.2.1 q.1 (E.ty.get e) (dst.bind E.jm.get))))
    |_=>.bad
   |none=>.bad
  |_=>.bad
 |.min,_,[x,y]=>.pure (iG x y (nS λk a b=>.int k (zP a b)))
 |.max,_,[x,y]=>.pure (iG x y (nS λk a b=>.int k (imax a b)))
 |_,_,_=>.bad
def act (E:Env) (dst:Option Nat) (o:Op):mN:=match o with
 |.move x=>.pure (Re x)
 |.assign x=>.pure (Re x)
 |.pick c a b=>.pure (pick c a b)
 |.alloc e=>match zero E.cg e with
  |some z=>.alloc z.cells
  |none=>.bad
 |.box e x=>match dst.bind E.jm.get with
  |some .bX=>match E.ty.get e with
   |some t=>.made (uk x (V4 t))
   |none=>.bad
  |_=>.iZ λF σ=>uk x (λy=>V5 y σ) F
 |.build t b8=>match zero E.cg t,under E.cg t with
  |some z,some (.struct jH)=>match DI E.cg jH.toList with
   |some pl=>.pure (zh (λi=>pl[i]?) z.cells b8.toList)
   |none=>.bad
  |some z,some (.array _ e)=>match size E.cg e with
   |some n=>.pure (zh (Kq n) z.cells b8.toList)
   |none=>.bad
  |_,_=>.bad
 |.buildSlice t n b8=>match under E.cg t with
  |some (.slice e)=>match elemOf E.cg e with
   |some q=>match E.ty.get e with
    |some ty=>match dst.bind E.jm.get with
     |some (.arr a4)=>.iZ λF σ=>Ut a4 ty n q.1 q.2.2 b8.toList F σ
     |some .tok=>.iZ λF σ=>Uu ty n q.1 q.2.2 b8.toList F σ
     |_=>.made (air ty n q.1 q.2.2 b8.toList)
    |none=>.bad
   |none=>.bad
  |_=>.bad
 |.load t a=>match bx.isAgg E.cg t,size E.cg t with
  |some true,some n=>.read (lV a (x9 n))
  |some false,_=>.read (lV a u9)
  |_,_=>.bad
 |.store t a x=>match size E.cg t with
  |some n=>match a with
   |.tmp Ok=>match E.jm.get Ok with
    |some .bX=>match E.ty.get t with
     |some ty=>.iZ (z_ a x (wG n (some (Ok,ty))))
     |none=>.bad
    |_=>.iZ (z_ a x (wG n none))
   |_=>.iZ (z_ a x (wG n none))
  |none=>.bad
 |.nilCheck x=>.pure (mH x aaT)
 |.binOp op t x y _=>mkBin E.cg E.gb op t x y
 |.unOp op _ x=>aoM op x
 |.convert s d x=>match under E.cg s,under E.cg d with
  |some _,some (.int k)=>.pure (mH x (We k))
  |some .string,some .string=>.pure (mH x Wf)
  |some (.slice e),some .string=>match under E.cg e with
   |some (.int .u8)=>.read (lV x w7)
   |_=>.bad
  |some .string,some (.slice e)=>match under E.cg e with
   |some (.int .u8)=>.iZ (lV x Oi)
   |_=>.bad
  |some (.slice e),some (.slice e')=>match Nat.beq s d,under E.cg e' with
   |true,some (.int .u8)=>.iZ (lV x Bl)
   |_,_=>.bad
  |_,_=>.bad
 |.makeFunc fn first cap=>match fn with
  |.func f=>.pure (Zq f first.toList cap.toList)
  |_=>.bad
 |.makeSlice t l c=>match under E.cg t with
  |some (.slice e)=>match elemOf E.cg e with
   |some q=>match E.ty.get e with
    |some ty=>match dst.bind E.jm.get with
     |some (.arr a4)=>match l,c with
      |.tmp i,.tmp j=>match Nat.beq i j with
       |true=>.iZ (lV l (yb a4 ty q.1 q.2.1 q.2.2))
       |false=>.bad
      |.const u,.const eI=>match u,eI with
       |.int k i,.int cj j=>match decide (k=cj)&&decide (i=j) with
        |true=>.iZ (lV l (yb a4 ty q.1 q.2.1 q.2.2))
        |false=>.bad
       |_,_=>.bad
      |_,_=>.bad
     |_=>.bad
    |none=>.bad
   |none=>.bad
  |_=>.bad
 |.slice t x di aj wy=>match under E.cg t with
  |some .string=>match wy with
   |none=>.pure (Pf x di aj)
   |some _=>.bad
  |some (.slice e)=>match size E.cg e with
   |some sz=>match wy with
    |none=>.pure (Pe sz x di aj)
    |some m=>.bad
   |none=>.bad
  |_=>.bad
 |.fieldAddr t x f=>match vQ E.cg t f with
  |some y=>match size E.cg y.1 with
   |some (_+1)=>.pure (mH x (A9 y.2))
   |_=>.bad
  |none=>.bad
 |.field t x f=>match vQ E.cg t f with
  |some y=>match bx.isAgg E.cg y.1,size E.cg y.1 with
   |some true,some n=>.pure (uk x (RT n y.2))
   |some false,_=>.pure (uk x (RU y.2))
   |_,_=>.bad
  |none=>.bad
 |.indexAddr t x i=>match under E.cg t with
  |some (.slice e)=>match size E.cg e with
   |some sz=>.pure (iG x i (YR sz))
   |none=>.bad
  |some (.array k e)=>match i with
   |.const v=>match v with
    |.int p8 j=>match decide (0<=j)&&decide (j<k),size E.cg e with
     |true,some sz=>.pure (mH x (A9 (j.toNat*sz)))
     |_,_=>.bad
    |_=>.bad
   |_=>.bad
  |_=>.bad
 |.index t x i=>match under E.cg t with
  |some .string=>.pure (iG x i YS)
  |_=>.bad
 |.extract t i=>.pure (PH t i)
 |.call c=>match c.callee with
  |.builtin b=>CF E dst b c.argTypes.toList c.args.toList
  |.value f=>match f with
   |.func g=>.iZ (V8 g c.args.toList)
   |.tmp t=>.iZ (Hs f c.args.toList)
   |_=>.bad
  |_=>.bad
 |_=>.bad
def tn (aS:Program) (o:Oper):mN->Prop
 |.pure f=>∀(n:Nat) F (a:Go.Act) m w,dr m n F a->∀v,cI (f F) v->∃d_,(execOp a.eval o).run aS w=.ok (.value d_) w/\dW m v d_
 |.made f=>∀(n:Nat) F (a:Go.Act) m σ w,dr m n F a->bt m σ w->∀v,cI (f F) v->∃m' d_ w',Step m σ w m' σ w'/\(execOp a.eval o).run aS w=.ok (.value d_) w'/\bt m' σ w'/\dW m' v d_
 |.read f=>∀(n:Nat) F (a:Go.Act) m σ w,dr m n F a->bt m σ w->∀v,cI (f F σ) v->∃d_,(execOp a.eval o).run aS w=.ok (.value d_) w/\dW m v d_
 |.alloc z=>∀(a:Go.Act) w,∃vs t,(execOp a.eval o).run aS w=.ok (.value (.pointer (some ⟨w.heap.size,0,none⟩))) (w.alloc (.cells vs t))/\∀m,cv (cT m) z vs.toList
 |.iZ f=>∀(n:Nat) F (a:Go.Act) m σ w,dr m n F a->bt m σ w->∀r,cI (f F σ) r->Good aS m σ w (λt=>a.tmps.getD t undef) (execOp a.eval o) r
 |.bad=>True
section
variable{aS:Program} {o:Oper} {E:Env}
theorem l7 {f:Fr->Q V} (s:Go.Act->Sem Value) (aU:∀a,execOp a.eval o=(do pure (.value (<-s a))))
 (h:∀(n:Nat) F (a:Go.Act) m w,dr m n F a->jf aS m w (s a) (f F)):tn aS o (.pure f):=by
 intro n F a m w a5 v bu;obtain⟨d_,aa,ae⟩:=h n F a m w a5 v bu;exact⟨d_,by rw[aU];simp[aa],ae⟩
theorem VG {f:Fr->Q V} (s:Go.Act->Sem Value) (aU:∀a,execOp a.eval o=(do pure (.value (<-s a))))
 (h:∀(n:Nat) F (a:Go.Act) m σ w,dr m n F a->bt m σ w->OH aS m σ w (s a) (f F)):tn aS o (.made f):=by
 intro n F a m σ w a5 bc v bu;obtain⟨m',d_,w',aa,ae,az,a9⟩:=h n F a m σ w a5 bc v bu;exact⟨m',d_,w',aa,by rw[aU];simp[ae],az,a9⟩
theorem OV {f:Fr->bF->Q V} (s:Go.Act->Sem Value) (aU:∀a,execOp a.eval o=(do pure (.value (<-s a))))
 (h:∀(n:Nat) F (a:Go.Act) m σ w,dr m n F a->bt m σ w->jf aS m w (s a) (f F σ)):tn aS o (.read f):=by
 intro n F a m σ w a5 bc v bu;obtain⟨d_,aa,ae⟩:=h n F a m σ w a5 bc v bu;exact⟨d_,by rw[aU];simp[aa],ae⟩
theorem uK {f:Fr->bF->Q R} (s:Go.Act->Sem Value) (aU:∀a,execOp a.eval o=(do pure (.value (<-s a))))
 (h:∀(n:Nat) F (a:Go.Act) m σ w r,dr m n F a->bt m σ w->cI (f F σ) r->mq aS m σ w (s a) r):tn aS o (.iZ f):=by
 intro n F a m σ w a5 bc r bu;rw[aU];exact(h n F a m σ w r a5 bc bu).PS
theorem A8 {A:mN} {op:BinOp} {t sj:TypeId} {x y:Operand} (bR:∀a:Go.Act,execOp a.eval o=(do pure (.value (<-(do eqGuard op t x y (a.eval x) (a.eval y);Go.binOp op t (a.eval x) (a.eval y))))))
 (h:∀(n:Nat) F (a:Go.Act) m w,dr m n F a->∀f,A=.pure f->jf aS m w (do eqGuard op t x y (a.eval x) (a.eval y);Go.binOp op t (a.eval x) (a.eval y)) (f F)) (dx:(∃f,A=.pure f)\/A=.bad):tn aS o A:=by
 rcases dx with⟨f,rfl⟩|rfl
 ·exact l7 _ bR λn F a m w a5=>h n F a m w a5 f rfl
 ·trivial
theorem aoD {op:BinOp} {x y:Operand}:(∃f,mkInt op x y=.pure f)\/mkInt op x y=.bad:=by cases op<;>first|exact .inl ⟨_,rfl⟩|exact .inr rfl
theorem aoJ {op:BinOp} {x y:Operand}:(∃f,mkStr op x y=.pure f)\/mkStr op x y=.bad:=by cases op<;>first|exact .inl ⟨_,rfl⟩|exact .inr rfl
theorem Zr {k:sq} {op:BinOp} {x y:Operand}:(∃f,zY k op x y=.pure f)\/zY k op x y=.bad:=by cases op<;>first|exact .inl ⟨_,rfl⟩|exact .inr rfl
theorem aoG {op:BinOp} {x y:Operand}:(∃f,CG op x y=.pure f)\/CG op x y=.bad:=by cases op<;>first|exact .inl ⟨_,rfl⟩|exact .inr rfl
theorem builtin_len {c:Call} {b:Builtin} (aq:c.callee=.builtin b) {t ty:TypeId} (pd:c.argTypes.toList=[t]) {a:Go.Act} {x:Operand} (bW:c.args.toList=[x]) (ai:b=.len):
 (do let d<-resolve a.eval c ty;invoke d.target d.args:Sem Next)=(do pure (.value (<-Builtin.len_ #[t] ty #[a.eval x]))):=by
 subst ai;have aa:c.argTypes=#[t]:=Array.toList_inj.1 pd;have ae:c.args=#[x]:=Array.toList_inj.1 bW;unfold resolve;simp only[aq,aa,ae];rw[pure_bind];simp only[invoke,builtin,List.map_toArray,List.map_cons,List.map_nil]
theorem V6 {c:Call} {b:Builtin} (aq:c.callee=.builtin b) {t t' ty:TypeId} (pd:c.argTypes.toList=[t,t']) {a:Go.Act} {x y:Operand} (bW:c.args.toList=[x,y]) (ai:b=.append):
 (do let d<-resolve a.eval c ty;invoke d.target d.args:Sem Next)=(do pure (.value (<-Builtin.append_ #[t,t'] ty #[a.eval x,a.eval y]))):=by
 subst ai;have aa:c.argTypes=#[t,t']:=Array.toList_inj.1 pd;have ae:c.args=#[x,y]:=Array.toList_inj.1 bW;unfold resolve;simp only[aq,aa,ae];rw[pure_bind];simp only[invoke,builtin,List.map_toArray,List.map_cons,List.map_nil]
theorem V7 {c:Call} {b:Builtin} (aq:c.callee=.builtin b) {ty:TypeId} {a:Go.Act} {x y:Operand} (bW:c.args.toList=[x,y]) {g:Value->Value->Sem Value}
 (ai:∀eE:Array TypeId,∀cs:Array Bool,builtin b eE ty cs #[a.eval x,a.eval y]=(do pure (.value (<-g (a.eval x) (a.eval y))))):
 (do let d<-resolve a.eval c ty;invoke d.target d.args:Sem Next)=(do pure (.value (<-g (a.eval x) (a.eval y)))):=by
 have ae:c.args=#[x,y]:=Array.toList_inj.1 bW;rw[<-ai c.argTypes (c.args.map λ|.const _=>true|_=>false)];unfold resolve;simp only[aq,ae];rw[pure_bind];simp only[invoke,List.map_toArray,List.map_cons,List.map_nil];rfl
theorem aiI {w:World} {m:M} {F:Fr} {a:Go.Act} {n:Nat} {x y:Operand} {f:(k:IntKind)->aO k->aO k->C} {g:Value->Value->Sem Value} (a5:dr m n F a)
 (bu:∀k (i j:aO k),∃v,(g (.int k i.1) (.int k j.1)).run aS w=.ok v w/\cT m (f k i j) v):jf aS m w (g (a.eval x) (a.eval y)) (iG x y (nS f) F):=by
 intro v h;obtain⟨c,d,aq,bb,h⟩:=uj a5 h;unfold nS at h;split at h
 ·split at h
  ·rename_i k i cj j aP;subst aP;have aq:a.eval x=.int cj i.1:=aq;have bb:a.eval y=.int cj j.1:=bb;obtain rfl:=iI h;obtain⟨u,aa,ae⟩:=bu cj i j;exact⟨u,by rw[aq,bb];exact aa,ae⟩
  ·exact h.b7.elim
 ·exact h.b7.elim
theorem ajY (bS:ff aS E.cg) {dst:Option Nat} {c:Call} {b:Builtin} (aq:c.callee=.builtin b) {ty:TypeId} (bR:∀a:Go.Act,execOp a.eval o=(do let d<-resolve a.eval c ty;invoke d.target d.args)):
 tn aS o (CF E dst b c.argTypes.toList c.args.toList):=by
 unfold CF;split
 ·rename_i t x pd a3;split
  ·rename_i hu;exact l7 _ (λa=>(bR a).trans (builtin_len aq pd a3 rfl)) λn F a m w a5=>aok bS a5 hu
  ·rename_i e hu;exact l7 _ (λa=>(bR a).trans (builtin_len aq pd a3 rfl)) λn F a m w a5=>aoj bS a5 hu
  ·trivial
 ·rename_i t t' x y pd a3;split
  ·rename_i e hu;split
   ·rename_i q ay;split
    ·rename_i wg;refine uK (λa=>Builtin.append_ #[t,t'] ty #[a.eval x,a.eval y]) (λa=>(bR a).trans (V6 aq pd a3 rfl)) λn F a m σ w r a5 bc h=> ?_;obtain⟨c',jN,dx⟩:=gK h;obtain⟨d',uW,dx⟩:=gK dx;unfold Oj at dx;split at dx
     ·rename_i s;refine VR (ty:=E.ty.get e) (jm:=dst.bind E.jm.get) bS a5 bc hu wg (.inr rfl) (xb bS ay) (λ_ d bb=>⟨s,by rw[uW] at bb;cases bb;rfl⟩) (λ⟨_,h⟩=>by cases h) ?_;unfold yz;rw[jN,uW];exact dx
     ·exact dx.b7.elim
    ·rename_i e' wg;refine uK (λa=>Builtin.append_ #[t,t'] ty #[a.eval x,a.eval y]) (λa=>(bR a).trans (V6 aq pd a3 rfl)) λn F a m σ w r a5 bc h=> ?_;obtain⟨c',jN,dx⟩:=gK h;obtain⟨d',uW,dx⟩:=gK dx;unfold Jp at dx;split at dx
     ·exact dx.b7.elim
     ·rename_i aA;refine VR (ty:=E.ty.get e) (jm:=dst.bind E.jm.get) bS a5 bc hu wg (.inl ⟨_,rfl⟩) (xb bS ay) (λh=>by cases h) (λ_ d bb s aU=>by rw[uW] at bb;cases bb;exact aA s aU) ?_;unfold yz;rw[jN,uW];exact dx
    ·trivial
   ·trivial
  ·trivial
 ·rename_i x y a3;refine l7 (λa=>Builtin.min2 (a.eval x) (a.eval y)) (λa=>(bR a).trans (V7 aq a3 λeE cs=>by simp[builtin,Builtin.min_])) λn F a m w a5=>aiI a5 λk i j=>⟨.int k (zP i j).1, ?_,rfl⟩;simp only[Builtin.min2,zP];by_cases tQ:i.1<=j.1<;>simp[tQ]<;>omega
 ·rename_i x y a3;refine l7 (λa=>Builtin.max2 (a.eval x) (a.eval y)) (λa=>(bR a).trans (V7 aq a3 λeE cs=>by simp[builtin,Builtin.max_])) λn F a m w a5=>aiI a5 λk i j=>⟨.int k (imax i j).1, ?_,rfl⟩;simp only[Builtin.max2,imax];by_cases tQ:j.1<=i.1<;>simp[tQ]<;>omega
 ·trivial
theorem RI {m:M} {n:Nat} {F:Fr} {a:Go.Act} (a5:dr m n F a):∀(l:List Operand),cv (dW m) (l.map λx=>i_ x F) (l.map a.eval)
 |[]=>trivial
 |x::l=>⟨lg a5 x,RI a5 l⟩
theorem R2 {m:M}:∀{l:List (Nat×Nat)} {vs:List Value},cv (l5 m) l vs->cv (dW m) (R1 l) vs
 |[],[],_=>trivial
 |p::l,v::vs,⟨aa,ae⟩=>⟨aa,R2 ae⟩
theorem aj2 {m:M} {σ:bF} {w:World} {F:Fr} {a:Go.Act} {n:Nat} {r:R} {aH:Nat->Value} {f:Nat} {c:Call} (a5:dr m n F a) (h:cI (V8 f c.args.toList F σ) r) (aq:c.callee=.value (.func f)) {type:TypeId}:
 Good aS m σ w aH (do let d<-resolve a.eval c type;invoke d.target d.args) r:=by
 obtain rfl:=h.eA;refine⟨rfl,c.args.map a.eval,by rw[Array.toList_map];exact RI a5 _, ?_⟩;simp[resolve,aq,Act.eval,Deferred.ofValue,invoke]
theorem aj3 {m:M} {σ:bF} {w:World} {F:Fr} {a:Go.Act} {n:Nat} {r:R} {aH:Nat->Value} {f:Operand} {c:Call} (a5:dr m n F a) (h:cI (Hs f c.args.toList F σ) r) (aq:c.callee=.value f) {type:TypeId}:
 Good aS m σ w aH (do let d<-resolve a.eval c type;invoke d.target d.args) r:=by
 unfold Hs at h;split at h
 ·rename_i g first cap bZ
  obtain⟨us,vs,aV,hu,aM⟩:=pP bZ (lg a5 f);obtain rfl:=h.eA;refine⟨rfl,us++c.args.map a.eval++vs, ?_, ?_⟩
  ·rw[Array.toList_append,Array.toList_append,Array.toList_map];exact cv.append (cv.append (R2 hu) (RI a5 _)) (R2 aM)
  ·simp[resolve,aq,aV,Deferred.ofValue,invoke]
 ·exact h.b7.elim
theorem ajA (bS:ff aS E.cg) (qw:∀t ds,E.gb.get t=some ds->tA aS t (.flat ds)) (o:Oper):tn aS o (act E o.dst o.op):=by
 obtain⟨dst,op,type,pos,after,guard⟩:=o;show tn aS _ (act E dst op);cases op with
 |move x=>exactλn F a m w a5 v h=>⟨a.eval x,rfl,aaI a5 h⟩
 |assign x=>exactλn F a m w a5 v h=>⟨a.eval x,rfl,aaI a5 h⟩
 |pick c x y=>exactλn F a m w a5 v h=>auP a5 h
 |alloc e=>
  simp only[act];split
  ·rename_i z ax;intro a w;obtain⟨v,aa,-⟩:=GK bS (w:=w) ⟨λ_=>none,λ_=>none,λ_ _ _=>none,λ_=>[],λ_=>none⟩ ax;refine⟨v.cells,e,by simp[execOp,Instr.alloc,aa,newVar,Go.newRow,newObj,Sem.run],λm=> ?_⟩;obtain⟨d_,vS,ae⟩:=GK bS (w:=w) m ax;rw[aa] at vS;cases vS;exact ae.cells
  ·trivial
 |box e x=>
  simp only[act];split
  ·split
   ·exact VG _ (λa=>rfl) λn F a m σ w a5 bc=>ajT a5 bc
   ·trivial
  ·exact uK _ (λa=>rfl) λn F a m σ w r a5 bc h=>ajU a5 bc h
 |build t b8=>
  simp only[act];split
  ·rename_i z jH ax hu;split
   ·rename_i pl Ck;exact l7 _ (λa=>rfl) λn F a m w a5=>ajW bS a5 ax hu Ck
   ·trivial
  ·rename_i z k e ax hu;split
   ·rename_i sz fh;exact l7 _ (λa=>rfl) λn F a m w a5=>ajV bS a5 ax hu fh
   ·trivial
  ·trivial
 |buildSlice t k b8=>
  simp only[act];split
  ·rename_i e hu;split
   ·rename_i q ay;split
    ·rename_i ty Qv;split
     ·exact uK _ (λa=>rfl) λn F a m σ w r a5 bc h=>aH5 bS a5 bc hu (xb bS ay) h
     ·exact uK _ (λa=>rfl) λn F a m σ w r a5 bc h=>aH8 bS a5 bc hu (xb bS ay) h
     ·exact VG _ (λa=>rfl) λn F a m σ w a5 bc=>aH6 bS a5 bc hu (xb bS ay)
    ·trivial
   ·trivial
  ·trivial
 |load t x=>
  simp only[act];split
  ·rename_i k bZ aU;exact OV _ (λa=>rfl) λn F a m σ w a5 bc=>Zh bS a5 bc bZ aU
  ·rename_i _ bZ;exact OV _ (λa=>rfl) λn F a m σ w a5 bc=>Zi bS a5 bc bZ
  ·trivial
 |store t x y=>
  simp only[act];split
  ·rename_i k aU;split
   ·rename_i Ok;split
    ·split
     ·exactλn F a m σ w a5 bc r h=>Uz bS a5 bc aU (λq ay=>by cases ay;rfl) h
     ·trivial
    ·exactλn F a m σ w a5 bc r h=>Uz bS a5 bc aU (λq ay=>by cases ay) h
   ·exactλn F a m σ w a5 bc r h=>Uz bS a5 bc aU (λq ay=>by cases ay) h
  ·trivial
 |nilCheck x=>exactλn F a m w a5 v h=>aqQ a5 rfl h
 |binOp op t x y sj=>
  simp only[act,mkBin];split
  ·rename_i d bb;split
   ·exact A8 (sj:=sj) (op:=op) (t:=t) (x:=x) (y:=y) (λa=>rfl) (λn F a m w a5 f bu=>by have:=aoF (aS:=aS) (w:=w) (op:=op) (t:=t) (x:=x) (y:=y) a5;rw[bu] at this;exact this) aoD
   ·exact A8 (sj:=sj) (op:=op) (t:=t) (x:=x) (y:=y) (λa=>rfl) (λn F a m w a5 f bu=>by have:=aoL (aS:=aS) (w:=w) (op:=op) (t:=t) (x:=x) (y:=y) a5;rw[bu] at this;exact this) aoJ
   ·exact A8 (sj:=sj) (op:=op) (t:=t) (x:=x) (y:=y) (λa=>rfl) (λn F a m w a5 f bu=>by have:=Zt (w:=w) (op:=op) (x:=x) (y:=y) (k:=.leaf .bool) a5 (jr bS bb) ⟨(λq h=>by cases h),(λh=>by cases h)⟩;rw[bu] at this;exact this) Zr
   ·exact A8 (sj:=sj) (op:=op) (t:=t) (x:=x) (y:=y) (λa=>rfl) (λn F a m w a5 f bu=>by have:=aoI (w:=w) (op:=op) (x:=x) (y:=y) a5 (jr bS bb);rw[bu] at this;exact this) aoG
   ·split
    ·rename_i ds iz;exact A8 (sj:=sj) (op:=op) (t:=t) (x:=x) (y:=y) (λa=>rfl) (λn F a m w a5 f bu=>by have:=Zt (w:=w) (op:=op) (x:=x) (y:=y) a5 (qw _ _ iz) ⟨(λq h=>by cases h),(λh=>by cases h)⟩;rw[bu] at this;exact this) Zr
    ·trivial
  ·trivial
 |unOp op t x=>
  cases op<;>first
   |exact l7 _ (λa=>rfl) λn F a m w a5=>aIp a5
   |exact l7 _ (λa=>rfl) λn F a m w a5=>aIq a5
   |exact l7 _ (λa=>rfl) λn F a m w a5=>aIr a5
   |exact trivial
 |convert s d x=>
  simp only[act];split
  ·rename_i ds k aU bb;exact l7 _ (λa=>rfl) λn F a m w a5=>akg bS a5 aU bb
  ·rename_i aU bb;exact l7 _ (λa=>rfl) λn F a m w a5=>akj bS a5 aU bb
  ·rename_i e aU bb;split
   ·rename_i he;exact OV _ (λa=>rfl) λn F a m σ w a5 bc=>ake bS a5 bc aU bb he
   ·trivial
  ·rename_i e aU bb;split
   ·rename_i he;exact uK _ (λa=>rfl) λn F a m σ w r a5 bc h=>aIe bS a5 bc aU bb he h
   ·trivial
  ·rename_i e e' aU bb;split
   ·rename_i Qt he;exact uK _ (λa=>rfl) λn F a m σ w r a5 bc h=>aki bS a5 bc aU bb (gq Qt) he h
   ·trivial
  ·trivial
 |makeFunc fn first cap=>
  simp only[act];split
  ·exact l7 _ (λa=>rfl) λn F a m w a5=>aoA a5
  ·trivial
 |makeSlice t l c=>
  simp only[act];split
  ·rename_i e hu;split
   ·rename_i q ay;split
    ·rename_i ty Qv;split
     ·split
      ·split
       ·rename_i aa;obtain rfl:=gq aa;exact uK _ (λa=>rfl) λn F a m σ w r a5 bc h=>Zn bS a5 bc hu (xb bS ay) h
       ·trivial
      ·split
       ·split
        ·rename_i aa;simp only[gJ,decide_eq_true_iff] at aa;obtain⟨rfl,rfl⟩:=aa;exact uK _ (λa=>rfl) λn F a m σ w r a5 bc h=>Zn bS a5 bc hu (xb bS ay) h
        ·trivial
       ·trivial
      ·trivial
     ·trivial
    ·trivial
   ·trivial
  ·trivial
 |slice t x di aj wy=>
  simp only[act];split
  ·rename_i hu;split
   ·exact l7 _ (λa=>rfl) λn F a m w a5=>akq bS a5 hu
   ·trivial
  ·rename_i e hu;split
   ·rename_i sz aU;split
    ·exact l7 _ (λa=>rfl) λn F a m w a5=>akp bS a5 hu aU
    ·trivial
   ·trivial
  ·trivial
 |fieldAddr t x f=>
  simp only[act];split
  ·rename_i y bT;split
   ·rename_i k aU;exact l7 _ (λa=>rfl) λn F a m w a5=>ajB bS a5 bT aU
   ·trivial
  ·trivial
 |field t x f=>
  simp only[act];split
  ·rename_i y bT;split
   ·rename_i k bZ aU;exact l7 _ (λa=>rfl) λn F a m w a5=>akZ bS a5 bT bZ aU
   ·rename_i bZ;exact l7 _ (λa=>rfl) λn F a m w a5=>ak0 bS a5 bT bZ
   ·trivial
  ·trivial
 |indexAddr t x i=>
  simp only[act];split
  ·rename_i e hu;split
   ·rename_i sz aU;exact l7 _ (λa=>rfl) λn F a m w a5=>anS bS a5 hu aU
   ·trivial
  ·rename_i k e hu;split
   ·split
    ·rename_i p8 j;split
     ·rename_i sz au aU;simp only[gJ,decide_eq_true_eq] at au;exact l7 _ (λa=>rfl) λn F a m w a5=>anQ bS a5 hu aU au.1 au.2
     ·trivial
    ·trivial
   ·trivial
  ·trivial
 |index t x i=>
  simp only[act];split
  ·rename_i hu;exact l7 _ (λa=>rfl) λn F a m w a5=>anT bS a5 hu
  ·trivial
 |extract t i=>exact l7 _ (λa=>rfl) λn F a m w a5=>akR a5
 |call c=>
  simp only[act];split
  ·rename_i b aq;exact ajY bS aq λa=>rfl
  ·rename_i f aq;split
   ·exactλn F a m σ w a5 bc r h=>aj2 a5 h aq
   ·exactλn F a m σ w a5 bc r h=>aj3 a5 h aq
   ·trivial
  ·trivial
 |_=>exact trivial
end
open bx (T cv under size j3 ff jr)
structure kM where
  run:Nat->List V->bF->Q (V×bF)
  wr:Nat->List V->bF->List Nat
def Bu (n:Nat) (d:Option Nat):Bool:=match d with
 |some t=>Nat.ble (Nat.succ t) n
 |none=>true
def sb (d:Option Nat) (v:V) (F:Fr):Fr:=match d with
 |some t=>qL F t v
 |none=>F
def aaL (z:List C) (σ:bF):Q R:=yp (.box z) (.ptr (some (σ.next,0))) σ
def aib (a:mN) (F:Fr) (σ:bF):Q R:=match a with
 |.pure f=>(f F).kY λv=>.ret (.val v σ)
 |.made f=>(f F).kY λv=>.ret (.val v σ)
 |.read f=>(f F σ).kY λv=>.ret (.val v σ)
 |.alloc z=>aaL z σ
 |.iZ f=>f F σ
 |.bad=>.fail
def fin (call:kM) (d:Option Nat) (F:Fr) (r:Q R):Q (Fr×bF):=r.kY λr=>match r with
 |.val v σ=>.ret (sb d v F,σ)
 |.skip σ=>.ret (sb d .undef F,σ)
 |.qb t v σ=>.ret (sb d .undef (qL F t v),σ)
 |.call f args σ=>(call.run f args σ).kY λy=>.ret (sb d y.1 F,y.2)
def zw {α:Type} (g:Option (Nat×Bool)) (ops:Array Oper) (F:Fr) (yes no:Fr->Q α):Q α:=match g with
 |none=>yes F
 |some y=>match ops[y.1]? with
  |some q=>match q.dst with
   |some d=>match gE F d with
    |.p x=>match x with
     |.c c=>match c with
      |.bool x=>.ite x (match y.2 with
       |true=>yes (qL F d (.c (.bool true)))
       |false=>no (qL F d (.c (.bool true))))
       (match y.2 with
        |true=>no (qL F d (.c (.bool false)))
        |false=>yes (qL F d (.c (.bool false))))
      |_=>.fail
     |_=>.fail
    |.undef=>no F
    |_=>.fail
   |none=>.fail
  |none=>.fail
def step (E:Env) (call:kM) (n:Nat) (ops:Array Oper) (o:Oper) (F:Fr) (σ:bF):Q (Fr×bF):=match Bu n o.dst with
 |false=>.fail
 |true=>zw o.guard ops F (λF=>fin call o.dst F (aib (act E o.dst o.op) F σ)) λF=>.ret (sb o.dst .undef F,σ)
def steps (E:Env) (call:kM) (n:Nat) (ops:Array Oper) (l:List Oper):Fr->bF->Q (Fr×bF):=List.rec (motive:=λ_=>Fr->bF->Q (Fr×bF)) (λF σ=>.ret (F,σ)) (λo _ b_ F σ=>(step E call n ops o F σ).kY λy=>b_ y.1 y.2) l
structure ru (aS:Program) (call:kM):Prop where
  run:∀f args σ v a8 m w (vs:Array Value),cI (call.run f args σ) (v,a8)->bt m σ w->cv (dW m) args vs.toList->
    (callFunc f vs).run aS w=.ok (.enter f vs) w/\Calls aS f vs w λe w'=>∃m' d_,e=.returned d_/\Step m σ w m' a8 w'/\bt m' a8 w'/\dW m' v d_
  wr:∀f args σ v a8,cI (call.run f args σ) (v,a8)->∀i,i<σ.next->i∉call.wr f args σ->a8.heap.get i=σ.heap.get i
def tq (aS:Program) (E:Env):Prop:=∀o:Oper,tn aS o (act E o.dst o.op)
def yY (m:M) (n:Nat) (g:Nat->V) (a:Go.Act):Prop:=n<=a.tmps.size/\a.defers=[]/\∀t,dW m (g t) (a.tmps.getD t undef)
def iq (l:List Nat) (a cY:Go.Act):Prop:=∀t,t∉l->cY.tmps.getD t undef=a.tmps.getD t undef
section
variable{aS:Program} {w:World} {m m':M} {σ a8:bF} {F qP:Fr} {a:Go.Act} {n:Nat} {call:kM} {E:Env}
theorem iq.refl (l:List Nat) (a:Go.Act):iq l a a:=λ_ _=>rfl
theorem iq.trans {l:List Nat} {a cY y8:Go.Act} (h:iq l a cY) (k:iq l cY y8):iq l a y8:=λt bH=>(k t bH).trans (h t bH)
theorem iq.mono {l eu:List Nat} {a cY:Go.Act} (h:iq l a cY) (a3:∀t,t∈l->t∈eu):iq eu a cY:=λt bH=>h t λq=>bH (a3 t q)
theorem iq.put (a:Go.Act) (d:Option Nat) (v:Value):iq d.toList a (a.put d v):=by
 intro t bH;cases d with
 |none=>rfl
 |some k=>
  have:k≠t:=λe=>bH (by simp[e]);simp[Go.Act.put,Array.getElem?_setIfInBounds_ne this]
theorem dr.akW (a5:dr m n F a):yY m n (gE F) a:=⟨a5.size,a5.defers,a5.slot⟩
theorem yY.bQ (a5:yY m n (gE F) a):dr m n F a:=⟨a5.1,a5.2.1,a5.2.2⟩
theorem dr.congr (a5:dr m n F a) (h:∀t,gE qP t=gE F t):dr m n qP a:=⟨a5.size,a5.defers,λt=>by rw[h];exact a5.slot t⟩
theorem dr.put (a5:dr m n F a) (e:Ext m m') {d:Option Nat} {v:V} {d_:Value} (bb:Bu n d=true) (aM:dW m' v d_):dr m' n (sb d v F) (a.put d d_):=by
 cases d with
 |none=>exact⟨a5.size,a5.defers,λt=>(a5.slot t).ext e⟩
 |some k=>
  have aP:=Nat.le_of_ble_eq_true bb;have fh:=a5.size;refine⟨by simpa[Go.Act.put] using a5.size,a5.defers,λt=> ?_⟩;show dW m' (gE (qL F k v) t) _;rw[uQ];by_cases h:t=k
  ·subst h;have:t<a.tmps.size:=ab;simpa[Go.Act.put,this] using aM
  ·have aa:(a.put (some k) d_).tmps.getD t undef=a.tmps.getD t undef:=by
    simp[Go.Act.put,Array.getElem?_setIfInBounds_ne (Ne.symm h)]
   rw[if_neg h,aa];exact(a5.slot t).ext e
theorem dr.qb (a5:dr m n F a) {t:Nat} {v:V} (aM:dW m v (a.tmps.getD t undef)):dr m n (qL F t v) a:=⟨a5.size,a5.defers,λk=>by
 rw[uQ];by_cases h:k=t
 ·subst h;rw[if_pos rfl];exact aM
 ·rw[if_neg h];exact a5.slot k⟩
theorem HR {d:Nat} {x b:Bool} (h:gE F d=.p (.c (.bool x))) (aV:x=b):∀t,gE (qL F d (.c (.bool b))) t=gE F t:=λt=>by
 rw[uQ];by_cases he:t=d
 ·subst he;rw[if_pos rfl,h,aV]
 ·rw[if_neg he]
theorem aqJ (bc:bt m σ w) {z:List C} {vs:Array Value} {t:TypeId} (h:cv (cT m) z vs.toList) {r:R} (aJ:cI (aaL z σ) r):
 ∃m' v a8,r=.val v a8/\Step m σ w m' a8 (w.alloc (.cells vs t))/\bt m' a8 (w.alloc (.cells vs t))/\dW m' v (.pointer (some ⟨w.heap.size,0,none⟩)):=by
 obtain rfl:=aJ.eA;obtain⟨az,a9⟩:=bc.aaK (ty:=t) h;have e:=M.PE (m:=m) (r:=w.heap.size) (bc.fresh σ.next (Nat.le_refl _)).1;exact⟨_,_,_,rfl,.put bc e a9,az,w.heap.size,by simp[M.jg],rfl⟩
theorem aHR {o:Oper} {ac:mN} {r:R} (dx:tn aS o ac) (a5:dr m n F a) (bc:bt m σ w) (h:cI (aib ac F σ) r):Good aS m σ w (λt=>a.tmps.getD t undef) (execOp a.eval o) r:=by
 cases ac with
 |pure f=>
  obtain⟨v,aM,h⟩:=h.lf;obtain rfl:=h.eA;obtain⟨d_,aa,ae⟩:=dx n F a m w a5 v aM;exact⟨m,d_,w,Step.refl ..,aa,bc,ae⟩
 |made f=>
  obtain⟨v,aM,h⟩:=h.lf;obtain rfl:=h.eA;obtain⟨m',d_,w',bl,aa,ae,az⟩:=dx n F a m σ w a5 bc v aM;exact⟨m',d_,w',bl,aa,ae,az⟩
 |read f=>
  obtain⟨v,aM,h⟩:=h.lf;obtain rfl:=h.eA;obtain⟨d_,aa,ae⟩:=dx n F a m σ w a5 bc v aM;exact⟨m,d_,w,Step.refl ..,aa,bc,ae⟩
 |alloc z=>
  obtain⟨vs,t,aa,ae⟩:=dx a w;obtain⟨m',v,a8,rfl,az,a9,cE⟩:=aqJ (t:=t) bc (ae m) h;exact⟨m',_,_,az,aa,a9,cE⟩
 |iZ f=>exact dx n F a m σ w a5 bc r h
 |bad=>exact h.b7.elim
theorem ak1 {o:Oper} {r:Q R} {K:Go.Act->World->Prop} {Q:Exit->Go.Act->World->Prop} {y:Fr×bF} (iP:ru aS call) (a5:dr m n F a) (bc:bt m σ w)
 (bb:Bu n o.dst=true) (bZ:∀x,cI r x->Good aS m σ w (λt=>a.tmps.getD t undef) (execOp a.eval o) x) (h:cI (fin call o.dst F r) y)
 (ef:∀m' cY w',Step m σ w m' y.2 w'->dr m' n y.1 cY->bt m' y.2 w'->iq o.dst.toList a cY->K cY w'):o.wp aS a w K Q:=by
 obtain⟨x,aV,h⟩:=h.lf;have bZ:=bZ x aV;clear aV;unfold Oper.wp;cases x with
 |val v UW=>
  obtain⟨m',d_,w',e,ae,az,a9⟩:=bZ;obtain rfl:=h.eA;rw[ae];exact ef m' _ w' e (a5.put e.ix.ext bb a9) az (iq.put _ _ _)
 |skip UW=>
  obtain⟨m',w',e,ae,az⟩:=bZ;obtain rfl:=h.eA;rw[ae];exact ef m' _ w' e (a5.put e.ix.ext bb rfl) az (iq.put _ _ _)
 |qb t v UW=>
  obtain⟨m',w',e,ae,az,a9⟩:=bZ;obtain rfl:=h.eA;rw[ae];exact ef m' _ w' e (((a5.ext e.ix.ext).qb a9).put (Ext.refl m') bb rfl) az (iq.put _ _ _)
 |call f args UW=>
  obtain⟨rfl,vs,az,a9⟩:=bZ;obtain⟨l2,bT,h⟩:=h.lf;obtain rfl:=h.eA;rw[a9];obtain⟨cE,dm⟩:=iP.run f args _ l2.1 l2.2 m w vs bT bc az;rw[cE];refine dm.mono ?_;rintro _ w' ⟨m',d_,rfl,e,er,eS⟩;exact ef m' _ w' e (a5.put e.ix.ext bb eS) er (iq.put _ _ _)
theorem aIC {o q:Oper} {ops:Array Oper} {j d:Nat} {b:Bool} (a5:dr m n F a) (bZ:o.guard=some (j,b)) (au:ops[j]? =some q) (ay:q.dst=some d):
 (∀x,gE F d=.p (.c (.bool x))->Region.wanted o (yielded ops a.tmps)=(x==b))/\(gE F d=.undef->Region.wanted o (yielded ops a.tmps)=false):=by
 have aU:=a5.slot d;constructor
 ·intro x aV;rw[aV] at aU;have aU:a.tmps.getD d undef=.bool x:=aU;have aa:a.tmps[d]? =some (.bool x):=by
   rw[Array.getD_eq_getD_getElem?] at aU;cases ae:a.tmps[d]? with
   |none=>rw[ae] at aU;cases aU
   |some v=>rw[ae] at aU;exact congrArg some aU
  simp[Region.wanted,bZ,yielded,au,ay,aa]
 ·intro aV;rw[aV] at aU;have aU:a.tmps.getD d undef=undef:=aU;have aa:a.tmps[d]? =some undef\/a.tmps[d]? =none:=by
   rw[Array.getD_eq_getD_getElem?] at aU;cases ae:a.tmps[d]? with
   |none=>exact .inr rfl
   |some v=>rw[ae] at aU;exact .inl (congrArg some aU)
  rcases aa with aa|aa<;>simp[Region.wanted,bZ,yielded,au,ay,aa,undef]
theorem alr {α:Type} {o:Oper} {ops:Array Oper} {yes no:Fr->Q α} {y:α} (a5:dr m n F a) (h:cI (zw o.guard ops F yes no) y):
 ∃qP,(∀t,gE qP t=gE F t)/\((Region.wanted o (yielded ops a.tmps)=true/\cI (yes qP) y)\/(Region.wanted o (yielded ops a.tmps)=false/\cI (no qP) y)):=by
 unfold zw at h;split at h
 ·rename_i bZ;exact⟨F,λ_=>rfl,.inl ⟨by simp[Region.wanted,bZ],h⟩⟩
 ·rename_i z bZ;obtain⟨j,b⟩:=z;split at h
  ·rename_i q au;split at h
   ·rename_i d ay;obtain⟨aa,ae⟩:=aIC a5 bZ au ay;split at h
    ·split at h
     ·split at h
      ·rename_i x aV;have aa:=aa x aV;rcases h.vg with⟨mD,az⟩|⟨mD,az⟩
       ·refine⟨_,HR aV mD, ?_⟩;subst mD;cases b with
        |true=>exact .inl ⟨aa,az⟩
        |false=>exact .inr ⟨aa,az⟩
       ·refine⟨_,HR aV mD, ?_⟩;subst mD;cases b with
        |true=>exact .inr ⟨aa,az⟩
        |false=>exact .inl ⟨aa,az⟩
      ·exact h.b7.elim
     ·exact h.b7.elim
    ·rename_i aV;exact⟨F,λ_=>rfl,.inr ⟨ae aV,h⟩⟩
    ·exact h.b7.elim
   ·exact h.b7.elim
  ·exact h.b7.elim
theorem aIb {ops:Array Oper} {o:Oper} {K:Go.Act->World->Prop} {Q:Exit->Go.Act->World->Prop} {y:Fr×bF} (jV:tq aS E) (iP:ru aS call) (a5:dr m n F a) (bc:bt m σ w)
 (h:cI (step E call n ops o F σ) y) (ef:∀m' cY w',Step m σ w m' y.2 w'->dr m' n y.1 cY->bt m' y.2 w'->iq o.dst.toList a cY->K cY w'):
 if Region.wanted o (yielded ops a.tmps) then o.wp aS a w K Q\/(o.asks aS a w/\LetsOut Q) else K (a.put o.dst undef) w:=by
 unfold step at h;split at h
 ·exact h.b7.elim
 ·rename_i bb;obtain⟨qP,pZ,aa|aa⟩:=alr a5 h
  ·rw[if_pos aa.1];have Xh:=a5.congr pZ;exact .inl (ak1 iP Xh bc bb (λx aV=>aHR (jV o) Xh bc aV) aa.2 ef)
  ·rw[aa.1];obtain rfl:=aa.2.eA;exact ef m _ w (Step.refl ..) ((a5.congr pZ).put (Ext.refl m) bb rfl) bc (iq.put _ _ _)
theorem ait {ops:Array Oper} {ds:List Nat} {Q:Exit->Go.Act->World->Prop} (jV:tq aS E) (iP:ru aS call):
 ∀(l:List Oper) (k:Nat) {m:M} {σ:bF} {F:Fr} {a:Go.Act} {w:World} {y:Fr×bF},(∀i,l[i]? =ops[k+i]?)->(∀o∈l,∀t,o.dst=some t->t∈ds)->dr m n F a->bt m σ w->
 cI (steps E call n ops l F σ) y->(∀m' cY w',Step m σ w m' y.2 w'->dr m' n y.1 cY->bt m' y.2 w'->iq ds a cY->Q .normal cY w')->
 wpOps aS ops Q (List.range' k l.length) a w
 |[],k,m,σ,F,a,w,y,a3,iz,a5,bc,h,fc=>by
  obtain rfl:=h.eA;exact fc m a w (Step.refl ..) a5 bc (iq.refl _ _)
 |o::l,k,m,σ,F,a,w,y,a3,iz,a5,bc,h,fc=>by
  have bR:ops[k]? =some o:=by simpa using(a3 0).symm
  rw[gO,List.range'_succ,wpOps_cons];unfold wpOp;simp only[bR];obtain⟨aB,aa,ae⟩:=cI.lf h;refine aIb jV iP a5 bc aa λm' cY w' e pZ qX aU=> ?_;refine ait jV iP l (k+1) (λi=> ?_) (λfl gd=>iz fl (List.mem_cons_of_mem _ gd)) pZ qX ae λlF y8 qh e' alD alF pc=>fc lF y8 qh (e.trans bc e') alD alF ((aU.mono λt bH=> ?_).trans pc)
  ·have:=a3 (i+1);rw[List.getElem?_cons_succ] at this;rw[this];congr 1;omega
  ·cases bb:o.dst with
   |none=>rw[bb] at bH;simp at bH
   |some k=>rw[bb] at bH;simp at bH;subst bH;exact iz o mw _ bb
end
def jI (c:C):List Nat:=match c with
 |.ptr (some x)=>[x.1]
 |.row _ _ (.ny k _ _)=>[k]
 |.row _ _ (.at_ id _ _ _ _)=>[id]
 |.aH id _=>[id]
 |.ux id _ _ _=>[id]
 |.jy id _ _ _=>[id]
 |_=>[]
def YH (v:V):List Nat:=match v with
 |.p (.c c)=>jI c
 |_=>[]
def k7 (F:Fr) (l:List Operand):List Nat:=l.flatMap λx=>YH (i_ x F)
def sa (o:Oper):List Nat:=o.dst.toList++(match o.op with
 |.store _ (.tmp t) _=>[t]
 |_=>[])
def Kept (σ a8:bF) (ws:List Nat):Prop:=∀i,i<σ.next->i∉ws->a8.heap.get i=σ.heap.get i
def ql (o:Op) (σ:bF) (ws:List Nat):R->Prop
 |.val _ a8=>Kept σ a8 ws
 |.skip a8=>Kept σ a8 ws
 |.qb t _ a8=>Kept σ a8 ws/\∃ty x,o=.store ty (.tmp t) x
 |.call _ _ a8=>a8=σ
def wN (o:Op):mN->Prop
 |.read f=>∀F σ a8,(∀i∈k7 F o.operands.toList,σ.heap.get i=a8.heap.get i)->f F σ=f F a8
 |.iZ f=>∀F σ r,cI (f F σ) r->ql o σ (k7 F o.operands.toList) r
 |_=>True
section
variable{σ a8:bF} {F:Fr} {α:Type} {x y:Operand} {r:R} {E:Env} {o:Op}
theorem CE {l:List Operand} {x:Operand} (aV:x∈l) {c:C} (aq:k4 (i_ x F)=some c) {i:Nat} (aj:i∈jI c):i∈k7 F l:=by
 refine List.mem_flatMap.2 ⟨x,aV, ?_⟩;unfold k4 at aq;split at aq
 ·rename_i c' aM;cases aq;rw[aM];exact aj
 ·cases aq
theorem BL {i:Nat} (h:σ.heap.get i=a8.heap.get i) (k:B->Q α):nN σ i k=nN a8 i k:=by unfold nN;rw[h]
theorem RF {k:C->bF->Q α} {l:List Operand} (aV:x∈l) (h:∀i∈k7 F l,σ.heap.get i=a8.heap.get i) (aP:∀c,(∀i∈jI c,σ.heap.get i=a8.heap.get i)->k c σ=k c a8):lV x k F σ=lV x k F a8:=by
 unfold lV;cases aq:k4 (i_ x F) with
 |none=>rfl
 |some c=>exact aP c λi aj=>h i (CE aV aq aj)
theorem aom {c:C} (h:∀i∈jI c,σ.heap.get i=a8.heap.get i):u9 c σ=u9 c a8:=by
 unfold u9 zb;split
 ·rfl
 ·exact BL (h _ (by simp[jI])) _
 ·exact BL (h _ (by simp[jI])) _
 ·rfl
theorem aol {k:Nat} {c:C} (h:∀i∈jI c,σ.heap.get i=a8.heap.get i):x9 k c σ=x9 k c a8:=by
 unfold x9 zb;split
 ·rfl
 ·exact BL (h _ (by simp[jI])) _
 ·split
  ·rfl
  ·exact BL (h _ (by simp[jI])) _
 ·rfl
theorem akf {c:C} (h:∀i∈jI c,σ.heap.get i=a8.heap.get i):w7 c σ=w7 c a8:=by
 unfold w7;split
 ·rfl
 ·rfl
 ·exact BL (h _ (by simp[jI])) _
 ·rfl
theorem QI {ws:List Nat} {b:B} {n:Nat}:Kept σ ⟨σ.heap.put σ.next (some b),n⟩ ws:=λi aj _=>bx.T.eB _ _ ab
theorem CV {ws:List Nat} {b:B} {c:C} (h:cI (yp b c σ) r):ql o σ ws r:=by
 obtain rfl:=h.eA;exact QI
theorem GN {t:da} {d:C} {k:L (D t)->List Bool->Q R} (h:cI (rp t d σ k) r):∃l gb,cI (k l gb) r:=by
 unfold rp at h;split at h
 ·exact⟨_,_,h⟩
 ·obtain⟨_,_,h⟩:=mZ h
  ·split at h
   ·split at h
    ·split at h
     ·exact⟨_,_,h⟩
     ·exact h.b7.elim
    ·exact h.b7.elim
   ·exact h.b7.elim
 ·split at h
  ·exact⟨_,_,h⟩
  ·exact h.b7.elim
 ·obtain⟨_,_,h⟩:=mZ h
  ·split at h
   ·split at h
    ·exact⟨_,_,h⟩
    ·exact h.b7.elim
   ·exact h.b7.elim
 ·split at h
  ·obtain⟨l,_,h⟩:=h.mG;exact⟨_,_,h⟩
  ·exact h.b7.elim
 ·exact h.b7.elim
theorem O0 {t:da} {eR k:Nat} {l eu:L (D t)} {nl gb:List Bool} {ws:List Nat} {je:bF} (h:cI (y_ t eR k l nl eu gb σ) r) (bl:je.next<=σ.next) (aP:k∈ws\/je.next<=k) (aU:Kept je σ ws):ql o je ws r:=by
 obtain⟨fN,_,h⟩:=h.mG;obtain rfl:=h.eA;intro i aj aA;show((σ.heap.put k none).put σ.next _).get i=_;rw[bx.T.eB _ _ ab,bx.T.eB _ _ (by rcases aP with aP|aP;(exactλe=>aA (e▸aP));omega)];exact aU i aj aA
theorem VN {t:da} {a4:List Bool} {eR k:Nat} {l eu:L (D t)} {ws:List Nat} {je:bF} (h:cI (Hh t a4 eR k l eu σ) r) (bl:je.next<=σ.next) (aP:k∈ws\/je.next<=k) (aU:Kept je σ ws):ql o je ws r:=by
 obtain⟨fN,_,h⟩:=h.mG;obtain rfl:=h.eA;intro i aj aA;show((σ.heap.put k none).put σ.next _).get i=_;rw[bx.T.eB _ _ ab,bx.T.eB _ _ (by rcases aP with aP|aP;(exactλe=>aA (e▸aP));omega)];exact aU i aj aA
theorem VQ {eR sz:Nat} {ty:Option da} {jm:Option vC} {c d:C} {ws:List Nat} (hw:∀i∈jI c,i∈ws) (h:cI (app eR sz ty jm c d σ) r):ql o σ ws r:=by
 unfold app at h;split at h
 ·split at h
  ·split at h
   ·split at h
    ·obtain⟨l,gb,h⟩:=GN h;split at h
     ·exact VN h (by simp) (.inr (Nat.le_refl _)) QI
     ·exact h.b7.elim
    ·obtain⟨l,gb,h⟩:=GN h;exact O0 h (by simp) (.inr (Nat.le_refl _)) QI
   ·exact h.b7.elim
  ·exact h.b7.elim
 ·obtain⟨_,_,h⟩:=mZ h
  ·split at h
   ·split at h
    ·obtain⟨l,gb,h⟩:=GN h;exact O0 h (Nat.le_refl _) (.inl (hw _ (by simp[jI]))) λi _ _=>rfl
    ·exact h.b7.elim
   ·exact h.b7.elim
 ·rename_i id cX n wI f;obtain⟨_,_,h⟩:=mZ h
  ·split at h
   ·split at h
    ·split at h
     ·split at h
      ·obtain⟨l,gb,h⟩:=GN h;refine O0 h (by simp) (.inr (Nat.le_refl _)) λi aj aA=> ?_;show((σ.heap.put id _).put σ.next _).get i=_;rw[bx.T.eB _ _ ab,bx.T.eB _ _ (λe=>aA (hw _ (by simp[jI,e])))]
      ·exact h.b7.elim
     ·exact h.b7.elim
    ·exact h.b7.elim
   ·exact h.b7.elim
 ·obtain⟨_,_,h⟩:=mZ h
  ·split at h
   ·split at h
    ·obtain⟨l,gb,h⟩:=GN h;split at h
     ·exact VN h (Nat.le_refl _) (.inl (hw _ (by simp[jI]))) λi _ _=>rfl
     ·exact h.b7.elim
    ·exact h.b7.elim
   ·exact h.b7.elim
 ·exact h.b7.elim
theorem QJ {ws:List Nat} {k n:Nat} {b:Option B} (aP:k∈ws):Kept σ ⟨σ.heap.put k b,n⟩ ws:=λi _ aA=>bx.T.eB _ _ λe=>aA (e▸aP)
theorem YX {ws:List Nat} {k i n:Nat} {b c:Option B} (aP:k∈ws) (aj:i∈ws):Kept σ ⟨(σ.heap.put k b).put i c,n⟩ ws:=λj _ aA=>by
 show((σ.heap.put k b).put i c).get j=_;have aa:j≠i:=λe=>aA (by rw[e];exact aj);have ae:j≠k:=λe=>aA (by rw[e];exact aP);rw[bx.T.eB _ _ aa,bx.T.eB _ _ ae]
theorem aIc {sz:Nat} {bX:Option (Nat×da)} {c:C} {v:P} {ws:List Nat} (hw:∀i∈jI c,i∈ws) (aM:∀d,v=.c d->∀i∈jI d,i∈ws) (ax:∀q,bX=some q->∃ty x,o=.store ty (.tmp q.1) x)
 (h:cI (wG sz bX c v σ) r):ql o σ ws r:=by
 unfold wG at h;split at h
 ·exact h.b7.elim
 split at h
 ·obtain⟨_,_,h⟩:=mZ h
  ·split at h
   ·split at h
    ·split at h
     ·obtain rfl:=h.eA;exact QJ (hw _ (by simp[jI]))
     ·split at h
      ·obtain⟨y,_,h⟩:=gK h;obtain rfl:=h.eA;exact⟨QJ (hw _ (by simp[jI])),ax _ rfl⟩
      ·exact h.b7.elim
    ·exact h.b7.elim
   ·exact h.b7.elim
 ·obtain⟨_,_,h⟩:=mZ h
  ·split at h
   ·split at h
    ·exact h.b7.elim
    ·split at h
     ·exact h.b7.elim
     ·split at h
      ·split at h
       ·obtain⟨e,_,h⟩:=h.mG;obtain⟨e',_,h⟩:=gK h;obtain rfl:=h.eA;exact QJ (hw _ (by simp[jI]))
       ·exact h.b7.elim
      ·split at h
       ·split at h
        ·split at h
         ·obtain⟨e,_,h⟩:=h.mG;obtain⟨e',_,h⟩:=gK h;split at h
          ·obtain rfl:=h.eA;exact YX (aM _ rfl _ (by simp[jI])) (hw _ (by simp[jI]))
          ·split at h
           ·rcases h.vg with⟨_,h⟩|⟨_,h⟩
            ·obtain rfl:=h.eA;exact YX (aM _ rfl _ (by simp[jI])) (hw _ (by simp[jI]))
            ·exact h.b7.elim
           ·exact h.b7.elim
         ·exact h.b7.elim
        ·exact h.b7.elim
       ·exact h.b7.elim
   ·exact h.b7.elim
 ·exact h.b7.elim
theorem auC {k:P->Q α} {z:α} (h:cI (uk x k F) z):∃c,cI (k c) z:=by
 obtain⟨c,_,h⟩:=gK h;exact⟨c,h⟩
theorem aH7 {t:da} {len sz:Nat} {z:List C} {l:List (Nat×Operand)} {ws:List Nat} (h:cI (Uu t len sz z l F σ) r):ql o σ ws r:=by
 obtain⟨y,_,h⟩:=gK h;exact CV h
theorem aH4 {a4:List Bool} {t:da} {len sz:Nat} {z:List C} {l:List (Nat×Operand)} {ws:List Nat} (h:cI (Ut a4 t len sz z l F σ) r):ql o σ ws r:=by
 obtain⟨y,_,h⟩:=gK h;split at h
 ·exact CV h
 ·exact h.b7.elim
theorem aow {a4:List Bool} {t:da} {sz eR:Nat} {z:List C} {c:C} {ws:List Nat} (h:cI (yb a4 t sz eR z c σ) r):ql o σ ws r:=by
 unfold yb at h;split at h
 ·split at h
  ·split at h
   ·obtain⟨l,_,h⟩:=h.mG;exact CV h
   ·exact h.b7.elim
  ·exact h.b7.elim
 ·exact h.b7.elim
theorem akh {c:C} {ws:List Nat} (h:cI (Bl c σ) r):ql o σ ws r:=by
 unfold Bl at h;split at h
 ·obtain⟨_,_,h⟩:=mZ h
  ·split at h
   ·split at h
    ·split at h
     ·exact h.b7.elim
     ·obtain rfl:=h.eA;exactλi _ _=>rfl
    ·exact h.b7.elim
   ·exact h.b7.elim
 ·exact h.b7.elim
theorem aId {c:C} {ws:List Nat} (h:cI (Oi c σ) r):ql o σ ws r:=by
 unfold Oi at h;split at h
 ·obtain⟨l,_,h⟩:=h.mG;exact CV h
 ·exact h.b7.elim
theorem RE {k:C->bF->Q α} {z:α} (h:cI (lV x k F σ) z):∃c,k4 (i_ x F)=some c/\cI (k c σ) z:=gK h
theorem ajG {eR sz:Nat} {ty:Option da} {jm:Option vC} {l:List Operand} (aV:x∈l) (h:cI (yz x y (Oj (app eR sz ty jm)) F σ) r):ql o σ (k7 F l) r:=by
 obtain⟨c,aq,h⟩:=gK h;obtain⟨d,bb,h⟩:=gK h;unfold Oj at h;split at h
 ·exact VQ (λi aj=>CE aV aq aj) h
 ·exact h.b7.elim
theorem ajF {eR sz:Nat} {ty:Option da} {jm:Option vC} {l:List Operand} (aV:x∈l) (h:cI (yz x y (Jp (app eR sz ty jm)) F σ) r):ql o σ (k7 F l) r:=by
 obtain⟨c,aq,h⟩:=gK h;obtain⟨d,bb,h⟩:=gK h;unfold Jp at h;split at h
 ·exact h.b7.elim
 ·exact VQ (λi aj=>CE aV aq aj) h
theorem UA {sz:Nat} {bX:Option (Nat×da)} {l:List Operand} (aV:x∈l) (bT:y∈l) (ax:∀q,bX=some q->∃ty x,o=.store ty (.tmp q.1) x) (h:cI (z_ x y (wG sz bX) F σ) r):ql o σ (k7 F l) r:=by
 obtain⟨c,aq,h⟩:=gK h;obtain⟨d,bb,h⟩:=gK h;refine aIc (λi aj=>CE aV aq aj) (λd' uW i aj=> ?_) ax h;refine CE (c:=d') bT ?_ aj;unfold vI at bb;split at bb
 ·rename_i g9 anp;cases bb;rw[anp,uW];rfl
 ·cases bb
theorem ajX {c:Call} {b:Builtin} (aq:c.callee=.builtin b) {dst:Option Nat}:wN (.call c) (CF E dst b c.argTypes.toList c.args.toList):=by
 have bR:(Op.call c).operands.toList=c.args.toList:=by simp[Op.operands,Call.operands,aq]
 unfold CF;split
 ·split<;>trivial
 ·rename_i t t' x y pd a3;split
  ·split
   ·split
    ·intro F σ r h;rw[bR,a3];exact ajG mw h
    ·intro F σ r h;rw[bR,a3];exact ajF mw h
    ·trivial
   ·trivial
  ·trivial
 ·trivial
 ·trivial
 ·trivial
theorem aoE {op:BinOp}:wN o (mkInt op x y):=by cases op<;>trivial
theorem aoK {op:BinOp}:wN o (mkStr op x y):=by cases op<;>trivial
theorem Zs {k:sq} {op:BinOp}:wN o (zY k op x y):=by cases op<;>trivial
theorem aoH {op:BinOp}:wN o (CG op x y):=by cases op<;>trivial
theorem OW (dst:Option Nat) (o:Op):wN o (act E dst o):=by
 cases o with
 |alloc e=>simp only[act];split<;>trivial
 |box e x=>
  simp only[act];split
  ·split<;>trivial
  ·intro F σ r h;obtain⟨c,h⟩:=auC h;exact CV h
 |build t b8=>simp only[act];split<;>(try split)<;>trivial
 |buildSlice t k b8=>
  simp only[act];split
  ·split
   ·split
    ·split
     ·exactλF σ r h=>aH4 h
     ·exactλF σ r h=>aH7 h
     ·trivial
    ·trivial
   ·trivial
  ·trivial
 |load t x=>
  simp only[act];split
  ·exactλF σ a8 h=>RF (l:=(Op.load t x).operands.toList) (by simp[Op.operands]) h λc aq=>aol aq
  ·exactλF σ a8 h=>RF (l:=(Op.load t x).operands.toList) (by simp[Op.operands]) h λc aq=>aom aq
  ·trivial
 |store t x y=>
  simp only[act];have aV:x∈(Op.store t x y).operands.toList:=by simp[Op.operands]
  have bT:y∈(Op.store t x y).operands.toList:=by simp[Op.operands]
  split
  ·split
   ·rename_i Ok;split
    ·split
     ·exactλF σ r h=>UA aV bT (λq ay=>by cases ay;exact⟨t,y,rfl⟩) h
     ·trivial
    ·exactλF σ r h=>UA aV bT (λq ay=>by cases ay) h
   ·exactλF σ r h=>UA aV bT (λq ay=>by cases ay) h
  ·trivial
 |binOp op t x y sj=>
  simp only[act,mkBin];split
  ·split
   ·exact aoE
   ·exact aoK
   ·exact Zs
   ·exact aoH
   ·split
    ·exact Zs
    ·trivial
  ·trivial
 |unOp op t x=>cases op<;>trivial
 |convert s d x=>
  simp only[act];split
  ·trivial
  ·trivial
  ·split
   ·exactλF σ a8 h=>RF (l:=(Op.convert s d x).operands.toList) (by simp[Op.operands]) h λc aq=>akf aq
   ·trivial
  ·split
   ·intro F σ r h;obtain⟨c,_,h⟩:=RE h;exact aId h
   ·trivial
  ·split
   ·intro F σ r h;obtain⟨c,_,h⟩:=RE h;exact akh h
   ·trivial
  ·trivial
 |makeFunc fn first cap=>simp only[act];split<;>trivial
 |makeSlice t l c=>
  have key:∀{a4:List Bool} {ty:da} {sz eR:Nat} {z:List C},wN (.makeSlice t l c) (.iZ (lV l (yb a4 ty sz eR z))):=λ{a4 ty sz eR z} F σ r h=>by
   obtain⟨c,_,h⟩:=RE h;exact aow h
  simp only[act];split
  ·split
   ·split
    ·split
     ·split
      ·split
       ·exact key
       ·trivial
      ·split
       ·split
        ·exact key
        ·trivial
       ·trivial
      ·trivial
     ·trivial
    ·trivial
   ·trivial
  ·trivial
 |slice t x di aj wy=>simp only[act];split<;>(try split)<;>(try split)<;>trivial
 |fieldAddr t x f=>simp only[act];split<;>(try split)<;>trivial
 |field t x f=>simp only[act];split<;>(try split)<;>trivial
 |indexAddr t x i=>simp only[act];split<;>(try split)<;>(try split)<;>(try split)<;>trivial
 |index t x i=>simp only[act];split<;>trivial
 |call c=>
  simp only[act];split
  ·rename_i b aq;exact ajX aq
  ·split
   ·intro F σ r h;obtain rfl:=h.eA;rfl
   ·intro F σ r h;unfold Hs at h;split at h
    ·obtain rfl:=h.eA;rfl
    ·exact h.b7.elim
   ·trivial
  ·trivial
 |_=>trivial
end
structure pI where
  i:Nat
  o:Oper
  mask:Nat
def IT (acc:T Nat) (j:Nat):List Edge->Option Nat
 |[]=>some 0
 |e::l=>match IT acc j l with
  |none=>none
  |some s=>match Region.binds .any e with
   |false=>some s
   |true=>match Nat.ble (Nat.succ e.on) j with
    |false=>none
    |true=>match acc.get e.on with
     |some a=>some (Nat.lor s (Nat.lor (Nat.pow 2 e.on) a))
     |none=>none
def Ac (acc:T Nat) (j:Nat):List Oper->Option (List pI)
 |[]=>some []
 |o::l=>match IT acc j o.after.toList with
  |none=>none
  |some s=>match Ac (acc.put j (some s)) (Nat.succ j) l with
   |none=>none
   |some r=>some (⟨j,o,s⟩::r)
def mN.nT (a:mN):Bool:=match a with
 |.iZ _=>true
 |_=>false
def mN.YL (a:mN):Bool:=match a with
 |.alloc _=>true
 |_=>false
def uR (x:Nat):List Nat->Bool
 |[]=>false
 |y::l=>match Nat.beq x y with
  |true=>true
  |false=>uR x l
def zF (l r:List Nat):Bool:=l.any λx=>uR x r
def looks (ops:Array Oper) (o:Oper):List Nat:=o.looksAt ops
def yo (ops:Array Oper) (o:Oper):List Nat:=sa o++looks ops o
def sH (E:Env) (ops:Array Oper) (a b:Oper):Bool:=
 ((act E a.dst a.op).nT&&(act E b.dst b.op).nT)||zF (sa a) (yo ops b)||zF (sa b) (yo ops a)
def bit (s i:Nat):Bool:=Nat.testBit s i
def DG (E:Env) (ops:Array Oper):List pI->Bool
 |[]=>true
 |a::l=>(l.all λb=> !sH E ops a.o b.o||bit b.mask a.i)&&DG E ops l
def GH (E:Env) (ops:Array Oper):Bool:=match Ac .nil 0 ops.toList with
 |some l=>DG E ops l
 |none=>false
def Vl (M:Nat->Nat) (i:Nat) (o:Oper):Prop:=(∀e∈o.after.toList,Region.binds .any e=true->e.on<i)/\∀p,bit (M i) p=true->∃e∈o.after.toList,Region.binds .any e=true/\(p=e.on\/bit (M e.on) p=true)
theorem V1 (a b p:Nat):bit (Nat.lor a b) p=(bit a p||bit b p):=Nat.testBit_or a b p
theorem ajM (e p:Nat) (h:bit (Nat.pow 2 e) p=true):p=e:=by
 have h:Nat.testBit (2^e) p=true:=h;rw[Nat.testBit_two_pow] at h;exact(of_decide_eq_true h).symm
theorem Zo {acc:T Nat} {j:Nat} {M:Nat->Nat} (BR:∀i a,acc.get i=some a->a=M i):∀{l:List Edge} {s:Nat},IT acc j l=some s->
 (∀e∈l,Region.binds .any e=true->e.on<j)/\∀p,bit s p=true->∃e∈l,Region.binds .any e=true/\(p=e.on\/bit (M e.on) p=true)
 |[],s,h=>by
  cases h;exact⟨(λe he=>by cases he),λp bw=>by simp[bit] at bw⟩
 |e::l,s,h=>by
  rw[IT] at h;split at h
  ·cases h
  ·rename_i ep pc;obtain⟨aa,ae⟩:=Zo BR pc;split at h
   ·rename_i ai;cases h;refine⟨λe' fe tM=> ?_,λp bw=> ?_⟩
    ·rcases List.mem_cons.1 fe with rfl|fe
     ·rw[ai] at tM;cases tM
     ·exact aa e' fe tM
    ·obtain⟨e',aF,aQ⟩:=ae p bw;exact⟨e',by simp[aF],aQ⟩
   ·rename_i ai;split at h
    ·cases h
    ·rename_i bK;have bK:=Nat.le_of_ble_eq_true bK;split at h
     ·rename_i a bW;cases h;have bW:=BR _ _ bW;refine⟨λe' fe tM=> ?_,λp bw=> ?_⟩
      ·rcases List.mem_cons.1 fe with rfl|fe
       ·exact bK
       ·exact aa e' fe tM
      ·rw[V1,V1,Bool.or_eq_true,Bool.or_eq_true] at bw;rcases bw with bw|bw|bw
       ·obtain⟨e',aF,aQ⟩:=ae p bw;exact⟨e',by simp[aF],aQ⟩
       ·exact⟨e,by simp,ai,.inl (ajM _ _ bw)⟩
       ·exact⟨e,by simp,ai,.inr (by rw[<-bW];exact bw)⟩
     ·cases h
theorem adq:∀{l:List Oper} {j:Nat} {acc:T Nat} {ds:List pI} {uE:Nat->Nat},Ac acc j l=some ds->(∀i a,acc.get i=some a->i<j/\a=uE i)->
 ∃M:Nat->Nat,(∀i,i<j->M i=uE i)/\ds.length=l.length/\∀idx o,l[idx]? =some o->ds[idx]? =some ⟨j+idx,o,M (j+idx)⟩/\Vl M (j+idx) o
 |[],j,acc,ds,uE,h,_=>by cases h;exact⟨uE,λ_ _=>rfl,rfl,λidx o bR=>by simp at bR⟩
 |o::l,j,acc,ds,uE,h,BR=>by
  rw[Ac] at h;split at h
  ·cases h
  ·rename_i s aU;split at h
   ·cases h
   ·rename_i aI7 iz;cases h;obtain⟨aF,aQ⟩:=Zo (λi a bW=>(BR i a bW).2) aU;obtain⟨M,bq,bE,c8⟩:=adq (uE:=λi=>if i=j then s else uE i) iz λi a bW=>by
     rw[bx.T.kF] at bW;split at bW
     ·rename_i he;cases bW;exact⟨ab,by simp[he]⟩
     ·rename_i he;obtain⟨aa,ae⟩:=BR i a bW;exact⟨ab,by simp[he,ae]⟩
    have Xk:M j=s:=by rw[bq j ab];simp
    have rM:∀i,i<j->M i=uE i:=λi aj=>by rw[bq i ab];simp;omega
    refine⟨M,rM,by simp[bE],λidx fl bR=> ?_⟩;cases idx with
    |zero=>
     simp at bR;subst bR;refine⟨by simp[Xk],aF,λp bw=> ?_⟩;rw[dH,Xk] at bw;obtain⟨e,aE,aX,bL⟩:=aQ p bw;exact⟨e,aE,aX,bL.imp id λh=>by rw[rM _ (aF e aE aX)];exact h⟩
    |succ idx=>
     rw[List.getElem?_cons_succ] at bR;obtain⟨aE,aX⟩:=c8 idx fl bR;rw[List.getElem?_cons_succ,aE,show j+(idx+1)=j+1+idx by omega];exact⟨rfl,aX⟩
theorem adj {E:Env} {ops:Array Oper}:∀{l:List pI},DG E ops l=true->∀{i j:Nat} {a b:pI},i<j->l[i]? =some a->l[j]? =some b->sH E ops a.o b.o=true->bit b.mask a.i=true
 |[],_,i,j,a,b,_,aj,_,_=>by simp at aj
 |d::l,h,0,j+1,a,b,tQ,aj,au,aq=>by
  simp only[DG,gJ,List.all_eq_true] at h;simp at aj au;subst aj;have:=h.1 b (List.mem_of_getElem? au);simp[aq] at this;exact this
 |d::l,h,i+1,j+1,a,b,tQ,aj,au,aq=>by
  simp only[DG,gJ] at h;exact adj (i:=i) (j:=j) h.2 ab (by simpa using aj) (by simpa using au) aq
 |d::l,h,i,0,a,b,tQ,aj,au,aq=>by omega
theorem xu (x:Nat):∀(l:List Nat),uR x l=true↔x∈l
 |[]=>by simp[uR]
 |y::l=>by
  rw[uR];split
  ·rename_i h;have:=gq h;simp[this]
  ·rename_i h;have:x≠y:=λe=>by subst e;rw[Nat.beq_refl] at h;cases h
   simp[xu x l,this]
theorem XV (l r:List Nat):zF l r=true↔∃x,x∈l/\x∈r:=by
 unfold zF;rw[List.any_eq_true];constructor
 ·rintro⟨x,aa,ae⟩;exact⟨x,aa,(xu _ _).1 ae⟩
 ·rintro⟨x,aa,ae⟩;exact⟨x,aa,(xu _ _).2 ae⟩
structure n9 where
  i:Nat
  mask:Nat
  ids:List Nat
  cell:Option (Nat×Nat)
structure qT where
  i:Nat
  mask:Nat
  ids:List Nat
  dY:Nat
  gu:List (Nat×Nat)
def yV (σ:bF) (y x:Nat×Nat):Prop:=∃cs,σ.heap.get y.1=some (.box cs)/\cs[y.2]? =some (.ptr (some x))
def yJ (b:Nat):Nat->List C->List C->List (Nat×Nat)
 |o,c::cs,c'::k5=>match c,c' with
  |.ptr (some x),.ptr (some y)=>match Nat.beq x.1 y.1&&Nat.beq x.2 y.2 with
   |true=>(b,o)::yJ b (Nat.succ o) cs k5
   |false=>yJ b (Nat.succ o) cs k5
  |_,_=>yJ b (Nat.succ o) cs k5
 |_,_,_=>[]
def tX (σ a8:bF) (ids:List Nat):List (Nat×Nat):=ids.flatMap λb=>match σ.heap.get b with
 |some (.box cs)=>match a8.heap.get b with
  |some (.box k5)=>yJ b 0 cs k5
  |_=>[]
 |_=>[]
def Xr (y:Nat×Nat) (l:List (Nat×Nat)):Bool:=l.any λz=>Nat.beq z.1 y.1&&Nat.beq z.2 y.2
theorem aim {b:Nat}:∀{cs k5:List C} {o:Nat} {y:Nat×Nat},y∈yJ b o cs k5->y.1=b/\∃k x,y.2=o+k/\cs[k]? =some (.ptr (some x))/\k5[k]? =some (.ptr (some x))
 |[],k5,o,y,h=>by cases h
 |c::cs,[],o,y,h=>by cases c<;>cases h
 |c::cs,c'::k5,o,y,h=>by
  have next:y∈yJ b (Nat.succ o) cs k5->y.1=b/\∃k x,y.2=o+k/\(c::cs)[k]? =some (.ptr (some x))/\(c'::k5)[k]? =some (.ptr (some x)):=λh=>by
   obtain⟨aa,k,x,ae,az,a9⟩:=aim h;exact⟨aa,k+1,x,ab,by simpa using az,by simpa using a9⟩
  unfold yJ at h;split at h
  ·rename_i x l2;split at h
   ·rename_i ai;rw[gJ] at ai;rcases List.mem_cons.1 h with rfl|h
    ·have e:x=l2:=Prod.ext (gq ai.1) (gq ai.2);subst e;exact⟨rfl,0,x,rfl,rfl,rfl⟩
    ·exact next h
   ·exact next h
  ·exact next h
theorem an3 {σ a8:bF} {ids:List Nat} {y:Nat×Nat} (h:Xr y (tX σ a8 ids)=true):∃x,yV σ y x/\yV a8 y x:=by
 obtain⟨z,ax,ai⟩:=List.any_eq_true.1 h;rw[gJ] at ai;have e:z=y:=Prod.ext (gq ai.1) (gq ai.2);subst e;obtain⟨b,_,ae⟩:=List.mem_flatMap.1 ax;split at ae
 ·rename_i cs az;split at ae
  ·rename_i k5 a9;obtain⟨cm,k,x,cF,dy,e8⟩:=aim ae;subst cm;rw[fL] at cF;exact⟨x,⟨cs,az,by rw[cF];exact dy⟩,k5,a9,by rw[cF];exact e8⟩
  ·cases ae
 ·cases ae
def cellOf (E:Env) (F:Fr) (o:Op):Option (Nat×Nat):=match o with
 |.load t a=>match bx.isAgg E.cg t with
  |some false=>match k4 (i_ a F) with
   |some (.ptr (some y))=>some y
   |_=>none
  |_=>none
 |_=>none
theorem aj8 {E:Env} {dst:Option Nat} {o:Op} {f:Fr->bF->Q V} {F:Fr} {σ a8:bF} {y x:Nat×Nat} (h:act E dst o=.read f) (aq:cellOf E F o=some y) (aa:yV σ y x) (ae:yV a8 y x):f F σ=f F a8:=by
 unfold cellOf at aq;split at aq
 ·rename_i t a;split at aq
  ·rename_i alU;split at aq
   ·rename_i l2 bW;cases aq;have bu:f=lV a u9:=by
     simp only[act,alU] at h;cases h;rfl
    subst bu;obtain⟨cs,aF,aQ⟩:=aa;obtain⟨k5,bn,cy⟩:=ae;simp only[lV,bW,Q.lift,u9,nN,aF,bn,yw,aQ,cy]
   ·cases aq
  ·cases aq
 ·cases aq
theorem aj7 {E:Env} {F:Fr} {o:Op} {y:Nat×Nat} (aq:cellOf E F o=some y):y.1∈k7 F o.operands.toList:=by
 unfold cellOf at aq;split at aq
 ·rename_i t a;split at aq
  ·split at aq
   ·rename_i l2 bW;cases aq;refine List.mem_flatMap.2 ⟨a,by simp[Op.operands], ?_⟩;unfold k4 at bW;split at bW
    ·rename_i c aM;cases bW;rw[aM];simp[YH,jI]
    ·cases bW
   ·cases aq
  ·cases aq
 ·cases aq
def ac7 (ids ws:List Nat) (dY:Nat):Bool:=ids.all λx=> !uR x ws&&Nat.ble (Nat.succ x) dY
def N3 (r:n9) (b:qT):Bool:=ac7 r.ids b.ids b.dY||(match r.cell with
 |some y=>Xr y b.gu
 |none=>false)
def N4 (r:n9) (b:qT):Bool:=match Nat.ble (Nat.succ b.i) r.i with
 |true=>bit r.mask b.i||N3 r b
 |false=>bit b.mask r.i||N3 r b
def aj_ (j2:List n9) (jb:List qT):Bool:=j2.all λr=>jb.all λb=>N4 r b
def jl (l:List Nat) (g:Nat->V):Fr:=l.map λt=>(t,g t)
theorem auE (l:List Nat) (g:Nat->V) (t:Nat):gE (jl l g) t=if t∈l then g t else .any:=by
 induction l with
 |nil=>rfl
 |cons x l b_=>
  show gE (qL (jl l g) x (g x)) t=_;rw[uQ,b_];by_cases h:t=x
  ·subst h;simp
  ·simp[h]
structure U5 where
  v:V
  il:Option (Nat×V)
  s:bF
  j2:List n9
  jb:List qT
structure U6 where
  F:Fr
  s:bF
  j2:List n9
  jb:List qT
def Ku (il:Option (Nat×V)) (F:Fr):Fr:=match il with
 |some x=>qL F x.1 x.2
 |none=>F
def Pp (E:Env) (call:kM) (ops:Array Oper) (d:pI) (x:Nat) (g:Nat->V) (σ:bF):Q U5:=match act E d.o.dst d.o.op with
 |.pure f=>(f (jl (looks ops d.o) g)).kY λv=>.ret ⟨v,none,σ,[],[]⟩
 |.made f=>(f (jl (looks ops d.o) g)).kY λv=>.ret ⟨v,none,σ,[],[]⟩
 |.read f=>(f (jl (looks ops d.o) g) σ).kY λv=>.ret ⟨v,none,σ,[⟨d.i,d.mask,k7 (jl (looks ops d.o) g) d.o.op.operands.toList,cellOf E (jl (looks ops d.o) g) d.o.op⟩],[]⟩
 |.alloc z=>.ret ⟨.c (.ptr (some (x,0))),none,σ,[],[]⟩
 |.iZ f=>(f (jl (looks ops d.o) g) σ).kY λr=>match r with
  |.val v a8=>.ret ⟨v,none,a8,[],[⟨d.i,d.mask,k7 (jl (looks ops d.o) g) d.o.op.operands.toList,σ.next,tX σ a8 (k7 (jl (looks ops d.o) g) d.o.op.operands.toList)⟩]⟩
  |.skip a8=>.ret ⟨.undef,none,a8,[],[⟨d.i,d.mask,k7 (jl (looks ops d.o) g) d.o.op.operands.toList,σ.next,tX σ a8 (k7 (jl (looks ops d.o) g) d.o.op.operands.toList)⟩]⟩
  |.qb t u a8=>.ret ⟨.undef,some (t,u),a8,[],[⟨d.i,d.mask,k7 (jl (looks ops d.o) g) d.o.op.operands.toList,σ.next,tX σ a8 (k7 (jl (looks ops d.o) g) d.o.op.operands.toList)⟩]⟩
  |.call f args a8=>(call.run f args a8).kY λy=>.ret ⟨y.1,none,y.2,[],[⟨d.i,d.mask,call.wr f args a8,σ.next,tX σ y.2 (call.wr f args a8)⟩]⟩
 |.bad=>.fail
def wz (E:Env) (o:Oper) (x:Nat):Nat:=match(act E o.dst o.op).YL with
 |true=>Nat.succ x
 |false=>x
def Bv (E:Env) (call:kM) (n:Nat) (ops:Array Oper):List pI->Nat->Fr->bF->Q U6
 |[],x,F,σ=>.ret ⟨F,σ,[],[]⟩
 |d::l,x,F,σ=>match Bu n d.o.dst with
  |false=>.fail
  |true=>zw d.o.guard ops F
   (λF=>(Pp E call ops d x (gE F) σ).kY λy=>(Bv E call n ops l (wz E d.o x) (sb d.o.dst y.v (Ku y.il F)) y.s).kY λz=>.ret ⟨z.F,z.s,y.j2++z.j2,y.jb++z.jb⟩)
   λF=>Bv E call n ops l (wz E d.o x) (sb d.o.dst .undef F) σ
def lay (E:Env):List Oper->bF->bF
 |[],σ=>σ
 |o::l,σ=>match act E o.dst o.op with
  |.alloc z=>lay E l ⟨σ.heap.put σ.next (some (.box z)),σ.next+1⟩
  |_=>lay E l σ
def drawn (E:Env) (call:kM) (n:Nat) (ops:Array Oper) (l:List pI) (F:Fr) (σ:bF):Q (Fr×bF):=
 (Bv E call n ops l σ.next F (lay E ops.toList σ)).kY λz=>match aj_ z.j2 z.jb with
  |true=>.ret (z.F,z.s)
  |false=>.fail
def vz (ops:Array Oper) (o:Oper) (g:Nat->V):Option Bool:=match o.guard with
 |none=>some true
 |some y=>match ops[y.1]? with
  |some q=>match q.dst with
   |some d=>match g d with
    |.p (.c (.bool x))=>some (x==y.2)
    |.undef=>some false
    |_=>none
   |none=>none
  |none=>none
structure qj where
  g:Nat->V
  s:bF
  x:Nat
  v:V
  il:Option (Nat×V)
instance:Inhabited qj:=⟨⟨λ_=>.any,⟨.nil,0⟩,0,.any,none⟩⟩
def kZ (d:Option Nat) (v:V) (il:Option (Nat×V)) (g:Nat->V):Nat->V:=λt=>if d=some t then v else match il with
 |some y=>if t=y.1 then y.2 else g t
 |none=>g t
theorem aiM (d:Option Nat) (v:V) (il:Option (Nat×V)) (F:Fr):gE (sb d v (Ku il F))=kZ d v il (gE F):=by
 funext t;have aa:gE (Ku il F) t=match il with|some y=>if t=y.1 then y.2 else gE F t|none=>gE F t:=by
  cases il with
  |none=>rfl
  |some y=>exact uQ _ _ _ _
 cases d with
 |none=>simp only[kZ,sb];rw[aa];simp
 |some k=>
  simp only[kZ,sb];rw[uQ,aa];by_cases h:t=k
  ·subst h;simp
  ·rw[if_neg h,if_neg (by simpa usingλe=>h e.symm)]
section
variable(E:Env) (n:Nat) (ops:Array Oper) (call:kM) (j2:List n9) (jb:List qT)
def AX (d:pI) (e e':qj):mN->Prop
 |.pure f=>cI (f (jl (looks ops d.o) e.g)) e.v/\e.il=none/\e'.s=e.s
 |.made f=>cI (f (jl (looks ops d.o) e.g)) e.v/\e.il=none/\e'.s=e.s
 |.read f=>cI (f (jl (looks ops d.o) e.g) e.s) e.v/\e.il=none/\e'.s=e.s/\⟨d.i,d.mask,k7 (jl (looks ops d.o) e.g) d.o.op.operands.toList,cellOf E (jl (looks ops d.o) e.g) d.o.op⟩∈j2
 |.alloc z=>e.v=.c (.ptr (some (e.x,0)))/\e.il=none/\e'.s=e.s
 |.iZ f=>∃r,cI (f (jl (looks ops d.o) e.g) e.s) r/\(match r with
  |.val v a8=>e.v=v/\e.il=none/\e'.s=a8/\⟨d.i,d.mask,k7 (jl (looks ops d.o) e.g) d.o.op.operands.toList,e.s.next,tX e.s a8 (k7 (jl (looks ops d.o) e.g) d.o.op.operands.toList)⟩∈jb
  |.skip a8=>e.v=.undef/\e.il=none/\e'.s=a8/\⟨d.i,d.mask,k7 (jl (looks ops d.o) e.g) d.o.op.operands.toList,e.s.next,tX e.s a8 (k7 (jl (looks ops d.o) e.g) d.o.op.operands.toList)⟩∈jb
  |.qb t u a8=>e.v=.undef/\e.il=some (t,u)/\e'.s=a8/\⟨d.i,d.mask,k7 (jl (looks ops d.o) e.g) d.o.op.operands.toList,e.s.next,tX e.s a8 (k7 (jl (looks ops d.o) e.g) d.o.op.operands.toList)⟩∈jb
  |.call f args a8=>cI (call.run f args a8) (e.v,e'.s)/\e.il=none/\⟨d.i,d.mask,call.wr f args a8,e.s.next,tX e.s e'.s (call.wr f args a8)⟩∈jb)
 |.bad=>False
def yS (d:pI) (e e':qj):Prop:=Bu n d.o.dst=true/\e'.g=kZ d.o.dst e.v e.il e.g/\e'.x=wz E d.o e.x/\((vz ops d.o e.g=some false/\e.v=.undef/\e.il=none/\e'.s=e.s)\/(vz ops d.o e.g=some true/\AX E ops call j2 jb d e e' (act E d.o.dst d.o.op)))
end
section
variable{E:Env} {n:Nat} {ops:Array Oper} {call:kM} {j2 N5:List n9} {jb Ov:List qT}
theorem AX.mono {d:pI} {e e':qj} {A:mN} (h:AX E ops call j2 jb d e e' A) (aa:∀r∈j2,r∈N5) (ae:∀b∈jb,b∈Ov):AX E ops call N5 Ov d e e' A:=by
 cases A with
 |read f=>exact⟨h.1,h.2.1,h.2.2.1,aa _ h.2.2.2⟩
 |iZ f=>
  obtain⟨r,aF,aQ⟩:=h;refine⟨r,aF, ?_⟩;cases r with
  |val v a8=>exact⟨aQ.1,aQ.2.1,aQ.2.2.1,ae _ aQ.2.2.2⟩
  |skip a8=>exact⟨aQ.1,aQ.2.1,aQ.2.2.1,ae _ aQ.2.2.2⟩
  |qb t u a8=>exact⟨aQ.1,aQ.2.1,aQ.2.2.1,ae _ aQ.2.2.2⟩
  |call f args a8=>exact⟨aQ.1,aQ.2.1,ae _ aQ.2.2⟩
 |_=>exact h
theorem yS.mono {d:pI} {e e':qj} (h:yS E n ops call j2 jb d e e') (aa:∀r∈j2,r∈N5) (ae:∀b∈jb,b∈Ov):yS E n ops call N5 Ov d e e':=⟨h.1,h.2.1,h.2.2.1,h.2.2.2.imp id λh=>⟨h.1,h.2.mono aa ae⟩⟩
theorem als {α:Type} {o:Oper} {F:Fr} {yes no:Fr->Q α} {y:α} (h:cI (zw o.guard ops F yes no) y):
 ∃qP,gE qP=gE F/\((vz ops o (gE F)=some true/\cI (yes qP) y)\/(vz ops o (gE F)=some false/\cI (no qP) y)):=by
 unfold zw at h;split at h
 ·rename_i bZ;exact⟨F,rfl,.inl ⟨by simp[vz,bZ],h⟩⟩
 ·rename_i z bZ;obtain⟨j,b⟩:=z;split at h
  ·rename_i q au;split at h
   ·rename_i d ay;have hw:∀v,gE F d=v->vz ops o (gE F)=(match v with|.p (.c (.bool x))=>some (x==b)|.undef=>some false|_=>none):=λv aM=>by
     subst aM;have au:ops[j]? =some q:=au;simp only[vz,bZ,au,ay]
    split at h
    ·split at h
     ·split at h
      ·rename_i x aV;have hw:=hw _ aV;rcases h.vg with⟨mD,az⟩|⟨mD,az⟩
       ·refine⟨_,funext (HR aV mD), ?_⟩;subst mD;cases b with
        |true=>exact .inl ⟨hw,az⟩
        |false=>exact .inr ⟨hw,az⟩
       ·refine⟨_,funext (HR aV mD), ?_⟩;subst mD;cases b with
        |true=>exact .inr ⟨hw,az⟩
        |false=>exact .inl ⟨hw,az⟩
      ·exact h.b7.elim
     ·exact h.b7.elim
    ·rename_i aV;exact⟨F,rfl,.inr ⟨hw _ aV,h⟩⟩
    ·exact h.b7.elim
   ·exact h.b7.elim
  ·exact h.b7.elim
theorem aks {d:pI} {x:Nat} {g:Nat->V} {σ:bF} {y:U5} (h:cI (Pp E call ops d x g σ) y) {e':qj} (he:e'.s=y.s):AX E ops call y.j2 y.jb d ⟨g,σ,x,y.v,y.il⟩ e' (act E d.o.dst d.o.op):=by
 unfold Pp at h;cases dx:act E d.o.dst d.o.op with
 |pure f=>
  rw[dx] at h;obtain⟨v,aa,h⟩:=h.lf;obtain rfl:=h.eA;exact⟨aa,rfl,he⟩
 |made f=>
  rw[dx] at h;obtain⟨v,aa,h⟩:=h.lf;obtain rfl:=h.eA;exact⟨aa,rfl,he⟩
 |read f=>
  rw[dx] at h;obtain⟨v,aa,h⟩:=h.lf;obtain rfl:=h.eA;exact⟨aa,rfl,he,by simp⟩
 |alloc z=>
  rw[dx] at h;obtain rfl:=h.eA;exact⟨rfl,rfl,he⟩
 |iZ f=>
  rw[dx] at h;obtain⟨r,aa,h⟩:=h.lf;refine⟨r,aa, ?_⟩;clear aa;cases r with
  |val v a8=>obtain rfl:=h.eA;exact⟨rfl,rfl,he,by simp⟩
  |skip a8=>obtain rfl:=h.eA;exact⟨rfl,rfl,he,by simp⟩
  |qb t u a8=>obtain rfl:=h.eA;exact⟨rfl,rfl,he,by simp⟩
  |call f args a8=>
   obtain⟨z,ae,h⟩:=h.lf;obtain rfl:=h.eA;refine⟨?_,rfl,by rw[he];simp⟩;rw[he];exact ae
 |bad=>rw[dx] at h;exact h.b7.elim
theorem Pq:∀{l:List pI} {x:Nat} {F:Fr} {σ:bF} {z:U6},cI (Bv E call n ops l x F σ) z->
 ∃es:List qj,es.length=l.length+1/\(∃fQ,es[0]? =some fQ/\fQ.g=gE F/\fQ.s=σ/\fQ.x=x)/\(∃aE,es[l.length]? =some aE/\aE.g=gE z.F/\aE.s=z.s)/\
  ∀idx d e e',l[idx]? =some d->es[idx]? =some e->es[idx+1]? =some e'->yS E n ops call z.j2 z.jb d e e'
 |[],x,F,σ,z,h=>by
  obtain rfl:=h.eA;exact⟨[⟨gE F,σ,x,.any,none⟩],rfl,⟨_,rfl,rfl,rfl,rfl⟩,⟨_,rfl,rfl,rfl⟩,λidx d e e' bb=>by simp at bb⟩
 |d::l,x,F,σ,z,h=>by
  unfold Bv at h;split at h
  ·exact h.b7.elim
  ·rename_i bb;obtain⟨qP,pZ,⟨hw,aa⟩|⟨hw,aa⟩⟩:=als h
   ·obtain⟨y,ae,az⟩:=aa.lf;obtain⟨gB,a9,cE⟩:=az.lf;obtain rfl:=cE.eA;obtain⟨es,aF,⟨fQ,aQ,bn,cy,fj⟩,⟨aE,fX,gU,iO⟩,jU⟩:=Pq a9;refine⟨⟨gE F,σ,x,y.v,y.il⟩::es,by simp[aF],⟨_,rfl,rfl,rfl,rfl⟩,⟨aE,by simpa using fX,gU,iO⟩,λidx d' e e' dm er eS=> ?_⟩;cases idx with
    |zero=>
     simp at dm er eS;subst dm er;rw[aQ] at eS;cases eS;rw[pZ] at ae;refine⟨bb, ?_,fj,.inr ⟨hw,(aks ae cy).mono (λr aJ=>List.mem_append_left _ aJ) λr aJ=>List.mem_append_left _ aJ⟩⟩;rw[bn,aiM,pZ]
    |succ idx=>
     exact(jU idx d' e e' (by simpa using dm) (by simpa using er) (by simpa using eS)).mono (λr aJ=>List.mem_append_right _ aJ) λr aJ=>List.mem_append_right _ aJ
   ·obtain⟨es,aF,⟨fQ,aQ,bn,cy,fj⟩,⟨aE,fX,gU,iO⟩,jU⟩:=Pq aa;refine⟨⟨gE F,σ,x,.undef,none⟩::es,by simp[aF],⟨_,rfl,rfl,rfl,rfl⟩,⟨aE,by simpa using fX,gU,iO⟩,λidx d' e e' dm er eS=> ?_⟩;cases idx with
    |zero=>
     simp at dm er eS;subst dm er;rw[aQ] at eS;cases eS;refine⟨bb, ?_,fj,.inl ⟨hw,rfl,rfl,cy⟩⟩;rw[bn];show gE (sb _ _ (Ku none qP))=_;rw[aiM,pZ]
    |succ idx=>exact jU idx d' e e' (by simpa using dm) (by simpa using er) (by simpa using eS)
theorem QR:∀{l:List Oper} {σ:bF},σ.next<=(lay E l σ).next/\∀i,i<σ.next->(lay E l σ).heap.get i=σ.heap.get i
 |[],σ=>⟨Nat.le_refl _,λ_ _=>rfl⟩
 |o::l,σ=>by
  unfold lay;split
  ·rename_i z ax;obtain⟨aa,ae⟩:=QR (l:=l) (σ:=⟨σ.heap.put σ.next (some (.box z)),σ.next+1⟩);refine⟨Nat.le_of_succ_le aa,λi aj=> ?_⟩;rw[ae i (Nat.lt_succ_of_lt aj)];exact bx.T.eB _ _ ab
  ·exact QR
theorem QQ:∀{l:List Oper} {σ:bF} {x:Nat->Nat},x 0=σ.next->(∀idx o,l[idx]? =some o->x (idx+1)=wz E o (x idx))->
 ∀idx o z,l[idx]? =some o->act E o.dst o.op=.alloc z->σ.next<=x idx/\x idx<(lay E l σ).next/\(lay E l σ).heap.get (x idx)=some (.box z)
 |[],σ,x,bl,aU,idx,o,z,aj,ax=>by simp at aj
 |o::l,σ,x,bl,aU,idx,fl,gB,aj,ax=>by
  have aa:=aU 0 o rfl;rw[bl] at aa;unfold lay;cases dx:act E o.dst o.op with
  |alloc z=>
   simp only
   have tS:x 1=σ.next+1:=by rw[aa];unfold wz;rw[dx];rfl
   cases idx with
   |zero=>
    simp at aj;subst aj;rw[dx] at ax;cases ax;obtain⟨aF,aQ⟩:=QR (E:=E) (l:=l) (σ:=⟨σ.heap.put σ.next (some (.box gB)),σ.next+1⟩);rw[bl];refine⟨Nat.le_refl _,aF, ?_⟩;rw[aQ _ (Nat.lt_succ_self _)];exact bx.T.hN ..
   |succ idx=>
    obtain⟨aF,aQ,bn⟩:=QQ (l:=l) (σ:=⟨σ.heap.put σ.next (some (.box z)),σ.next+1⟩) (x:=λk=>x (k+1)) tS (λk Rs bR=>aU (k+1) Rs (by simpa using bR)) idx fl gB (by simpa using aj) ax;exact⟨Nat.le_of_succ_le aF,aQ,bn⟩
  |_=>
   simp only
   have tS:x 1=σ.next:=by rw[aa];unfold wz;rw[dx];rfl
   cases idx with
   |zero=>
    simp at aj;subst aj;rw[dx] at ax;cases ax
   |succ idx=>exact QQ (l:=l) (σ:=σ) (x:=λk=>x (k+1)) tS (λk Rs bR=>aU (k+1) Rs (by simpa using bR)) idx fl gB (by simpa using aj) ax
theorem aiS {m:M} {a:Go.Act} {o:Oper} {g:Nat->V} {b:Bool} (aU:∀t∈looks ops o,dW m (g t) (a.tmps.getD t undef)) (h:vz ops o g=some b):Region.wanted o (yielded ops a.tmps)=b:=by
 unfold vz at h;split at h
 ·rename_i bZ;cases h;simp[Region.wanted,bZ]
 ·rename_i y bZ;split at h
  ·rename_i aKF ay;split at h
   ·rename_i d bb;have bH:d∈looks ops o:=List.mem_append_right _ (by rw[bZ];simp[ay,bb]);have aM:=aU d bH;split at h
    ·rename_i c aq;rw[aq] at aM;have aM:a.tmps.getD d undef=.bool c:=aM;have aa:a.tmps[d]? =some (.bool c):=by
      rw[Array.getD_eq_getD_getElem?] at aM;cases ae:a.tmps[d]? with
      |none=>rw[ae] at aM;cases aM
      |some u=>rw[ae] at aM;exact congrArg some aM
     injection h with h
     subst h;obtain⟨j,O3⟩:=y;cases O3<;>cases c<;>simp[Region.wanted,bZ,yielded,ay,bb,aa]
    ·rename_i aq;cases h;rw[aq] at aM;have aM:a.tmps.getD d undef=undef:=aM;have aa:a.tmps[d]? =some undef\/a.tmps[d]? =none:=by
      rw[Array.getD_eq_getD_getElem?] at aM;cases ae:a.tmps[d]? with
      |none=>exact .inr rfl
      |some u=>rw[ae] at aM;exact .inl (congrArg some aM)
     obtain⟨j,O3⟩:=y;rcases aa with aa|aa<;>simp[Region.wanted,bZ,yielded,ay,bb,aa,undef]
    ·cases h
   ·cases h
  ·cases h
end
end cB
end Go.Proofs.YtgmdfchkljaooaaGreat
