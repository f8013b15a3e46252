/- The statement ObjectTellsUptoSaid: for any module, given or made of a program and bent, the bytes are what the document's answer says, and they are read as the same module; whatever the input is, where it is of bulk at most 1048576. -/
import Derived.ChangeMaps
import Derived.JoinedCond
import Derived.Test.YtgmdfchkljaooaaGreatM12
import Derived.Test.YtgmdfchkljaooaaGreatM13
noncomputable section
namespace Go.Proofs.YtgmdfchkljaooaaGreat.objectTells
open Go.ChangeShapes Go.WideShapes Go.ChangeAt Go.RowKit
open Go.ChangeMaps (open_string shut_string)
theorem one_le {H:Type}(d:DataW H):1<=Rows.uptoBulk d:=by
 cases d with
 |lit l=>cases l<;>simp[Rows.uptoBulk]
 |_=>simp[Rows.uptoBulk]
theorem ab5 {H:Type}:∀l:List (DataW H),l.length<=Rows.uptoBulkAll l
 |[]=>by simp[Rows.uptoBulkAll]
 |x::r=>by
  have:=one_le x;have:=ab5 r;simp only[Rows.uptoBulkAll,gS];omega
theorem aru {H:Type}{enc:TypeId×Value->H}{P:Program}{w:World}{base:Nat}{spare:Nat->Bool}{held:Bool}{r:Reach}{cR:Nat}{t e:TypeId}{v:Value}{d:DataW H}{p:List MemPlace}(bQ:P.underlying t=some (.slice e))(he:P.underlying e=some (.int .i64))(an:P.cellsOf e=1)(aL:Value.okWide P w r cR t v)(h:DataW.Trod enc P w base spare held t v d p){A:Option Addr}{n c:Nat}(ux:v=.slice A n c):n<=Rows.uptoBulk d:=by
 obtain⟨a0,len,cap,rfl⟩:=okWide_slice bQ aL;obtain⟨fuel,bB⟩:=h;injection ux with _ aQ _
 subst aQ;rcases open_ints bQ he an bB with⟨lh,_⟩|⟨x,l,c,ss,lh,_,aZ,hm,ai,aW,_,_⟩
 ·simp[Value.cells] at lh;omega
 ·simp[Value.cells] at lh;obtain⟨rfl,rfl,rfl⟩:=lh;have bg:=congrArg Prod.fst aW;have bg:d=.slice (lits .i64 (ss.take len)) (lits .i64 (ss.drop len)):=bg;rw[bg];have aa:=ab5 (lits (H:=H) .i64 (ss.take len));have af:(lits (H:=H) .i64 (ss.take len)).length=len:=by
   have:len<=ss.length:=by rw[ai];split<;>omega
   simp[lits];omega
  simp only[Rows.uptoBulk];omega
set_option maxRecDepth 100000 in
theorem lifted (os:Os)(started:os.Started)(H:Type)(enc:TypeId×Value->H)(F:Stop.Interp):
 ReturnsInHanded {} Tryz.checked os 3 .any ((Rows.OpenSpec.upto Rows.objectTellsSpec).pre6 enc Tryz.prog Tryz.f3 Rows.objectTellsUptoRow.domain false) (((Rows.OpenSpec.upto Rows.objectTellsSpec).at F).post enc Tryz.prog Tryz.f3 false true false false):=by
 refine returnsInHanded_of_cond (C:=Tryz.checked) (s:=Rows.OpenSpec.upto Rows.objectTellsSpec) (k:=Rows.uptoSmall) rfl own started (by kernel_rfl) Tryz.func3
  (OpenSpec.witness (enc:=enc) (C:=Tryz.checked) (s:=Rows.OpenSpec.upto Rows.objectTellsSpec) (k:=Rows.uptoSmall) rfl false ⟨#[],#[.slice none 0 0,.int .i64 0,.int .i64 0,.agg #[.slice none 0 0,.slice none 0 0,.slice none 0 0],.bool true],[]⟩ 8 (by kernel_rfl) (by kernel_rfl) (by kernel_rfl)
   (x:=([.nil,.lit (.int .i64 0),.lit (.int .i64 0),.agg [.nil,.nil,.nil],.lit (.bool true)],[],[])) (by kernel_rfl) rfl (by kernel_rfl)) ?_
 intro W base args ds gs before abg sc _ aU _;have yT:∀(j:Nat) t v,Tryz.f3.params[j]?=some t->args[j]?=some v->Value.okWide Tryz.prog W .any base t v:=abg;have aps:=sc;obtain⟨p,q,ZZ,nq,rfl,aOl,AF⟩:=sc;have dH:DataW.TrodAll enc Tryz.prog W 0 (λ_=>true) true Tryz.f3.params.toList args.toList ds p:=ZZ;rw[Tryz.params3] at dH yT;obtain⟨v0,aNo,d0,aNX,LW,tL,aOe,rfl,rfl,a6,E7⟩:=trodAll_cons dH;obtain⟨v1,aPI,d1,mo,eT,cr,rfl,rfl,rfl,aa,fQ⟩:=trodAll_cons E7;obtain⟨v2,aPJ,d2,ya,fK,cI,rfl,rfl,rfl,af,eQ⟩:=trodAll_cons fQ;obtain⟨cK,aPK,d3,aNY,gU,dw,rfl,rfl,rfl,ax,gq⟩:=trodAll_cons eQ;obtain⟨v4,aPL,d4,aNZ,lZ,fe,rfl,rfl,rfl,a8,k7⟩:=trodAll_cons gq;obtain⟨rfl,rfl,rfl⟩:=trodAll_nil k7;obtain rfl:args=#[v0,v1,v2,cK,v4]:=by cases args;simp_all
 obtain⟨rfl,rfl⟩:=trodVars_none nq;have qu:=a6;have ar9:∀x∈LW,x.block<W.heap.size:=by obtain⟨m,hm⟩:=qu;exact DataW.trod_lt m _ _ _ hm
 obtain⟨amE,xb,pz,gv,qY,As,apm,DM⟩:=arv Tryz.underlying22 Tryz.underlying3 (by kernel_rfl) (yT 0 22 v0 rfl rfl) a6;have aOf:=aru Tryz.underlying22 Tryz.underlying3 (by kernel_rfl) (yT 0 22 v0 rfl rfl) a6 gv;subst gv;have bA:=aa;have ar_:∀x∈eT,x.block<W.heap.size:=by obtain⟨m,hm⟩:=bA;exact DataW.trod_lt m _ _ _ hm
 obtain⟨sL,rfl,_,_,ny⟩:=open_int Tryz.underlying3 (yT 1 3 v1 rfl rfl) aa;have bI:=af;have D0:∀x∈fK,x.block<W.heap.size:=by obtain⟨m,hm⟩:=bI;exact DataW.trod_lt m _ _ _ hm
 obtain⟨nW,rfl,_,_,eU⟩:=open_int Tryz.underlying3 (yT 2 3 v2 rfl rfl) af;have c9:=ax;have ar':∀x∈gU,x.block<W.heap.size:=by obtain⟨m,hm⟩:=c9;exact DataW.trod_lt m _ _ _ hm
 obtain⟨aNV,rfl,_⟩:=okWide_struct Tryz.underlying27 (yT 3 27 cK rfl rfl);have ei:=a8;have asa:∀x∈lZ,x.block<W.heap.size:=by obtain⟨m,hm⟩:=ei;exact DataW.trod_lt m _ _ _ hm
 obtain⟨aNy,rfl,_,_⟩:=open_bool Tryz.underlying4 (yT 4 4 v4 rfl rfl) a8;have m4:Rows.uptoBulkAll [d0,d1,d2,d3,d4]<=1048576:=of_decide_eq_true aU;simp only[Rows.uptoBulkAll] at m4;have aqV:xb.length<=1048576:=ab;obtain⟨aN3,aaw⟩:=ax;obtain⟨q,ay,abh⟩:=cx.TU (W:=W) cx.aMF aaw (by show Rows.uptoBulk d3<=_;omega);have abh:cx.gx cx.gX q<=Rows.uptoBulk d3:=abh;have aO1:=cx.aNf q;clear ZZ abg;refine(cx.aM0 qY apm DM aqV ny eU ay ab).mono λe Yk ⟨he,z7⟩=>?_;subst he;exact⟨_,rfl,_,_,_,[],_,[],aps,trodAll_mk1 (shut_bool Tryz.underlying4 _),(trodAll_cons_mk (Below.trod laidOut (by kernel_rfl) (of_decide_eq_true (by kernel_rfl)) qu z7 ar9) (trodAll_cons_mk (Below.trod laidOut (by kernel_rfl) (of_decide_eq_true (by kernel_rfl)) bA z7 ar_) (trodAll_cons_mk (Below.trod laidOut (by kernel_rfl) (of_decide_eq_true (by kernel_rfl)) bI z7 D0) (trodAll_cons_mk (Below.trod laidOut (by kernel_rfl) (of_decide_eq_true (by kernel_rfl)) c9 z7 ar') (trodAll_cons_mk (Below.trod laidOut (by kernel_rfl) (of_decide_eq_true (by kernel_rfl)) ei z7 asa) trodAll_mk0))))),rfl,z7.frame _,λh=>by cases h⟩
theorem proved:Rows.ObjectTellsUptoSaid:=
 OpenClaim.holds_of_cond 3 Tryz.f3 rfl rfl rfl rfl rfl rfl rfl ⟨rfl,rfl,rfl,rfl,rfl⟩ rfl rfl rfl rfl rfl (by kernel_rfl) Tryz.func3 arE
  (of_decide_eq_true (by kernel_rfl)) (by unfold Func.isWrapper;first|(rw[if_pos (by decide+kernel)];kernel_rfl)|(rw[if_neg (by decide+kernel)];exact⟨rfl,rfl⟩))
  (λos started H enc _ F=>lifted os started H enc F)
end Go.Proofs.YtgmdfchkljaooaaGreat.objectTells
