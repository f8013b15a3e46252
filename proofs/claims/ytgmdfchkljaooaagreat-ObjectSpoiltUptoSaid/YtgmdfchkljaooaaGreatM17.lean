/- The statement ObjectSpoiltUptoSaid: with one bit flipped, one byte more or one byte less, a module's bytes are rejected; whatever the input is, where it is of bulk at most 1048576. -/
import Derived.ProofKit
import Derived.OpenShut
import Derived.ShutString
import Derived.ChangeOld
import Derived.Below
import Derived.SliceStrings
import Derived.ChangeSlices
import Derived.JoinedCond
import Derived.Test.YtgmdfchkljaooaaGreatM01
import Derived.Test.YtgmdfchkljaooaaGreatM11
import Derived.Test.YtgmdfchkljaooaaGreatM16
noncomputable section
namespace Go.Proofs.YtgmdfchkljaooaaGreat
open Go.RowKit
theorem ai5 {u:Nat} (h:u<18446744073709551616):rq (uw u)=u:=by
 unfold rq uw;split<;>split<;>omega
theorem aIs {u:Nat} (h:u<18446744073709551616):-9223372036854775808<=uw u/\uw u<=9223372036854775807:=by
 unfold uw;split<;>omega
theorem ah0:∀(l:List UInt8) (i a v k:Nat),py i a l=some (v,k)->∃(u:Nat) (r:List UInt8),l=lK (10-i) u++r/\v=a+u*2^(7*i)/\k=i+(lK (10-i) u).length/\(0<i->0<u)/\u<2^(64-7*i)/\i<10
 |[],i,a,v,k,h=>by cases h
 |c::r,i,a,v,k,h=>by
  unfold py at h;by_cases ke:10<=i
  ·rw[if_pos ke] at h;cases h
  ·rw[if_neg ke] at h;by_cases fR:i=9/\1<c.toNat
   ·rw[if_pos fR] at h;cases h
   ·rw[if_neg fR] at h;obtain⟨f,bu⟩:∃f,10-i=f+1:=⟨9-i,ab⟩;have al7:=c.toNat_lt;by_cases aq:c.toNat<128
    ·rw[if_pos aq] at h;by_cases ax:c.toNat=0/\0<i
     ·rw[if_pos ax] at h;cases h
     ·rw[if_neg ax] at h;cases h;have aM:lK (10-i) c.toNat=[c]:=by
       rw[bu,cB.aiP aq];simp
      refine⟨c.toNat,r,by rw[aM];rfl,by rw[Nat.mod_eq_of_lt aq],by rw[aM];rfl,λbl=>by omega, ?_,ab⟩;by_cases aj:i=9
      ·subst aj;simp;omega
      ·have:2^7<=2^(64-7*i):=Nat.pow_le_pow_right ab ab;omega
    ·rw[if_neg aq] at h;obtain⟨eI,lY,aE,aX,bL,cM,dX,dh⟩:=ah0 r (i+1) _ v k h;have hu:0<eI:=cM ab;have Ia:i<9:=ab;refine⟨c.toNat%128+128*eI,lY, ?_, ?_, ?_,λ_=>by omega, ?_,ab⟩
     ·have aM:lK (10-i) (c.toNat%128+128*eI)=c::lK (10-(i+1)) eI:=by
       rw[bu,cB.UJ ab,show 10-(i+1)=f by omega,show(c.toNat%128+128*eI)%128+128=c.toNat by omega,show(c.toNat%128+128*eI)/128=eI by omega];simp
      rw[aM,aE];rfl
     ·rw[aX,show 7*(i+1)=7*i+7 by omega,Nat.pow_add];have:eI*(2^(7*i)*2^7)=128*eI*2^(7*i):=by
       rw[show(2:Nat)^7=128 from rfl,Nat.mul_comm (2^(7*i)) 128,<-Nat.mul_assoc,Nat.mul_comm eI 128]
      rw[this,iC];omega
     ·have aM:lK (10-i) (c.toNat%128+128*eI)=c::lK (10-(i+1)) eI:=by
       rw[bu,cB.UJ ab,show 10-(i+1)=f by omega,show(c.toNat%128+128*eI)%128+128=c.toNat by omega,show(c.toNat%128+128*eI)/128=eI by omega];simp
      rw[aM,gO,bL];omega
     ·have bw:2^(64-7*i)=2^(64-7*(i+1))*128:=by
       rw[show(128:Nat)=2^7 from rfl,<-Nat.pow_add];congr 1;omega
      rw[bw];have:=mS 128 (Nat.succ_le_of_lt dX);omega
theorem aHu {l:List UInt8} {n:Int} {k:Nat} (h:qc l=(n,k,true)):-9223372036854775808<=n/\n<=9223372036854775807/\k=(gw n).length/\∃r,l=gw n++r:=by
 unfold qc at h;cases aJ:py 0 0 l with
 |none=>rw[aJ] at h;cases h
 |some p=>
  obtain⟨v,j⟩:=p;rw[aJ] at h;cases h;obtain⟨u,r,aE,aX,bL,_,dX,_⟩:=ah0 l 0 0 v k aJ;have hu:u<18446744073709551616:=by simpa using dX
  have aM:v=u:=by simpa using aX
  subst aM;have ax:=aIs hu;refine⟨ax.1,ax.2, ?_,r, ?_⟩
  ·unfold gw;rw[ai5 hu];simpa using bL
  ·unfold gw;rw[ai5 hu];exact aE
def rI (h:Nat) (c:UInt8):Nat:=((h^^^c.toNat)*16777619)%4294967296
def kS (l:List UInt8):Nat:=l.foldl rI 2166136261
theorem BG (h:Nat) (c:UInt8):rI h c<4294967296:=by unfold rI;omega
theorem ak7 (l:List UInt8) (c:UInt8):kS (l++[c])=rI (kS l) c:=by unfold kS;rw[List.foldl_append,List.foldl_cons,List.foldl_nil]
theorem WZ (l:List UInt8) (a:Nat) (bW:a<4294967296):l.foldl rI a<4294967296:=by
 induction l generalizing a with
 |nil=>exact bW
 |cons c t b_=>exact b_ _ (BG _ _)
theorem PM (l:List UInt8):kS l<4294967296:=WZ l _ bp
def ni (h:Nat):List UInt8:=[UInt8.ofNat (h/16777216),UInt8.ofNat (h/65536),UInt8.ofNat (h/256),UInt8.ofNat h]
theorem aaG (x:Nat) (aV:x<4294967296):(x*16777619%4294967296)*899433627%4294967296=x:=ab
theorem aaH (a b:Nat) (bW:a<4294967296) (ai:b<4294967296) (h:a*16777619%4294967296=b*16777619%4294967296):a=b:=by
 have aE:=aaG a bW;have aX:=aaG b ai;rw[h] at aE;exact aE.symm.trans aX
theorem alk {a b:Nat} {c:UInt8} (bW:a<4294967296) (ai:b<4294967296) (h:rI a c=rI b c):a=b:=by
 have aq:c.toNat<2^32:=Nat.lt_trans c.toNat_lt ab;have aa:=aaH _ _ (Nat.xor_lt_two_pow (n:=32) bW aq) (Nat.xor_lt_two_pow (n:=32) ai aq) h;have:=congrArg (·^^^c.toNat) aa;simpa[Nat.xor_assoc] using this
theorem alm {a:Nat} {c d:UInt8} (bW:a<4294967296) (h:rI a c=rI a d):c=d:=by
 have aq:c.toNat<2^32:=Nat.lt_trans c.toNat_lt ab;have bb:d.toNat<2^32:=Nat.lt_trans d.toNat_lt ab;have aa:=aaH _ _ (Nat.xor_lt_two_pow (n:=32) bW aq) (Nat.xor_lt_two_pow (n:=32) bW bb) h;have:=congrArg (a^^^·) aa;have ae:c.toNat=d.toNat:=by simpa[<-Nat.xor_assoc] using this
 exact UInt8.toNat_inj.1 ae
theorem ak9 (l:List UInt8) {a b:Nat} (bW:a<4294967296) (ai:b<4294967296) (h:l.foldl rI a=l.foldl rI b):a=b:=by
 induction l generalizing a b with
 |nil=>exact h
 |cons c t b_=>exact alk bW ai (b_ (BG _ _) (BG _ _) h)
theorem ak8 (l:List UInt8) (q:Nat) (ay:q<l.length) (d:UInt8) (h:kS (l.set q d)=kS l):l[q]=d:=by
 have aE:l=l.take q++(l[q]::l.drop (q+1)):=by simp
 have aX:l.set q d=l.take q++(d::l.drop (q+1)):=List.set_eq_take_append_cons_drop.trans (by rw[if_pos ay]);unfold kS at h;rw[aX] at h
 conv at h=>rhs;rw[aE]
 rw[List.foldl_append,List.foldl_append,List.foldl_cons,List.foldl_cons] at h;have:=ak9 _ (BG _ _) (BG _ _) h;exact(alm (WZ _ _ ab) this).symm
theorem ak_ {a b:Nat} (bW:a<4294967296) (ai:b<4294967296) (h:ni a=ni b):a=b:=by
 unfold ni at h;injection h with aa h
 injection h with ae h
 injection h with az h
 injection h with a9 _
 have aF:=congrArg UInt8.toNat aa;have aQ:=congrArg UInt8.toNat ae;have bn:=congrArg UInt8.toNat az;have cy:=congrArg UInt8.toNat a9;simp only[UInt8.toNat_ofNat'] at aF aQ bn cy;omega
namespace cB
set_option linter.unusedVariables false
set_option maxRecDepth 100000
theorem UO (n:Int):IntKind.u32.wrap n=n%4294967296:=IntKind.wrap_u32 n
theorem aio {s:ew} {i:Int} {u:aO .u8} (h:∃b,s.1.data[i.toNat]? =some b/\u.1=(b.toNat:Int)):∃b:UInt8,(c4 s)[i.toNat]? =some b/\u.1=(b.toNat:Int):=by
 obtain⟨b,aa,ae⟩:=h;exact⟨b,by unfold c4;rw[Array.getElem?_toList];exact aa,ae⟩
theorem aIf {s:ew} {i:aO .i64} {h:aO .u32} {u:aO .u8} (bl:0<=i.1) (fB:h.1=(kS ((c4 s).take i.1.toNat):Nat)) (hu:∃b,s.1.data[i.1.toNat]? =some b/\u.1=(b.toNat:Int)):(tT (ph h (fk .u32 u)) (aO.w .u32 16777619)).1=(kS ((c4 s).take (i.1+1).toNat):Nat):=by
 obtain⟨b,aa,ae⟩:=aio hu;have ai:=b.toNat_lt;have bK:=PM ((c4 s).take i.1.toNat);have aV:(ph h (fk .u32 u)).1=((kS ((c4 s).take i.1.toNat)^^^b.toNat:Nat):Int):=by
  show bits BinOp.xor IntKind.u32 h.1 (fk .u32 u).1=_;rw[fB,r2,ae,UO,show(b.toNat:Int)%4294967296=(b.toNat:Int) by omega,u32_xor_nat _ _ bK ab]
 rw[GU bl aa,ak7,Iy,aV];have:(aO.w .u32 16777619).1=16777619:=rfl;rw[this,UO];unfold rI;omega
theorem RB:∀x:U aa6,True->aL (z7 x) (λy=>y.1.1.1=(kS (c4 x.1.1):Nat)):=by
 intro x _;unfold z7;have aU:=S.b x.1.1;have i0:(W 0).1=0:=rfl;refine af (cJ (h:=JB) (R:=λy:bA aa5=>y.1.1.1=(kS (c4 x.1.1):Nat)) (λz:U Rz=>z.1.1=x.1.1/\z.1.2.2.1=mF x.1.1/\0<=z.1.2.2.2.1.1/\z.1.2.2.2.1.1<=x.1.1.1.size/\z.1.2.1.1=(kS ((c4 x.1.1).take z.1.2.2.2.1.1.toNat):Nat)) (λz=>(x.1.1.1.size-z.1.2.2.2.1.1:Int).toNat) (λz ax=> ?_) _ ⟨rfl,rfl,by show 0<=(W 0).1;decide,by show(W 0).1<=_;rw[i0];omega,rfl⟩) (λy bT=>an bT);obtain⟨ey,fq,gC,gi,mM⟩:=ax;unfold JB;rw[ey,fq];refine ah (λai=> ?_) (λai=> ?_)
 ·simp only[cc,aI] at ai;have aA:=dK z.1.2.2.2.1 gC ab;refine af (zU ⟨gC,ai⟩) (λv1 rY=> ?_);exact bG ⟨⟨rfl,rfl,by dsimp only;rw[aA];omega,by dsimp only;rw[aA];omega,by dsimp only;rw[aA];exact aIf gC mM rY⟩,by dsimp only;rw[aA];omega⟩
 ·simp only[cc,aI] at ai;refine ba ?_;rw[mM,GS (by rw[c4.len];omega)]
theorem ak' {h:aO .u32} {n:Nat} (aA:h.1=(n:Nat)) {v1 v2 cZ:aO .u32} (aa:v1.1=IntKind.u32.wrap (Int.fdiv h.1 (2^(min ((aO.w .u64 24).1).toNat IntKind.u32.bits):Nat))) (ae:v2.1=IntKind.u32.wrap (Int.fdiv h.1 (2^(min ((aO.w .u64 16).1).toNat IntKind.u32.bits):Nat))) (az:cZ.1=IntKind.u32.wrap (Int.fdiv h.1 (2^(min ((aO.w .u64 8).1).toNat IntKind.u32.bits):Nat))):
 c4 (og (cx [((fk .u8 v1),()),((fk .u8 v2),()),((fk .u8 cZ),()),((fk .u8 h),())]))=ni n:=by
 have bK:h.1<=4294967295:=h.2.2;have key:∀(v:aO .u32) (k q:Nat),v.1=IntKind.u32.wrap (Int.fdiv h.1 (k:Nat))->0<k->q=n/k->UInt8.ofNat (fk .u8 v).1.toNat=UInt8.ofNat q:=λv k q aM aP ay=>by
  have e:Int.fdiv h.1 ((k:Nat):Int)=((n/k:Nat):Int):=by rw[Int.fdiv_eq_ediv_of_nonneg _ ab,aA];rfl
  have hle:n/k<=n:=Nat.div_le_self _ _;have PC:v.1=(q:Int):=by rw[aM,e,UO,ay];omega
  rw[r2,PC,AS];apply UInt8.toNat_inj.1;simp only[UInt8.toNat_ofNat'];omega
 have cM:UInt8.ofNat (fk .u8 h).1.toNat=UInt8.ofNat n:=by
  rw[r2,aA,AS];apply UInt8.toNat_inj.1;simp only[UInt8.toNat_ofNat'];omega
 rw[c4.bytes];unfold cA ni;rw[fT (by simp)];simp only[List.map_cons,List.map_nil];rw[key v1 16777216 _ aa bp rfl,key v2 65536 _ ae bp rfl,key cZ 256 _ az bp rfl,cM]
theorem abQ:∀x:U abO,True->aL (Dg x) (λy=>c4 y.1.1=ni x.1.1.1.toNat):=by
 intro x _;unfold Dg;refine af (x5 bp) (λv1 aa=> ?_);refine af (x5 bp) (λv2 ae=> ?_);refine af (x5 bp) (λcZ az=> ?_);have bl:0<=x.1.1.1:=x.1.1.2.1;exact an (ak' ab aa ae az)
theorem ajE (c:UInt8) {v:aO .u8} (aM:v.1=(c.toNat:Int)):(q8 v (aO.w .u8 127)).1=((c.toNat%128:Nat):Int):=by
 have aq:c.toNat<256:=c.toNat_lt;have h:=u8_and_nat c.toNat 127 aq ab;show bits BinOp.and IntKind.u8 v.1 ((127:Nat):Int)=_;rw[aM,h,show(127:Nat)=2^7-1 from rfl,Nat.and_two_pow_sub_one_eq_mod]
theorem auI {x v:aO .u64} {u m k:Nat} (aV:x.1=(u:Int)) (aM:v.1=IntKind.u64.wrap (((m:Nat):Int)*(2^k:Nat))) (hu:u<2^k) (hm:m*2^k<18446744073709551616) (HW:u<18446744073709551616):(q9 x v).1=((u+m*2^k:Nat):Int):=by
 have amV:u|||(m*2^k)=u+m*2^k:=by rw[Nat.mul_comm,Nat.or_comm,<-Nat.two_pow_add_eq_or_of_lt hu,Nat.add_comm]
 have PC:v.1=((m*2^k:Nat):Int):=by
  rw[aM,<-Int.natCast_mul,th];generalize m*2^k=q at hm;omega
 show bits BinOp.or IntKind.u64 x.1 v.1=_;rw[aV,PC,u64_or_nat _ _ HW hm,amV]
theorem ak2 {x:aO .u64} {u:Nat} (aV:x.1=(u:Int)) {v:aO .u64} (aM:v.1=IntKind.u64.wrap (Int.fdiv x.1 (2^(min ((aO.w .u64 1).1).toNat IntKind.u64.bits):Nat))):(ph (fk .i64 v) (tU (fk .i64 (q8 x (aO.w .u64 1))))).1=uw u:=by
 have hm:x.1<=18446744073709551615:=x.2.2;have h:u<18446744073709551616:=ab;have bW:=u64_and_nat u 1 h ab;have fQ:(q8 x (aO.w .u64 1)).1=((u%2:Nat):Int):=by
  show bits BinOp.and IntKind.u64 x.1 ((1:Nat):Int)=_;rw[aV,bW,Nat.and_one_is_mod]
 have aE:(fk .i64 v).1=((u/2:Nat):Int):=by
  have:Int.fdiv x.1 ((2^(min ((aO.w .u64 1).1).toNat IntKind.u64.bits):Nat):Int)=x.1/2:=Int.fdiv_eq_ediv_of_nonneg _ bp;rw[r2,aM,this,aV,th,wrap64];omega
 have bL:(tU (fk .i64 (q8 x (aO.w .u64 1)))).1=-((u%2:Nat):Int):=by
  have aX:(fk .i64 (q8 x (aO.w .u64 1))).1=((u%2:Nat):Int):=by
   rw[r2,fQ,wrap64];have:u%2<2:=Nat.mod_lt _ bp;omega
  rw[YI,aX,wrap64];have:u%2<2:=Nat.mod_lt _ bp;omega
 show bits BinOp.xor IntKind.i64 (fk .i64 v).1 (tU (fk .i64 (q8 x (aO.w .u64 1)))).1=_;rw[aE,bL];have ay:u/2<9223372036854775808:=ab;generalize Qq:u/2=q at ay;have Yc:BitVec.ofInt 64 (q:Int)=BitVec.ofNat 64 q:=BitVec.ofInt_natCast 64 q;unfold uw;rw[Qq];rcases Nat.mod_two_eq_zero_or_one u with bl|bl
 ·rw[bl,if_pos rfl];show IntKind.i64.wrap ((BitVec.ofInt 64 (q:Int)^^^BitVec.ofInt 64 (-((0:Nat):Int))).toNat:Int)=_;rw[Yc,show BitVec.ofInt 64 (-((0:Nat):Int))=0#64 from rfl,BitVec.xor_zero,BitVec.toNat_ofNat,Nat.mod_eq_of_lt ab,wrap64];omega
 ·rw[bl,if_neg ab];show IntKind.i64.wrap ((BitVec.ofInt 64 (q:Int)^^^BitVec.ofInt 64 (-((1:Nat):Int))).toNat:Int)=_;rw[Yc,show BitVec.ofInt 64 (-((1:Nat):Int))=BitVec.allOnes 64 from rfl,BitVec.xor_allOnes,BitVec.toNat_not,BitVec.toNat_ofNat,Nat.mod_eq_of_lt ab,wrap64];omega
def qn (l:List UInt8) (k u:Nat):Prop:=k<=l.length/\k<=10/\u<2^(7*k)/\u<18446744073709551616/\py 0 0 l=py k u (l.drop k)
theorem qn.start (l:List UInt8):qn l 0 0:=⟨Nat.zero_le _,ab,by simp,ab,rfl⟩
theorem qn.fail {l k u} (h:qn l k u) (aP:l.length<=k\/10<=k):qc l=(0,0,false):=by
 obtain⟨aa,ae,az,a9,cE⟩:=h;unfold qc;rw[cE];rcases aP with aP|aP
 ·rw[List.drop_of_length_le aP];rfl
 ·cases l.drop k with
  |nil=>rfl
  |cons c r=>unfold py;rw[if_pos aP]
theorem qn.byte {l k u} {c:UInt8} (h:qn l k u) (aq:l[k]? =some c) (ke:k<10):py 0 0 l=if k=9/\1<c.toNat then none else if c.toNat<128 then(if c.toNat=0/\0<k then none else some (u+c.toNat%128*2^(7*k),k+1)) else py (k+1) (u+c.toNat%128*2^(7*k)) (l.drop (k+1)):=by
 have bK:=(ed.1 aq).1;rw[h.2.2.2.2,List.drop_eq_getElem_cons bK,(ed.1 aq).2]
 conv=>lhs;unfold py
 rw[if_neg ab]
theorem qn.room {k u:Nat} {c:UInt8} (hu:u<2^(7*k)) (ke:k<10) (fR:¬(k=9/\1<c.toNat)):c.toNat%128*2^(7*k)<18446744073709551616/\u+c.toNat%128*2^(7*k)<18446744073709551616/\u+c.toNat%128*2^(7*k)<2^(7*(k+1)):=by
 have az:u+c.toNat%128*2^(7*k)<2^(7*(k+1)):=by
  rw[show 7*(k+1)=7*k+7 by omega,Nat.pow_add];have az:c.toNat%128<=127:=ab;have:=mS (2^(7*k)) az;omega
 by_cases aP:k=9
 ·subst aP;have a9:c.toNat%128<=1:=ab;have cE:=mS (2^(7*9)) a9;simp at cE hu⊢;simp at az;omega
 ·have:2^(7*(k+1))<=2^63:=Nat.pow_le_pow_right ab ab;simp at this;omega
theorem qn.next {l k u} {c:UInt8} (h:qn l k u) (aq:l[k]? =some c) (ke:k<10) (fR:¬(k=9/\1<c.toNat)) (rJ:128<=c.toNat):qn l (k+1) (u+c.toNat%128*2^(7*k)):=by
 have aJ:=qn.room h.2.2.1 ke fR;refine⟨(ed.1 aq).1,ab,aJ.2.2,aJ.2.1, ?_⟩;rw[h.byte aq ke,if_neg fR,if_neg ab]
theorem aq8:∀x:U aa3,True->aL (Jz x) (λy=>(y.1.1.1,y.1.2.1.1.toNat,y.1.2.2.1)=qc (c4 x.1.1)/\0<=y.1.2.1.1):=by
 intro x _;unfold Jz;have aU:=S.b x.1.1;have i0:(W 0).1=0:=rfl;refine af (cJ (h:=JA) (R:=Sum.elim (λy=>qc (c4 x.1.1)=(0,0,false)) (λy=>(y.1.1.1,y.1.2.1.1.toNat,y.1.2.2.1)=qc (c4 x.1.1)/\0<=y.1.2.1.1)) (λz:U Rv=>z.1.1=x.1.1/\0<=z.1.2.2.1.1/\0<=z.1.2.1.1/\qn (c4 x.1.1) z.1.2.2.1.1.toNat z.1.2.1.1.toNat) (λz=>(10-z.1.2.2.1.1:Int).toNat) (λz ax=> ?_) _ ⟨rfl,by show 0<=(W 0).1;decide,by show 0<=(aO.w .u64 0).1;decide,qn.start _⟩) (λcD eY=> ?_)
 ·obtain⟨ey,fq,gC,gi⟩:=ax;unfold JA;rw[ey];have rW:=c4.len x.1.1;refine ah (λai=> ?_) (λai=> ?_)
  ·simp only[cc,aI] at ai;refine ah (λaT=> ?_) (λaT=> ?_)
   ·simp only[cc,aI] at aT;refine af (zU ⟨fq,ai⟩) (λv1 rY=> ?_);obtain⟨c,aq,ama⟩:=aio rY;have al7:=c.toNat_lt;have p1:=gi.byte aq ab;refine af (P:=Sum.elim (λ_=>¬(z.1.2.2.1.1.toNat=9/\1<c.toNat)) (λ_=>z.1.2.2.1.1.toNat=9/\1<c.toNat)) ?_ (λaG cn=> ?_)
    ·unfold aa0;refine ah (λfR=> ?_) (λfR=> ?_)
     ·simp only[cc,aI] at fR;refine ah (λaa=> ?_) (λaa=> ?_)
      ·simp only[cc,aI] at aa;exact ba ⟨ab,ab⟩
      ·simp only[cc,aI] at aa;exact bG (λq=>by omega)
     ·simp only[cc,aI] at fR;exact bG (λq=>by omega)
    ·refine dZ cn (λa1 fR=> ?_) (λa2 fR=> ?_)
     ·have aJ:=qn.room gi.2.2.1 (by omega:z.1.2.2.1.1.toNat<10) fR;have er:(tT (W 7) z.1.2.2.1).1=7*z.1.2.2.1.1:=by
       rw[Iy,wrap64,show(W 7).1=7 from rfl];omega
      refine af (QE (by rw[er];omega)) (λc5 Yu=> ?_);have dX:c5.1=IntKind.u64.wrap (((c.toNat%128:Nat):Int)*(2^(7*z.1.2.2.1.1.toNat):Nat)):=by
       have akD:(fk .u64 (q8 v1 (aO.w .u8 127))).1=((c.toNat%128:Nat):Int):=by rw[r2,ajE c ama,th];omega
       have Ps:min ((tT (W 7) z.1.2.2.1).1).toNat IntKind.u64.bits=7*z.1.2.2.1.1.toNat:=by rw[er];show min _ 64=_;omega
       rw[Yu,akD,Ps]
      have PA:=auI (x:=z.1.2.1) (u:=z.1.2.1.1.toNat) ab dX gi.2.2.1 aJ.1 gi.2.2.2.1;have aA:=dK z.1.2.2.1 fq ab;have Ys:(z.1.2.2.1.1+1).toNat=z.1.2.2.1.1.toNat+1:=ab;have done:∀v:aO .u64,v.1=IntKind.u64.wrap (Int.fdiv (q9 z.1.2.1 c5).1 (2^(min ((aO.w .u64 1).1).toNat IntKind.u64.bits):Nat))->c.toNat<128->¬(c.toNat=0/\0<z.1.2.2.1.1.toNat)->((ph (fk .i64 v) (tU (fk .i64 (q8 (q9 z.1.2.1 c5) (aO.w .u64 1))))).1,(bg z.1.2.2.1 (W 1)).1.toNat,true)=qc (c4 x.1.1)/\0<=(bg z.1.2.2.1 (W 1)).1:=λv aM rJ ax=>by
       rw[ak2 PA aM,aA,Ys];refine⟨?_,ab⟩;unfold qc;rw[p1,if_neg fR,if_pos rJ,if_neg ax]
      refine ah (λrJ=> ?_) (λrJ=> ?_)
      ·have rJ:c.toNat<128:=by simp only[cc,aI] at rJ;omega
       refine ah (λqC=> ?_) (λqC=> ?_)
       ·have qC:c.toNat=0:=by simp only[cc,aI] at qC;omega
        refine ah (λaP=> ?_) (λaP=> ?_)
        ·have aP:0<z.1.2.2.1.1.toNat:=by simp only[cc,aI] at aP;omega
         refine ba ?_;show qc (c4 x.1.1)=(0,0,false);unfold qc;rw[p1,if_neg fR,if_pos rJ,if_pos ⟨qC,aP⟩]
        ·have aP:z.1.2.2.1.1.toNat=0:=by simp only[cc,aI] at aP;omega
         refine af (x5 bp) (λv6 zO=> ?_);exact ba (done v6 zO rJ ab)
       ·have qC:c.toNat≠0:=by simp only[cc,aI] at qC;omega
        refine af (x5 bp) (λdN xS=> ?_);exact ba (done dN xS rJ ab)
      ·have rJ:128<=c.toNat:=by simp only[cc,aI] at rJ;omega
       have lS:=gi.next aq ab fR rJ;refine bG ⟨⟨rfl,by dsimp only;rw[aA];omega,by dsimp only;rw[PA];omega, ?_⟩,by dsimp only;rw[aA];omega⟩;dsimp only
       rw[aA,Ys,PA];exact lS
     ·refine ba ?_;show qc (c4 x.1.1)=(0,0,false);unfold qc;rw[p1,if_pos fR]
   ·simp only[cc,aI] at aT;exact ba (gi.fail (.inr ab))
  ·simp only[cc,aI] at ai;exact ba (gi.fail (.inl ab))
 ·refine dZ eY (λbV dV=> ?_) (λcu eZ=> ?_)
  ·exact an ⟨dV.symm,by show 0<=(W 0).1;decide⟩
  ·exact an eZ
section
variable{α β:Type}
def dQ:Unit->List UInt8:=λ_=>[]
def kQ (n:aO .i64):List UInt8:=gw n.1
def j_ (s:ew):List UInt8:=gw (s.1.size:Nat)++c4 s
def ek (e:α->List UInt8) (l:L α):List UInt8:=gw (l.1.length:Nat)++l.1.flatMap e
def c6 (e:α->List UInt8) (f:β->List UInt8) (x:α×β):List UInt8:=e x.1++f x.2
end
def pQ:D [.str]->List UInt8:=c6 j_ dQ
def oZ:D [.int .i64]->List UInt8:=c6 kQ dQ
def j7:D jG->List UInt8:=c6 kQ (c6 j_ dQ)
def lN:D eb->List UInt8:=c6 j_ (c6 kQ (c6 j_ (c6 kQ dQ)))
def mf:D eg->List UInt8:=c6 j_ (c6 j_ (c6 (ek lN) dQ))
def me:D cV->List UInt8:=c6 j_ (c6 (ek pQ) (c6 (ek mf) dQ))
def mV:D gz->List UInt8:=c6 kQ (c6 j_ (c6 (ek lN) dQ))
def mU:D dt->List UInt8:=c6 j_ (c6 (ek mV) dQ)
def mc:D c_->List UInt8:=c6 j_ (c6 kQ (c6 kQ dQ))
def mb:D fV->List UInt8:=c6 j_ (c6 j_ (c6 (ek oZ) dQ))
def j8:D eF->List UInt8:=c6 kQ (c6 kQ (c6 kQ (c6 kQ (c6 j_ (c6 j_ (c6 (ek oZ) (c6 (ek mc) (c6 (ek mb) dQ))))))))
def lO:D mR->List UInt8:=c6 j_ (c6 (ek j7) (c6 kQ (c6 (ek j8) dQ)))
def nc:D qS->List UInt8:=c6 (ek me) (c6 (ek mU) (c6 (ek lO) dQ))
def eC {α:Type} (e:α->List UInt8):Prop:=∀a b r s,e a++r=e b++s->a=b/\r=s
theorem C1 {a b:Int} (bW:-9223372036854775808<=a/\a<=9223372036854775807) (ai:-9223372036854775808<=b/\b<=9223372036854775807) {r s} (h:gw a++r=gw b++s):a=b/\r=s:=by
 have aa:=Ud a r bW.1 bW.2;rw[h,Ud b s ai.1 ai.2] at aa;have e:b=a:=congrArg (λp=>p.1) aa;subst e;exact⟨rfl,List.append_cancel_left h⟩
section
variable{α β:Type} {e:α->List UInt8} {f:β->List UInt8}
theorem eC.u:eC dQ:=λa b r s h=>⟨rfl,h⟩
theorem eC.i:eC kQ:=λa b r s h=>by
 obtain⟨aa,ae⟩:=C1 (aO.sC a) (aO.sC b) h;exact⟨Subtype.ext aa,ae⟩
theorem eC.s:eC j_:=λa b r s h=>by
 unfold j_ at h;rw[dF,dF] at h;have bW:=S.b a;have ai:=S.b b;obtain⟨aa,ae⟩:=C1 ⟨ab,ab⟩ ⟨ab,ab⟩ h;obtain⟨az,a9⟩:=List.append_inj ae (by rw[c4.len,c4.len];omega);exact⟨c4.inj az,a9⟩
theorem eC.p (h:eC e) (g:eC f):eC (c6 e f):=λa b r s q=>by
 unfold c6 at q;rw[dF,dF] at q;obtain⟨aa,ae⟩:=h _ _ _ _ q;obtain⟨az,a9⟩:=g _ _ _ _ ae;exact⟨Prod.ext aa az,a9⟩
theorem eC.flat (h:eC e):∀{a b:List α} {r s:List UInt8},a.length=b.length->a.flatMap e++r=b.flatMap e++s->a=b/\r=s
 |[],[],r,s,_,q=>⟨rfl,q⟩
 |x::a,y::b,r,s,a3,q=>by
  rw[List.flatMap_cons,List.flatMap_cons,dF,dF] at q;obtain⟨aa,ae⟩:=h _ _ _ _ q;obtain⟨az,a9⟩:=eC.flat h (by simpa using a3) ae;exact⟨by rw[aa,az],a9⟩
 |[],y::b,r,s,a3,_=>by simp at a3
 |x::a,[],r,s,a3,_=>by simp at a3
theorem eC.l (h:eC e):eC (ek e):=λa b r s q=>by
 unfold ek at q;rw[dF,dF] at q;have bW:=L.b a;have ai:=L.b b;obtain⟨aa,ae⟩:=C1 ⟨ab,ab⟩ ⟨ab,ab⟩ q;obtain⟨az,a9⟩:=h.flat ab ae;exact⟨Subtype.ext az,a9⟩
end
theorem RR:eC pQ:=eC.s.p .u
theorem Kk:eC oZ:=eC.i.p .u
theorem Kj:eC j7:=eC.i.p (eC.s.p .u)
theorem RN:eC lN:=eC.s.p (eC.i.p (eC.s.p (eC.i.p .u)))
theorem adg:eC mf:=eC.s.p (eC.s.p (RN.l.p .u))
theorem RQ:eC me:=eC.s.p (RR.l.p (adg.l.p .u))
theorem adh:eC mV:=eC.i.p (eC.s.p (RN.l.p .u))
theorem RP:eC mU:=eC.s.p (adh.l.p .u)
theorem RO:eC mc:=eC.s.p (eC.i.p (eC.i.p .u))
theorem ada:eC mb:=eC.s.p (eC.s.p (Kk.l.p .u))
theorem adb:eC j8:=eC.i.p (eC.i.p (eC.i.p (eC.i.p (eC.s.p (eC.s.p (Kk.l.p (RO.l.p (ada.l.p .u))))))))
theorem adf:eC lO:=eC.s.p (Kj.l.p (eC.i.p (adb.l.p .u)))
theorem ade:eC nc:=RQ.l.p (RP.l.p (adf.l.p .u))
def Pos {α:Type} (e:α->List UInt8):Prop:=∀a,0<(e a).length
theorem C2 (n:Int):0<(gw n).length:=aIw 9 _
theorem Ju (n:Int):(gw n).length<=10:=aIv 10 _
section
variable{α β:Type} {e:α->List UInt8} {f:β->List UInt8}
theorem Pos.i:Pos kQ:=λa=>C2 _
theorem Pos.s:Pos j_:=λa=>by unfold j_;rw[bY];have:=C2 (a.1.size:Nat);omega
theorem Pos.p (h:Pos e):Pos (c6 e f):=λa=>by unfold c6;rw[bY];have:=h a.1;omega
theorem Pos.flat (h:Pos e):∀l:List α,l.length<=(l.flatMap e).length
 |[]=>Nat.zero_le _
 |a::l=>by rw[List.flatMap_cons,bY,gO];have:=h a;have:=h.flat l;omega
end
theorem avj:Pos pQ:=Pos.s.p
theorem avd:Pos oZ:=Pos.i.p
theorem ava:Pos j7:=Pos.i.p
theorem au':Pos lN:=Pos.s.p
theorem avi:Pos mf:=Pos.s.p
theorem avh:Pos me:=Pos.s.p
theorem avk:Pos mV:=Pos.i.p
theorem avf:Pos mU:=Pos.s.p
theorem ave:Pos mc:=Pos.s.p
theorem avb:Pos mb:=Pos.s.p
theorem avc:Pos j8:=Pos.i.p
theorem avg:Pos lO:=Pos.s.p
structure gG {α:Type} (e:α->List UInt8) (st m5:D [.str,.bool]) (a:α):Prop where
  b:st.2.1=true->m5.2.1=true
  g:st.2.1=false->m5.2.1=false->c4 st.1=e a++c4 m5.1
  n:st.2.1=false->m5.2.1=true->∀x r,c4 st.1≠e x++r
  l:m5.1.1.size<=st.1.1.size
section
variable{α β:Type} {e:α->List UInt8} {f:β->List UInt8} {s t u:D [.str,.bool]} {a:α} {b:β}
theorem gG.pair (h:gG e s t a) (he:eC e) (g:gG f t u b):gG (c6 e f) s u (a,b):=by
 refine⟨λq=>g.b (h.b q),λq f_=> ?_,λq f_ x r aV=> ?_,ij g.l h.l⟩
 ·have bH:t.2.1=false:=by
   cases bH:t.2.1 with
   |false=>rfl
   |true=>rw[g.b bH] at f_;cases f_
  rw[h.g q bH,g.g bH f_];unfold c6;rw[dF]
 ·unfold c6 at aV;rw[dF] at aV;cases bH:t.2.1 with
  |true=>exact h.n q bH _ _ aV
  |false=>
   rw[h.g q bH] at aV;exact g.n bH f_ _ _ (he _ _ _ _ aV).2
structure vB {α:Type} (e:α->List UInt8) (s:List UInt8) (acc:List α) (n:Int) (st:D [.str,.bool]):Prop where
  jJ:0<=n
  t:s=gw ((acc.length:Nat)+n)++(acc.flatMap e++c4 st.1)
  m:(acc.length:Int)+n<=140737488355328
def Vm {α:Type} (e:α->List UInt8) (s:List UInt8):Prop:=∀(l:L α) r,s≠ek e l++r
theorem vB.done {s acc st} (h:vB e s acc 0 st) {l:L α} (a3:l.1=acc):s=ek e l++c4 st.1:=by
 rw[h.t];unfold ek;rw[a3,dF,Int.add_zero]
theorem vB.PS {s acc n st m5 a} (h:vB e s acc n st) (aA:0<n) (ai:st.2.1=false) (g:gG e st m5 a) (xv:m5.2.1=false):vB e s (acc++[a]) (n-1) m5:=by
 refine⟨ab, ?_,by rw[bY,List.length_singleton];have:=h.m;omega⟩;rw[h.t,g.g ai xv,bY,List.length_singleton,List.flatMap_append,show((acc.length+1:Nat):Int)+(n-1)=(acc.length:Nat)+n by omega];simp
theorem vB.bad {s acc n st m5 a} (h:vB e s acc n st) (he:eC e) (aA:0<n) (ai:st.2.1=false) (g:gG e st m5 a) (xv:m5.2.1=true):Vm e s:=λl r q=>by
 rw[h.t] at q;unfold ek at q;rw[dF] at q;have hm:=h.m;have a3:=L.b l;have bl:=h.jJ;obtain⟨aa,ae⟩:=C1 ⟨ab,ab⟩ ⟨ab,ab⟩ q;have bK:acc.length<l.1.length:=ab;have aE:l.1=l.1.take acc.length++l.1[acc.length]::l.1.drop (acc.length+1):=by simp
 rw[aE,List.flatMap_append,List.flatMap_cons,dF,dF] at ae;obtain⟨_,a9⟩:=he.flat (by rw[List.length_take];omega) ae;exact g.n ai xv _ _ a9
end
set_option linter.unusedSimpArgs false
theorem rH {α Z Y:Type} (c:α->List UInt8) (l:L α) (h:Z->Option (Z⊕Y)) (row:Z->L (D [.int .u8])) (out:Y->L (D [.int .u8])) (nn:Z->aO .i64) (ok:Z->Prop)
 (step:∀z,ok z->0<=(nn z).1->∀e,(nn z).1<(l.1.length:Nat)->l.1[(nn z).1.toNat]? =some e->(row z).1.length+(c e).length<=1000000000->aL (h z) (Sum.elim (λgB=>ok gB/\nn gB=bg (nn z) (W 1)/\cA (row gB)=cA (row z)++c e) (λ_=>False)))
 (stop:∀z,ok z->(l.1.length:Nat)<=(nn z).1->aL (h z) (Sum.elim (λ_=>False) (λy=>out y=row z))):
 ∀g_,ok g_->(nn g_).1=0->(row g_).1.length+(l.1.flatMap c).length<=1000000000->aL (a_ h g_) (λy=>cA (out y)=cA (row g_)++l.1.flatMap c):=by
 intro g_ bl aj aJ;have a3:=L.b l;refine cJ (λz=>ok z/\0<=(nn z).1/\(nn z).1<=(l.1.length:Nat)/\cA (row z)=cA (row g_)++(l.1.take (nn z).1.toNat).flatMap c) (λz=>((l.1.length:Nat)-(nn z).1:Int).toNat) (λz ax=> ?_) g_ ⟨bl,ab,ab,by rw[aj];simp⟩;obtain⟨ey,fq,gC,gi⟩:=ax;by_cases ai:(nn z).1<(l.1.length:Nat)
 ·have he:=e_ (l:=l.1) (i:=(nn z).1.toNat) ab;have aE:l.1.flatMap c=(l.1.take (nn z).1.toNat).flatMap c++(c l.1[(nn z).1.toNat]++(l.1.drop ((nn z).1.toNat+1)).flatMap c):=by
   conv=>lhs;rw[<-List.take_append_drop (nn z).1.toNat l.1,List.drop_eq_getElem_cons (by omega:(nn z).1.toNat<l.1.length)]
   rw[List.flatMap_append,List.flatMap_cons]
  have aX:=congrArg List.length aE;have bL:=congrArg List.length gi;simp only[bY,cA.len] at aX bL;refine(step z ey fq _ ai he ab).mono λr aJ=> ?_;cases r with
  |inl gB=>
   obtain⟨cm,cF,dy⟩:=aJ;have aA:=dK (nn z) fq ab;refine⟨⟨cm,by rw[cF,aA];omega,by rw[cF,aA];omega, ?_⟩,by rw[cF,aA];omega⟩;rw[dy,gi,cF,aA,GU fq he,List.flatMap_append,dF];simp
  |inr y=>exact absurd aJ id
 ·refine(stop z ey ab).mono λr aJ=> ?_;cases r with
  |inl gB=>exact absurd aJ id
  |inr y=>
   show cA (out y)=_;rw[show out y=row z from aJ,gi,GS ab]
theorem acY:∀x:U acW,x.2.1.1.1.length+(kQ x.1.2.1).length<=1000000000->aL (Dy x) (λy=>cA y.2.1.1=cA x.2.1.1++kQ x.1.2.1):=by
 intro x h;unfold Dy;refine af (Jy _ aY) (λaB aa=> ?_);have aU:=c4.len aB.1.1;have aA:=Ju x.1.2.1.1;rw[aa] at aU;dsimp only at aU;refine af (Hq ab) (λeo ae=> ?_);refine af (A' (by unfold kQ at h;omega)) (λcf az=> ?_);exact an (by dsimp only;rw[az,ae.1,aa];rfl)
theorem lU:∀x:U acT,x.2.1.1.1.length+(kQ x.1.2.1).length<=1000000000->aL (kX x) (λy=>cA y.2.1.1=cA x.2.1.1++kQ x.1.2.1):=by
 intro x h;unfold kX;exact af (acY _ h) (λaB aa=>an aa)
theorem qI:∀x:U ac2,x.2.1.1.1.length+(j_ x.1.2.1).length<=1000000000->aL (oI x) (λy=>cA y.2.1.1=cA x.2.1.1++j_ x.1.2.1):=by
 intro x h;unfold oI;unfold j_ at h;rw[bY,c4.len] at h;refine af (lU _ (by show x.2.1.1.1.length+(gw (x.1.2.1.1.size:Nat)).length<=_;omega)) (λaB aa=> ?_);have aE:=congrArg List.length aa;simp only[bY,cA.len] at aE;have aE:aB.2.1.1.1.length=x.2.1.1.1.length+(gw (x.1.2.1.1.size:Nat)).length:=aE;refine af (Hq ab) (λeo ae=> ?_);refine af (A' ab) (λcf az=> ?_);refine an ?_;dsimp only
 rw[az,ae.1,aa];show(cA x.2.1.1++gw (x.1.2.1.1.size:Nat))++_=_;unfold j_;rw[dF]
theorem ar9:∀x:U abM,x.2.1.1.1.length+(ek pQ x.1.2.1).length<=1000000000->aL (JL x) (λy=>cA y.2.1.1=cA x.2.1.1++ek pQ x.1.2.1):=by
 intro x h;unfold JL;unfold ek at h;rw[bY] at h;refine af (lU _ (by show x.2.1.1.1.length+(gw (x.1.2.1.1.length:Nat)).length<=_;omega)) (λaB aa=> ?_);have aa:cA aB.2.1.1=cA x.2.1.1++gw (x.1.2.1.1.length:Nat):=aa;have aE:=congrArg List.length aa;simp only[bY,cA.len] at aE;refine af (rH pQ x.1.2.1 Df (λz=>z.2.1.1) (λy=>y.2.1.1) (λz=>z.1.2.2.2.1) (λz=>z.1.2.1=x.1.2.1/\z.1.2.2.1=bj x.1.2.1) (λz ax bl e bK he aJ=> ?_) (λz ax hle=> ?_) _ ⟨rfl,rfl⟩ rfl (by dsimp only;omega)) (λa2 a9=> ?_)
 ·unfold Df;rw[ax.1,ax.2];refine ah (λ_=> ?_) (λai=>by simp only[cc,aI] at ai;omega);refine af (eG ⟨bl,bK⟩) (λaX df=> ?_);obtain rfl:=hP (he.symm.trans df);refine af (qI _ (by have aJ:z.2.1.1.1.length+(pQ e).length<=1000000000:=aJ;simp only[j7,lN,mf,me,mV,mU,mc,mb,j8,lO,pQ,oZ,c6,dQ,bY,dw,e6,dF,dH] at aJ;exact aJ)) (λa1 az=> ?_);exact bG ⟨⟨rfl,rfl⟩,rfl,(by dsimp only;rw[az];simp only[j7,lN,mf,me,mV,mU,mc,mb,j8,lO,pQ,oZ,c6,dQ,bY,dw,e6,dF,dH])⟩
 ·unfold Df;rw[ax.1,ax.2];refine ah (λai=>by simp only[cc,aI] at ai;omega) (λ_=>ba rfl)
 ·refine an ?_;dsimp only at a9⊢;rw[a9,aa];unfold ek;rw[dF]
theorem acP:∀x:U acN,x.2.1.1.1.length+(j7 x.1.2.1).length<=1000000000->aL (Dx x) (λy=>cA y.2.1.1=cA x.2.1.1++j7 x.1.2.1):=by
 intro x h;unfold Dx;simp only[j7,c6,dQ,bY,dw,e6,dF,dH] at h;refine af (lU _ (by(try simp only[j7,c6,dQ,bY,dw,e6,dF,dH]);omega)) (λaB aa=> ?_);have aE:=congrArg List.length aa;simp only[dw,dH,bY,cA.len] at aE;refine af (qI _ (by(try simp only[j7,c6,dQ,bY,dw,e6,dF,dH]);omega)) (λaG ae=> ?_);have aX:=congrArg List.length ae;simp only[dw,dH,bY,cA.len] at aX;refine an ?_;dsimp only
 rw[ae,aa];simp only[j7,c6,dQ,bY,dw,e6,dF,dH]
theorem atT:∀x:U acM,x.2.1.1.1.length+(lN x.1.2.1).length<=1000000000->aL (J5 x) (λy=>cA y.2.1.1=cA x.2.1.1++lN x.1.2.1):=by
 intro x h;unfold J5;simp only[lN,j7,c6,dQ,bY,dw,e6,dF,dH] at h;refine af (qI _ (by(try simp only[lN,j7,c6,dQ,bY,dw,e6,dF,dH]);omega)) (λaB aa=> ?_);have aE:=congrArg List.length aa;simp only[j7,c6,dQ,dw,dH,bY,cA.len] at aE;refine af (acP _ (by(try simp only[lN,j7,c6,dQ,bY,dw,e6,dF,dH]);omega)) (λaG ae=> ?_);have aX:=congrArg List.length ae;simp only[j7,c6,dQ,dw,dH,bY,cA.len] at aX;refine af (lU _ (by(try simp only[lN,j7,c6,dQ,bY,dw,e6,dF,dH]);omega)) (λa1 az=> ?_);have bL:=congrArg List.length az;simp only[j7,c6,dQ,dw,dH,bY,cA.len] at bL;refine an ?_;dsimp only
 rw[az,ae,aa];simp only[lN,j7,c6,dQ,bY,dw,e6,dF,dH]
theorem abd:∀x:U aba,x.2.1.1.1.length+(ek lN x.1.2.1).length<=1000000000->aL (C4 x) (λy=>cA y.2.1.1=cA x.2.1.1++ek lN x.1.2.1):=by
 intro x h;unfold C4;unfold ek at h;rw[bY] at h;refine af (lU _ (by show x.2.1.1.1.length+(gw (x.1.2.1.1.length:Nat)).length<=_;omega)) (λaB aa=> ?_);have aa:cA aB.2.1.1=cA x.2.1.1++gw (x.1.2.1.1.length:Nat):=aa;have aE:=congrArg List.length aa;simp only[bY,cA.len] at aE;refine af (rH lN x.1.2.1 C5 (λz=>z.2.1.1) (λy=>y.2.1.1) (λz=>z.1.2.2.2.1) (λz=>z.1.2.1=x.1.2.1/\z.1.2.2.1=bj x.1.2.1) (λz ax bl e bK he aJ=> ?_) (λz ax hle=> ?_) _ ⟨rfl,rfl⟩ rfl (by dsimp only;omega)) (λa2 a9=> ?_)
 ·unfold C5;rw[ax.1,ax.2];refine ah (λ_=> ?_) (λai=>by simp only[cc,aI] at ai;omega);refine af (eG ⟨bl,bK⟩) (λaX df=> ?_);obtain rfl:=hP (he.symm.trans df);refine af (atT _ aJ) (λa1 az=> ?_);exact bG ⟨⟨rfl,rfl⟩,rfl,az⟩
 ·unfold C5;rw[ax.1,ax.2];refine ah (λai=>by simp only[cc,aI] at ai;omega) (λ_=>ba rfl)
 ·refine an ?_;dsimp only at a9⊢;rw[a9,aa];unfold ek;rw[dF]
theorem auq:∀x:U ac0,x.2.2.1.1.1.length+(mf x.1.1).length<=1000000000->aL (Kb x) (λy=>cA y.2.2.1.1=cA x.2.2.1.1++mf x.1.1):=by
 intro x h;unfold Kb;simp only[mf,c6,dQ,bY,dw,e6,dF,dH] at h;refine af (qI _ (by(try simp only[mf,c6,dQ,bY,dw,e6,dF,dH]);omega)) (λaB aa=> ?_);have aE:=congrArg List.length aa;simp only[dw,dH,bY,cA.len] at aE;refine af (qI _ (by(try simp only[mf,c6,dQ,bY,dw,e6,dF,dH]);omega)) (λaG ae=> ?_);have aX:=congrArg List.length ae;simp only[dw,dH,bY,cA.len] at aX;refine af (abd _ (by(try simp only[mf,c6,dQ,bY,dw,e6,dF,dH]);omega)) (λa1 az=> ?_);have bL:=congrArg List.length az;simp only[dw,dH,bY,cA.len] at bL;refine an ?_;dsimp only
 rw[az,ae,aa];simp only[mf,c6,dQ,bY,dw,e6,dF,dH]
theorem arR:∀x:U aby,x.2.1.1.1.length+(ek mf x.1.2.1).length<=1000000000->aL (JI x) (λy=>cA y.2.1.1=cA x.2.1.1++ek mf x.1.2.1):=by
 intro x h;unfold JI;unfold ek at h;rw[bY] at h;refine af (lU _ (by show x.2.1.1.1.length+(gw (x.1.2.1.1.length:Nat)).length<=_;omega)) (λaB aa=> ?_);have aa:cA aB.2.1.1=cA x.2.1.1++gw (x.1.2.1.1.length:Nat):=aa;have aE:=congrArg List.length aa;simp only[bY,cA.len] at aE;refine af (rH mf x.1.2.1 Da (λz=>z.2.2.1.1) (λy=>y.2.2.1.1) (λz=>z.1.2.2.2.1) (λz=>z.1.2.1=x.1.2.1/\z.1.2.2.1=bj x.1.2.1) (λz ax bl e bK he aJ=> ?_) (λz ax hle=> ?_) _ ⟨rfl,rfl⟩ rfl (by dsimp only;omega)) (λa2 a9=> ?_)
 ·unfold Da;rw[ax.1,ax.2];refine ah (λ_=> ?_) (λai=>by simp only[cc,aI] at ai;omega);refine af (eG ⟨bl,bK⟩) (λaX df=> ?_);obtain rfl:=hP (he.symm.trans df);refine af (auq _ aJ) (λa1 az=> ?_);exact bG ⟨⟨rfl,rfl⟩,rfl,az⟩
 ·unfold Da;rw[ax.1,ax.2];refine ah (λai=>by simp only[cc,aI] at ai;omega) (λ_=>ba rfl)
 ·refine an ?_;dsimp only at a9⊢;rw[a9,aa];unfold ek;rw[dF]
theorem auu:∀x:U ac1,x.2.1.1.1.length+(me x.1.2.1).length<=1000000000->aL (Ka x) (λy=>cA y.2.1.1=cA x.2.1.1++me x.1.2.1):=by
 intro x h;unfold Ka;simp only[me,c6,dQ,bY,dw,e6,dF,dH] at h;refine af (qI _ (by(try simp only[me,c6,dQ,bY,dw,e6,dF,dH]);omega)) (λaB aa=> ?_);have aE:=congrArg List.length aa;simp only[dw,dH,bY,cA.len] at aE;refine af (ar9 _ (by(try simp only[me,c6,dQ,bY,dw,e6,dF,dH]);omega)) (λaG ae=> ?_);have aX:=congrArg List.length ae;simp only[dw,dH,bY,cA.len] at aX;refine af (arR _ (by(try simp only[me,c6,dQ,bY,dw,e6,dF,dH]);omega)) (λa1 az=> ?_);have bL:=congrArg List.length az;simp only[dw,dH,bY,cA.len] at bL;refine an ?_;dsimp only
 rw[az,ae,aa];simp only[me,c6,dQ,bY,dw,e6,dF,dH]
theorem arW:∀x:U abB,x.2.1.1.1.length+(ek me x.1.2.1).length<=1000000000->aL (JJ x) (λy=>cA y.2.1.1=cA x.2.1.1++ek me x.1.2.1):=by
 intro x h;unfold JJ;unfold ek at h;rw[bY] at h;refine af (lU _ (by show x.2.1.1.1.length+(gw (x.1.2.1.1.length:Nat)).length<=_;omega)) (λaB aa=> ?_);have aa:cA aB.2.1.1=cA x.2.1.1++gw (x.1.2.1.1.length:Nat):=aa;have aE:=congrArg List.length aa;simp only[bY,cA.len] at aE;refine af (rH me x.1.2.1 Db (λz=>z.2.1.1) (λy=>y.2.1.1) (λz=>z.1.2.2.2.1) (λz=>z.1.2.1=x.1.2.1/\z.1.2.2.1=bj x.1.2.1) (λz ax bl e bK he aJ=> ?_) (λz ax hle=> ?_) _ ⟨rfl,rfl⟩ rfl (by dsimp only;omega)) (λa2 a9=> ?_)
 ·unfold Db;rw[ax.1,ax.2];refine ah (λ_=> ?_) (λai=>by simp only[cc,aI] at ai;omega);refine af (eG ⟨bl,bK⟩) (λaX df=> ?_);obtain rfl:=hP (he.symm.trans df);refine af (auu _ aJ) (λa1 az=> ?_);exact bG ⟨⟨rfl,rfl⟩,rfl,az⟩
 ·unfold Db;rw[ax.1,ax.2];refine ah (λai=>by simp only[cc,aI] at ai;omega) (λ_=>ba rfl)
 ·refine an ?_;dsimp only at a9⊢;rw[a9,aa];unfold ek;rw[dF]
theorem auc:∀x:U acU,x.2.2.1.1.1.length+(mV x.1.1).length<=1000000000->aL (J_ x) (λy=>cA y.2.2.1.1=cA x.2.2.1.1++mV x.1.1):=by
 intro x h;unfold J_;simp only[mV,c6,dQ,bY,dw,e6,dF,dH] at h;refine af (lU _ (by(try simp only[mV,c6,dQ,bY,dw,e6,dF,dH]);omega)) (λaB aa=> ?_);have aE:=congrArg List.length aa;simp only[dw,dH,bY,cA.len] at aE;refine af (qI _ (by(try simp only[mV,c6,dQ,bY,dw,e6,dF,dH]);omega)) (λaG ae=> ?_);have aX:=congrArg List.length ae;simp only[dw,dH,bY,cA.len] at aX;refine af (abd _ (by(try simp only[mV,c6,dQ,bY,dw,e6,dF,dH]);omega)) (λa1 az=> ?_);have bL:=congrArg List.length az;simp only[dw,dH,bY,cA.len] at bL;refine an ?_;dsimp only
 rw[az,ae,aa];simp only[mV,c6,dQ,bY,dw,e6,dF,dH]
theorem ar1:∀x:U abE,x.2.1.1.1.length+(ek mV x.1.2.1).length<=1000000000->aL (JK x) (λy=>cA y.2.1.1=cA x.2.1.1++ek mV x.1.2.1):=by
 intro x h;unfold JK;unfold ek at h;rw[bY] at h;refine af (lU _ (by show x.2.1.1.1.length+(gw (x.1.2.1.1.length:Nat)).length<=_;omega)) (λaB aa=> ?_);have aa:cA aB.2.1.1=cA x.2.1.1++gw (x.1.2.1.1.length:Nat):=aa;have aE:=congrArg List.length aa;simp only[bY,cA.len] at aE;refine af (rH mV x.1.2.1 Dc (λz=>z.2.2.1.1) (λy=>y.2.2.1.1) (λz=>z.1.2.2.2.1) (λz=>z.1.2.1=x.1.2.1/\z.1.2.2.1=bj x.1.2.1) (λz ax bl e bK he aJ=> ?_) (λz ax hle=> ?_) _ ⟨rfl,rfl⟩ rfl (by dsimp only;omega)) (λa2 a9=> ?_)
 ·unfold Dc;rw[ax.1,ax.2];refine ah (λ_=> ?_) (λai=>by simp only[cc,aI] at ai;omega);refine af (eG ⟨bl,bK⟩) (λaX df=> ?_);obtain rfl:=hP (he.symm.trans df);refine af (auc _ aJ) (λa1 az=> ?_);exact bG ⟨⟨rfl,rfl⟩,rfl,az⟩
 ·unfold Dc;rw[ax.1,ax.2];refine ah (λai=>by simp only[cc,aI] at ai;omega) (λ_=>ba rfl)
 ·refine an ?_;dsimp only at a9⊢;rw[a9,aa];unfold ek;rw[dF]
theorem aug:∀x:U acV,x.2.1.1.1.length+(mU x.1.2.1).length<=1000000000->aL (J9 x) (λy=>cA y.2.1.1=cA x.2.1.1++mU x.1.2.1):=by
 intro x h;unfold J9;simp only[mU,c6,dQ,bY,dw,e6,dF,dH] at h;refine af (qI _ (by(try simp only[mU,c6,dQ,bY,dw,e6,dF,dH]);omega)) (λaB aa=> ?_);have aE:=congrArg List.length aa;simp only[dw,dH,bY,cA.len] at aE;refine af (ar1 _ (by(try simp only[mU,c6,dQ,bY,dw,e6,dF,dH]);omega)) (λaG ae=> ?_);have aX:=congrArg List.length ae;simp only[dw,dH,bY,cA.len] at aX;refine an ?_;dsimp only
 rw[ae,aa];simp only[mU,c6,dQ,bY,dw,e6,dF,dH]
theorem arM:∀x:U abv,x.2.1.1.1.length+(ek mU x.1.2.1).length<=1000000000->aL (JH x) (λy=>cA y.2.1.1=cA x.2.1.1++ek mU x.1.2.1):=by
 intro x h;unfold JH;unfold ek at h;rw[bY] at h;refine af (lU _ (by show x.2.1.1.1.length+(gw (x.1.2.1.1.length:Nat)).length<=_;omega)) (λaB aa=> ?_);have aa:cA aB.2.1.1=cA x.2.1.1++gw (x.1.2.1.1.length:Nat):=aa;have aE:=congrArg List.length aa;simp only[bY,cA.len] at aE;refine af (rH mU x.1.2.1 C' (λz=>z.2.1.1) (λy=>y.2.1.1) (λz=>z.1.2.2.2.1) (λz=>z.1.2.1=x.1.2.1/\z.1.2.2.1=bj x.1.2.1) (λz ax bl e bK he aJ=> ?_) (λz ax hle=> ?_) _ ⟨rfl,rfl⟩ rfl (by dsimp only;omega)) (λa2 a9=> ?_)
 ·unfold C';rw[ax.1,ax.2];refine ah (λ_=> ?_) (λai=>by simp only[cc,aI] at ai;omega);refine af (eG ⟨bl,bK⟩) (λaX df=> ?_);obtain rfl:=hP (he.symm.trans df);refine af (aug _ aJ) (λa1 az=> ?_);exact bG ⟨⟨rfl,rfl⟩,rfl,az⟩
 ·unfold C';rw[ax.1,ax.2];refine ah (λai=>by simp only[cc,aI] at ai;omega) (λ_=>ba rfl)
 ·refine an ?_;dsimp only at a9⊢;rw[a9,aa];unfold ek;rw[dF]
theorem arl:∀x:U abf,x.2.1.1.1.length+(ek j7 x.1.2.1).length<=1000000000->aL (JC x) (λy=>cA y.2.1.1=cA x.2.1.1++ek j7 x.1.2.1):=by
 intro x h;unfold JC;unfold ek at h;rw[bY] at h;refine af (lU _ (by show x.2.1.1.1.length+(gw (x.1.2.1.1.length:Nat)).length<=_;omega)) (λaB aa=> ?_);have aa:cA aB.2.1.1=cA x.2.1.1++gw (x.1.2.1.1.length:Nat):=aa;have aE:=congrArg List.length aa;simp only[bY,cA.len] at aE;refine af (rH j7 x.1.2.1 C6 (λz=>z.2.1.1) (λy=>y.2.1.1) (λz=>z.1.2.2.2.1) (λz=>z.1.2.1=x.1.2.1/\z.1.2.2.1=bj x.1.2.1) (λz ax bl e bK he aJ=> ?_) (λz ax hle=> ?_) _ ⟨rfl,rfl⟩ rfl (by dsimp only;omega)) (λa2 a9=> ?_)
 ·unfold C6;rw[ax.1,ax.2];refine ah (λ_=> ?_) (λai=>by simp only[cc,aI] at ai;omega);refine af (eG ⟨bl,bK⟩) (λaX df=> ?_);obtain rfl:=hP (he.symm.trans df);refine af (acP _ aJ) (λa1 az=> ?_);exact bG ⟨⟨rfl,rfl⟩,rfl,az⟩
 ·unfold C6;rw[ax.1,ax.2];refine ah (λai=>by simp only[cc,aI] at ai;omega) (λ_=>ba rfl)
 ·refine an ?_;dsimp only at a9⊢;rw[a9,aa];unfold ek;rw[dF]
theorem abK:∀x:U abH,x.2.1.1.1.length+(ek oZ x.1.2.1).length<=1000000000->aL (Dd x) (λy=>cA y.2.1.1=cA x.2.1.1++ek oZ x.1.2.1):=by
 intro x h;unfold Dd;unfold ek at h;rw[bY] at h;refine af (lU _ (by show x.2.1.1.1.length+(gw (x.1.2.1.1.length:Nat)).length<=_;omega)) (λaB aa=> ?_);have aa:cA aB.2.1.1=cA x.2.1.1++gw (x.1.2.1.1.length:Nat):=aa;have aE:=congrArg List.length aa;simp only[bY,cA.len] at aE;refine af (rH oZ x.1.2.1 De (λz=>z.2.1.1) (λy=>y.2.1.1) (λz=>z.1.2.2.2.1) (λz=>z.1.2.1=x.1.2.1/\z.1.2.2.1=bj x.1.2.1) (λz ax bl e bK he aJ=> ?_) (λz ax hle=> ?_) _ ⟨rfl,rfl⟩ rfl (by dsimp only;omega)) (λa2 a9=> ?_)
 ·unfold De;rw[ax.1,ax.2];refine ah (λ_=> ?_) (λai=>by simp only[cc,aI] at ai;omega);refine af (eG ⟨bl,bK⟩) (λaX df=> ?_);obtain rfl:=hP (he.symm.trans df);refine af (lU _ (by have aJ:z.2.1.1.1.length+(oZ e).length<=1000000000:=aJ;simp only[j7,lN,mf,me,mV,mU,mc,mb,j8,lO,pQ,oZ,c6,dQ,bY,dw,e6,dF,dH] at aJ;exact aJ)) (λa1 az=> ?_);exact bG ⟨⟨rfl,rfl⟩,rfl,(by dsimp only;rw[az];simp only[j7,lN,mf,me,mV,mU,mc,mb,j8,lO,pQ,oZ,c6,dQ,bY,dw,e6,dF,dH])⟩
 ·unfold De;rw[ax.1,ax.2];refine ah (λai=>by simp only[cc,aI] at ai;omega) (λ_=>ba rfl)
 ·refine an ?_;dsimp only at a9⊢;rw[a9,aa];unfold ek;rw[dF]
theorem atZ:∀x:U acQ,x.2.2.1.1.1.length+(mc x.1.1).length<=1000000000->aL (J7 x) (λy=>cA y.2.2.1.1=cA x.2.2.1.1++mc x.1.1):=by
 intro x h;unfold J7;simp only[mc,c6,dQ,bY,dw,e6,dF,dH] at h;refine af (qI _ (by(try simp only[mc,c6,dQ,bY,dw,e6,dF,dH]);omega)) (λaB aa=> ?_);have aE:=congrArg List.length aa;simp only[dw,dH,bY,cA.len] at aE;refine af (lU _ (by(try simp only[mc,c6,dQ,bY,dw,e6,dF,dH]);omega)) (λaG ae=> ?_);have aX:=congrArg List.length ae;simp only[dw,dH,bY,cA.len] at aX;refine af (lU _ (by(try simp only[mc,c6,dQ,bY,dw,e6,dF,dH]);omega)) (λa1 az=> ?_);have bL:=congrArg List.length az;simp only[dw,dH,bY,cA.len] at bL;refine an ?_;dsimp only
 rw[az,ae,aa];simp only[mc,c6,dQ,bY,dw,e6,dF,dH]
theorem arH:∀x:U abr,x.2.1.1.1.length+(ek mc x.1.2.1).length<=1000000000->aL (JG x) (λy=>cA y.2.1.1=cA x.2.1.1++ek mc x.1.2.1):=by
 intro x h;unfold JG;unfold ek at h;rw[bY] at h;refine af (lU _ (by show x.2.1.1.1.length+(gw (x.1.2.1.1.length:Nat)).length<=_;omega)) (λaB aa=> ?_);have aa:cA aB.2.1.1=cA x.2.1.1++gw (x.1.2.1.1.length:Nat):=aa;have aE:=congrArg List.length aa;simp only[bY,cA.len] at aE;refine af (rH mc x.1.2.1 C_ (λz=>z.2.2.1.1) (λy=>y.2.2.1.1) (λz=>z.1.2.2.2.1) (λz=>z.1.2.1=x.1.2.1/\z.1.2.2.1=bj x.1.2.1) (λz ax bl e bK he aJ=> ?_) (λz ax hle=> ?_) _ ⟨rfl,rfl⟩ rfl (by dsimp only;omega)) (λa2 a9=> ?_)
 ·unfold C_;rw[ax.1,ax.2];refine ah (λ_=> ?_) (λai=>by simp only[cc,aI] at ai;omega);refine af (eG ⟨bl,bK⟩) (λaX df=> ?_);obtain rfl:=hP (he.symm.trans df);refine af (atZ _ aJ) (λa1 az=> ?_);exact bG ⟨⟨rfl,rfl⟩,rfl,az⟩
 ·unfold C_;rw[ax.1,ax.2];refine ah (λai=>by simp only[cc,aI] at ai;omega) (λ_=>ba rfl)
 ·refine an ?_;dsimp only at a9⊢;rw[a9,aa];unfold ek;rw[dF]
theorem at3:∀x:U acR,x.2.2.1.1.1.length+(mb x.1.1).length<=1000000000->aL (J8 x) (λy=>cA y.2.2.1.1=cA x.2.2.1.1++mb x.1.1):=by
 intro x h;unfold J8;simp only[mb,c6,dQ,bY,dw,e6,dF,dH] at h;refine af (qI _ (by(try simp only[mb,c6,dQ,bY,dw,e6,dF,dH]);omega)) (λaB aa=> ?_);have aE:=congrArg List.length aa;simp only[dw,dH,bY,cA.len] at aE;refine af (qI _ (by(try simp only[mb,c6,dQ,bY,dw,e6,dF,dH]);omega)) (λaG ae=> ?_);have aX:=congrArg List.length ae;simp only[dw,dH,bY,cA.len] at aX;refine af (abK _ (by(try simp only[mb,c6,dQ,bY,dw,e6,dF,dH]);omega)) (λa1 az=> ?_);have bL:=congrArg List.length az;simp only[dw,dH,bY,cA.len] at bL;refine an ?_;dsimp only
 rw[az,ae,aa];simp only[mb,c6,dQ,bY,dw,e6,dF,dH]
theorem arx:∀x:U abl,x.2.1.1.1.length+(ek mb x.1.2.1).length<=1000000000->aL (JE x) (λy=>cA y.2.1.1=cA x.2.1.1++ek mb x.1.2.1):=by
 intro x h;unfold JE;unfold ek at h;rw[bY] at h;refine af (lU _ (by show x.2.1.1.1.length+(gw (x.1.2.1.1.length:Nat)).length<=_;omega)) (λaB aa=> ?_);have aa:cA aB.2.1.1=cA x.2.1.1++gw (x.1.2.1.1.length:Nat):=aa;have aE:=congrArg List.length aa;simp only[bY,cA.len] at aE;refine af (rH mb x.1.2.1 C8 (λz=>z.2.2.1.1) (λy=>y.2.2.1.1) (λz=>z.1.2.2.2.1) (λz=>z.1.2.1=x.1.2.1/\z.1.2.2.1=bj x.1.2.1) (λz ax bl e bK he aJ=> ?_) (λz ax hle=> ?_) _ ⟨rfl,rfl⟩ rfl (by dsimp only;omega)) (λa2 a9=> ?_)
 ·unfold C8;rw[ax.1,ax.2];refine ah (λ_=> ?_) (λai=>by simp only[cc,aI] at ai;omega);refine af (eG ⟨bl,bK⟩) (λaX df=> ?_);obtain rfl:=hP (he.symm.trans df);refine af (at3 _ aJ) (λa1 az=> ?_);exact bG ⟨⟨rfl,rfl⟩,rfl,az⟩
 ·unfold C8;rw[ax.1,ax.2];refine ah (λai=>by simp only[cc,aI] at ai;omega) (λ_=>ba rfl)
 ·refine an ?_;dsimp only at a9⊢;rw[a9,aa];unfold ek;rw[dF]
theorem at7:∀x:U acS,x.2.1.1.1.length+(j8 x.1.2.1).length<=1000000000->aL (J6 x) (λy=>cA y.2.1.1=cA x.2.1.1++j8 x.1.2.1):=by
 intro x h;unfold J6;simp only[j8,c6,dQ,bY,dw,e6,dF,dH] at h;refine af (lU _ (by(try simp only[j8,c6,dQ,bY,dw,e6,dF,dH]);omega)) (λaB aa=> ?_);have aE:=congrArg List.length aa;simp only[dw,dH,bY,cA.len] at aE;refine af (lU _ (by(try simp only[j8,c6,dQ,bY,dw,e6,dF,dH]);omega)) (λaG ae=> ?_);have aX:=congrArg List.length ae;simp only[dw,dH,bY,cA.len] at aX;refine af (lU _ (by(try simp only[j8,c6,dQ,bY,dw,e6,dF,dH]);omega)) (λa1 az=> ?_);have bL:=congrArg List.length az;simp only[dw,dH,bY,cA.len] at bL;refine af (acY _ (by(try simp only[j8,c6,dQ,bY,dw,e6,dF,dH]);omega)) (λa2 a9=> ?_);have cM:=congrArg List.length a9;simp only[dw,dH,bY,cA.len] at cM;refine af (qI _ (by(try simp only[j8,c6,dQ,bY,dw,e6,dF,dH]);omega)) (λbf cE=> ?_);have dX:=congrArg List.length cE;simp only[dw,dH,bY,cA.len] at dX;refine af (qI _ (by(try simp only[j8,c6,dQ,bY,dw,e6,dF,dH]);omega)) (λbO dm=> ?_);have dh:=congrArg List.length dm;simp only[dw,dH,bY,cA.len] at dh;refine af (abK _ (by(try simp only[j8,c6,dQ,bY,dw,e6,dF,dH]);omega)) (λbU er=> ?_);have fD:=congrArg List.length er;simp only[dw,dH,bY,cA.len] at fD;refine af (arH _ (by(try simp only[j8,c6,dQ,bY,dw,e6,dF,dH]);omega)) (λcD eS=> ?_);have dG:=congrArg List.length eS;simp only[dw,dH,bY,cA.len] at dG;refine af (arx _ (by(try simp only[j8,c6,dQ,bY,dw,e6,dF,dH]);omega)) (λbV fR=> ?_);have eK:=congrArg List.length fR;simp only[dw,dH,bY,cA.len] at eK;refine an ?_;dsimp only
 rw[fR,eS,er,dm,cE,a9,az,ae,aa];simp only[j8,c6,dQ,bY,dw,e6,dF,dH]
theorem arC:∀x:U abo,x.2.1.1.1.length+(ek j8 x.1.2.1).length<=1000000000->aL (JF x) (λy=>cA y.2.1.1=cA x.2.1.1++ek j8 x.1.2.1):=by
 intro x h;unfold JF;unfold ek at h;rw[bY] at h;refine af (lU _ (by show x.2.1.1.1.length+(gw (x.1.2.1.1.length:Nat)).length<=_;omega)) (λaB aa=> ?_);have aa:cA aB.2.1.1=cA x.2.1.1++gw (x.1.2.1.1.length:Nat):=aa;have aE:=congrArg List.length aa;simp only[bY,cA.len] at aE;refine af (rH j8 x.1.2.1 C9 (λz=>z.2.1.1) (λy=>y.2.1.1) (λz=>z.1.2.2.2.1) (λz=>z.1.2.1=x.1.2.1/\z.1.2.2.1=bj x.1.2.1) (λz ax bl e bK he aJ=> ?_) (λz ax hle=> ?_) _ ⟨rfl,rfl⟩ rfl (by dsimp only;omega)) (λa2 a9=> ?_)
 ·unfold C9;rw[ax.1,ax.2];refine ah (λ_=> ?_) (λai=>by simp only[cc,aI] at ai;omega);refine af (eG ⟨bl,bK⟩) (λaX df=> ?_);obtain rfl:=hP (he.symm.trans df);refine af (at7 _ aJ) (λa1 az=> ?_);exact bG ⟨⟨rfl,rfl⟩,rfl,az⟩
 ·unfold C9;rw[ax.1,ax.2];refine ah (λai=>by simp only[cc,aI] at ai;omega) (λ_=>ba rfl)
 ·refine an ?_;dsimp only at a9⊢;rw[a9,aa];unfold ek;rw[dF]
theorem aum:∀x:U acZ,x.2.1.1.1.length+(lO x.1.2.1).length<=1000000000->aL (J' x) (λy=>cA y.2.1.1=cA x.2.1.1++lO x.1.2.1):=by
 intro x h;unfold J';simp only[lO,c6,dQ,bY,dw,e6,dF,dH] at h;refine af (qI _ (by(try simp only[lO,c6,dQ,bY,dw,e6,dF,dH]);omega)) (λaB aa=> ?_);have aE:=congrArg List.length aa;simp only[dw,dH,bY,cA.len] at aE;refine af (arl _ (by(try simp only[lO,c6,dQ,bY,dw,e6,dF,dH]);omega)) (λaG ae=> ?_);have aX:=congrArg List.length ae;simp only[dw,dH,bY,cA.len] at aX;refine af (lU _ (by(try simp only[lO,c6,dQ,bY,dw,e6,dF,dH]);omega)) (λa1 az=> ?_);have bL:=congrArg List.length az;simp only[dw,dH,bY,cA.len] at bL;refine af (arC _ (by(try simp only[lO,c6,dQ,bY,dw,e6,dF,dH]);omega)) (λa2 a9=> ?_);have cM:=congrArg List.length a9;simp only[dw,dH,bY,cA.len] at cM;refine an ?_;dsimp only
 rw[a9,az,ae,aa];simp only[lO,c6,dQ,bY,dw,e6,dF,dH]
theorem ars:∀x:U abi,x.2.1.1.1.length+(ek lO x.1.2.1).length<=1000000000->aL (JD x) (λy=>cA y.2.1.1=cA x.2.1.1++ek lO x.1.2.1):=by
 intro x h;unfold JD;unfold ek at h;rw[bY] at h;refine af (lU _ (by show x.2.1.1.1.length+(gw (x.1.2.1.1.length:Nat)).length<=_;omega)) (λaB aa=> ?_);have aa:cA aB.2.1.1=cA x.2.1.1++gw (x.1.2.1.1.length:Nat):=aa;have aE:=congrArg List.length aa;simp only[bY,cA.len] at aE;refine af (rH lO x.1.2.1 C7 (λz=>z.2.1.1) (λy=>y.2.1.1) (λz=>z.1.2.2.2.1) (λz=>z.1.2.1=x.1.2.1/\z.1.2.2.1=bj x.1.2.1) (λz ax bl e bK he aJ=> ?_) (λz ax hle=> ?_) _ ⟨rfl,rfl⟩ rfl (by dsimp only;omega)) (λa2 a9=> ?_)
 ·unfold C7;rw[ax.1,ax.2];refine ah (λ_=> ?_) (λai=>by simp only[cc,aI] at ai;omega);refine af (eG ⟨bl,bK⟩) (λaX df=> ?_);obtain rfl:=hP (he.symm.trans df);refine af (aum _ aJ) (λa1 az=> ?_);exact bG ⟨⟨rfl,rfl⟩,rfl,az⟩
 ·unfold C7;rw[ax.1,ax.2];refine ah (λai=>by simp only[cc,aI] at ai;omega) (λ_=>ba rfl)
 ·refine an ?_;dsimp only at a9⊢;rw[a9,aa];unfold ek;rw[dF]
def xC:List UInt8:=[82,80,84,49]
def ib (m:D qS):List UInt8:=xC++nc m
theorem aa_:∀x:U aa8,(nc x.1.1).length<=900000000->aL (C3 x) (λy=>(if 65536<(ib x.1.1).length+4 then y.1.1=S ⟨#[]⟩/\y.1.2.1.1=3300 else c4 y.1.1=ib x.1.1++ni (kS (ib x.1.1))/\y.1.2.1.1=0)):=by
 intro x h;unfold C3;unfold nc at h;simp only[c6,dQ,bY,dw,dH] at h;have e7:cA (cx [((aO.w .u8 (82)),()),((aO.w .u8 (80)),()),((aO.w .u8 (84)),()),((aO.w .u8 (49)),())])=xC:=by unfold cA;rw[fT (by simp)];rfl
 have PX:=congrArg List.length e7;rw[cA.len] at PX;have PX:(cx [((aO.w .u8 (82)),()),((aO.w .u8 (80)),()),((aO.w .u8 (84)),()),((aO.w .u8 (49)),())]:L (D [.int .u8])).1.length=4:=PX;refine af (arW _ (by dsimp only;omega)) (λaB aa=> ?_);have aE:=congrArg List.length aa;simp only[bY,cA.len] at aE;refine af (arM _ (by dsimp only;omega)) (λaG ae=> ?_);have aX:=congrArg List.length ae;simp only[bY,cA.len] at aX;refine af (ars _ (by dsimp only;omega)) (λa1 az=> ?_);have bL:=congrArg List.length az;simp only[bY,cA.len] at bL;have nk:cA a1.2.1.1=ib x.1.1:=by
  rw[az];dsimp only
  rw[ae];dsimp only
  rw[aa];dsimp only
  rw[e7];unfold ib nc;simp only[c6,dQ,e6,dF]
 have hlen:=congrArg List.length nk;rw[cA.len] at hlen;refine af (RB _ aY) (λa2 a9=> ?_);have a9:a2.1.1.1=(kS (ib x.1.1):Nat):=by rw[a9,c4.bytes,nk]
 refine af (abQ _ aY) (λbf cE=> ?_);have cE:c4 bf.1.1=ni (kS (ib x.1.1)):=by rw[cE];dsimp only;rw[a9];rfl
 have gv:=congrArg List.length cE;rw[c4.len] at gv;have gv:bf.1.1.1.size=4:=gv;refine af (Hq ab) (λmE dm=> ?_);refine af (A' ab) (λj1 er=> ?_);rw[nk,dm.1,cE] at er;have QP:=congrArg List.length er;rw[cA.len,bY] at QP;have QP:j1.1.length=(ib x.1.1).length+4:=QP;refine ah (λai=> ?_) (λai=> ?_)
 ·simp only[cc,aI] at ai;refine an ?_;dsimp only
  rw[if_pos ab];exact⟨rfl,rfl⟩
 ·simp only[cc,aI] at ai;refine an ?_;dsimp only
  rw[if_neg ab];exact⟨by rw[c4.bytes,er],rfl⟩
section
variable{α β AW:Type} {e:α->List UInt8} {f:β->List UInt8} {g:AW->List UInt8} {s t u:D [.str,.bool]} {a:α} {b:β} {c:AW}
theorem gG.conv {UU:Type} {d:UU->List UInt8} (ai6:UU->α) {y:UU} (h:gG e s t (ai6 y)) (bb:∀z,d z=e (ai6 z)):gG d s t y:=
 ⟨h.b,λq f_=>by rw[bb];exact h.g q f_,λq f_ z r=>by rw[bb];exact h.n q f_ _ r,h.l⟩
theorem gG.one (h:gG e s t a):gG (c6 e dQ) s t (a,()):=
 ⟨h.b,λq f_=>by rw[h.g q f_];simp[c6,dQ],λq f_ z r ax=>h.n q f_ z.1 r (by rw[ax];simp[c6,dQ]),h.l⟩
theorem gG.two (h:gG (c6 e (c6 f dQ)) s t (a,b,())) (bw:eC (c6 e (c6 f dQ))) (k:gG g t u c):gG (c6 e (c6 f g)) s u (a,b,c):=by
 have q:=h.pair bw k;exact⟨q.b,λx g9=>by rw[q.g x g9];simp[c6,dQ],λx g9 z r ax=>q.n x g9 ((z.1,z.2.1,()),z.2.2) r (by rw[ax];simp[c6,dQ]),q.l⟩
end
structure G4 (st m5:D [.str,.bool]) (n:Int):Prop where
  b:st.2.1=true->m5.2.1=true
  z:m5.2.1=true->n=0
  jJ:0<=n/\n<=m5.1.1.size
  g:st.2.1=false->m5.2.1=false->c4 st.1=gw n++c4 m5.1
  n:st.2.1=false->m5.2.1=true->∀(m:Nat) (r:List UInt8),m<=r.length->m<=9223372036854775807->c4 st.1≠gw m++r
  l:m5.1.1.size<=st.1.1.size
theorem r4 {α Z Y:Type} (e:α->List UInt8) (he:eC e) (ay:Pos e) (h:Z->Option (Z⊕Y)) (acc:Z->L α) (n:Z->Int) (st:Z->D [.str,.bool]) (Rt:Y->L α) (os:Y->D [.str,.bool]) (ok:Z->Prop)
 (step:∀z,ok z->0<n z->(st z).2.1=false->(acc z).1.length+n z<=100000->(st z).1.1.size<=100000->aL (h z) (Sum.elim (λgB=>ok gB/\n gB=n z-1/\∃a,(acc gB).1=(acc z).1++[a]/\gG e (st z) (st gB) a) (λ_=>False)))
 (stop:∀z,ok z->(n z<=0\/(st z).2.1=true)->aL (h z) (Sum.elim (λ_=>False) (λy=>Rt y=acc z/\os y=st z))):
 ∀(qg:D [.str,.bool]) g_,ok g_->(acc g_).1=[]->G4 qg (st g_) (n g_)->qg.1.1.size<=100000->aL (a_ h g_) (λy=>gG (ek e) qg (os y) (Rt y)):=by
 intro qg g_ bl ax aq aU;have H7:=aq.l;refine cJ (λz=>ok z/\0<=n z/\(acc z).1.length+n z=n g_/\(st z).1.1.size<=qg.1.1.size/\(qg.2.1=true->(st z).2.1=true)/\(qg.2.1=false->(st z).2.1=false->vB e (c4 qg.1) (acc z).1 (n z) (st z))/\(qg.2.1=false->(st z).2.1=true->Vm e (c4 qg.1))) (λz=>(n z).toNat) (λz ax=> ?_) g_ ⟨bl,aq.jJ.1,by rw[ax];simp,H7,aq.b,λq f_=>⟨aq.jJ.1,by rw[ax,aq.g q f_];simp,by rw[ax];have:=aq.jJ.2;simp;omega⟩,λq f_ l r aV=> ?_⟩
 ·obtain⟨ey,fq,gC,gi,mM,kB,qi⟩:=ax;by_cases ai:0<n z/\(st z).2.1=false
  ·refine(step z ey ai.1 ai.2 (by have:=aq.jJ.2;omega) ab).mono λr aJ=> ?_;cases r with
   |inr y=>exact absurd aJ id
   |inl gB=>
    obtain⟨cm,cF,a,dy,e8⟩:=aJ;have a3:=e8.l;refine⟨⟨cm,ab,by rw[dy,cF,bY,List.length_singleton];omega,ab,λq=>e8.b (mM q),λq f_=> ?_,λq f_=> ?_⟩,ab⟩
    ·rw[dy,cF];exact(kB q ai.2).PS ai.1 ai.2 e8 f_
    ·exact(kB q ai.2).bad he ai.1 ai.2 e8 f_
  ·refine(stop z ey (by cases aU:(st z).2.1 with|true=>exact .inr rfl|false=>exact .inl (by rw[aU] at ai;simp at ai;omega))).mono λr aJ=> ?_;cases r with
   |inl gB=>exact absurd aJ id
   |inr y=>
    obtain⟨cm,cF⟩:=aJ;show gG (ek e) qg (os y) (Rt y);rw[cm,cF];refine⟨mM,λq f_=> ?_,λq f_=>qi q f_,gi⟩;have aA:n z=0:=by
     rw[f_] at ai;simp at ai;omega
    have gr:=kB q f_;rw[aA] at gr;exact gr.done rfl
 ·unfold ek at aV;rw[dF] at aV;exact aq.n q f_ _ _ (by rw[bY];have:=ay.flat l.1;omega) (by have:=L.b l;omega) aV
theorem Hu {s:ew} {k:Nat} (h:k<=s.1.size):aL (oo s (k:Nat) s.1.size) (λr=>c4 r=(c4 s).drop k/\r.1.size=s.1.size-k):=by
 refine(zk ⟨ab,ab,ab⟩).mono λr aJ=> ?_;have ae:c4 r=(c4 s).drop k:=by
  rw[aJ];rw[show((k:Nat):Int).toNat=k by omega];exact List.take_of_length_le (by rw[List.length_drop,c4.len];omega)
 exact⟨ae,by rw[<-c4.len,ae,List.length_drop,c4.len]⟩
theorem RD:∀x:U acH,True->aL (z8 x) (λy=>gG kQ x.2.1 y.2.1 y.1.1):=by
 intro x _;unfold z8;refine af (aq8 _ aY) (λaB cd=> ?_);obtain⟨aa,ae⟩:=cd;dsimp only at aa;have tR:aB.1.2.2.1=false->∀(n:aO .i64) r,c4 x.2.1.1≠kQ n++r:=λq n r aV=>by
  have ai:=aO.sC n;unfold kQ at aV;rw[aV,Ud n.1 r ai.1 ai.2] at aa;have:=congrArg (λp=>p.2.2) aa;dsimp only at this;rw[q] at this;cases this
 refine ah (λai=> ?_) (λai=> ?_)
 ·simp only[cc] at ai;exact an ⟨λ_=>rfl,λ_ q=>(by cases q),λ_ _=>tR ai,Nat.le_refl _⟩
 ·simp only[cc] at ai;refine ah (λaT=> ?_) (λaT=> ?_)
  ·exact an ⟨λ_=>rfl,λ_ q=>(by cases q),λq=>(by rw[show x.2.1.2.1=true from aT] at q;cases q),Nat.le_refl _⟩
  ·rw[ai] at aa;obtain⟨aF,aQ,bn,r,cy⟩:=aHu aa.symm;have a3:=congrArg List.length cy;rw[c4.len,bY] at a3;have aP:aB.1.2.1.1=((gw aB.1.1.1).length:Nat):=ab;rw[aP];refine af (Hu ab) (λv2 sW=> ?_);have aM:c4 v2=r:=by rw[sW.1,cy,List.drop_left]
   exact an ⟨λq=>(by rw[show x.2.1.2.1=false from aT] at q;cases q),λ_ _=>(by dsimp only;rw[aM];exact cy),λ_ q=>(by rw[show x.2.1.2.1=false from aT] at q;cases q),by dsimp only;have:=sW.2;omega⟩
theorem ug:∀x:U acD,True->aL (rh x) (λy=>gG kQ x.2.1 y.2.1 y.1.1):=by
 intro x _;unfold rh;exact af (RD _ aY) (λaB cd=>an cd)
theorem akd {st oM:D [.str,.bool]} {n:aO .i64} (h:gG kQ st oM n):(n.1<0\/(oM.1.1.size:Int)<n.1->oM.2.1=false->st.2.1=false->∀(m:Nat) (r:List UInt8),m<=r.length->m<=9223372036854775807->c4 st.1≠gw m++r)/\(st.2.1=false->oM.2.1=true->∀(m:Nat) (r:List UInt8),m<=r.length->m<=9223372036854775807->c4 st.1≠gw m++r):=by
 refine⟨λaA aa bl m r hm a3 aV=> ?_,λbl aa m r hm a3 aV=> ?_⟩
 ·rw[h.g bl aa] at aV;unfold kQ at aV;obtain⟨aE,aX⟩:=C1 (aO.sC n) ⟨ab,ab⟩ aV;have:=c4.len oM.1;rw[aX] at this;omega
 ·exact h.n bl aa (⟨(m:Int),by show-9223372036854775808<=(m:Int);omega,by show(m:Int)<=9223372036854775807;omega⟩:aO .i64) r aV
theorem rj:∀x:U acG,True->aL (pw x) (λy=>G4 x.2.1 y.2.1 y.1.1.1):=by
 intro x _;unfold pw;refine af (RD _ aY) (λaB h=> ?_);obtain⟨cN,dq⟩:=akd h;have a3:=h.l;have i0:(W 0).1=0:=rfl;have UP:(oM:D [.str,.bool])->oM=(aB.2.1.1,true,())->(aB.1.1.1<0\/(aB.2.1.1.1.size:Int)<aB.1.1.1\/aB.2.1.2.1=true)->G4 x.2.1 oM (W 0).1:=λoM e hw=>by
  subst e;refine⟨λ_=>rfl,λ_=>rfl,by rw[i0];dsimp only;omega,λ_ q=>(by cases q),λq _=> ?_,a3⟩;cases ai:aB.2.1.2.1 with
  |true=>exact dq q ai
  |false=>exact cN (by rw[ai] at hw;simp at hw;exact hw) ai q
 refine ah (λai=> ?_) (λai=> ?_)
 ·simp only[cc,aI] at ai;exact an (UP _ rfl (.inl ab))
 ·simp only[cc,aI] at ai;refine ah (λaT=> ?_) (λaT=> ?_)
  ·simp only[cc,aI] at aT;exact an (UP _ rfl (.inr (.inl aT)))
  ·simp only[cc,aI] at aT;refine ah (λbJ=> ?_) (λbJ=> ?_)
   ·have bJ:aB.2.1.2.1=true:=bJ;refine an (UP _ ?_ (.inr (.inr bJ)));dsimp only
    rw[<-bJ]
   ·have bJ:aB.2.1.2.1=false:=bJ;exact an ⟨h.b,λq=>(by dsimp only at q;rw[bJ] at q;cases q),⟨by dsimp only;omega,aT⟩,h.g,λq f_=>(by dsimp only at f_;rw[bJ] at f_;cases f_),a3⟩
theorem aIj {st oM Uy:D [.str,.bool]} {n:Int} {v:ew} (h:G4 st oM n) (aM:c4 v=(c4 oM.1).take n.toNat) (hw:c4 Uy.1=(c4 oM.1).drop n.toNat) (ai:Uy.2.1=oM.2.1):gG j_ st Uy v:=by
 have aA:=h.jJ;have a3:=h.l;have fh:=congrArg List.length hw;rw[c4.len,List.length_drop,c4.len] at fh;have Qy:=congrArg List.length aM;rw[c4.len,List.length_take,c4.len] at Qy;refine⟨λq=>by rw[ai];exact h.b q,λq f_=> ?_,λq f_ x r aV=> ?_,ab⟩
 ·rw[ai] at f_;rw[h.g q f_,hw];unfold j_;rw[aM,show((v.1.size:Nat):Int)=n by omega,dF,List.take_append_drop]
 ·rw[ai] at f_;unfold j_ at aV;rw[dF] at aV;exact h.n q f_ x.1.size _ (by rw[bY,c4.len];omega) (S.b x) aV
theorem qH:∀x:U acL,True->aL (oH x) (λy=>gG j_ x.2.1 y.2.1 y.1.1):=by
 intro x _;unfold oH;refine af (rj _ aY) (λaB h=> ?_);have aA:=h.jJ;refine af (zk ⟨Int.le_refl _,aA.1,aA.2⟩) (λv2 ae=> ?_);have aP:aB.1.1.1=((aB.1.1.1.toNat:Nat):Int):=ab;refine af (P:=λr=>c4 r=(c4 aB.2.1.1).drop aB.1.1.1.toNat) ?_ (λcZ az=> ?_)
 ·rw[aP];exact(Hu ab).mono λr aJ=>aJ.1
 ·refine an (aIj h ?_ az rfl);dsimp only
  rw[ae]
  try simp
theorem as4:∀x:U acu,x.2.1.1.1.size<=100000->aL (JV x) (λy=>gG (ek pQ) x.2.1 y.2.1 y.1.1):=by
 intro x aU;unfold JV;refine af (rj _ aY) (λaB h=> ?_);refine af (r4 pQ RR avj Dv (λz=>z.1.2.2.1) (λz=>z.1.2.2.2.1.1) (λz=>z.2.1) (λy=>y.1.1) (λy=>y.2.1) (λ_=>True) (λz _ aA ai a3 ax=> ?_) (λz _ ax=> ?_) x.2.1 _ aY rfl h aU) (λa2 a9=>an a9)
 ·unfold Dv;refine ah (λ_=> ?_) (λai=>by simp only[cc,aI] at ai;omega);refine ah (λ_=> ?_) (λq=>by rw[ai] at q;cases q);refine af (qH _ aY) (λaG ae=> ?_);refine af (dv (by simp only[b5];omega)) (λcf az=> ?_);rw[fT (by simp)] at az;exact bG ⟨aY,by dsimp only;simp only[aI];omega,(aG.1.1,()),az.1,ae.one⟩
 ·unfold Dv;refine ah (λaA=> ?_) (λ_=>ba ⟨rfl,rfl⟩);simp only[cc,aI] at aA;have ai:z.2.1.2.1=true:=by rcases ax with q|q;omega;exact q
  exact ah (λq=>by rw[ai] at q;cases q) (λ_=>ba ⟨rfl,rfl⟩)
theorem acz:∀x:U acx,True->aL (Dw x) (λy=>gG j7 x.2.1 y.2.1 y.1.1):=by
 intro x aU;unfold Dw;refine af (ug _ aY) (λaB aa=> ?_);refine af (qH _ aY) (λaG ae=> ?_);exact an (aa.pair eC.i (ae.one))
theorem as8:∀x:U acw,True->aL (JW x) (λy=>gG lN x.2.1 y.2.1 y.1.1):=by
 intro x aU;unfold JW;refine af (qH _ aY) (λaB aa=> ?_);refine af (acz _ aY) (λaG ae=> ?_);refine af (ug _ aY) (λa1 az=> ?_);exact an (aa.pair eC.s (ae.two Kj az.one))
theorem abV:∀x:U abS,x.2.1.1.1.size<=100000->aL (Dh x) (λy=>gG (ek lN) x.2.1 y.2.1 y.1.1):=by
 intro x aU;unfold Dh;refine af (rj _ aY) (λaB h=> ?_);refine af (r4 lN RN au' Di (λz=>z.1.2.2.1) (λz=>z.1.2.2.2.1.1) (λz=>z.2.1) (λy=>y.1.1) (λy=>y.2.1) (λ_=>True) (λz _ aA ai a3 ax=> ?_) (λz _ ax=> ?_) x.2.1 _ aY rfl h aU) (λa2 a9=>an a9)
 ·unfold Di;refine ah (λ_=> ?_) (λai=>by simp only[cc,aI] at ai;omega);refine ah (λ_=> ?_) (λq=>by rw[ai] at q;cases q);refine af (as8 _ aY) (λaG ae=> ?_);refine af (dv (by simp only[b5];omega)) (λcf az=> ?_);rw[fT (by simp)] at az;exact bG ⟨aY,by dsimp only;simp only[aI];omega,aG.1.1,az.1,ae⟩
 ·unfold Di;refine ah (λaA=> ?_) (λ_=>ba ⟨rfl,rfl⟩);simp only[cc,aI] at aA;have ai:z.2.1.2.1=true:=by rcases ax with q|q;omega;exact q
  exact ah (λq=>by rw[ai] at q;cases q) (λ_=>ba ⟨rfl,rfl⟩)
theorem atI:∀x:U acJ,x.2.2.1.1.1.size<=100000->aL (J4 x) (λy=>gG mf x.2.2.1 y.2.2.1 y.1.1):=by
 intro x aU;unfold J4;refine af (qH _ aY) (λaB aa=> ?_);have dC:aB.2.1.1.1.size<=x.2.2.1.1.1.size:=aa.l;refine af (qH _ aY) (λaG ae=> ?_);have eo:aG.2.1.1.1.size<=aB.2.1.1.1.size:=ae.l;refine af (abV _ (by dsimp only;omega)) (λa1 az=> ?_);have cf:a1.2.1.1.1.size<=aG.2.1.1.1.size:=az.l;exact an (aa.pair eC.s (ae.pair eC.s (az.one)))
theorem asM:∀x:U ace,x.2.1.1.1.size<=100000->aL (JS x) (λy=>gG (ek mf) x.2.1 y.2.1 y.1.1):=by
 intro x aU;unfold JS;refine af (rj _ aY) (λaB h=> ?_);refine af (r4 mf adg avi Dq (λz=>z.1.2.2.1) (λz=>z.1.2.2.2.1.1) (λz=>z.2.1) (λy=>y.1.1) (λy=>y.2.1) (λ_=>True) (λz _ aA ai a3 ax=> ?_) (λz _ ax=> ?_) x.2.1 _ aY rfl h aU) (λa2 a9=>an a9)
 ·unfold Dq;refine ah (λ_=> ?_) (λai=>by simp only[cc,aI] at ai;omega);refine ah (λ_=> ?_) (λq=>by rw[ai] at q;cases q);refine af (atI _ ax) (λaG ae=> ?_);refine af (dv (by simp only[b5];omega)) (λcf az=> ?_);rw[fT (by simp)] at az;exact bG ⟨aY,by dsimp only;simp only[aI];omega,aG.1.1,az.1,ae⟩
 ·unfold Dq;refine ah (λaA=> ?_) (λ_=>ba ⟨rfl,rfl⟩);simp only[cc,aI] at aA;have ai:z.2.1.2.1=true:=by rcases ax with q|q;omega;exact q
  exact ah (λq=>by rw[ai] at q;cases q) (λ_=>ba ⟨rfl,rfl⟩)
theorem atM:∀x:U acK,x.2.1.1.1.size<=100000->aL (J3 x) (λy=>gG me x.2.1 y.2.1 y.1.1):=by
 intro x aU;unfold J3;refine af (qH _ aY) (λaB aa=> ?_);have dC:aB.2.1.1.1.size<=x.2.1.1.1.size:=aa.l;refine af (as4 _ (by dsimp only;omega)) (λaG ae=> ?_);have eo:aG.2.1.1.1.size<=aB.2.1.1.1.size:=ae.l;refine af (asM _ (by dsimp only;omega)) (λa1 az=> ?_);have cf:a1.2.1.1.1.size<=aG.2.1.1.1.size:=az.l;exact an (aa.pair eC.s (ae.pair RR.l (az.one)))
theorem asR:∀x:U ach,x.2.1.1.1.size<=100000->aL (JT x) (λy=>gG (ek me) x.2.1 y.2.1 y.1.1):=by
 intro x aU;unfold JT;refine af (rj _ aY) (λaB h=> ?_);refine af (r4 me RQ avh Dr (λz=>z.1.2.2.1) (λz=>z.1.2.2.2.1.1) (λz=>z.2.1) (λy=>y.1.1) (λy=>y.2.1) (λ_=>True) (λz _ aA ai a3 ax=> ?_) (λz _ ax=> ?_) x.2.1 _ aY rfl h aU) (λa2 a9=>an a9)
 ·unfold Dr;refine ah (λ_=> ?_) (λai=>by simp only[cc,aI] at ai;omega);refine ah (λ_=> ?_) (λq=>by rw[ai] at q;cases q);refine af (atM _ ax) (λaG ae=> ?_);refine af (dv (by simp only[b5];omega)) (λcf az=> ?_);rw[fT (by simp)] at az;exact bG ⟨aY,by dsimp only;simp only[aI];omega,aG.1.1,az.1,ae⟩
 ·unfold Dr;refine ah (λaA=> ?_) (λ_=>ba ⟨rfl,rfl⟩);simp only[cc,aI] at aA;have ai:z.2.1.2.1=true:=by rcases ax with q|q;omega;exact q
  exact ah (λq=>by rw[ai] at q;cases q) (λ_=>ba ⟨rfl,rfl⟩)
theorem atr:∀x:U acE,x.2.2.1.1.1.size<=100000->aL (J1 x) (λy=>gG mV x.2.2.1 y.2.2.1 y.1.1):=by
 intro x aU;unfold J1;refine af (ug _ aY) (λaB aa=> ?_);have dC:aB.2.1.1.1.size<=x.2.2.1.1.1.size:=aa.l;refine af (qH _ aY) (λaG ae=> ?_);have eo:aG.2.1.1.1.size<=aB.2.1.1.1.size:=ae.l;refine af (abV _ (by dsimp only;omega)) (λa1 az=> ?_);have cf:a1.2.1.1.1.size<=aG.2.1.1.1.size:=az.l;exact an (aa.pair eC.i (ae.pair eC.s (az.one)))
theorem asW:∀x:U ack,x.2.1.1.1.size<=100000->aL (JU x) (λy=>gG (ek mV) x.2.1 y.2.1 y.1.1):=by
 intro x aU;unfold JU;refine af (rj _ aY) (λaB h=> ?_);refine af (r4 mV adh avk Ds (λz=>z.1.2.2.1) (λz=>z.1.2.2.2.1.1) (λz=>z.2.1) (λy=>y.1.1) (λy=>y.2.1) (λ_=>True) (λz _ aA ai a3 ax=> ?_) (λz _ ax=> ?_) x.2.1 _ aY rfl h aU) (λa2 a9=>an a9)
 ·unfold Ds;refine ah (λ_=> ?_) (λai=>by simp only[cc,aI] at ai;omega);refine ah (λ_=> ?_) (λq=>by rw[ai] at q;cases q);refine af (atr _ ax) (λaG ae=> ?_);refine af (dv (by simp only[b5];omega)) (λcf az=> ?_);rw[fT (by simp)] at az;exact bG ⟨aY,by dsimp only;simp only[aI];omega,aG.1.1,az.1,ae⟩
 ·unfold Ds;refine ah (λaA=> ?_) (λ_=>ba ⟨rfl,rfl⟩);simp only[cc,aI] at aA;have ai:z.2.1.2.1=true:=by rcases ax with q|q;omega;exact q
  exact ah (λq=>by rw[ai] at q;cases q) (λ_=>ba ⟨rfl,rfl⟩)
theorem atw:∀x:U acF,x.2.1.1.1.size<=100000->aL (J0 x) (λy=>gG mU x.2.1 y.2.1 y.1.1):=by
 intro x aU;unfold J0;refine af (qH _ aY) (λaB aa=> ?_);have dC:aB.2.1.1.1.size<=x.2.1.1.1.size:=aa.l;refine af (asW _ (by dsimp only;omega)) (λaG ae=> ?_);have eo:aG.2.1.1.1.size<=aB.2.1.1.1.size:=ae.l;exact an (aa.pair eC.s (ae.one))
theorem asH:∀x:U aca,x.2.1.1.1.size<=100000->aL (JR x) (λy=>gG (ek mU) x.2.1 y.2.1 y.1.1):=by
 intro x aU;unfold JR;refine af (rj _ aY) (λaB h=> ?_);refine af (r4 mU RP avf Dp (λz=>z.1.2.2.1) (λz=>z.1.2.2.2.1.1) (λz=>z.2.1) (λy=>y.1.1) (λy=>y.2.1) (λ_=>True) (λz _ aA ai a3 ax=> ?_) (λz _ ax=> ?_) x.2.1 _ aY rfl h aU) (λa2 a9=>an a9)
 ·unfold Dp;refine ah (λ_=> ?_) (λai=>by simp only[cc,aI] at ai;omega);refine ah (λ_=> ?_) (λq=>by rw[ai] at q;cases q);refine af (atw _ ax) (λaG ae=> ?_);refine af (dv (by simp only[b5];omega)) (λcf az=> ?_);rw[fT (by simp)] at az;exact bG ⟨aY,by dsimp only;simp only[aI];omega,aG.1.1,az.1,ae⟩
 ·unfold Dp;refine ah (λaA=> ?_) (λ_=>ba ⟨rfl,rfl⟩);simp only[cc,aI] at aA;have ai:z.2.1.2.1=true:=by rcases ax with q|q;omega;exact q
  exact ah (λq=>by rw[ai] at q;cases q) (λ_=>ba ⟨rfl,rfl⟩)
theorem ash:∀x:U abX,x.2.1.1.1.size<=100000->aL (JM x) (λy=>gG (ek j7) x.2.1 y.2.1 y.1.1):=by
 intro x aU;unfold JM;refine af (rj _ aY) (λaB h=> ?_);refine af (r4 j7 Kj ava Dj (λz=>z.1.2.2.1) (λz=>z.1.2.2.2.1.1) (λz=>z.2.1) (λy=>y.1.1) (λy=>y.2.1) (λ_=>True) (λz _ aA ai a3 ax=> ?_) (λz _ ax=> ?_) x.2.1 _ aY rfl h aU) (λa2 a9=>an a9)
 ·unfold Dj;refine ah (λ_=> ?_) (λai=>by simp only[cc,aI] at ai;omega);refine ah (λ_=> ?_) (λq=>by rw[ai] at q;cases q);refine af (acz _ aY) (λaG ae=> ?_);refine af (dv (by simp only[b5];omega)) (λcf az=> ?_);rw[fT (by simp)] at az;exact bG ⟨aY,by dsimp only;simp only[aI];omega,aG.1.1,az.1,ae⟩
 ·unfold Dj;refine ah (λaA=> ?_) (λ_=>ba ⟨rfl,rfl⟩);simp only[cc,aI] at aA;have ai:z.2.1.2.1=true:=by rcases ax with q|q;omega;exact q
  exact ah (λq=>by rw[ai] at q;cases q) (λ_=>ba ⟨rfl,rfl⟩)
theorem acr:∀x:U aco,x.2.1.1.1.size<=100000->aL (Dt x) (λy=>gG (ek oZ) x.2.1 y.2.1 y.1.1):=by
 intro x aU;unfold Dt;refine af (rj _ aY) (λaB h=> ?_);refine af (r4 oZ Kk avd Du (λz=>z.1.2.2.1) (λz=>z.1.2.2.2.1.1) (λz=>z.2.1) (λy=>y.1.1) (λy=>y.2.1) (λ_=>True) (λz _ aA ai a3 ax=> ?_) (λz _ ax=> ?_) x.2.1 _ aY rfl h aU) (λa2 a9=>an a9)
 ·unfold Du;refine ah (λ_=> ?_) (λai=>by simp only[cc,aI] at ai;omega);refine ah (λ_=> ?_) (λq=>by rw[ai] at q;cases q);refine af (ug _ aY) (λaG ae=> ?_);refine af (dv (by simp only[b5];omega)) (λcf az=> ?_);rw[fT (by simp)] at az;exact bG ⟨aY,by dsimp only;simp only[aI];omega,(aG.1.1,()),az.1,ae.one⟩
 ·unfold Du;refine ah (λaA=> ?_) (λ_=>ba ⟨rfl,rfl⟩);simp only[cc,aI] at aA;have ai:z.2.1.2.1=true:=by rcases ax with q|q;omega;exact q
  exact ah (λq=>by rw[ai] at q;cases q) (λ_=>ba ⟨rfl,rfl⟩)
theorem atd:∀x:U acA,True->aL (JY x) (λy=>gG mc x.2.2.1 y.2.2.1 y.1.1):=by
 intro x aU;unfold JY;refine af (qH _ aY) (λaB aa=> ?_);refine af (ug _ aY) (λaG ae=> ?_);refine af (ug _ aY) (λa1 az=> ?_);exact an (aa.pair eC.s (ae.pair eC.i (az.one)))
theorem asC:∀x:U ab9,x.2.1.1.1.size<=100000->aL (JQ x) (λy=>gG (ek mc) x.2.1 y.2.1 y.1.1):=by
 intro x aU;unfold JQ;refine af (rj _ aY) (λaB h=> ?_);refine af (r4 mc RO ave Dn (λz=>z.1.2.2.1) (λz=>z.1.2.2.2.1.1) (λz=>z.2.1) (λy=>y.1.1) (λy=>y.2.1) (λ_=>True) (λz _ aA ai a3 ax=> ?_) (λz _ ax=> ?_) x.2.1 _ aY rfl h aU) (λa2 a9=>an a9)
 ·unfold Dn;refine ah (λ_=> ?_) (λai=>by simp only[cc,aI] at ai;omega);refine ah (λ_=> ?_) (λq=>by rw[ai] at q;cases q);refine af (atd _ aY) (λaG ae=> ?_);refine af (dv (by simp only[b5];omega)) (λcf az=> ?_);rw[fT (by simp)] at az;exact bG ⟨aY,by dsimp only;simp only[aI];omega,aG.1.1,az.1,ae⟩
 ·unfold Dn;refine ah (λaA=> ?_) (λ_=>ba ⟨rfl,rfl⟩);simp only[cc,aI] at aA;have ai:z.2.1.2.1=true:=by rcases ax with q|q;omega;exact q
  exact ah (λq=>by rw[ai] at q;cases q) (λ_=>ba ⟨rfl,rfl⟩)
theorem ath:∀x:U acB,x.2.2.1.1.1.size<=100000->aL (JZ x) (λy=>gG mb x.2.2.1 y.2.2.1 y.1.1):=by
 intro x aU;unfold JZ;refine af (qH _ aY) (λaB aa=> ?_);have dC:aB.2.1.1.1.size<=x.2.2.1.1.1.size:=aa.l;refine af (qH _ aY) (λaG ae=> ?_);have eo:aG.2.1.1.1.size<=aB.2.1.1.1.size:=ae.l;refine af (acr _ (by dsimp only;omega)) (λa1 az=> ?_);have cf:a1.2.1.1.1.size<=aG.2.1.1.1.size:=az.l;exact an (aa.pair eC.s (ae.pair eC.s (az.one)))
theorem ass:∀x:U ab3,x.2.1.1.1.size<=100000->aL (JO x) (λy=>gG (ek mb) x.2.1 y.2.1 y.1.1):=by
 intro x aU;unfold JO;refine af (rj _ aY) (λaB h=> ?_);refine af (r4 mb ada avb Dl (λz=>z.1.2.2.1) (λz=>z.1.2.2.2.1.1) (λz=>z.2.1) (λy=>y.1.1) (λy=>y.2.1) (λ_=>True) (λz _ aA ai a3 ax=> ?_) (λz _ ax=> ?_) x.2.1 _ aY rfl h aU) (λa2 a9=>an a9)
 ·unfold Dl;refine ah (λ_=> ?_) (λai=>by simp only[cc,aI] at ai;omega);refine ah (λ_=> ?_) (λq=>by rw[ai] at q;cases q);refine af (ath _ ax) (λaG ae=> ?_);refine af (dv (by simp only[b5];omega)) (λcf az=> ?_);rw[fT (by simp)] at az;exact bG ⟨aY,by dsimp only;simp only[aI];omega,aG.1.1,az.1,ae⟩
 ·unfold Dl;refine ah (λaA=> ?_) (λ_=>ba ⟨rfl,rfl⟩);simp only[cc,aI] at aA;have ai:z.2.1.2.1=true:=by rcases ax with q|q;omega;exact q
  exact ah (λq=>by rw[ai] at q;cases q) (λ_=>ba ⟨rfl,rfl⟩)
theorem atl:∀x:U acC,x.2.1.1.1.size<=100000->aL (JX x) (λy=>gG j8 x.2.1 y.2.1 y.1.1):=by
 intro x aU;unfold JX;refine af (ug _ aY) (λaB aa=> ?_);have dC:aB.2.1.1.1.size<=x.2.1.1.1.size:=aa.l;refine af (ug _ aY) (λaG ae=> ?_);have eo:aG.2.1.1.1.size<=aB.2.1.1.1.size:=ae.l;refine af (ug _ aY) (λa1 az=> ?_);have cf:a1.2.1.1.1.size<=aG.2.1.1.1.size:=az.l;refine af (RD _ aY) (λa2 a9=> ?_);have kx:a2.2.1.1.1.size<=a1.2.1.1.1.size:=a9.l;refine af (qH _ aY) (λbf cE=> ?_);have gv:bf.2.1.1.1.size<=a2.2.1.1.1.size:=cE.l;refine af (qH _ aY) (λbO dm=> ?_);have mE:bO.2.1.1.1.size<=bf.2.1.1.1.size:=dm.l;refine af (acr _ (by dsimp only;omega)) (λbU er=> ?_);have j1:bU.2.1.1.1.size<=bO.2.1.1.1.size:=er.l;refine af (asC _ (by dsimp only;omega)) (λcD eS=> ?_);have jA:cD.2.1.1.1.size<=bU.2.1.1.1.size:=eS.l;refine af (ass _ (by dsimp only;omega)) (λbV fR=> ?_);have nU:bV.2.1.1.1.size<=cD.2.1.1.1.size:=fR.l;exact an (aa.pair eC.i (ae.pair eC.i (az.pair eC.i (a9.pair eC.i (cE.pair eC.s (dm.pair eC.s (er.pair Kk.l (eS.pair RO.l (fR.one)))))))))
theorem asx:∀x:U ab6,x.2.1.1.1.size<=100000->aL (JP x) (λy=>gG (ek j8) x.2.1 y.2.1 y.1.1):=by
 intro x aU;unfold JP;refine af (rj _ aY) (λaB h=> ?_);refine af (r4 j8 adb avc Dm (λz=>z.1.2.2.1) (λz=>z.1.2.2.2.1.1) (λz=>z.2.1) (λy=>y.1.1) (λy=>y.2.1) (λ_=>True) (λz _ aA ai a3 ax=> ?_) (λz _ ax=> ?_) x.2.1 _ aY rfl h aU) (λa2 a9=>an a9)
 ·unfold Dm;refine ah (λ_=> ?_) (λai=>by simp only[cc,aI] at ai;omega);refine ah (λ_=> ?_) (λq=>by rw[ai] at q;cases q);refine af (atl _ ax) (λaG ae=> ?_);refine af (dv (by simp only[b5];omega)) (λcf az=> ?_);rw[fT (by simp)] at az;exact bG ⟨aY,by dsimp only;simp only[aI];omega,aG.1.1,az.1,ae⟩
 ·unfold Dm;refine ah (λaA=> ?_) (λ_=>ba ⟨rfl,rfl⟩);simp only[cc,aI] at aA;have ai:z.2.1.2.1=true:=by rcases ax with q|q;omega;exact q
  exact ah (λq=>by rw[ai] at q;cases q) (λ_=>ba ⟨rfl,rfl⟩)
theorem atE:∀x:U acI,x.2.1.1.1.size<=100000->aL (J2 x) (λy=>gG lO x.2.1 y.2.1 y.1.1):=by
 intro x aU;unfold J2;refine af (qH _ aY) (λaB aa=> ?_);have dC:aB.2.1.1.1.size<=x.2.1.1.1.size:=aa.l;refine af (ash _ (by dsimp only;omega)) (λaG ae=> ?_);have eo:aG.2.1.1.1.size<=aB.2.1.1.1.size:=ae.l;refine af (ug _ aY) (λa1 az=> ?_);have cf:a1.2.1.1.1.size<=aG.2.1.1.1.size:=az.l;refine af (asx _ (by dsimp only;omega)) (λa2 a9=> ?_);have kx:a2.2.1.1.1.size<=a1.2.1.1.1.size:=a9.l;exact an (aa.pair eC.s (ae.pair Kj.l (az.pair eC.i (a9.one))))
theorem asn:∀x:U ab0,x.2.1.1.1.size<=100000->aL (JN x) (λy=>gG (ek lO) x.2.1 y.2.1 y.1.1):=by
 intro x aU;unfold JN;refine af (rj _ aY) (λaB h=> ?_);refine af (r4 lO adf avg Dk (λz=>z.1.2.2.1) (λz=>z.1.2.2.2.1.1) (λz=>z.2.1) (λy=>y.1.1) (λy=>y.2.1) (λ_=>True) (λz _ aA ai a3 ax=> ?_) (λz _ ax=> ?_) x.2.1 _ aY rfl h aU) (λa2 a9=>an a9)
 ·unfold Dk;refine ah (λ_=> ?_) (λai=>by simp only[cc,aI] at ai;omega);refine ah (λ_=> ?_) (λq=>by rw[ai] at q;cases q);refine af (atE _ ax) (λaG ae=> ?_);refine af (dv (by simp only[b5];omega)) (λcf az=> ?_);rw[fT (by simp)] at az;exact bG ⟨aY,by dsimp only;simp only[aI];omega,aG.1.1,az.1,ae⟩
 ·unfold Dk;refine ah (λaA=> ?_) (λ_=>ba ⟨rfl,rfl⟩);simp only[cc,aI] at aA;have ai:z.2.1.2.1=true:=by rcases ax with q|q;omega;exact q
  exact ah (λq=>by rw[ai] at q;cases q) (λ_=>ba ⟨rfl,rfl⟩)
def okB (l:List UInt8) (m:D qS):Prop:=l.length<=65536/\l=ib m++ni (kS (ib m))
theorem HM (n:Nat):(ni n).length=4:=rfl
theorem H8:xC.length=4:=rfl
theorem aj1 (m:D qS):3<=(nc m).length:=by
 unfold nc;simp only[c6,ek,bY];have aa:=C2 (m.1.1.length:Nat);have ae:=C2 (m.2.1.1.length:Nat);have az:=C2 (m.2.2.1.1.length:Nat);omega
theorem okB.len {l m} (h:okB l m):l.length=8+(nc m).length:=by
 have:=congrArg List.length h.2;rw[bY,HM] at this;unfold ib at this;rw[bY,H8] at this;omega
theorem Vz {a:ByteArray} (h:a.size<=9223372036854775807):S a=⟨a,h⟩:=by unfold S;exact dif_pos h
theorem y7 {s:ew} {a:ByteArray} (h:a.size<=9223372036854775807) (q:c4 s=a.data.toList):s=S a:=c4.inj (by rw[q,Vz h];rfl)
theorem OR {a:ByteArray} (h:a.size<=9223372036854775807):c4 (S a)=a.data.toList:=by rw[Vz h];rfl
theorem anO {s:ew} (h:4<=s.1.size):(gf (mF s) (W 4)).1=((s.1.size-4:Nat):Int):=by
 have:=S.b s;simp only[aI];omega
theorem Ry:∀x:U Rw,True->aL (z6 x) (λy=>(y.1.2.1.1=0/\okB (c4 x.1.1) y.1.1)\/(y.1.2.1.1=3301/\y.1.1=(L.nil,L.nil,L.nil,())/\∀m,¬okB (c4 x.1.1) m)):=by
 intro x _;unfold z6;have a3:=c4.len x.1.1;have bL:(W 3301).1=3301:=rfl;have bad:(∀m,¬okB (c4 x.1.1) m)->aL (some (((L.nil,L.nil,L.nil,()),(W (3301)),()),())) (λy:U Rx=>(y.1.2.1.1=0/\okB (c4 x.1.1) y.1.1)\/(y.1.2.1.1=3301/\y.1.1=(L.nil,L.nil,L.nil,())/\∀m,¬okB (c4 x.1.1) m)):=λh=>an (.inr ⟨rfl,rfl,h⟩);refine ah (λai=>bad λm hm=> ?_) (λai=> ?_)
 ·simp only[cc,aI] at ai;have:=hm.len;have:=aj1 m;omega
 simp only[cc,aI] at ai;refine ah (λaT=>bad λm hm=> ?_) (λaT=> ?_)
 ·simp only[cc,aI] at aT;have:=hm.1;omega
 simp only[cc,aI] at aT;have i4:(W 4).1=4:=rfl;refine af (zk (by rw[i4];omega)) (λv1 aa=> ?_);have aa:c4 v1=(c4 x.1.1).take 4:=aa;refine ah (λbJ=>bad λm hm=> ?_) (λbJ=> ?_)
 ·simp only[cc] at bJ;apply bJ;refine y7 bp ?_;rw[aa,hm.2];unfold ib;rw[dF];rfl
 simp only[cc] at bJ;have aa:(c4 x.1.1).take 4=xC:=by rw[<-aa,bJ];exact OR bp
 have aj:=anO (s:=x.1.1) ab;refine af (zk (by rw[aj];omega)) (λv2 ae=> ?_);rw[aj] at ae;have ae:c4 v2=(c4 x.1.1).take (x.1.1.1.size-4):=by rw[ae];simp
 have eo:=congrArg List.length ae;rw[c4.len,List.length_take,c4.len] at eo;rw[aj];refine af (Hu ab) (λcZ az=> ?_);refine af (RB _ aY) (λa2 a9=> ?_);refine af (abQ _ aY) (λbf cE=> ?_);have cE:c4 bf.1.1=ni (kS (c4 v2)):=by rw[cE];dsimp only;rw[a9];rfl
 have parts:∀m,okB (c4 x.1.1) m->c4 v2=ib m/\c4 cZ=ni (kS (ib m)):=λm hm=>by
  have aA:=hm.len;have bR:(ib m).length=x.1.1.1.size-4:=by unfold ib;rw[bY,H8];omega
  rw[ae,az.1,<-bR,hm.2,List.take_left,List.drop_left];exact⟨rfl,rfl⟩
 refine ah (λc7=>bad λm hm=> ?_) (λc7=> ?_)
 ·simp only[cc] at c7;apply c7;obtain⟨eL,fw⟩:=parts m hm;exact c4.inj (by rw[cE,eL,fw])
 simp only[cc] at c7;have alA:c4 cZ=ni (kS (c4 v2)):=by rw[<-c7];exact cE
 refine af (Hu (k:=4) ab) (λv6 dm=> ?_);have sW:c4 v2=xC++c4 v6:=by
  rw[dm.1,<-aa,ae];have:(c4 x.1.1).take 4=((c4 x.1.1).take (x.1.1.1.size-4)).take 4:=by rw[List.take_take];congr 1;omega
  rw[this,List.take_append_drop]
 have aV:c4 x.1.1=xC++c4 v6++ni (kS (xC++c4 v6)):=by
  rw[<-sW,<-alA,ae,az.1,List.take_append_drop]
 have mE:=dm.2;refine af (asR _ (by dsimp only;omega)) (λbU gU=> ?_);have aov:bU.2.1.1.1.size<=v6.1.size:=gU.l;refine af (asH _ (by dsimp only;omega)) (λcD iO=> ?_);have aKt:cD.2.1.1.1.size<=bU.2.1.1.1.size:=iO.l;refine af (asn _ (by dsimp only;omega)) (λbV jU=> ?_);have g:gG nc (v6,false,()) bV.2.1 (bU.1.1,cD.1.1,bV.1.1,()):=gU.pair RQ.l (iO.pair RP.l jU.one);have aaF:∀m,okB (c4 x.1.1) m->c4 v6=nc m:=λm hm=>by
  have:=(parts m hm).1;rw[sW] at this;unfold ib at this;exact List.append_cancel_left this
 refine ah (λdM=>bad λm hm=> ?_) (λdM=> ?_)
 ·have dM:bV.2.1.2.1=true:=dM;exact g.n rfl dM m [] (by rw[e6];exact aaF m hm)
 have dM:bV.2.1.2.1=false:=dM;have bZ:=g.g rfl dM;dsimp only at bZ;refine ah (λfH=>bad λm hm=> ?_) (λfH=> ?_)
 ·simp only[cc] at fH;apply fH;refine y7 bp ?_;rw[aaF m hm] at bZ;have B2:nc m++[]=nc (bU.1.1,cD.1.1,bV.1.1,())++c4 bV.2.1.1:=by rw[e6];exact bZ
  exact(ade _ _ _ _ B2).2.symm
 ·simp only[cc] at fH;rw[fH,OR bp] at bZ;refine an (.inl ⟨rfl,ab, ?_⟩);rw[aV];have:c4 v6=nc (bU.1.1,cD.1.1,bV.1.1,()):=by rw[bZ];simp
  unfold ib;rw[this]
theorem ak5 {α:Type} {c:α->List UInt8} {l:List α} {B:Nat} (h:aK (λa=>(c a).length<=B) l):(l.flatMap c).length<=l.length*B:=by
 induction l with
 |nil=>simp
 |cons a l b_=>
  have aa:(c a).length<=B:=h 0 a rfl;have ae:=b_ λj e he=>h (j+1) e he;rw[List.flatMap_cons,bY,gO,Nat.succ_mul];omega
theorem sK {α:Type} {c:α->List UInt8} {l:L α} {B n:Nat} (h:aK (λa=>(c a).length<=B) l.1) (aA:l.1.length<=n):(ek c l).length<=10+n*B:=by
 unfold ek;rw[bY];have aa:=Ju (l.1.length:Nat);have ae:=ak5 h;have az:=mS B aA;omega
theorem qU {s:ew} {n:Nat} (h:s.1.size<=n):(j_ s).length<=10+n:=by
 unfold j_;rw[bY,c4.len];have aa:=Ju (s.1.size:Nat);omega
theorem sJ (n:aO .i64):(kQ n).length<=10:=Ju _
theorem YK {l:L (D [.int .i64])} {n:Nat} (h:l.1.length<=n):(ek oZ l).length<=10+n*10:=
 sK (λj e he=>by unfold oZ c6 dQ;simp;exact sJ _) h
theorem anL {x:D eF} (h:vA x):(j8 x).length<=1200:=by
 unfold j8;simp only[c6,dQ,bY,dw];have i1:=sJ x.1;have i2:=sJ x.2.1;have i3:=sJ x.2.2.1;have i4:=sJ x.2.2.2.1;have s1:=qU h.s;have s2:=qU h.t;have dE:=YK h.a;have m6:=sK (c:=mc) (B:=42) (h.wl.imp λj au=>by
  unfold mc;simp only[c6,dQ,bY,dw];have:=qU au;have:=sJ j.2.1;have:=sJ j.2.2.1
  omega) h.w
 have aa:=sK (c:=mb) (B:=114) (h.aU.imp λc aq=>by
  unfold mb;simp only[c6,dQ,bY,dw];have:=qU aq.1;have:=qU aq.2.1;have:=YK aq.2.2
  omega) h.h
 omega
theorem mod_le {m:D qS} (h:OM m):(nc m).length<=100000000:=by
 unfold nc;simp only[c6,dQ,bY,dw];have aa:=sK (c:=me) (B:=20000) (h.b8.imp λp bw=>by
  unfold me;simp only[c6,dQ,bY,dw];have:=qU bw.p_;have:=sK (c:=pQ) (B:=22) (bw.rs.imp λr aJ=>by
   unfold pQ;simp only[c6,dQ,bY,dw];have:=qU aJ.2
   omega) bw.fU
  have:=sK (c:=mf) (B:=600) (bw.b8.imp λq ay=>by
   unfold mf;simp only[c6,dQ,bY,dw];have:=qU ay.1;have:=qU ay.2.1;have:=sK (c:=lN) (B:=77) (ay.2.2.1.2.imp λa bW=>by
    unfold lN;simp only[c6,dQ,bY,dw];have:=qU bW.1;have:=sJ a.2.1;have:=qU bW.2.1;have:=sJ a.2.2.2.1
    omega) ay.2.2.1.1
   omega) bw.fw
  omega) h.p
 have ae:=sK (c:=mU) (B:=0) (l:=m.2.1) (n:=0) (λj e he=>by have:=(ed.1 he).1;have:=h.l;omega) (by have:=h.l;omega);have az:=sK (c:=lO) (B:=1000000) (h.Kv.imp λq ay=>by
  unfold lO;simp only[c6,dQ,bY,dw];have:=qU ay.n;have:=sK (c:=j7) (B:=45) (ay.RV.imp λr aJ=>by
   unfold j7;simp only[c6,dQ,bY,dw];have:=sJ r.1;have:=qU aJ
   omega) ay.p
  have:=sJ q.2.2.1;have:=sK (c:=j8) (B:=1200) (ay.ia.imp λi aj=>anL aj) ay.k
  omega) h.q
 omega
theorem aHF:∀x:U ah3,True->aL (N7 x) (λy=>y.1.1=true):=by
 intro x _;unfold N7;have fQ:ib (L.nil,L.nil,L.nil,())=[82,80,84,49,0,0,0]:=by decide+kernel
 refine af (aa_ _ (by show(nc (L.nil,L.nil,L.nil,())).length<=_;decide+kernel)) (λaB aa=> ?_);dsimp only at aa;rw[fQ,if_neg bp] at aa;obtain⟨m6,eM⟩:=aa;have wl:=congrArg List.length m6;rw[c4.len] at wl;have wl:aB.1.1.1.size=11:=wl;refine af (Jy _ aY) (λaG ae=> ?_);have ae:aG.1.1=S ⟨#[0]⟩:=y7 bp (by rw[ae];decide+kernel);refine ah (λ_=> ?_) (λq=>by simp only[cc] at q;exact absurd ae q);refine af (Jy _ aY) (λa1 az=> ?_);have az:a1.1.1=S ⟨#[1]⟩:=y7 bp (by rw[az];decide+kernel);refine ah (λ_=> ?_) (λq=>by simp only[cc] at q;exact absurd az q);refine af (Jy _ aY) (λa2 a9=> ?_);have a9:a2.1.1=S ⟨#[128,1]⟩:=y7 bp (by rw[a9];decide+kernel);refine ah (λ_=> ?_) (λq=>by simp only[cc] at q;exact absurd a9 q);refine ah (λ_=> ?_) (λq=>by simp only[cc] at q;exact absurd eM q);refine ah (λ_=> ?_) (λq=>by simp only[cc,aI] at q;omega);have i7:(W 7).1=7:=rfl;refine af (zk (by rw[i7];omega)) (λc5 cE=> ?_);have cE:c5=S ⟨#[82,80,84,49,0,0,0]⟩:=y7 bp (by rw[cE,m6];rfl);refine ah (λ_=> ?_) (λq=>by simp only[cc] at q;exact absurd cE q);refine af (RB _ aY) (λbO dm=> ?_);refine an ?_;simp only[cc];rw[dm];dsimp only
 rw[OR bp];rfl
theorem auX:∀x:U adl,1<=x.1.2.1.1->aL (Ko x) (λy=>0<=y.1.1.1/\y.1.1.1<x.1.2.1.1):=by
 intro x h;unfold Ko;have cR:=aO.sC x.1.1;have fg:=aO.sC x.1.2.1;refine ah (λai=>by simp only[cc,aI] at ai;omega) (λ_=> ?_);have aA:(fk .u64 x.1.2.1).1=x.1.2.1.1:=by simp only[aI];omega
 have he:0<=(fk .u64 x.1.1).1:=by simp only[aI];omega
 refine af (x4 (by rw[aA];omega)) (λv1 rY=> ?_);have hm:=Jm he (b:=(fk .u64 x.1.2.1).1) (by rw[aA];omega);rw[aA] at hm rY;have aM:(fk .i64 v1).1=Int.tmod (fk .u64 x.1.1).1 x.1.2.1.1:=by rw[r2,rY,th,wrap64];omega
 exact an ⟨by dsimp only;rw[aM];exact hm.1,by dsimp only;rw[aM];exact hm.2⟩
theorem auT:∀x:U adk,(tH x.1.1/\x.1.1.2.1.1.length=0)->aL (Kn x) (λy=>y.1.2.1=true->OM y.1.1):=by
 intro x h;unfold Kn;refine af (aBA _ h) (λaB aa=> ?_);exact an λq=>aa (by simp only[cc,aI] at q;omega)
theorem aaW {m m':D qS} {r s:List UInt8} (h:ib m++r=ib m'++s):m=m'/\r=s:=by
 unfold ib at h;rw[dF,dF] at h;exact ade _ _ _ _ (List.append_cancel_left h)
theorem okB.more {l m m'} {b:UInt8} (h:okB l m):¬okB (l++[b]) m':=λq=>by
 have e:=q.2;rw[h.2,dF] at e;obtain⟨_,aX⟩:=aaW e;have:=congrArg List.length aX;simp[HM] at this
theorem okB.less {l m m'} (h:okB l m):¬okB l.dropLast m':=λq=>by
 have aA:=h.len;have a3:l≠[]:=by intro e;rw[e] at aA;simp at aA;omega
 obtain⟨z,ax⟩:∃z,l.dropLast++[z]=l:=⟨_,List.dropLast_concat_getLast a3⟩;have e:ib m'++ni (kS (ib m'))++[z]=ib m++ni (kS (ib m)):=by rw[<-q.2,<-h.2,ax]
 rw[dF] at e;obtain⟨_,aX⟩:=aaW e;have:=congrArg List.length aX;simp[HM] at this
theorem okB.flip {l:List UInt8} {m m':D qS} {q:Nat} {d:UInt8} (h:okB l m) (ay:q<l.length) (bb:l[q]≠d):¬okB (l.set q d) m':=λk=>by
 have kW:=h.len;have p_:=k.len;rw[List.length_set] at p_;have mj:(ib m).length=4+(nc m).length:=by unfold ib;rw[bY,H8]
 have lG:(ib m').length=4+(nc m').length:=by unfold ib;rw[bY,H8]
 have key:l.set q d=ib m'++ni (kS (ib m')):=k.2;by_cases bK:q<(ib m).length
 ·have aE:l.set q d=(ib m).set q d++ni (kS (ib m)):=by
   conv=>lhs;rw[h.2]
   rw[List.set_append_left _ _ bK]
  rw[key] at aE;obtain⟨aX,bL⟩:=List.append_inj aE (by rw[List.length_set];omega);rw[aX] at bL;have cM:=ak_ (PM _) (PM _) bL;have dX:=ak8 (ib m) q bK d cM;apply bb;rw[<-dX];have:l[q]? =(ib m)[q]? :=by
   conv=>lhs;rw[h.2]
   exact lM bK
  rw[e_ ay,e_ bK] at this;exact hP this
 ·have aE:l.set q d=ib m++(ni (kS (ib m))).set (q-(ib m).length) d:=by
   conv=>lhs;rw[h.2]
   rw[List.set_append_right _ _ ab]
  rw[key] at aE;obtain⟨aX,bL⟩:=List.append_inj aE ab;have cM:l.set q d=l:=by rw[key,aX,<-h.2]
  apply bb;have:(l.set q d)[q]? =l[q]? :=by rw[cM]
  rw[List.getElem?_set_self ay,e_ ay] at this;exact(hP this).symm
theorem ajN (b:aO .u8) {v10:aO .i64} {v11:aO .u8} (bl:0<=v10.1) (eS:v10.1<8) (aM:v11.1=IntKind.u8.wrap ((aO.w .u8 1).1*(2^(min v10.1.toNat IntKind.u8.bits):Nat))):UInt8.ofNat (ph b v11).1.toNat≠UInt8.ofNat b.1.toNat:=by
 have alW:0<=b.1:=b.2.1;have aC:b.1<=255:=b.2.2;have hm:min v10.1.toNat IntKind.u8.bits=v10.1.toNat:=by show min v10.1.toNat 8=_;omega
 have v9:0<2^v10.1.toNat:=Nat.pow_pos bp;have Qk:2^v10.1.toNat<=2^7:=Nat.pow_le_pow_right bp ab;have Qk:2^v10.1.toNat<=128:=Qk;have aE:(aO.w .u8 1).1=1:=rfl;have aM:v11.1=((2^v10.1.toNat:Nat):Int):=by
  rw[aM,hm,aE,AS];omega
 have aV:(ph b v11).1=((b.1.toNat^^^2^v10.1.toNat:Nat):Int):=by
  show bits BinOp.xor IntKind.u8 b.1 v11.1=_;rw[aM,show b.1=((b.1.toNat:Nat):Int) by omega,u8_xor_nat _ _ ab ab];rfl
 have bK:b.1.toNat^^^2^v10.1.toNat<2^8:=Nat.xor_lt_two_pow ab ab;intro h;have h:=congrArg UInt8.toNat h;rw[aV] at h;simp only[UInt8.toNat_ofNat',Int.toNat_natCast] at h;rw[Nat.mod_eq_of_lt bK,Nat.mod_eq_of_lt ab] at h;have ae:=congrArg (b.1.toNat^^^·) h;simp only[<-Nat.xor_assoc,Nat.xor_self,Nat.zero_xor] at ae;omega
theorem ajq (l:L (D [.int .u8])) (q:Nat) (e:D [.int .u8]):cA (ec l q e)=(cA l).set q (UInt8.ofNat e.1.1.toNat):=by
 unfold cA;show(l.1.set q e).map _=_;rw[List.map_set]
theorem aH9:∀x:U ah2,x.1.1.1.length<=1000000000->aL (Ug x) (λy=>y.1.1=true):=by
 intro x aV;unfold Ug;refine af (aHF _ aY) (λaB aa=> ?_);refine ah (λq=>by rw[aa] at q;cases q) (λ_=> ?_);refine af (au1 _ ⟨aV,rfl⟩) (λaG ae=> ?_);refine af (auT _ ⟨ae.1,by rw[ae.2];rfl⟩) (λa1 az=> ?_);refine ah (λ_=>an rfl) (λai=> ?_);simp only[cc] at ai;have rM:=az ai;have aJ4:=mod_le rM;refine af (aa_ _ (by show(nc a1.1.1).length<=_;omega)) (λa2 a9=> ?_);dsimp only at a9;have fQ:(W 0).1=0:=rfl;refine ah (λaT=> ?_) (λaT=> ?_)
 ·simp only[cc,fQ] at aT;split at a9
  ·refine an ?_;simp only[cc];exact a9.2
  ·exact absurd a9.2 aT
 simp only[cc,fQ] at aT;have aP:okB (c4 a2.1.1) a1.1.1:=by
  split at a9
  ·rw[a9.2] at aT;cases aT
  ·rename_i hle;refine⟨?_,a9.1⟩;rw[a9.1,bY,HM];omega
 have rW:=c4.len a2.1.1;have q3:=aP.len;have aJq:=aP.1;refine af (Hq ab) (λgv cE=> ?_);obtain⟨vt,Rg⟩:=cE;have hmul:(tT (W 8) (W (gv.1.length:Nat))).1=8*(gv.1.length:Nat):=by
  rw[Iy,show(W 8).1=8 from rfl,YN,wrap64,wrap64];omega
 refine af (auX _ (by rw[hmul];omega)) (λbO dm=> ?_);dsimp only at dm;rw[hmul] at dm;have i8:(W 8).1=8:=rfl;have quo:∀v:aO .i64,v.1=IntKind.i64.wrap (Int.tdiv bO.1.1.1 (W 8).1)->v.1=bO.1.1.1/8:=λv aM=>by
  rw[aM,i8,Int.tdiv_eq_ediv_of_nonneg dm.1,wrap64];omega
 refine af (ID (by rw[i8];decide)) (λdN er=> ?_);have er:=quo dN er;refine af (ID (by rw[i8];decide)) (λdj eS=> ?_);have eS:=quo dj eS;have jY:∀v:aO .i64,v.1=bO.1.1.1/8->(decide (0<=v.1)&&decide (v.1<(gv.1.length:Nat)))=true:=λv aM=>by simp only[cc,decide_eq_true_eq];omega
 refine ah (λ_=> ?_) (λq=>by rw[jY dj eS] at q;cases q);refine af (ld ab) (λeK fR=> ?_);refine af (x4 (by rw[i8];decide)) (λv10 ke=> ?_);have ke:v10.1=bO.1.1.1%8:=by
  rw[ke,i8,Int.tmod_eq_emod_of_nonneg dm.1,wrap64];omega
 refine af (QE ab) (λv11 qV=> ?_);refine ah (λ_=> ?_) (λq=>by rw[jY dN er] at q;cases q);refine af (ld ab) (λjw vT=> ?_);have err:∀{g9:U Rw} {y:U Rx},((y.1.2.1.1=0/\okB (c4 g9.1.1) y.1.1)\/(y.1.2.1.1=3301/\y.1.1=(L.nil,L.nil,L.nil,())/\∀m,¬okB (c4 g9.1.1) m))->(∀m,¬okB (c4 g9.1.1) m)->y.1.2.1.1=3301:=λh aA=>by
  rcases h with h|h
  ·exact absurd h.2 (aA _)
  ·exact h.1
 refine af (Ry _ aY) (λcG qW=> ?_);have f13:=err qW (λm=>by
  dsimp only
  rw[c4.bytes,ajq,vt];have ay:dN.1.toNat<(c4 a2.1.1).length:=ab;refine aP.flip ay ?_;have ai:=ajN eK.1 ab ab qV;have akA:dj.1.toNat=dN.1.toNat:=ab;have jW:(c4 a2.1.1)[dN.1.toNat]? =some (UInt8.ofNat eK.1.1.toNat):=by
   rw[<-vt];unfold cA;rw[List.getElem?_map,<-akA,fR];rfl
  rw[e_ ay] at jW;rw[hP jW];exactλq=>ai q.symm)
 refine af (aj5 (by rw[show(og (cx [(x.1.2.2.1,())])).1.size=1 by simp only[b5]];omega)) (λiK rK=> ?_);refine af (Ry _ aY) (λdD HS=> ?_);have f15:=err HS (λm=>by
  dsimp only
  rw[rK,c4.bytes,cA.one];exact aP.more)
 have i1:(gf (mF a2.1.1) (W 1)).1=((a2.1.1.1.size-1:Nat):Int):=by simp only[aI];omega
 refine af (zk (by rw[i1];omega)) (λlJ HT=> ?_);refine af (Ry _ aY) (λfo alv=> ?_);have f17:=err alv (λm=>by
  dsimp only
  rw[HT,i1];have:((c4 a2.1.1).drop (0:Int).toNat).take (((a2.1.1.1.size-1:Nat):Int)-0).toNat=(c4 a2.1.1).dropLast:=by
   rw[List.dropLast_eq_take,rW];simp
  rw[this];exact aP.less)
 have bL:(W 3301).1=3301:=rfl;refine ah (λ_=> ?_) (λq=>by simp only[cc] at q;exact absurd f13 q);refine ah (λ_=> ?_) (λq=>by simp only[cc] at q;exact absurd f15 q);refine an ?_;simp only[cc];exact f17
end cB
open Go.ChangeShapes Go.WideShapes Go.ChangeAt Go.RowKit
theorem own:ownKnob Tryz.prog.godebug=none:=by kernel_rfl
theorem laidOut:laidOutB Tryz.prog=true:=by kernel_rfl
theorem add_plain (b off i:Nat):(⟨b,off,none⟩:Addr).add i=⟨b,off+i,none⟩:=by
 unfold Addr.add;split<;>simp_all
section
variable{H:Type} {enc:TypeId×Value->H} {P:Program} {w:World} {base:Nat} {spare:Nat->Bool} {held:Bool}
theorem aHt {a:Addr} {xs:List Value} (h:∀i u,xs[i]? =some u->w.cell? (a.add i)=some u):fP w (some a) xs:=λaA=>by
 obtain⟨b,off,spot⟩:=a;have bl:0<xs.length:=List.length_pos_iff.2 aA;have aq:=h 0 _ (e_ bl);have anf:spot=none:=by simpa[Addr.add] using World.cell?_spot aq
 subst anf;refine⟨b,off,rfl, ?_,λi u hu=>by rw[<-add_plain];exact h i u hu⟩;rw[add_plain] at aq;exact World.block_lt_of_cell? w _ aq
end
section
variable{H:Type} {enc:TypeId×Value->H} {P:Program} {w:World} {base:Nat} {spare:Nat->Bool} {held:Bool}
theorem anN {r:Reach} {cH:Nat} {t e:TypeId} {v:Value} {d:DataW H} {p:List MemPlace} (bH:P.underlying t=some (.slice e)) (he:P.underlying e=some (.int .i64)) (aq:P.cellsOf e=1)
 (aM:Value.okWide P w r cH t v) (h:DataW.Trod enc P w base spare held t v d p):
 ∃(A:Option Addr) (l:List Int) (c:Nat),v=.slice A l.length c/\l.length<=c/\c<=maxLen/\fP w A (l.map (.int .i64))/\∀n∈l,(Lit.int .i64 n).wf=true:=by
 obtain⟨a0,len,cap,rfl⟩:=okWide_slice bH aM;obtain⟨fuel,bu⟩:=h;rcases open_ints bH he aq bu with⟨kH,_⟩|⟨x,l,c,ss,kH,_,a3,hm,ax,_,nO,Yx⟩
 ·simp[Value.cells] at kH;obtain⟨rfl,rfl,rfl⟩:=kH;exact⟨none,[],0,rfl,Nat.le_refl _,Nat.zero_le _,fP.nil,by simp⟩
 ·simp[Value.cells] at kH;obtain⟨rfl,rfl,rfl⟩:=kH;have hle:len<=ss.length:=by rw[ax];split<;>omega
  have hlen:(ss.take len).length=len:=by rw[List.length_take,Nat.min_eq_left hle]
  refine⟨some x,ss.take len,cap,by rw[hlen],by rw[hlen];exact a3,hm, ?_,λs aU=>Yx s (List.mem_of_mem_take aU)⟩;refine aHt λi u hu=> ?_;rw[List.getElem?_map] at hu;have aj:i<len:=by
   rcases jL i len with aa|aa
   ·exact aa
   ·rw[List.getElem?_eq_none ab] at hu;cases hu
  rw[nO i ab];rw[List.getElem?_take_of_lt aj,e_ ab] at hu;rw[<-hu,List.getD,e_ ab];rfl
end
namespace cB
open bx (T cv)
set_option linter.unusedVariables false
def AR (W:World) (b:Nat):List Value:=match W.heap[b]? with
 |some (.cells cur _ _)=>cur.toList
 |_=>[]
def QZ (W:World):M:=⟨λ_=>none,λ_=>none,λ_ _ _=>none,AR W,λ_=>none⟩
theorem am6 (W:World):bt (QZ W) ⟨.nil,0⟩ W where
 fresh i _:=⟨rfl,rfl,λ_ _=>rfl,bx.T.get_nil i⟩
 live i b h:=by rw[bx.T.get_nil] at h;cases h
 inj i j bi iM r h:=by rw[bx.T.get_nil] at h;cases h
 own b R k h:=by cases h
 stay b j v h:=by
  have h:(AR W b)[j]? =some v:=h;unfold AR at h;split at h
  ·rename_i cur ty bQ ai;exact⟨cur,ty,bQ,ai,by simpa using h⟩
  ·simp at h
theorem aID {W:World} {b o:Nat} {v:Value} (h:W.cell? ⟨b,o,none⟩=some v):(AR W b)[o]? =some v:=by
 unfold World.cell? at h;unfold AR;cases ai:W.heap[b]? with
 |none=>simp[ai] at h
 |some x=>
  cases x<;>simp[ai] at h⊢;exact h
theorem UM {k:IntKind} {n:Int} (h:(Lit.int k n).wf=true):k.min<=n/\n<=k.max:=by
 simpa[Lit.wf] using h
def wJ (l:List Int) (h:∀n∈l,(Lit.int .i64 n).wf=true):List (D [.int .i64]):=l.attach.map λn=>(⟨n.1,UM (h n.1 n.2)⟩,())
theorem Ol (l:List Int) (h:∀n∈l,(Lit.int .i64 n).wf=true):(wJ l h).length=l.length:=by simp[wJ]
theorem aIl {l:List Int} {h:∀n∈l,(Lit.int .i64 n).wf=true} {i:Nat} {e:D [.int .i64]} (he:(wJ l h)[i]? =some e):l[i]? =some e.1.1:=by
 unfold wJ at he;rw[List.getElem?_map] at he;obtain⟨n,aA,rfl⟩:=Option.map_eq_some_iff.1 he;rw[List.getElem?_attach] at aA;obtain⟨a,bW,e⟩:=Option.pmap_eq_some_iff.1 aA;rw[e.1,e.2]
theorem aH_ {W:World} {A:Option Addr} {l:List Int} {c:Nat} (a3:l.length<=c) (dx:fP W A (l.map (.int .i64))) (aU:∀n∈l,(Lit.int .i64 n).wf=true) (aA:l.length<=1048576)
 {si nA:Int} (m6:(Lit.int .i64 si).wf=true) (eM:(Lit.int .u8 nA).wf=true):
 Calls Tryz.prog 5 #[.slice A l.length c,.int .i64 si,.int .u8 nA] W λe VC=>e=.returned (.bool true)/\Below W.heap.size W VC:=by
 have hlen:(wJ l aU).length<=140737488355328:=by rw[Ol];omega
 obtain⟨y,bT,bH⟩:=aH9 ((⟨wJ l aU,hlen⟩,⟨si,UM m6⟩,⟨nA,UM eM⟩,()),()) (by show(wJ l aU).length<=_;rw[Ol];omega);have ku:dO (QZ W).fz (.aH [.int .i64]) (⟨wJ l aU,hlen⟩:L (D [.int .i64])) (.slice A l.length c):=by
  simp only[dO];refine⟨A,c,by rw[Ol],by rw[Ol];exact a3,λeD=> ?_⟩;have amN:l.map (Value.int .i64)≠[]:=λe=>eD (by
   have:l=[]:=List.map_eq_nil_iff.1 e;subst this;rfl)
  obtain⟨b,o,rfl,_,aq⟩:=dx amN;refine⟨b,o,rfl,λi e he=> ?_⟩;simp only[ic,dO,and_true];have hw:=aID (aq i (.int .i64 e.1.1) (by rw[List.getElem?_map,aIl he];rfl));refine⟨_, ?_,rfl⟩;show(AR W b)[o+i*1]? =_;rw[Nat.mul_one];exact hw
 obtain⟨_,rL⟩:=aHz _ y bT (QZ W) W #[.slice A l.length c,.int .i64 si,.int .u8 nA] (am6 W) (λj ia au=>by cases au) ⟨⟨ku,trivial⟩,rfl,rfl,trivial⟩;refine rL.mono ?_;rintro ex w' ⟨m',a8,us,rfl,st,aJ,f,aj9⟩;have aM:=aj9.GZ
 match us,aM with
 |[v],⟨aa,_⟩=>
  have aa:v=.bool y.1.1:=aa;refine⟨by rw[aa,bH];rfl,st.gu.os,st.gu.tape,st.gu.output,st.gu.size,λb ai=>(st.gu.kept b ai ?_).1⟩;rintro⟨R,k,i,x,ae,_⟩;cases ae
end cB
end Go.Proofs.YtgmdfchkljaooaaGreat
namespace Go.Proofs.YtgmdfchkljaooaaGreat.objectSpoilt
open Go.ChangeShapes Go.WideShapes Go.ChangeAt Go.RowKit
theorem one_le {H:Type} (d:DataW H):1<=Rows.uptoBulk d:=by
 cases d with
 |lit l=>cases l<;>simp[Rows.uptoBulk]
 |_=>simp[Rows.uptoBulk]
theorem Ze {H:Type}:∀l:List (DataW H),l.length<=Rows.uptoBulkAll l
 |[]=>by simp[Rows.uptoBulkAll]
 |x::r=>by
  have:=one_le x;have:=Ze r;simp only[Rows.uptoBulkAll,gO];omega
theorem anM {H:Type} {enc:TypeId×Value->H} {P:Program} {w:World} {base:Nat} {spare:Nat->Bool} {held:Bool} {r:Reach} {cH:Nat} {t e:TypeId} {v:Value} {d:DataW H} {p:List MemPlace} (bH:P.underlying t=some (.slice e)) (he:P.underlying e=some (.int .i64)) (aq:P.cellsOf e=1)
 (aM:Value.okWide P w r cH t v) (h:DataW.Trod enc P w base spare held t v d p) {A:Option Addr} {n c:Nat} (rW:v=.slice A n c):n<=Rows.uptoBulk d:=by
 obtain⟨a0,len,cap,rfl⟩:=okWide_slice bH aM;obtain⟨fuel,bu⟩:=h;injection rW with _ aX _
 subst aX;rcases open_ints bH he aq bu with⟨kH,_⟩|⟨x,l,c,ss,kH,_,a3,hm,ax,aV,_,_⟩
 ·simp[Value.cells] at kH;omega
 ·simp[Value.cells] at kH;obtain⟨rfl,rfl,rfl⟩:=kH;have bb:=congrArg Prod.fst aV;have bb:d=.slice (lits .i64 (ss.take len)) (lits .i64 (ss.drop len)):=bb;rw[bb];have aa:=Ze (lits (H:=H) .i64 (ss.take len));have ae:(lits (H:=H) .i64 (ss.take len)).length=len:=by
   have:len<=ss.length:=by rw[ax];split<;>omega
   simp[lits];omega
  simp only[Rows.uptoBulk];omega
set_option maxRecDepth 100000 in
theorem lifted (os:Os) (started:os.Started) (H:Type) (enc:TypeId×Value->H) (F:Stop.Interp):
 ReturnsInHanded {} Tryz.checked os 5 .any ((Rows.OpenSpec.upto Rows.objectSpoiltSpec).pre6 enc Tryz.prog Tryz.f5 Rows.objectSpoiltUptoRow.domain false) (((Rows.OpenSpec.upto Rows.objectSpoiltSpec).at F).post enc Tryz.prog Tryz.f5 false true false false):=by
 refine returnsInHanded_of_cond (C:=Tryz.checked) (s:=Rows.OpenSpec.upto Rows.objectSpoiltSpec) (k:=Rows.uptoSmall) rfl own started (by kernel_rfl) Tryz.func5
  (OpenSpec.witness (enc:=enc) (C:=Tryz.checked) (s:=Rows.OpenSpec.upto Rows.objectSpoiltSpec) (k:=Rows.uptoSmall) rfl false ⟨#[],#[.slice none 0 0,.int .i64 0,.int .u8 0],[]⟩ 8 (by kernel_rfl) (by kernel_rfl) (by kernel_rfl)
   (x:=([.nil,.lit (.int .i64 0),.lit (.int .u8 0)],[],[])) (by kernel_rfl) rfl (by kernel_rfl)) ?_
 intro W base args ds gs before Yw rN _ aP _;have Cs:∀(j:Nat) t v,Tryz.f5.params[j]? =some t->args[j]? =some v->Value.okWide Tryz.prog W .any base t v:=Yw;have alQ:=rN;obtain⟨p,q,Xg,m0,rfl,aJn,zJ⟩:=rN;have dx:DataW.TrodAll enc Tryz.prog W 0 (λ_=>true) true Tryz.f5.params.toList args.toList ds p:=Xg;rw[Tryz.params5] at dx Cs;obtain⟨v0,aKJ,d0,aI8,Ki,yC,aJh,rfl,rfl,bl,DL⟩:=trodAll_cons dx;obtain⟨v1,aKK,d1,lP,eL,cm,rfl,rfl,rfl,aa,gW⟩:=trodAll_cons DL;obtain⟨v2,aKL,d2,xa,fw,cF,rfl,rfl,rfl,ae,fU⟩:=trodAll_cons gW;obtain⟨rfl,rfl,rfl⟩:=trodAll_nil fU;obtain rfl:args=#[v0,v1,v2]:=by cases args;simp_all
 obtain⟨rfl,rfl⟩:=trodVars_none m0;have p7:=bl;have aop:∀x∈Ki,x.block<W.heap.size:=by obtain⟨m,hm⟩:=p7;exact DataW.trod_lt m _ _ _ hm
 obtain⟨ai7,wj,oY,fQ,qx,zz,alM,Cp⟩:=anN Tryz.underlying22 Tryz.underlying3 (by kernel_rfl) (Cs 0 22 v0 rfl rfl) bl;have alW:=anM Tryz.underlying22 Tryz.underlying3 (by kernel_rfl) (Cs 0 22 v0 rfl rfl) bl fQ;subst fQ;have bq:=aa;have aoq:∀x∈eL,x.block<W.heap.size:=by obtain⟨m,hm⟩:=bq;exact DataW.trod_lt m _ _ _ hm
 obtain⟨si,rfl,_,_,m6⟩:=open_int Tryz.underlying3 (Cs 1 3 v1 rfl rfl) aa;have bE:=ae;have CD:∀x∈fw,x.block<W.heap.size:=by obtain⟨m,hm⟩:=bE;exact DataW.trod_lt m _ _ _ hm
 obtain⟨nA,rfl,_,_,eM⟩:=open_int Tryz.underlying5 (Cs 2 5 v2 rfl rfl) ae;have ane:wj.length<=1048576:=by
  have h:Rows.uptoBulkAll (d0::_)<=1048576:=of_decide_eq_true aP;simp only[Rows.uptoBulkAll] at h;omega
 clear Xg Yw;refine(cB.aH_ qx alM Cp ane m6 eM).mono λe VC ⟨he,Hm⟩=> ?_;subst he;exact⟨_,rfl,_,_,_,[],_,[],alQ,trodAll_mk1 (shut_bool Tryz.underlying4 _),(trodAll_cons_mk (Below.trod laidOut (by kernel_rfl) (of_decide_eq_true (by kernel_rfl)) p7 Hm aop) (trodAll_cons_mk (Below.trod laidOut (by kernel_rfl) (of_decide_eq_true (by kernel_rfl)) bq Hm aoq) (trodAll_cons_mk (Below.trod laidOut (by kernel_rfl) (of_decide_eq_true (by kernel_rfl)) bE Hm CD) trodAll_mk0))),rfl,Hm.frame _,λh=>by cases h⟩
theorem proved:Rows.ObjectSpoiltUptoSaid:=
 OpenClaim.holds_of_cond 5 Tryz.f5 rfl rfl rfl rfl rfl rfl rfl ⟨rfl,rfl,rfl,rfl,rfl⟩ rfl rfl rfl rfl rfl (by kernel_rfl) Tryz.func5 (by kernel_rfl)
  (of_decide_eq_true (by kernel_rfl)) (by unfold Func.isWrapper;first|(rw[if_pos (by decide+kernel)];kernel_rfl)|(rw[if_neg (by decide+kernel)];exact⟨rfl,rfl⟩))
  (λos started H enc _ F=>lifted os started H enc F)
end Go.Proofs.YtgmdfchkljaooaaGreat.objectSpoilt
