/- Typed values. -/
import Derived.LoopN
import Derived.Test.YtgmdfchkljaooaaGreatProg
import Derived.KernelRfl
import Derived.Test.YtgmdfchkljaooaaGreatM03
noncomputable section
namespace Go.Proofs.YtgmdfchkljaooaaGreat
open Go.RowKit
namespace cF
open bI (T cO under size kM fC jP)
set_option linter.unusedVariables false
set_option linter.unusedSimpArgs false
def uu (ρ len c_:Nat->Nat)(l:List ef):Nat->n5 l->List (Option B):=List.rec (motive:=λl=>Nat->n5 l->List (Option B)) (λ_ _=>[]) (λb _ cu j x=>C1 ρ len (c_ j) b x.1::cu (Nat.succ j) x.2) l
def B.len:B->Nat
 |.arr _ _ l _ _=>l.1.length
 |_=>0
def ef.o9:ef->Bool
 |.gone=>true
 |_=>false
def ef.tT (P:Nat->Bool):ef->Bool
 |.box cs=>cs.all (fw.tT P)
 |_=>true
section
variable{w:World}{m m':M}{σ:bU}{ρ ga:List fL}{nw:Bool}
theorem apk {t:dk}{a3:List Bool}{x:B}{y:kX (.arr t a3)×List fL}(h:lr ρ (.arr t a3) x=some y):∃t' wF l v,x=.arr t' wF l none v:=by
 simp only[lr] at h;split at h
 ·exact⟨_,_,_,_,rfl⟩
 ·cases h
theorem apm {b:ef}{cs:List C}{y:kX b×List fL}(h:lr ρ b (.box cs)=some y):∃iv,b=.box iv:=by
 cases b with
 |box iv=>exact⟨iv,rfl⟩
 |arr t a3=>simp only[lr] at h;cases h
 |bC t=>simp only[lr] at h;cases h
 |gone=>simp only[lr] at h;cases h
theorem apl {b:ef}{x:B}{y:kX b×List fL}(h:lr ρ b x=some y)(aO:∃t a3 l v,x=.arr t a3 l none v):∃t a3,b=.arr t a3:=by
 obtain⟨t,a3,l,v,rfl⟩:=aO;cases b with
 |arr t a3=>exact⟨t,a3,rfl⟩
 |box cs=>simp only[lr] at h;cases h
 |bC t=>simp only[lr] at h;cases h
 |gone=>simp only[lr] at h;cases h
theorem Sj (l:List ef)(j:Nat)(ρ:List fL):tk nw σ (.gone::l) j ρ=(match tk nw σ l (Nat.succ j) ρ with
 |some z=>some (((),z.1),z.2)
 |none=>none):=rfl
theorem Si {b:ef}(ah:b.o9=false)(l:List ef)(j:Nat)(ρ:List fL){z:n5 (b::l)×List fL}(h:tk nw σ (b::l) j ρ=some z):
 ∃id x y fB,kv ρ j=some id/\σ.heap.get id=some x/\TR nw ρ j b=true/\lr ρ b x=some y/\tk nw σ l (Nat.succ j) y.2=some fB/\z=((y.1,fB.1),fB.2):=by
 have key:(match kv ρ j with
  |none=>none
  |some id=>match σ.heap.get id with
   |none=>none
   |some x=>match TR nw ρ j b with
    |false=>none
    |true=>match lr ρ b x with
     |some y=>match tk nw σ l (Nat.succ j) y.2 with
      |some z=>some ((y.1,z.1),z.2)
      |none=>none
     |none=>none:Option (n5 (b::l)×List fL))=some z:=by
  cases b with
  |gone=>cases ah
  |box cs=>exact h
  |arr t a3=>exact h
  |bC t=>exact h
 split at key
 ·cases key
 ·rename_i id hid;split at key
  ·cases key
  ·rename_i x aO;split at key
   ·cases key
   ·rename_i hm;split at key
    ·rename_i y cf;split at key
     ·rename_i fB ai;cases key;exact⟨id,x,y,fB,hid,aO,hm,cf,ai,rfl⟩
     ·cases key
    ·cases key
theorem Sh {b:ef}{x:B}{y:kX b×List fL}(h:lr ρ b x=some y):(∀e∈ρ,e∈y.2)/\(n8 ρ->n8 y.2)/\TM b y.1=x.len:=by
 cases b with
 |box cs=>
  simp only[lr] at h;split at h
  ·obtain⟨aa,af,_⟩:=Ak (m:=⟨λ_=>none,λ_=>none,λ_ _ _=>none,λ_=>[],λ_=>none⟩) h;exact⟨aa,af,rfl⟩
  ·cases h
 |arr t a3=>
  simp only[lr] at h;split at h
  ·split at h
   ·rename_i t' wF l c_ he;split at h
    ·obtain rfl:=kC he;cases h;exact⟨λ_ h=>h,λh=>h,rfl⟩
    ·cases h
   ·cases h
  ·cases h
 |bC t=>
  simp only[lr] at h;split at h
  ·split at h
   ·cases h;exact⟨λ_ h=>h,λh=>h,rfl⟩
   ·cases h
  ·cases h
 |gone=>simp only[lr] at h;cases h
theorem acW (bE:n8 ga)(aM:∀e∈ρ,e∈ga){k id:Nat}(h:kv ρ k=some id):kv ga k=some id:=by
 obtain⟨tag,bR⟩:=acV h;exact bE _ (aM _ bR)
theorem ye:∀{l:List ef}{j:Nat}{ρ:List fL}{z:n5 l×List fL},tk nw σ l j ρ=some z->n8 ρ->(∀e∈ρ,e∈z.2)/\n8 z.2/\
 ∀idx b,l[idx]?=some b->b.o9=false->∃id x,kv z.2 (j+idx)=some id/\σ.heap.get id=some x/\(acR l z.1)[idx]?=some x.len/\((∃t a3,b=.arr t a3)->∃t' wF l v,x=.arr t' wF l none v)/\((∃cs,x=.box cs)->∃iv,b=.box iv)/\((∃t a3 l v,x=.arr t a3 l none v)->∃t a3,b=.arr t a3)
 |[],j,ρ,z,h,bE=>by cases h;exact⟨λ_ h=>h,bE,λidx b ah=>by simp at ah⟩
 |b::l,j,ρ,z,h,bE=>by
  cases cj:b.o9 with
  |true=>
   cases b with
   |gone=>
    rw[Sj] at h;split at h
    ·rename_i fB ai;cases h;obtain⟨aa,af,ax⟩:=ye ai bE;refine⟨aa,af,λidx b ah At=>?_⟩;cases idx with
     |zero=>simp at ah;subst ah;cases At
     |succ idx=>
      obtain⟨id,x,aI,aQ,bq⟩:=ax idx b (by simpa using ah) At;exact⟨id,x,by rw[show j+(idx+1)=Nat.succ j+idx by omega];exact aI,aQ,bq⟩
    ·cases h
   |box cs=>cases cj
   |arr t a3=>cases cj
   |bC t=>cases cj
  |false=>
   obtain⟨id,x,y,fB,bn,bB,dc,ek,iU,rfl⟩:=Si cj l j ρ h;obtain⟨dK,dh,gT⟩:=Sh ek;obtain⟨aa,af,ax⟩:=ye iU (dh bE);refine⟨λe he=>aa e (dK e he),af,λidx fZ ah At=>?_⟩;cases idx with
   |zero=>
    simp at ah;subst ah;exact⟨id,x,acW af (λe he=>aa e (dK e he)) bn,bB,by show some (TM b y.1)=_;rw[gT],λ⟨t,a3,he⟩=>(by subst he;exact apk ek),λ⟨cs,he⟩=>(by subst he;exact apm ek),apl ek⟩
   |succ idx=>
    obtain⟨id,x,aI,aQ,bq⟩:=ax idx fZ (by simpa using ah) At;exact⟨id,x,by rw[show j+(idx+1)=Nat.succ j+idx by omega];exact aI,aQ,bq⟩
theorem Sk (bh:bQ m σ w):∀{l:List ef}{j:Nat}{ρ:List fL}{z:n5 l×List fL},tk true σ l j ρ=some z->n8 ρ->(∀e∈ρ,e.tag=1->m.pl e.id≠none)->(∀e∈z.2,e.tag=1->m.pl e.id≠none)/\
 ∀idx cs,l[idx]?=some (.box cs)->∀id,kv z.2 (j+idx)=some id->m.pl id≠none
 |[],j,ρ,z,h,bE,hm=>by cases h;exact⟨hm,λidx b ah=>by simp at ah⟩
 |b::l,j,ρ,z,h,bE,hm=>by
  cases cj:b.o9 with
  |true=>
   cases b with
   |gone=>
    rw[Sj] at h;split at h
    ·rename_i fB ai;cases h;obtain⟨aa,af⟩:=Sk bh ai bE hm;refine⟨aa,λidx cs ah id hid=>?_⟩;cases idx with
     |zero=>simp at ah
     |succ idx=>exact af idx cs (by simpa using ah) id (by rw[show Nat.succ j+idx=j+(idx+1) by omega];exact hid)
    ·cases h
   |box cs=>cases cj
   |arr t a3=>cases cj
   |bC t=>cases cj
  |false=>
   obtain⟨id,x,y,fB,bn,bB,dc,ek,iU,rfl⟩:=Si cj l j ρ h;obtain⟨dK,dh,a0⟩:=Sh ek;have arA:∀e∈y.2,e.tag=1->m.pl e.id≠none:=by
    cases b with
    |gone=>cases cj
    |arr t a3=>
     simp only[lr] at ek;split at ek
     ·split at ek
      ·split at ek
       ·cases ek;exact hm
       ·cases ek
      ·cases ek
     ·cases ek
    |bC t=>
     simp only[lr] at ek;split at ek
     ·split at ek
      ·cases ek;exact hm
      ·cases ek
     ·cases ek
    |box cs=>
     simp only[lr] at ek;split at ek
     ·rename_i xe;obtain⟨_,_,_,oT⟩:=Ak (m:=m) ek;have DY:m.pl id≠none:=by
       have dc:hasTag ρ j 1=true:=dc;unfold hasTag at dc;obtain⟨e,he,cP⟩:=List.any_eq_true.1 dc;rw[gQ] at cP;have aE:=gB cP.1;have aP:=gB cP.2;have:=bE e he;rw[aE,bn] at this;cases this;exact hm e he aP
      have nQ:∀v∈xe.map (λc=>V.p (.c c)),∃u,eo m v u:=λv aT=>by
       obtain⟨c,an,rfl⟩:=List.mem_map.1 aT;rcases bh.live id _ bB with g|⟨r,cur,ty,cm,aI,aQ,bq,cA,eP,_⟩
       ·exact absurd g DY
       ·obtain⟨i,aj⟩:=List.mem_iff_getElem?.1 an;obtain⟨u,_,hu⟩:=eP i c aj;exact⟨u,hu⟩
      intro e he bR;rcases oT nQ e he bR with g|g
      ·exact hm e g bR
      ·exact g
     ·cases ek
   obtain⟨aa,af⟩:=Sk bh iU (dh bE) arA;obtain⟨cW,dv,_⟩:=ye iU (dh bE);refine⟨aa,λidx cs ah yW hid=>?_⟩;cases idx with
   |zero=>
    simp at ah;subst ah;have dc:hasTag ρ j 1=true:=dc;unfold hasTag at dc;obtain⟨e,he,cP⟩:=List.any_eq_true.1 dc;rw[gQ] at cP;have aE:=gB cP.1;have aP:=gB cP.2;have ax:=dv e (cW e (dK e he));rw[aE] at ax;have hid:kv fB.2 j=some yW:=hid;rw[hid] at ax;cases ax;exact hm e he aP
   |succ idx=>exact af idx cs (by simpa using ah) yW (by rw[show Nat.succ j+idx=j+(idx+1) by omega];exact hid)
theorem apo {s:fw}{c:C}{y:wA s×List fL}(h:nO ρ s (.p (.c c))=some y)(f len:Nat->Nat):∃c',ya f len s y.1=.p (.c c'):=by
 cases s with
 |agg t=>simp only[nO] at h;cases h
 |sJ t nl=>simp only[nO] at h;cases h
 |_=>exact⟨_,rfl⟩
theorem Zt {f f' len:Nat->Nat}{P:Nat->Bool}(bR:uk m m' f f' P):∀{l:List fw}{cs:List C}{ρ:List fL}{y:r5 l×List fL},yf l ρ (cs.map λc=>.p (.c c))=some y->l.all (fw.tT P)=true->ui m y.2 f len->
 ((og f' len l y.1).map wm).length=cs.length/\∀(j:Nat) c',((og f' len l y.1).map wm)[j]?=some c'->∃c,cs[j]?=some c/\∀v,dz m c v->dz m' c' v
 |[],cs,ρ,y,h,hu,aU=>by
  match cs,h with
  |[],h=>cases h;exact⟨rfl,λj c' aw=>by simp[og] at aw⟩
  |c::cs,h=>cases h
 |s::l,cs,ρ,y,h,hu,aU=>by
  match cs,h with
  |[],h=>cases h
  |c::cs,h=>
   rw[List.map_cons,Z5] at h;rw[List.all_cons,gQ] at hu;split at h
   ·rename_i aq aa;split at h
    ·rename_i z ai;cases h;obtain⟨cY,_,_,_⟩:=Ak (m:=m) ai;obtain⟨_,_,gT,_⟩:=Z4 (m:=m) aa;obtain⟨aI,aQ⟩:=Zt bR ai hu.2 aU;rw[JF,List.map_cons];refine⟨by simp[aI],λj c' aw=>?_⟩;cases j with
     |zero=>
      simp at aw;subst aw;refine⟨c,rfl,λv aT=>?_⟩;have:=R8 (len:=len) bR hu.1 (gT f len (aU.of cY) v aT);obtain⟨c',kp⟩:=apo aa f' len;rw[kp] at this⊢;exact this
     |succ j=>
      obtain⟨pI,bn,bB⟩:=aQ j c' (by simpa using aw);exact⟨pI,by simpa using bn,bB⟩
    ·cases h
   ·cases h
theorem apn {f f' len:Nat->Nat}{P:Nat->Bool}(bR:uk m m' f f' P){b:ef}{x:B}{y:kX b×List fL}(h:lr ρ b x=some y)(hu:b.tT P=true)(aU:ui m y.2 f len)(c_:Nat):
 ∃fZ,C1 f' len c_ b y.1=some fZ/\t_ m m' x fZ/\(∀t a3 l k v,fZ=.arr t a3 l k v->v=c_)/\((∀t a3,b≠.arr t a3)->fZ.c_=0):=by
 cases b with
 |box cs=>
  simp only[lr] at h;split at h
  ·obtain⟨aI,aQ⟩:=Zt bR h hu aU;exact⟨_,rfl,.box aI aQ,(λt a3 l k v aT=>by cases aT),λ_=>rfl⟩
  ·cases h
 |arr t a3=>
  simp only[lr] at h;split at h
  ·split at h
   ·rename_i t' wF l j5 he;split at h
    ·rename_i bZ;obtain rfl:=kC he;obtain rfl:=of_decide_eq_true bZ;cases h;exact⟨_,rfl,.arr j5 c_,(λt a3 l k v aT=>by cases aT;rfl),λaz=>absurd rfl (az _ _)⟩
    ·cases h
   ·cases h
  ·cases h
 |bC t=>
  simp only[lr] at h;split at h
  ·split at h
   ·rename_i he;obtain rfl:=kC he;cases h;exact⟨_,rfl,.bC _,(λt a3 l k v aT=>by cases aT),λ_=>rfl⟩
   ·cases h
  ·cases h
 |gone=>simp only[lr] at h;cases h
theorem JK {f f' len c_:Nat->Nat}{P:Nat->Bool}(bR:uk m m' f f' P):∀{l:List ef}{j:Nat}{ρ:List fL}{z:n5 l×List fL},tk nw σ l j ρ=some z->n8 ρ->l.all (ef.tT P)=true->ui m z.2 f len->
 ∀idx b,l[idx]?=some b->((b.o9=true/\(uu f' len c_ l j z.1)[idx]?=some none)\/(b.o9=false/\∃id x fZ,kv z.2 (j+idx)=some id/\σ.heap.get id=some x/\(uu f' len c_ l j z.1)[idx]?=some (some fZ)/\t_ m m' x fZ/\
  (∀t a3 l k v,fZ=.arr t a3 l k v->v=c_ (j+idx))))
 |[],j,ρ,z,h,bE,hu,aU=>λidx b ah=>by simp at ah
 |b::l,j,ρ,z,h,bE,hu,aU=>by
  rw[List.all_cons,gQ] at hu;cases cj:b.o9 with
  |true=>
   cases b with
   |gone=>
    rw[Sj] at h;split at h
    ·rename_i fB ai;cases h;intro idx fZ ah;cases idx with
     |zero=>simp at ah;subst ah;exact .inl ⟨rfl,rfl⟩
     |succ idx=>
      have:=JK (c_:=c_) bR ai bE hu.2 aU idx fZ (by simpa using ah);rw[show j+(idx+1)=Nat.succ j+idx by omega];exact this
    ·cases h
   |box cs=>cases cj
   |arr t a3=>cases cj
   |bC t=>cases cj
  |false=>
   obtain⟨id,x,y,fB,bn,bB,dc,ek,iU,rfl⟩:=Si cj l j ρ h;obtain⟨dK,dh,gT⟩:=Sh ek;obtain⟨cW,dv,_⟩:=ye iU (dh bE);intro idx fZ ah;cases idx with
   |zero=>
    simp at ah;subst ah;obtain⟨fZ,aI,aQ,bq,_⟩:=apn bR ek hu.1 (aU.of cW) (c_ j);exact .inr ⟨cj,id,x,fZ,acW dv (λe he=>cW e (dK e he)) bn,bB,by show some (C1 f' len (c_ j) b y.1)=_;rw[aI],aQ,bq⟩
   |succ idx=>
    have:=JK (c_:=c_) bR iU (dh bE) hu.2 aU idx fZ (by simpa using ah);rw[show j+(idx+1)=Nat.succ j+idx by omega];exact this
end
def live (l:List ef)(k:Nat):Bool:=match l[k]? with
 |some b=> !b.o9
 |none=>false
def xc (l:List ef)(k:Nat):Bool:=match l[k]? with
 |some (.arr _ _)=>true
 |_=>false
def X3 (ρ:List fL)(l:List ef):Bool:=ρ.all λe=>match Nat.beq e.tag 2 with
 |true=>xc l e.k
 |false=>true
def aY.ok (p:aY):Bool:=p.kinds.all (fw.tT (live p.blocks))&&p.blocks.all (ef.tT (live p.blocks))
def JL (nw:Bool)(p:aY)(Rd:List fL)(vs:List V)(σ:bU):Option (U p×List fL):=match yf p.kinds Rd vs with
 |some y=>match tk nw σ p.blocks 0 y.2 with
  |some z=>match X3 z.2 p.blocks with
   |true=>some ((y.1,z.1),z.2)
   |false=>none
  |none=>none
 |none=>none
def Lw:List Nat->Bool
 |[]=>true
 |x::l=> !vv x l&&Lw l
theorem aev:∀{l:List Nat},Lw l=true->l.Nodup
 |[],_=>List.nodup_nil
 |x::l,h=>by
  rw[Lw,gQ,Bool.not_eq_true'] at h;rw[List.nodup_cons];exact⟨λhm=>(by rw[(yx _ _).2 hm] at h;cases h.1),aev h.2⟩
def KD (ρ:List fL)(j:Nat):Nat->Option (List Nat)
 |0=>some []
 |n+1=>match kv ρ j with
  |some id=>match KD ρ (Nat.succ j) n with
   |some l=>some (id::l)
   |none=>none
  |none=>none
theorem ach {ρ:List fL}:∀{n j:Nat}{l:List Nat},KD ρ j n=some l->l.length=n/\∀k,k<n->l[k]?=kv ρ (j+k)
 |0,j,l,h=>by cases h;exact⟨rfl,λk aX=>by omega⟩
 |n+1,j,l,h=>by
  rw[KD] at h;split at h
  ·rename_i id hid;split at h
   ·rename_i r aU;cases h;obtain⟨aa,af⟩:=ach aU;refine⟨by simp[aa],λk aX=>?_⟩;cases k with
    |zero=>simp[hid]
    |succ k=>rw[show j+(k+1)=Nat.succ j+k by omega,<-af k ab];simp
   ·cases h
  ·cases h
def putAt:List Nat->List (Option B)->T B->T B
 |i::l,b::r,t=>putAt l r (t.put i b)
 |_,_,t=>t
theorem Ba:∀{l:List Nat}{s9:List (Option B)}{t:T B}{i:Nat},i∉l->(putAt l s9 t).get i=t.get i
 |[],s9,t,i,_=>by cases s9<;>rfl
 |k::l,[],t,i,_=>rfl
 |k::l,b::r,t,i,h=>by
  rw[List.mem_cons,not_or] at h;rw[putAt,Ba h.2,bI.T.eQ _ _ h.1]
theorem A':∀{l:List Nat}{s9:List (Option B)}{t:T B}{i j:Nat}{b:Option B},l.Nodup->l[j]?=some i->s9[j]?=some b->(putAt l s9 t).get i=b
 |[],s9,t,i,j,b,_,h,_=>by simp at h
 |k::l,[],t,i,j,b,_,_,h=>by simp at h
 |k::l,cT::r,t,i,j,b,bj,aa,af=>by
  rw[List.nodup_cons] at bj;cases j with
  |zero=>
   simp at aa af;subst aa af;rw[putAt,Ba bj.1,bI.T.ij]
  |succ j=>
   show(putAt l r (t.put k cT)).get i=b;exact A' (j:=j) bj.2 (by simpa using aa) (by simpa using af)
def nZ (i:Nat):Nat->List Nat
 |0=>[]
 |n+1=>i::nZ (Nat.succ i) n
theorem Ck:∀{n i k:Nat},k<n->(nZ i n)[k]?=some (i+k)
 |n+1,i,0,_=>rfl
 |n+1,i,k+1,h=>by
  rw[nZ,List.getElem?_cons_succ,Ck ab];congr 1;omega
theorem X6:∀{n i:Nat},(nZ i n).length=n
 |0,_=>rfl
 |n+1,i=>by rw[nZ,gX,X6]
theorem IV {n i x:Nat}(h:x∈nZ i n):i<=x/\x<i+n:=by
 obtain⟨k,aX⟩:=List.mem_iff_getElem?.1 h;have bl:k<n:=by
  have:=(ep.1 aX).1
  rwa [X6] at this
 rw[Ck bl] at aX;cases aX;omega
theorem Q7:∀{n i:Nat},(nZ i n).Nodup
 |0,_=>List.nodup_nil
 |n+1,i=>by
  rw[nZ,List.nodup_cons];exact⟨λh=>by have:=(IV h).1;omega,Q7⟩
def yg (p:aY)(vs:List V)(σ:bU):Option (U p×List Nat):=match JL true p [] vs σ with
 |some y=>match KD y.2 0 p.blocks.length with
  |some ids=>match Lw ids&&p.ok&&p.blocks.all (λb=> !b.o9) with
   |true=>some (y.1,ids)
   |false=>none
  |none=>none
 |none=>none
def p0 (p:aY)(x:U p):bU:=⟨putAt (nZ 0 p.blocks.length) (uu (λk=>k) (lenOf x.2) (λ_=>0) p.blocks 0 x.2) .nil,p.blocks.length⟩
def KG (p:aY)(x:U p):List V:=og (λk=>k) (lenOf x.2) p.kinds x.1
section
variable{w eX:World}{m cX:M}{σ fk:bU}{p:aY}{vs:List V}{us:List Value}
theorem RB:∀(vs gi:List V)(us:List Value),cO (λv en=>∀u,eo m v u->eo m en u) vs gi->cO (eo m) vs us->cO (eo m) gi us
 |[],[],[]=>λ_ _=>trivial
 |[],[],_::_=>λ_ h=>h.elim
 |[],_::_,_=>λh _=>h.elim
 |_::_,[],_=>λh _=>h.elim
 |_::_,_::_,[]=>λ_ h=>h.elim
 |v::vs,en::gi,u::us=>λh k=>⟨h.1 u k.1,RB vs gi us h.2 k.2⟩
theorem R_ {f f' len:Nat->Nat}{P:Nat->Bool}(bR:uk m cX f f' P):∀{l:List fw}{x:r5 l}{us:List Value},l.all (fw.tT P)=true->cO (eo m) (og f len l x) us->cO (eo cX) (og f' len l x) us
 |[],x,us,_,h=>by
  match us,h with
  |[],_=>trivial
 |s::l,x,us,hu,h=>by
  rw[List.all_cons,gQ] at hu
  match us,h with
  |u::us,⟨aa,af⟩=>exact⟨R8 bR hu.1 aa,R_ bR hu.2 af⟩
theorem amF (bh:bQ m σ w){nw:Bool}{l:List ef}{ρ:List fL}{z:n5 l×List fL}(h:tk nw σ l 0 ρ=some z)(bE:n8 ρ)(bR:X3 z.2 l=true):ui m z.2 (λk=>(kv z.2 k).getD 0) (lenOf z.1):=by
 obtain⟨aa,af,ax⟩:=ye h bE;refine⟨λe he=>(by show(kv z.2 e.k).getD 0=e.id;rw[af e he];rfl),λe he cP A n c pR=>?_⟩;have:=List.all_eq_true.1 bR e he;rw[cP] at this;have this:xc l e.k=true:=this;unfold xc at this;split at this
 ·rename_i t a3 aX;obtain⟨id,x,aI,aQ,bq,cA,_⟩:=ax e.k _ aX rfl;obtain⟨t',wF,aQJ,v,rfl⟩:=cA ⟨t,a3,rfl⟩;rw[gd,af e he] at aI;cases aI;obtain⟨eZ,c',bn,_⟩:=bh.live _ _ aQ;rw[bn] at pR;cases pR;unfold lenOf;rw[bq];rfl
 ·cases this
theorem Z2 {nw:Bool}{Rd:List fL}{z:U p×List fL}(h:JL nw p Rd vs σ=some z):∃sU,yf p.kinds Rd vs=some (z.1.1,sU)/\tk nw σ p.blocks 0 sU=some (z.1.2,z.2)/\X3 z.2 p.blocks=true:=by
 unfold JL at h;split at h
 ·rename_i y cf;split at h
  ·rename_i fB ai;split at h
   ·rename_i bR;cases h;exact⟨y.2,cf,ai,bR⟩
   ·cases h
  ·cases h
 ·cases h
def r4 (iI:List ef)(m:M):Prop:=∀j iv,iI[j]?=some (.box iv)->m.pl j≠none
theorem JM {x:U p}{ids:List Nat}(h:yg p vs σ=some (x,ids))(bh:bQ m σ w)(aT:cO (eo m) vs us):ids.length=p.blocks.length/\ids.Nodup/\(∀i∈ids,i<σ.next)/\(∀i∈ids,∀cs,σ.heap.get i=some (.box cs)->m.pl i≠none)/\
 (∀j cY,(p0 p x).heap.get j=some cY->∃i b,ids[j]?=some i/\σ.heap.get i=some b)/\bQ (m.sub σ ids) (p0 p x) w/\cO (eo (m.sub σ ids)) (KG p x) us/\r4 p.blocks (m.sub σ ids):=by
 unfold yg at h;split at h
 ·rename_i y cf;split at h
  ·rename_i aQD abt;split at h
   ·rename_i ot;cases h;rw[gQ,gQ] at ot;obtain⟨ot,abP⟩:=ot;obtain⟨sU,aE,aP,bS⟩:=Z2 cf;obtain⟨i1,i2⟩:=ach abt;have AG:=aev ot.1;have jh:=ot.2;unfold aY.ok at jh;rw[gQ] at jh;obtain⟨dK,dh,gT,j7⟩:=Ak (m:=m) aE;have q4:n8 sU:=dh λe he=>by cases he
    have nQ:∀v∈vs,∃u,eo m v u:=λv asa=>by
     obtain⟨i,aj⟩:=List.mem_iff_getElem?.1 asa;obtain⟨u,_,hu⟩:=aT.get aj;exact⟨u,hu⟩
    have arz:∀e∈sU,e.tag=1->m.pl e.id≠none:=λe he bR=>by
     rcases j7 nQ e he bR with g|g
     ·cases g
     ·exact g
    obtain⟨cY,eT,gY⟩:=ye aP q4;obtain⟨cW,dv⟩:=Sk bh aP q4 arz;have D1:=amF bh aP q4 bS;have D5:uk m (m.sub σ ids) (λk=>(kv y.2 k).getD 0) (λk=>k) (live p.blocks):=by
     refine⟨iy.refl _,λk aX=>?_⟩;have bl:k<p.blocks.length:=by
      unfold live at aX;split at aX
      ·rename_i b ah;exact(ep.1 ah).1
      ·cases aX
     have aa:=i2 k bl;rw[gd] at aa;have af:ids[k]?=some (ids[k]'ab):=fG ab
     rw[af] at aa;simp only[<-aa,Option.getD_some];exact⟨λr aU=>by simp[M.sub,af,aU],λv aT=>by simp[M.sub,af,aT]⟩
    have aqO:=JK (f':=λk=>k) (c_:=λ_=>0) D5 aP q4 jh.2 D1;have Ay:∀j cY,(p0 p y.1).heap.get j=some cY->∃i b,ids[j]?=some i/\σ.heap.get i=some b/\t_ m (m.sub σ ids) b cY/\cY.c_=0:=λj cY aw=>by
     rcases kz j p.blocks.length with bl|mw
     ·have bL:=Ck (i:=0) bl;rw[gd] at bL;have sn:p.blocks[j]?=some (p.blocks[j]'bl):=fG bl
      rcases aqO j _ sn with⟨_,aI⟩|⟨_,id,b,fZ,aI,aQ,bq,cA,eP⟩
      ·have:=A' (t:=.nil) Q7 bL aI;have aw:(putAt _ _ T.nil).get j=some cY:=aw;rw[this] at aw;cases aw
      ·have:=A' (t:=.nil) Q7 bL bq;have aw:(putAt _ _ T.nil).get j=some cY:=aw;rw[this] at aw;cases aw;rw[gd] at aI;have aa:=i2 j bl;rw[gd,aI] at aa;refine⟨id,b,aa,aQ,cA,?_⟩;cases cY with
       |arr t a3 l k v=>exact eP _ _ _ _ _ rfl
       |box cs=>rfl
       |bC t=>rfl
     ·have aw:(putAt _ _ T.nil).get j=some cY:=aw;rw[Ba (λhm=>by have:=(IV hm).2;omega),bI.T.get_nil] at aw;cases aw
    have ma:∀i∈ids,∃k,k<p.blocks.length/\kv y.2 k=some i:=λi aj=>by
     obtain⟨k,aX⟩:=List.mem_iff_getElem?.1 aj;have bl:k<p.blocks.length:=by have:=(ep.1 aX).1;omega
     have aa:=i2 k bl;rw[gd] at aa;exact⟨k,bl,by rw[<-aa];exact aX⟩
    have aqQ:∀i∈ids,∀b,σ.heap.get i=some b->i<σ.next:=λi aj b ah=>by
     rcases kz i σ.next with g|g
     ·exact g
     ·rw[(bh.fresh i g).2.2.2] at ah;cases ah
    refine⟨i1,AG,λi aj=>?_,λi aj cs ah=>?_,λj cY aw=>?_,bh.sub AG (by rw[i1];rfl) Ay,R_ D5 jh.1 (RB _ _ _ (gT _ (lenOf y.1.2) (D1.of cY)) aT),λj iv aw=>?_⟩
    ·obtain⟨k,aX,aW⟩:=ma i aj;have sn:p.blocks[k]?=some (p.blocks[k]'aX):=fG aX
     have cj:(p.blocks[k]'aX).o9=false:=by simpa using List.all_eq_true.1 abP _ (List.mem_of_getElem? sn)
     obtain⟨id,x,aI,aQ,_⟩:=gY k _ sn cj;rw[gd,aW] at aI;cases aI;exact aqQ i aj x aQ
    ·obtain⟨k,aX,aW⟩:=ma i aj;have sn:p.blocks[k]?=some (p.blocks[k]'aX):=fG aX
     have cj:(p.blocks[k]'aX).o9=false:=by simpa using List.all_eq_true.1 abP _ (List.mem_of_getElem? sn)
     obtain⟨id,x,aI,aQ,_,_,bq,_⟩:=gY k _ sn cj;rw[gd,aW] at aI;cases aI;rw[ah] at aQ;cases aQ;obtain⟨iv,vF⟩:=bq ⟨cs,rfl⟩;exact dv k iv (by rw[sn,vF]) i (by rw[gd];exact aW)
    ·obtain⟨i,b,aI,aQ,_⟩:=Ay j cY aw;exact⟨i,b,aI,aQ⟩
    ·have bl:j<p.blocks.length:=(ep.1 aw).1;obtain⟨id,x,aI,_⟩:=gY j _ aw rfl;have aa:=i2 j bl;rw[aI] at aa;have af:=dv j iv aw id aI;show(ids[j]?).bind m.pl≠none;rw[aa];exact af
   ·cases h
  ·cases h
 ·cases h
end
def Mq (k:Nat):List fL:=(nZ 0 k).map λj=>⟨j,j,0⟩
def agI (a b:Option Nat):Bool:=match a with
 |some x=>match b with
  |some y=> !Nat.beq x y
  |none=>true
 |none=>true
def asx (ρ:List fL)(l:List ef):Bool:=(nZ 0 l.length).all λj=>(nZ 0 l.length).all λku=>Nat.beq j ku|| !live l j|| !live l ku||agI (kv ρ j) (kv ρ ku)
def De (p:aY)(k:Nat)(vs:List V)(σ:bU):Option (U p):=match JL false p (Mq k) vs σ with
 |some y=>match Nat.ble k p.blocks.length&&p.ok&&asx y.2 p.blocks with
  |true=>some y.1
  |false=>none
 |none=>none
def nW (σ:bU)(ids:List Nat)(n:Nat):List Nat:=ids++nZ σ.next (n-ids.length)
def uY (σ:bU)(ids:List Nat)(n k:Nat):Nat:=(nW σ ids n)[k]?.getD 0
def A6 (σ:bU)(ids:List Nat)(j:Nat):Nat:=match ids[j]? with
 |some i=>xH σ i+1
 |none=>0
def vX (σ:bU)(ids:List Nat)(p:aY)(y:U p):bU:=⟨putAt (nW σ ids p.blocks.length) (uu (uY σ ids p.blocks.length) (lenOf y.2) (A6 σ ids) p.blocks 0 y.2) σ.heap,σ.next+(p.blocks.length-ids.length)⟩
def Fg (σ:bU)(ids:List Nat)(p:aY)(y:U p):List V:=og (uY σ ids p.blocks.length) (lenOf y.2) p.kinds y.1
def z6 (σ:bU)(ids:List Nat)(l:List ef):Bool:=(nZ 0 ids.length).all λj=> !xc l j||(match ids[j]? with
 |some i=>match σ.heap.get i with
  |some (.arr _ _ _ _ _)=>true
  |_=>false
 |none=>false)
section
variable{w eX:World}{m cX:M}{σ kP fk:bU}{p:aY}{vs:List V}{us:List Value}{ids:List Nat}
theorem ayv:∀k,n8 (Mq k)/\∀j,j<k->(⟨j,j,0⟩:fL)∈Mq k:=λk=>by
 have mem:∀{e:fL},e∈Mq k->e.k=e.id:=λ{e} he=>by
  obtain⟨j,_,rfl⟩:=List.mem_map.1 he;rfl
 have key:∀{l:List fL},(∀e∈l,e.k=e.id)->∀e∈l,kv l e.k=some e.id:=by
  intro l;induction l with
  |nil=>intro _ e he;cases he
  |cons x l cu=>
   intro aW e he;rw[kv];split
   ·rename_i ah;have:=gB ah;rw[<-aW x m2,this,aW e he]
   ·rename_i ah;rcases List.mem_cons.1 he with rfl|he
    ·rw[Nat.beq_refl] at ah;cases ah
    ·exact cu (λe he=>aW e (List.mem_cons_of_mem _ he)) e he
 refine⟨key λe he=>mem he,λj aw=>List.mem_map.2 ⟨j,?_,rfl⟩⟩;have:=Ck (i:=0) aw;rw[gd] at this;exact List.mem_of_getElem? this
def y4:List Nat->Nat->Option Nat
 |[],_=>none
 |x::l,i=>if x=i then some 0 else(y4 l i).map (·+1)
theorem acv:∀{l:List Nat}{i j:Nat},y4 l i=some j->l[j]?=some i
 |x::l,i,j,h=>by
  rw[y4] at h;split at h
  ·rename_i he;cases h;simp[he]
  ·obtain⟨k,aX,rfl⟩:=Option.map_eq_some_iff.1 h;simpa using acv aX
theorem acu:∀{l:List Nat}{i j:Nat},l.Nodup->l[j]?=some i->y4 l i=some j
 |[],i,j,_,h=>by simp at h
 |x::l,i,0,_,h=>by simp at h;simp[y4,h]
 |x::l,i,j+1,bj,h=>by
  rw[List.nodup_cons] at bj;have h:l[j]?=some i:=by simpa using h
  have eN:x≠i:=λe=>bj.1 (by rw[e];exact List.mem_of_getElem? h);rw[y4,if_neg eN,acu bj.2 h];rfl
theorem agS (bj:ids.Nodup)(aW:∀i∈ids,i<σ.next)(n:Nat):(nW σ ids n).Nodup:=by
 unfold nW;rw[List.nodup_append];refine⟨bj,Q7,λa bZ b ah e=>?_⟩;have:=aW a bZ;have:=(IV ah).1;omega
theorem MC {n j:Nat}(aw:j<ids.length):(nW σ ids n)[j]?=ids[j]?:=by
 unfold nW;rw[mL aw]
theorem UH {n j:Nat}(aw:ids.length<=j)(az:j<n):(nW σ ids n)[j]?=some (σ.next+(j-ids.length)):=by
 unfold nW;rw[mM aw,Ck ab]
theorem UG {n:Nat}(h:ids.length<=n):(nW σ ids n).length=n:=by
 unfold nW;rw[bw,X6];omega
structure anX (p:aY)(k:Nat)(y:U p)(m:M)(σ:bU)(us:List Value)(f:Nat->Nat):Prop where
  ok:p.ok=true
  aX:k<=p.blocks.length
  vW:∀j,live p.blocks j=true->j<k->f j=j
  inj:∀j ku,live p.blocks j=true->live p.blocks ku=true->f j=f ku->j=ku
  IY:cO (eo m) (og f (lenOf y.2) p.kinds y.1) us
  aoz:∀(j:Nat)(b:ef),p.blocks[j]?=some b->b.o9=false->∃x,σ.heap.get (f j)=some x/\((∃t a3 l v,x=.arr t a3 l none v)->xc p.blocks j=true)/\
    ∀(f':Nat->Nat)(eR:M)(c_:Nat->Nat),uk m eR f f' (live p.blocks)->∃fZ,(uu f' (lenOf y.2) c_ p.blocks 0 y.2)[j]?=some (some fZ)/\t_ m eR x fZ/\∀t a3 l k v,fZ=.arr t a3 l k v->v=c_ j
  gone:∀(j:Nat)(b:ef),p.blocks[j]?=some b->b.o9=true->∀(f' c_:Nat->Nat),(uu f' (lenOf y.2) c_ p.blocks 0 y.2)[j]?=some none
def qd (p:aY)(k:Nat)(y:U p)(m:M)(σ:bU)(us:List Value):Prop:=∃f,anX p k y m σ us f
theorem Q6 {j n:Nat}(h:j<n):j∈nZ 0 n:=by
 have:=Ck (i:=0) h;rw[gd] at this;exact List.mem_of_getElem? this
theorem TN {l:List ef}{j:Nat}(h:live l j=true):∃b,l[j]?=some b/\b.o9=false:=by
 unfold live at h;split at h
 ·rename_i b ah;exact⟨b,ah,by simpa using h⟩
 ·cases h
theorem aaK {l:List ef}{j:Nat}{b:ef}(h:l[j]?=some b)(cj:b.o9=false):live l j=true:=by unfold live;rw[h];simp[cj]
theorem ZL (f len c_:Nat->Nat):∀{l:List ef}{i j:Nat}(x:n5 l){b:ef},l[j]?=some b->b.o9=true->(uu f len c_ l i x)[j]?=some none
 |[],i,j,x,b,h,_=>by simp at h
 |cT::l,i,0,x,b,h,cj=>by
  simp at h;subst h;cases cT with
  |gone=>rfl
  |box cs=>cases cj
  |arr t a3=>cases cj
  |bC t=>cases cj
 |cT::l,i,j+1,x,b,h,cj=>by
  show(uu f len c_ l (Nat.succ i) x.2)[j]?=some none;exact ZL f len c_ x.2 (by simpa using h) cj
theorem Sp {k:Nat}{y:U p}(af:bQ cX fk eX)(h:De p k vs fk=some y)(aT:cO (eo cX) vs us):qd p k y cX fk us:=by
 unfold De at h;split at h
 ·rename_i z ai;split at h
  ·rename_i ot;cases h;simp only[gQ] at ot;obtain⟨⟨aX,jh⟩,aq7⟩:=ot;have aX:=Nat.le_of_ble_eq_true aX;have arK:=jh;unfold aY.ok at jh;rw[gQ] at jh;obtain⟨sU,aE,aP,bS⟩:=Z2 ai;obtain⟨dK,dh,gT,j7⟩:=Ak (m:=cX) aE;obtain⟨ng,mB⟩:=ayv k;have q4:=dh ng;obtain⟨cY,eT,gY⟩:=ye aP q4;have D1:=amF af aP q4 bS;have Ko:∀j,j<k->kv z.2 j=some j:=λj aw=>eT _ (cY _ (dK _ (mB j aw)));have w4:∀j,live p.blocks j=true->j<p.blocks.length/\∃s,kv z.2 j=some s:=λj aw=>by
    obtain⟨b,ah,cj⟩:=TN aw;obtain⟨id,x,aI,_⟩:=gY j b ah cj;exact⟨(ep.1 ah).1,id,by rw[gd] at aI;exact aI⟩
   refine⟨λk=>(kv z.2 k).getD 0,arK,aX,λj aw bl=>(by show(kv z.2 j).getD 0=j;rw[Ko j bl];rfl),λj ku aw mb he=>?_,RB _ _ _ (gT _ (lenOf z.1.2) (D1.of cY)) aT,λj b ah cj=>?_,λj b ah cj f' c_=>ZL _ _ _ _ ah cj⟩
   ·obtain⟨az,s,aM⟩:=w4 j aw;obtain⟨tA,eE,pW⟩:=w4 ku mb;simp only[aM,pW,Option.getD_some] at he;subst he;have:=List.all_eq_true.1 (List.all_eq_true.1 aq7 j (Q6 az)) ku (Q6 tA);rw[aw,mb,aM,pW] at this;cases uz:Nat.beq j ku with
    |true=>exact gB uz
    |false=>
     rw[uz] at this;simp[agI] at this
   ·obtain⟨id,x,cx,cI,dw,fh,kJ,mE⟩:=gY j b ah cj;rw[gd] at cx;refine⟨x,by simp only[cx,Option.getD_some];exact cI,λaO=>?_,λf' eR c_ bR=>?_⟩
    ·obtain⟨t,a3,he⟩:=mE aO;unfold xc;rw[ah,he]
    ·rcases JK (f':=f') (c_:=c_) bR aP q4 jh.2 D1 j b ah with⟨j0,_⟩|⟨_,yW,jn,fZ,aI,aQ,bq,cA,eP⟩
     ·rw[cj] at j0;cases j0
     ·rw[gd,cx] at aI;cases aI;rw[cI] at aQ;cases aQ;rw[gd] at eP;exact⟨fZ,bq,cA,eP⟩
  ·cases h
 ·cases h
theorem KT {y:U p}(bh:bQ m σ w)(bj:ids.Nodup)(aW:∀i∈ids,i<σ.next)(SN:∀i∈ids,∀cs,σ.heap.get i=some (.box cs)->m.pl i≠none)(tB:kP.next=ids.length)(aD:∀j cY,kP.heap.get j=some cY->∃i b,ids[j]?=some i/\σ.heap.get i=some b)(af:bQ cX fk eX)(st:Step (m.sub σ ids) kP w cX fk eX)(h:qd p ids.length y cX fk us)(bZ:z6 σ ids p.blocks=true):
 ∃eR,bQ eR (vX σ ids p y) eX/\Step m σ w eR (vX σ ids p y) eX/\cO (eo eR) (Fg σ ids p y) us:=by
 obtain⟨f,an⟩:=h;have aX:=an.aX;have jh:=an.ok;unfold aY.ok at jh;rw[gQ] at jh;have w4:∀j,live p.blocks j=true->j<p.blocks.length:=λj aw=>by
  obtain⟨b,ah,_⟩:=TN aw;exact(ep.1 ah).1
 have A9:=agS (σ:=σ) bj aW p.blocks.length;obtain⟨pos,lR⟩:∃pos,pos=nW σ ids p.blocks.length:=⟨_,rfl⟩;obtain⟨ex,hex⟩:∃ex:Nat->Option Nat,ex=λi=>match y4 pos i with
  |some j=>if live p.blocks j=true then some (f j) else none
  |none=>none:=⟨_,rfl⟩
 have JP:∀{i s:Nat},ex i=some s->∃j,pos[j]?=some i/\live p.blocks j=true/\f j=s:=λ{i s} h=>by
  rw[hex] at h;simp only at h;split at h
  ·rename_i j aw;split at h
   ·rename_i yM;exact⟨j,acv aw,yM,by cases h;rfl⟩
   ·cases h
  ·cases h
 have aab:∀{j i:Nat},pos[j]?=some i->live p.blocks j=true->ex i=some (f j):=λ{j i} aa af=>by
  rw[hex];simp only
  rw[acu (by rw[lR];exact A9) aa];simp only
  rw[if_pos af]
 have aad:Yq σ ids ex (vX σ ids p y).next:=by
  refine⟨λi s h bl=>?_,λi s h mw=>?_,λi dR s h h'=>?_⟩
  ·obtain⟨j,aI,aQ,bq⟩:=JP h;rcases kz j ids.length with aw|aw
   ·rw[lR,MC aw] at aI;rw[an.vW j aQ aw] at bq;rw[<-bq];exact aI
   ·rw[lR,UH aw (w4 j aQ)] at aI;cases aI;omega
  ·obtain⟨j,aI,aQ,bq⟩:=JP h;rcases kz j ids.length with aw|aw
   ·rw[lR,MC aw] at aI;have:=aW i (List.mem_of_getElem? aI);omega
   ·have nc:=w4 j aQ;rw[lR,UH aw nc] at aI;cases aI;show _<σ.next+(p.blocks.length-ids.length);omega
  ·obtain⟨j,aI,aQ,bq⟩:=JP h;obtain⟨ku,Dn,JV,ap3⟩:=JP h';have:=an.inj j ku aQ JV (bq.trans ap3.symm);subst this;rw[aI] at Dn;cases Dn;rfl
 have low:∀{s i:Nat},ids[s]?=some i->s<kP.next:=λ{s i} aM=>by rw[tB];exact(ep.1 aM).1
 have zw:∀{i s:Nat},ex i=some s->(m.glue σ cX fk ex).pl i=cX.pl s:=λ{i s} he=>by
  show(if i<σ.next then _ else _)=_;split
  ·rename_i bl;have aM:=aad.vW i s he bl;rw[st.iK.pl s (low aM)];simp[M.sub,aM]
  ·rw[he];rfl
 have avi:∀{k:Nat},live p.blocks k=true->∃i,pos[k]?=some i/\uY σ ids p.blocks.length k=i/\ex i=some (f k):=λ{k} sv=>by
  have aa:=w4 k sv;obtain⟨i,bL⟩:∃i,pos[k]?=some i:=⟨_,fG (by rw[lR,UG aX];exact aa)⟩;refine⟨i,bL,?_,aab bL sv⟩;unfold uY;rw[<-lR,bL];rfl
 have D5:uk cX (m.glue σ cX fk ex) f (uY σ ids p.blocks.length) (live p.blocks):=by
  refine⟨iy.refl _,λk sv=>?_⟩;obtain⟨i,aI,aQ,cA⟩:=avi sv;simp only[aQ];refine⟨λr aU=>by rw[zw cA];exact aU,λv aT=>?_⟩;show(match ex i with|some s=>cX.bj s|none=>m.bj i)=_;rw[cA];exact aT
 have key:=bh.glue (lZ:=vX σ ids p y) aW tB aD SN af st aad (Nat.le_add_right _ _) (λi arG bl=>?_) (λi aoA aj qw=>?_)
 ·exact⟨_,key.1,key.2,R_ D5 jh.1 an.IY⟩
 ·show(putAt _ _ σ.heap).get i=_;refine Ba λhm=>?_;unfold nW at hm;rcases List.mem_append.1 hm with g|g
  ·exact arG g
  ·have:=(IV g).1;omega
 ·have aj:(putAt (nW σ ids p.blocks.length) _ σ.heap).get i=some aoA:=aj;have S8:i∈nW σ ids p.blocks.length:=Classical.byContradiction λaz=>by
   rw[Ba az] at aj;rcases qw with g|g
   ·exact az (by unfold nW;exact List.mem_append_left _ g)
   ·rw[(bh.fresh i g).2.2.2] at aj;cases aj
  obtain⟨j,aw⟩:=List.mem_iff_getElem?.1 S8;have nc:j<p.blocks.length:=by
   have:=(ep.1 aw).1
   rwa [UG aX] at this
  have sn:p.blocks[j]?=some (p.blocks[j]'nc):=fG nc
  cases cj:(p.blocks[j]'nc).o9 with
  |true=>
   rw[A' A9 aw (an.gone j _ sn cj _ _)] at aj;cases aj
  |false=>
   obtain⟨x,aQ,ap9,bq⟩:=an.aoz j _ sn cj;obtain⟨fZ,cA,eP,fy⟩:=bq _ _ (A6 σ ids) D5;rw[A' A9 aw cA] at aj;cases aj;have DS:=aaK sn cj;refine⟨f j,x,aab (by rw[lR];exact aw) DS,aQ,eP,λt a3 l k j5 ah=>?_⟩;have Tm:=fy t a3 l k j5 ah;subst Tm;unfold tM;rcases kz j ids.length with DL|DL
   ·rw[MC DL] at aw;have bl:=aW i (List.mem_of_getElem? aw);rw[if_neg ab];have ara:xc p.blocks j=true:=by
     subst ah;cases eP with
     |arr c_ j5=>exact ap9 ⟨_,_,_,_,rfl⟩
    have:=List.all_eq_true.1 bZ j (Q6 DL);rw[ara,aw] at this;simp only[Bool.not_true,Bool.false_or] at this;split at this
    ·rename_i t0 aPc xe ba v0 abp;(try rw[abp]);simp only[A6,aw,xH,abp,B.c_]
    ·cases this
   ·rw[UH DL nc] at aw;cases aw;rw[if_pos ab];have:ids[j]?=none:=List.getElem?_eq_none DL;simp[A6,this]
theorem ani {f f' len:Nat->Nat}{P:Nat->Bool}{m m':M}(bR:uk m m' f f' P):∀{l:List fw}{x:r5 l},l.all (fw.tT P)=true->((og f' len l x).map wm).length=((og f len l x).map wm).length/\
 ∀(j:Nat) c',((og f' len l x).map wm)[j]?=some c'->∃c,((og f len l x).map wm)[j]?=some c/\∀v,dz m c v->dz m' c' v
 |[],x,_=>⟨rfl,λj c' h=>by simp[og] at h⟩
 |s::l,x,hu=>by
  rw[List.all_cons,gQ] at hu;obtain⟨aa,af⟩:=ani (len:=len) (x:=x.2) bR hu.2;rw[JF,JF,List.map_cons,List.map_cons];refine⟨by simp[aa],λj c' aw=>?_⟩;cases j with
  |zero=>
   simp at aw;subst aw;refine⟨_,rfl,λv aT=>?_⟩;have key:=R8 (len:=len) (x:=x.1) (u:=v) bR hu.1;cases s with
   |agg t=>exact aT
   |sJ t nl=>exact aT
   |_=>exact key aT
  |succ j=>
   obtain⟨c,aI,aQ⟩:=af j c' (by simpa using aw);exact⟨c,by simpa using aI,aQ⟩
theorem ZK (f len c_:Nat->Nat):∀{l:List ef}{i j:Nat}(x:n5 l){b:ef},l[j]?=some b->∃z:kX b,∀(f:Nat->Nat)(c_:Nat->Nat),(uu f len c_ l i x)[j]?=some (C1 f len (c_ (i+j)) b z)
 |[],i,j,x,b,h=>by simp at h
 |cT::l,i,0,x,b,h=>by
  simp at h;subst h;exact⟨x.1,λf c_=>rfl⟩
 |cT::l,i,j+1,x,b,h=>by
  obtain⟨z,ai⟩:=ZK f len c_ (i:=Nat.succ i) x.2 (by simpa using h);exact⟨z,λf c_=>by
   show(uu f len c_ l (Nat.succ i) x.2)[j]?=_;rw[ai,show Nat.succ i+j=i+(j+1) by omega]⟩
theorem ayF {y:U p}{k:Nat}{eR:M}(h:qd p ids.length y cX fk us)(bj:ids.Nodup)(aW:∀i∈ids,i<σ.next)(aT:cO (eo eR) (Fg σ ids p y) us)(aX:ids.length=k)(sw:k<=σ.next)(hold:∀j,live p.blocks j=true->j<k->ids[j]?=some j):
 qd p k y eR (vX σ ids p y) us:=by
 obtain⟨f,an⟩:=h;subst aX;have jh:=an.ok;unfold aY.ok at jh;rw[gQ] at jh;have A9:=agS (σ:=σ) bj aW p.blocks.length;have w4:∀j,live p.blocks j=true->j<p.blocks.length:=λj aw=>by
  obtain⟨b,ah,_⟩:=TN aw;exact(ep.1 ah).1
 have fQ:∀j,live p.blocks j=true->(nW σ ids p.blocks.length)[j]?=some (uY σ ids p.blocks.length j):=λj aw=>by
  unfold uY;have:(nW σ ids p.blocks.length)[j]?=some ((nW σ ids p.blocks.length)[j]'(by rw[UG an.aX];exact w4 j aw)):=fG _
  rw[this];rfl
 refine⟨uY σ ids p.blocks.length,an.ok,an.aX,λj aw bl=>?_,λj ku aw mb he=>?_,aT,λj b ah cj=>?_,an.gone⟩
 ·have aa:=fQ j aw;rw[MC bl,hold j aw bl] at aa;exact(eF aa).symm
 ·have aa:=fQ j aw;rw[he] at aa;exact idx_eq A9 aa (fQ ku mb)
 ·have aw:=aaK ah cj;obtain⟨z,ai⟩:=ZK (uY σ ids p.blocks.length) (lenOf y.2) (A6 σ ids) (i:=0) y.2 ah;have hu:b.tT (live p.blocks)=true:=List.all_eq_true.1 jh.2 b (List.mem_of_getElem? ah);obtain⟨cY,aD⟩:∃cY,C1 (uY σ ids p.blocks.length) (lenOf y.2) (A6 σ ids (0+j)) b z=some cY:=by
   cases b with
   |gone=>cases cj
   |box cs=>exact⟨_,rfl⟩
   |arr t a3=>exact⟨_,rfl⟩
   |bC t=>exact⟨_,rfl⟩
  refine⟨cY,?_,λaO=>?_,λf' mS c_ bR=>?_⟩
  ·show(putAt _ _ σ.heap).get _=_;rw[A' A9 (fQ j aw) (ai _ _),aD]
  ·obtain⟨t,a3,l,v,rfl⟩:=aO;unfold xc;rw[ah];cases b with
   |arr t a3=>rfl
   |gone=>cases cj
   |box cs=>cases aD
   |bC t=>cases aD
  ·rw[ai];cases b with
   |gone=>cases cj
   |arr t a3=>
    cases aD;exact⟨_,rfl,.arr _ _,λt a3 l k v aT=>by cases aT;rw[gd]⟩
   |bC t=>
    cases aD;exact⟨_,rfl,.bC _,λt a3 l k v aT=>by cases aT⟩
   |box cs=>
    cases aD;obtain⟨cx,cI⟩:=ani (len:=lenOf y.2) (x:=z) bR hu;exact⟨_,rfl,.box cx cI,λt a3 l k v aT=>by cases aT⟩
end
def ym (c:C)(σ:bU):Option (C×bU):=match c with
 |.a4 id n=>match σ.heap.get id with
  |some (.arr t a3 l none c_)=>some (.row t l .no,⟨σ.heap.put id none,σ.next⟩)
  |_=>none
 |.u7 id dA n sz=>match σ.heap.get id with
  |some (.arr t a3 l none c_)=>match Nat.beq t.length sz with
   |true=>some (.row t (oG l dA n) .no,⟨σ.heap.put id none,σ.next⟩)
   |false=>none
  |_=>none
 |c=>some (c,σ)
def yn:List C->bU->Option (List C×bU)
 |[],σ=>some ([],σ)
 |c::l,σ=>match ym c σ with
  |some y=>match yn l y.2 with
   |some z=>some (y.1::z.1,z.2)
   |none=>none
  |none=>none
def qY (s:fw)(v:V)(σ:bU):Option (V×bU):=match s with
 |.leaf _=>match v with
  |.p (.c c)=>match ym c σ with
   |some y=>some (.p (.c y.1),y.2)
   |none=>none
  |v=>some (v,σ)
 |.agg _=>match v with
  |.p (.agg cs)=>match yn cs σ with
   |some y=>some (.p (.agg y.1),y.2)
   |none=>none
  |v=>some (v,σ)
 |.sJ _ _=>match v with
  |.p (.agg cs)=>match yn cs σ with
   |some y=>some (.p (.agg y.1),y.2)
   |none=>none
  |v=>some (v,σ)
 |.tok t _ _=>match v with
  |.p (.c .dm)=>some (.p (.c (.row t L.nil (.dV σ.next (t.map λ_=>true) t.length))),⟨σ.heap.put σ.next (some (.bC t)),σ.next+1⟩)
  |v=>some (v,σ)
 |.arr _ t a3=>match v with
  |.p (.c .dm)=>some (.p (.c (.a4 σ.next 0)),⟨σ.heap.put σ.next (some (.arr t a3 L.nil none 0)),σ.next+1⟩)
  |v=>some (v,σ)
 |_=>some (v,σ)
def qu:List fw->List V->bU->Option (List V×bU)
 |s::l,v::vs,σ=>match qY s v σ with
  |some y=>match qu l vs y.2 with
   |some z=>some (y.1::z.1,z.2)
   |none=>none
  |none=>none
 |_,vs,σ=>some (vs,σ)
section
variable{w:World}{m:M}{σ bd:bU}
theorem Step.drop {m':M}{i:Nat}{b:B}(h:bQ m σ w)(aj:σ.heap.get i=some b)(ah:(∀q,b≠.box q)\/m.pl i≠none)(e:jR σ.next m m')(k:hG m σ w m' ⟨σ.heap.put i none,σ.next⟩ w):Step m σ w m' ⟨σ.heap.put i none,σ.next⟩ w:=⟨e,k,Nat.le_refl _,λj cs aw bL=>Ft aj ah aw bL none⟩
theorem aaE {c c':C}{u:Value}(h:ym c σ=some (c',bd))(bh:bQ m σ w)(an:dz m c u):∃m',Step m σ w m' bd w/\bQ m' bd w/\dz m' c' u:=by
 unfold ym at h;split at h
 ·rename_i id n;split at h
  ·rename_i t a3 l c_ aj;cases h;obtain⟨A,cp,aa,af,ax,a8⟩:=an;obtain⟨m',aI,aQ,bq,cA⟩:=bh.aaD aj (by rw[af]);exact⟨m',.drop bh aj (.inl λq aA=>by cases aA) aI cA,bq,aQ,trivial⟩
  ·cases h
 ·rename_i id dA n sz;split at h
  ·rename_i t a3 l c_ aj;split at h
   ·rename_i fD;have fD:=gB fD;subst fD;cases h;obtain⟨A,cp,rfl,af,ax,a8⟩:=an;obtain⟨anQ,pI,aE,_⟩:=bh.live id _ aj;obtain⟨m',aI,aQ,bq,cA⟩:=bh.aaD aj aE;refine⟨m',.drop bh aj (.inl λq aA=>by cases aA) aI cA,bq,?_,trivial⟩;have hlen:n≠0->(oG l dA n).1.length=n:=λaz=>by
     obtain⟨b,k,cW,cx,cI,dw⟩:=a8 az;rw[cx] at aE;cases aE;show((l.1.drop dA).take n).length=n;rw[List.length_take,List.length_drop];omega
    simp only[dU];by_cases az:n=0
    ·subst az;have aT:(oG l dA 0).1=[]:=by simp[oG]
     exact⟨A,cp,by rw[aT];rfl,by rw[aT];exact Nat.zero_le _,λq=>absurd aT q⟩
    ·obtain⟨b,k,cW,cx,rfl,dw⟩:=a8 az;rw[cx] at aE;cases aE;simp only[dU] at aQ;obtain⟨Yh,dv,g_,gl,jl⟩:=aQ;cases g_;have eN:l.1≠[]:=λq=>by
      have ba:l.1.length=0:=by rw[q];rfl
      rw[ba] at dw;exact az (Nat.le_zero.1 (jF (Nat.le_add_left n dA) dw))
     obtain⟨fZ,fF,s1,s2⟩:=jl eN;cases s1;refine⟨_,cp,by rw[hlen az],by rw[hlen az];exact af,λ_=>⟨b,dA*t.length,rfl,λi e he=>?_⟩⟩;have fA:((l.1.drop dA).take n)[i]?=some e:=he;have bl:i<n:=by
      have:=(ep.1 fA).1;rw[List.length_take] at this;omega
     rw[List.getElem?_take,if_pos bl,List.getElem?_drop] at fA;have:=s2 (dA+i) e fA
     rwa [gd,iQ] at this
   ·cases h
  ·cases h
 ·cases h;exact⟨m,Step.refl ..,bh,an⟩
theorem Sz:∀{l eG:List C}{us:List Value}{m:M}{σ bd:bU},yn l σ=some (eG,bd)->bQ m σ w->cO (dz m) l us->∃m',Step m σ w m' bd w/\bQ m' bd w/\cO (dz m') eG us
 |[],eG,us,m,σ,bd,h,bh,aT=>by cases h;exact⟨m,Step.refl ..,bh,aT⟩
 |c::l,eG,us,m,σ,bd,h,bh,aT=>by
  rw[yn] at h;split at h
  ·rename_i y cf;split at h
   ·rename_i z ai;cases h
    match us,aT with
    |u::us,⟨aa,af⟩=>
     obtain⟨eB,s1,bn,cW⟩:=aaE cf bh aa;obtain⟨cX,s2,bB,dv⟩:=Sz ai bn (af.imp λ_ _=>dz.ext s1.iK.ext);exact⟨cX,s1.trans bh s2,bB,cW.ext s2.iK.ext,dv⟩
   ·cases h
  ·cases h
theorem apV {s:fw}{v en:V}{u:Value}(h:qY s v σ=some (en,bd))(bh:bQ m σ w)(aT:eo m v u):∃m',Step m σ w m' bd w/\bQ m' bd w/\eo m' en u:=by
 unfold qY at h;split at h
 ·split at h
  ·split at h
   ·rename_i c y cf;cases h;exact aaE cf bh aT
   ·cases h
  ·cases h;exact⟨m,Step.refl ..,bh,aT⟩
 ·split at h
  ·split at h
   ·rename_i cs y cf;cases h;obtain⟨vs,rfl,af⟩:=aT;obtain⟨m',s1,bn,cW⟩:=Sz cf bh af;exact⟨m',s1,bn,vs,rfl,cW⟩
   ·cases h
  ·cases h;exact⟨m,Step.refl ..,bh,aT⟩
 ·split at h
  ·split at h
   ·rename_i cs y cf;cases h;obtain⟨vs,rfl,af⟩:=aT;obtain⟨m',s1,bn,cW⟩:=Sz cf bh af;exact⟨m',s1,bn,vs,rfl,cW⟩
   ·cases h
  ·cases h;exact⟨m,Step.refl ..,bh,aT⟩
 ·rename_i t k nl;split at h
  ·cases h;obtain⟨aI,aQ,bq⟩:=bh.T_ t;have hu:u=.slice none 0 0:=aT;subst hu;exact⟨_,.put bh aI bq,aQ,dU.nil _ t,by simp[M.eH],n9.nil⟩
  ·cases h;exact⟨m,Step.refl ..,bh,aT⟩
 ·rename_i k t a3;split at h
  ·cases h;obtain⟨m',aI,aQ,bq,cA⟩:=bh.T8 t a3;have hu:u=.slice none 0 0:=aT;subst hu;exact⟨_,.put bh aI bq,aQ,none,0,rfl,cA,λh=>absurd rfl h,ab⟩
  ·cases h;exact⟨m,Step.refl ..,bh,aT⟩
 ·cases h;exact⟨m,Step.refl ..,bh,aT⟩
theorem Dl:∀{l:List fw}{vs gi:List V}{us:List Value}{m:M}{σ bd:bU},qu l vs σ=some (gi,bd)->bQ m σ w->cO (eo m) vs us->∃m',Step m σ w m' bd w/\bQ m' bd w/\cO (eo m') gi us
 |[],vs,gi,us,m,σ,bd,h,bh,aT=>by
  have h:some (vs,σ)=some (gi,bd):=by cases vs<;>exact h
  cases h;exact⟨m,Step.refl ..,bh,aT⟩
 |s::l,[],gi,us,m,σ,bd,h,bh,aT=>by cases h;exact⟨m,Step.refl ..,bh,aT⟩
 |s::l,v::vs,gi,us,m,σ,bd,h,bh,aT=>by
  rw[qu] at h;split at h
  ·rename_i y cf;split at h
   ·rename_i z ai;cases h
    match us,aT with
    |u::us,⟨aa,af⟩=>
     obtain⟨eB,s1,bn,cW⟩:=apV cf bh aa;obtain⟨cX,s2,bB,dv⟩:=Dl ai bn (af.imp λ_ _=>eo.ext s1.iK.ext);exact⟨cX,s1.trans bh s2,bB,cW.ext s2.iK.ext,dv⟩
   ·cases h
  ·cases h
theorem bQ.aNR {i r:Nat}{cs l:List C}{cur:Array Value}{ty:TypeId}{cm:Nat×Nat}(h:bQ m σ w)(aj:σ.heap.get i=some (.box cs))(aU:m.pl i=some r)(hw:w.heap[r]?=some (.cells cur ty cm))(aT:cO (dz m) l cur.toList):
 bQ m ⟨σ.heap.put i (some (.box l)),σ.next⟩ w/\Step m σ w m ⟨σ.heap.put i (some (.box l)),σ.next⟩ w:=by
 have DS:=h.live i _ aj;rcases DS with g|⟨mF,hU,jm,jI,aa,af,ax,a8,cn,da,dS⟩
 ·rw[aU] at g;cases g
 rw[aU] at aa;cases aa;rw[hw] at af;cases af;have key:=h.change (m':=m) (w':=w) (bd:=⟨σ.heap.put i (some (.box l)),σ.next⟩) (λj=>j=i) (Ext.refl m) ⟨rfl,rfl,rfl⟩ (Nat.le_refl _) (λj aw=>?_) (λj b aw ah=>?_) (λj aw=>⟨bI.T.eQ _ _ aw,rfl,rfl⟩)
  (λb ah aO=>⟨rfl,rfl,rfl⟩) (λj k _ _ _ aw aX _ _ _ _=>aw.trans aX.symm) (λj x R aw _ fp=>.inr (.inl ⟨i,_,rfl,aj,aw▸fp⟩)) h.own (λb R k aa af=>absurd aa af) h.stay
 ·refine⟨key.1,jR.refl _ m,key.2,Nat.le_refl _,λj lL aw bL=>Ft aj (.inr (by rw[aU];simp)) aw bL _⟩
 ·obtain⟨aI,aQ,bq,cA⟩:=h.fresh j aw;refine⟨aI,aQ,bq,?_⟩;rw[bI.T.m8];split
  ·subst_vars;rw[aI] at aU;cases aU
  ·exact cA
 ·subst aw;simp only[bI.T.ij] at ah;cases ah;have hlen:=aT.length;rw[Array.length_toList] at hlen;refine .inr ⟨r,cur,ty,cm,aU,hw,ax,hlen.symm,λk c an=>?_,da,dS⟩;obtain⟨v,bn,bB⟩:=aT.get an;exact⟨v,by simpa using bn,bB⟩
def EB (i:Nat)(iv:List fw)(σ:bU):Option bU:=match σ.heap.get i with
 |some (.box cs)=>match qu iv (cs.map λc=>.p (.c c)) σ with
  |some z=>match z.2.heap.get i with
   |some (.box _)=>some ⟨z.2.heap.put i (some (.box (z.1.map wm))),z.2.next⟩
   |_=>none
  |none=>none
 |_=>none
theorem anh:∀{vs:List V}{us:List Value},(∀v∈vs,∃c,v=.p (.c c))->cO (eo m) vs us->cO (dz m) (vs.map wm) us
 |[],[],_,_=>trivial
 |v::vs,u::us,bL,⟨aa,af⟩=>by
  refine⟨?_,anh (λv aT=>bL v (List.mem_cons_of_mem _ aT)) af⟩;obtain⟨c,rfl⟩:=bL v m2;exact aa
theorem apS {s:fw}{c:C}{en:V}(h:qY s (.p (.c c)) σ=some (en,bd)):∃c',en=.p (.c c'):=by
 cases s with
 |leaf l=>
  simp only[qY] at h;split at h
  ·cases h;exact⟨_,rfl⟩
  ·cases h
 |tok t k nl=>
  simp only[qY] at h;split at h
  ·cases h;exact⟨_,rfl⟩
  ·cases h;exact⟨_,rfl⟩
 |arr k t a3=>
  simp only[qY] at h;split at h
  ·cases h;exact⟨_,rfl⟩
  ·cases h;exact⟨_,rfl⟩
 |_=>cases h;exact⟨_,rfl⟩
theorem aaF:∀{l:List fw}{vs gi:List V}{σ bd:bU},qu l vs σ=some (gi,bd)->(∀v∈vs,∃c,v=.p (.c c))->∀v∈gi,∃c,v=.p (.c c)
 |[],vs,gi,σ,bd,h,bL=>by
  have h:some (vs,σ)=some (gi,bd):=by cases vs<;>exact h
  cases h;exact bL
 |s::l,[],gi,σ,bd,h,bL=>by cases h;exact bL
 |s::l,v::vs,gi,σ,bd,h,bL=>by
  rw[qu] at h;split at h
  ·rename_i y cf;split at h
   ·rename_i z ai;cases h;intro en uG;obtain⟨c,rfl⟩:=bL v m2;rcases List.mem_cons.1 uG with rfl|uG
    ·exact apS cf
    ·exact aaF ai (λv aT=>bL v (List.mem_cons_of_mem _ aT)) en uG
   ·cases h
  ·cases h
theorem aey {i r:Nat}{iv:List fw}(h:EB i iv σ=some bd)(bh:bQ m σ w)(aU:m.pl i=some r):∃m',Step m σ w m' bd w/\bQ m' bd w:=by
 unfold EB at h;split at h
 ·rename_i cs aj;split at h
  ·rename_i z ai;split at h
   ·rename_i aPf SY;cases h;rcases bh.live i _ aj with g|⟨mF,cur,ty,cm,aa,af,ax,a8,cn,da,dS⟩
    ·rw[aU] at g;cases g
    rw[aU] at aa;cases aa;have lg:∀{cs:List C}{vs:List Value},vs.length=cs.length->(∀(j:Nat) c,cs[j]?=some c->∃v,vs[j]?=some v/\dz m c v)->cO (eo m) (cs.map λc=>.p (.c c)) vs:=by
     intro cs;induction cs with
     |nil=>intro vs aW _;match vs,aW with|[],_=>trivial
     |cons c cs cu=>
      intro vs aW an
      match vs,aW with
      |v::vs,aW=>
       obtain⟨en,bn,bB⟩:=an 0 c rfl;simp at bn;subst bn;exact⟨bB,cu (by simpa using aW) λj c aw=>by
        obtain⟨en,bn,bB⟩:=an (j+1) c (by simpa using aw);exact⟨en,by simpa using bn,bB⟩⟩
    have nQ:=lg (cs:=cs) (vs:=cur.toList) (by rw[Array.length_toList];exact a8) λj c aw=>by
     obtain⟨v,bn,bB⟩:=cn j c aw;exact⟨v,by simpa using bn,bB⟩
    obtain⟨eB,s1,bn,cW⟩:=Dl ai bh nQ;have yQ:eB.pl i=some r:=s1.iK.ext.pl i r aU;have aqT:=anh (aaF ai λv aT=>by
     obtain⟨c,_,rfl⟩:=List.mem_map.1 aT;exact⟨c,rfl⟩) cW
    obtain⟨cx,cI⟩:=bn.aNR SY yQ af aqT;exact⟨eB,s1.trans bh cI,cx⟩
   ·cases h
  ·cases h
 ·cases h
def zo (jr iI:List ef):List Nat->bU->Option bU
 |[],σ=>some σ
 |j::l,σ=>match jr[j]? with
  |some (.box _)=>match iI[j]? with
   |some (.box iv)=>match EB j iv σ with
    |some bd=>zo jr iI l bd
    |none=>none
   |_=>zo jr iI l σ
  |_=>zo jr iI l σ
theorem EC {jr iI:List ef}:∀{l:List Nat}{m:M}{σ bd:bU},zo jr iI l σ=some bd->bQ m σ w->r4 jr m->∃m',Step m σ w m' bd w/\bQ m' bd w
 |[],m,σ,bd,h,bh,bL=>by
  have h:some σ=some bd:=h;cases h;exact⟨m,Step.refl ..,bh⟩
 |j::l,m,σ,bd,h,bh,bL=>by
  unfold zo at h;split at h
  ·rename_i asW aw;split at h
   ·split at h
    ·rename_i kP aM;cases aU:m.pl j with
     |none=>exact absurd aU (bL j asW aw)
     |some r=>
      obtain⟨eB,s1,bn⟩:=aey aM bh aU;obtain⟨cX,s2,bB⟩:=EC h bn λi iv aj=>by
       have:=bL i iv aj;cases aA:m.pl i with
       |none=>exact absurd aA this
       |some r=>rw[s1.iK.ext.pl i r aA];simp
      exact⟨cX,s1.trans bh s2,bB⟩
    ·cases h
   ·exact EC h bh bL
  ·exact EC h bh bL
theorem r4.ext {iI:List ef}{m m':M}(h:r4 iI m)(e:Ext m m'):r4 iI m':=λj iv aw=>by
 have:=h j iv aw;cases aA:m.pl j with
 |none=>exact absurd aA this
 |some r=>rw[e.pl j r aA];simp
end
inductive l2
  |normal
  |exit (i:Nat)
  |ret
def Sn:l2->l2->Bool
 |.normal,.normal=>true
 |.exit i,.exit j=>Nat.beq i j
 |.ret,.ret=>true
 |_,_=>false
theorem Z7:∀{a b:l2},Sn a b=true->a=b
 |.normal,.normal,_=>rfl
 |.exit i,.exit j,h=>by rw[gB h]
 |.ret,.ret,_=>rfl
 |.normal,.exit _,h=>by cases h
 |.normal,.ret,h=>by cases h
 |.exit _,.normal,h=>by cases h
 |.exit _,.ret,h=>by cases h
 |.ret,.normal,h=>by cases h
 |.ret,.exit _,h=>by cases h
def yj:l2->Exit
 |.normal=>.normal
 |.exit i=>.exit i
 |.ret=>.ret
abbrev bG:=List (l2×aY)
@[reducible] def bo:bG->Type
 |[]=>Empty
 |[p]=>U p.2
 |p::q::l=>U p.2⊕bo (q::l)
def QU (l:List (Nat×fw))(F:Fr):List V:=List.rec (motive:=λ_=>List V) [] (λs _ cu=>gN F s.1::cu) l
def UL (l:List (Nat×fw)):List V->Fr->Fr:=List.rec (motive:=λ_=>List V->Fr->Fr) (λ_ F=>F) (λs _ cu vs F=>match vs with
 |v::vs=>rp (cu vs F) s.1 v
 |[]=>cu [] F) l
def wR (wr:List Nat):Fr->Fr
 |[]=>[]
 |x::l=>match vv x.1 wr with
  |true=>wR wr l
  |false=>x::wR wr l
def Dd (p:aY)(jr:List ef)(F:Fr)(σ:bU):Option (U p):=match qu p.kinds (QU p.p9 F) σ with
 |some z=>match zo jr p.blocks (nZ 0 jr.length) z.2 with
  |some bd=>De p jr.length z.1 bd
  |none=>none
 |none=>none
def tl (jr:List ef)(e:l2)(F:Fr)(σ:bU):(l:bG)->Option (bo l)
 |[]=>none
 |[p]=>match Sn p.1 e with
  |true=>Dd p.2 jr F σ
  |false=>none
 |p::q::l=>match Sn p.1 e with
  |true=>match Dd p.2 jr F σ with
   |some y=>some (.inl y)
   |none=>none
  |false=>match tl jr e F σ (q::l) with
   |some y=>some (.inr y)
   |none=>none
def KS (F:Fr)(σ:bU)(ids wr:List Nat)(p:l2×aY)(y:U p.2):Q (l2×Fr×bU):=match z6 σ ids p.2.blocks with
 |true=>.ret (p.1,UL p.2.p9 (Fg σ ids p.2 y) (wR wr F),vX σ ids p.2 y)
 |false=>.fail
def TK (F:Fr)(σ:bU)(ids wr:List Nat):(l:bG)->bo l->Q (l2×Fr×bU)
 |[],_=>.fail
 |[p],y=>KS F σ ids wr p y
 |p::q::l,y=>.alt y (λy=>KS F σ ids wr p y) λy=>TK F σ ids wr (q::l) y
def AM (p:aY)(x:U p):Fr:=UL p.p9 (KG p x) []
section
variable{w eX:World}{m cX:M}{σ kP fk:bU}{F zT:Fr}{a dh:Go.Act}{n:Nat}
theorem QV (a5:dC m n F a):∀(l:List (Nat×fw)),cO (eo m) (QU l F) (l.map λs=>a.tmps.getD s.1 undef)
 |[]=>trivial
 |s::l=>⟨a5.slot s.1,QV a5 l⟩
theorem ME:∀{l:List (Nat×fw)}{vs:List V}{F:Fr},cO (eo m) vs (l.map λs=>a.tmps.getD s.1 undef)->dC m n F a->dC m n (UL l vs F) a
 |[],vs,F,_,a5=>a5
 |s::l,[],F,h,_=>h.elim
 |s::l,v::vs,F,⟨aa,af⟩,a5=>(ME af a5).qL aa
theorem ZT (wr:List Nat)(t:Nat):∀(F:Fr),gN (wR wr F) t=if t∈wr then .any else gN F t
 |[]=>by
  show V.any=_;split<;>rfl
 |x::F=>by
  rw[wR];have cu:=ZT wr t F;have aO:gN (x::F) t=if t=x.1 then x.2 else gN F t:=vu F x.1 t x.2
  cases ah:vv x.1 wr with
  |true=>
   simp only
   rw[cu,aO];have:=(yx _ _).1 ah;by_cases bR:t=x.1
   ·subst bR;rw[if_pos this,if_pos this]
   ·rw[if_neg bR]
  |false=>
   simp only
   have az:x.1∉wr:=λh=>by rw[(yx _ _).2 h] at ah;cases ah
   rw[show gN (x::wR wr F) t=if t=x.1 then x.2 else gN (wR wr F) t from vu _ x.1 t x.2,cu,aO];by_cases bR:t=x.1
   ·subst bR;rw[if_pos rfl,if_neg az,if_pos rfl]
   ·rw[if_neg bR,if_neg bR]
theorem apb {wr:List Nat}(a5:dC m n F a)(aM:iF wr a dh)(ai:a.tmps.size<=dh.tmps.size\/n<=dh.tmps.size)(bj:dh.defers=[])(e:Ext m cX):dC cX n (wR wr F) dh:=by
 refine⟨?_,bj,λt=>?_⟩
 ·have:=a5.size;rcases ai with h|h<;>omega
 ·rw[ZT];split
  ·trivial
  ·rename_i bR;rw[aM t bR];exact(a5.slot t).ext e
theorem apu {p:aY}{jr:List ef}{y:U p}(h:Dd p jr zT fk=some y)(a5:dC cX n zT dh)(bh:bQ cX fk eX)(bL:r4 jr cX):
 ∃vs m' bd,De p jr.length vs bd=some y/\Step cX fk eX m' bd eX/\bQ m' bd eX/\cO (eo m') vs (p.p9.map λs=>dh.tmps.getD s.1 undef):=by
 unfold Dd at h;split at h
 ·rename_i z ai;split at h
  ·rename_i bd aM;obtain⟨m',s1,bn,cW⟩:=Dl ai bh (QV a5 p.p9);obtain⟨eB,s2,bB⟩:=EC aM bn (bL.ext s1.iK.ext);exact⟨z.1,eB,bd,h,s1.trans bh s2,bB,cW.imp λ_ _=>eo.ext s2.iK.ext⟩
  ·cases h
 ·cases h
structure I6 (m:M)(σ:bU)(ids:List Nat)(kP:bU):Prop where
  vS:ids.Nodup
  low:∀i∈ids,i<σ.next
  wP:∀i∈ids,∀cs,σ.heap.get i=some (.box cs)->m.pl i≠none
  ei:kP.next=ids.length
  iI:∀j cY,kP.heap.get j=some cY->∃i b,ids[j]?=some i/\σ.heap.get i=some b
def xO (k:Nat)(e:l2)(m:M)(σ:bU)(a:Go.Act):(l:bG)->bo l->Prop
 |[],_=>False
 |[p],y=>p.1=e/\qd p.2 k y m σ (p.2.p9.map λs=>a.tmps.getD s.1 undef)
 |p::q::l,y=>match y with
  |.inl y=>p.1=e/\qd p.2 k y m σ (p.2.p9.map λs=>a.tmps.getD s.1 undef)
  |.inr y=>xO k e m σ a (q::l) y
theorem aac {p:aY}{jr:List ef}{y:U p}(h:Dd p jr zT fk=some y)(a5:dC cX n zT dh)(bh:bQ cX fk eX)(bL:r4 jr cX):
 ∃m' bd,Step cX fk eX m' bd eX/\bQ m' bd eX/\qd p jr.length y m' bd (p.p9.map λs=>dh.tmps.getD s.1 undef):=by
 obtain⟨vs,m',bd,bn,bB,dc,ek⟩:=apu h a5 bh bL;exact⟨m',bd,bB,dc,Sp dc bn ek⟩
theorem Sl (a5:dC cX n zT dh)(bh:bQ cX fk eX){jr:List ef}(bL:r4 jr cX){e:l2}:∀{l:bG}{y:bo l},tl jr e zT fk l=some y->∃m' bd,Step cX fk eX m' bd eX/\bQ m' bd eX/\xO jr.length e m' bd dh l y
 |[],y,h=>by cases h
 |[p],y,h=>by
  rw[tl] at h;split at h
  ·rename_i aO;obtain⟨m',bd,aa,af,ax⟩:=aac h a5 bh bL;exact⟨m',bd,aa,af,Z7 aO,ax⟩
  ·cases h
 |p::q::l,y,h=>by
  rw[tl] at h;split at h
  ·rename_i aO;split at h
   ·rename_i aq cf;cases h;obtain⟨m',bd,aa,af,ax⟩:=aac cf a5 bh bL;exact⟨m',bd,aa,af,Z7 aO,ax⟩
   ·cases h
  ·split at h
   ·rename_i aq cf;cases h;exact Sl a5 bh bL (l:=q::l) cf
   ·cases h
theorem acP {ids wr:List Nat}{p:l2×aY}{y:U p.2}{z:l2×Fr×bU}(a5:dC m n F a)(bh:bQ m σ w)(he:I6 m σ ids kP)(st:Step (m.sub σ ids) kP w cX fk eX)(fD:n<=dh.tmps.size)(DE:dh.defers=[])(yt:bQ cX fk eX)(aM:iF wr a dh)(aa:qd p.2 ids.length y cX fk (p.2.p9.map λs=>dh.tmps.getD s.1 undef))(h:cV (KS F σ ids wr p y) z):z.1=p.1/\∃eR,Step m σ w eR z.2.2 eX/\bQ eR z.2.2 eX/\dC eR n z.2.1 dh:=by
 unfold KS at h;split at h
 ·rename_i bZ;obtain rfl:=h.eJ;obtain⟨eR,aI,aQ,bq⟩:=KT bh he.vS he.low he.wP he.ei he.iI yt st aa bZ;exact⟨rfl,eR,aQ,aI,ME bq (apb a5 aM (.inr fD) DE aQ.iK.ext)⟩
 ·exact h.cq.elim
theorem acQ {ids wr:List Nat}(a5:dC m n F a)(bh:bQ m σ w)(he:I6 m σ ids kP)(st:Step (m.sub σ ids) kP w cX fk eX)(fD:n<=dh.tmps.size)(DE:dh.defers=[])(yt:bQ cX fk eX)(aM:iF wr a dh){e:l2}:∀{l:bG}{y:bo l}{z:l2×Fr×bU},
 xO ids.length e cX fk dh l y->cV (TK F σ ids wr l y) z->z.1=e/\∃eR,Step m σ w eR z.2.2 eX/\bQ eR z.2.2 eX/\dC eR n z.2.1 dh
 |[],y,z,h,aU=>h.elim
 |[p],y,z,h,aU=>by
  have:=acP a5 bh he st fD DE yt aM h.2 aU;rw[h.1] at this;exact this
 |p::q::l,y,z,h,aU=>by
  rcases aU.agE with⟨mI,aa,af⟩|⟨mI,aa,af⟩
  ·subst aa;have h:p.1=e/\qd p.2 ids.length mI cX fk _:=h;have:=acP a5 bh he st fD DE yt aM h.2 af;rw[h.1] at this;exact this
  ·subst aa;exact acQ a5 bh he st fD DE yt aM (l:=q::l) h af
end
section
variable{w:World}{m:M}{σ bd:bU}
def IT (s:fw):fw:=match s with
 |.tok t k nl=>.tok t k nl
 |.arr k t a3=>.arr k t a3
 |_=>.Lt
def Ly (i:Nat)(iv:List fw)(σ:bU):Option bU:=EB i (iv.map IT) σ
theorem avs {i r:Nat}{iv:List fw}(h:Ly i iv σ=some bd)(bh:bQ m σ w)(aU:m.pl i=some r):∃m',Step m σ w m' bd w/\bQ m' bd w:=aey h bh aU
theorem apW {s:fw}{v en:V}(h:qY (IT s) v σ=some (en,bd)):σ.next<=bd.next/\∀i,i<σ.next->bd.heap.get i=σ.heap.get i:=by
 have refl:σ.next<=σ.next/\∀i,i<σ.next->σ.heap.get i=σ.heap.get i:=⟨Nat.le_refl _,λ_ _=>rfl⟩;cases s with
 |tok t k nl=>
  simp only[IT,qY] at h;split at h
  ·cases h;exact⟨Nat.le_succ _,λi aj=>bI.T.eQ _ _ ab⟩
  ·cases h;exact refl
 |arr k t a3=>
  simp only[IT,qY] at h;split at h
  ·cases h;exact⟨Nat.le_succ _,λi aj=>bI.T.eQ _ _ ab⟩
  ·cases h;exact refl
 |_=>cases h;exact refl
theorem aaI:∀{l:List fw}{vs gi:List V}{σ bd:bU},qu (l.map IT) vs σ=some (gi,bd)->σ.next<=bd.next/\∀i,i<σ.next->bd.heap.get i=σ.heap.get i
 |[],vs,gi,σ,bd,h=>by
  have h:some (vs,σ)=some (gi,bd):=by cases vs<;>exact h
  cases h;exact⟨Nat.le_refl _,λ_ _=>rfl⟩
 |s::l,[],gi,σ,bd,h=>by cases h;exact⟨Nat.le_refl _,λ_ _=>rfl⟩
 |s::l,v::vs,gi,σ,bd,h=>by
  rw[List.map_cons,qu] at h;split at h
  ·rename_i y cf;split at h
   ·rename_i z ai;cases h;obtain⟨dK,dh⟩:=apW cf;obtain⟨cY,eT⟩:=aaI ai;exact⟨jF dK cY,λi aj=>(eT i (Nat.lt_of_lt_of_le aj dK)).trans (dh i aj)⟩
   ·cases h
  ·cases h
theorem avr {i:Nat}{iv:List fw}(h:Ly i iv σ=some bd):σ.next<=bd.next/\∀j,j<σ.next->j≠i->bd.heap.get j=σ.heap.get j:=by
 unfold Ly EB at h;split at h
 ·split at h
  ·rename_i z ai;split at h
   ·cases h;obtain⟨dK,dh⟩:=aaI ai;exact⟨dK,λj aw eN=>(bI.T.eQ _ _ eN).trans (dh j aw)⟩
   ·cases h
  ·cases h
 ·cases h
def uT (iI:List ef):List fw->List V->bU->Option bU
 |s::l,v::vs,σ=>match s with
  |.ptr k _=>match v with
   |.p (.c (.ptr (some y)))=>match iI[k]? with
    |some (.box cs)=>match Ly y.1 cs σ with
     |some bd=>uT iI l vs bd
     |none=>none
    |_=>uT iI l vs σ
   |_=>uT iI l vs σ
  |_=>uT iI l vs σ
 |_,_,σ=>some σ
def vT (p:aY)(vs:List V)(σ:bU):Option (List V×bU):=match qu p.kinds vs σ with
 |some z=>match uT p.blocks p.kinds z.1 z.2 with
  |some bd=>some (z.1,bd)
  |none=>none
 |none=>none
theorem ED {iI:List ef}:∀{l:List fw}{vs:List V}{us:List Value}{m:M}{σ bd:bU},uT iI l vs σ=some bd->bQ m σ w->cO (eo m) vs us->∃m',Step m σ w m' bd w/\bQ m' bd w
 |[],vs,us,m,σ,bd,h,bh,aT=>by
  have h:some σ=some bd:=by cases vs<;>exact h
  cases h;exact⟨m,Step.refl ..,bh⟩
 |s::l,[],us,m,σ,bd,h,bh,aT=>by cases h;exact⟨m,Step.refl ..,bh⟩
 |s::l,v::vs,us,m,σ,bd,h,bh,aT=>by
  match us,aT with
  |u::us,⟨aa,af⟩=>
   cases s with
   |ptr k o=>
    simp only[uT] at h;split at h
    ·split at h
     ·split at h
      ·rename_i kP aM;obtain⟨r,aU,_⟩:=aa;obtain⟨eB,s1,bn⟩:=avs aM bh aU;obtain⟨cX,s2,bB⟩:=ED h bn (af.imp λ_ _=>eo.ext s1.iK.ext);exact⟨cX,s1.trans bh s2,bB⟩
      ·cases h
     ·exact ED h bh af
    ·exact ED h bh af
   |_=>exact ED (l:=l) (vs:=vs) h bh af
theorem Lx {p:aY}{vs gi:List V}{us:List Value}(h:vT p vs σ=some (gi,bd))(bh:bQ m σ w)(aT:cO (eo m) vs us):∃m',Step m σ w m' bd w/\bQ m' bd w/\cO (eo m') gi us:=by
 unfold vT at h;split at h
 ·rename_i z ai;split at h
  ·rename_i kP aM;cases h;obtain⟨eB,s1,bn,cW⟩:=Dl ai bh aT;obtain⟨cX,s2,bB⟩:=ED aM bn cW;exact⟨cX,s1.trans bh s2,bB,cW.imp λ_ _=>eo.ext s2.iK.ext⟩
  ·cases h
 ·cases h
end
structure LE where
  dE:aY
  outs:bG
  g:U dE->Option (bo outs)
inductive nF
  |one
  |seq (a b:nF)
  |two (a b:nF)
  |sub (a:nF)
  |loop (e:LE)
  |cut (dE:aY) (outs:bG) (a:nF)
def Q_ (l:List Oper):List Nat:=l.flatMap λo=>o.dst.toList
def pw:Code->List Nat
 |.region _ ops _=>Q_ ops.toList
 |.seq a b=>pw a++pw b
 |.cond _ a b=>pw a++pw b
 |.block _ a=>pw a
 |.loop a=>pw a
 |_=>[]
def JN (dE:aY)(outs:bG)(wr:List Nat)(g:U dE->Option (bo outs))(F:Fr)(σ:bU):Q (l2×Fr×bU):=match vT dE (QU dE.p9 F) σ with
 |some z=>match yg dE z.1 z.2 with
  |some x=>.bind (g x.1) λy=>TK F z.2 x.2 wr outs y
  |none=>.fail
 |none=>.fail
def XD (E:Env)(call:lk)(n:Nat)(ops:Array Oper)(qX:Bool)(F:Fr)(σ:bU):Q (Fr×bU):=match qX with
 |false=>steps E call n ops ops.toList F σ
 |true=>match A_ .nil 0 ops.toList with
  |some l=>drawn E call n ops l F σ
  |none=>.fail
def qo (E:Env)(call:lk)(n:Nat):nF->Code->Fr->bU->Q (l2×Fr×bU)
 |.one,c,F,σ=>match c with
  |.skip=>.ret (.normal,F,σ)
  |.region _ ops qX=>(XD E call n ops qX F σ).lB λy=>.ret (.normal,y.1,y.2)
  |.exit i=>.ret (.exit i,F,σ)
  |.ret=>.ret (.ret,F,σ)
  |_=>.fail
 |.seq a b,c,F,σ=>match c with
  |.seq cW dv=>(qo E call n a cW F σ).lB λy=>match y.1 with
   |.normal=>qo E call n b dv y.2.1 y.2.2
   |_=>.ret y
  |_=>.fail
 |.two a b,c,F,σ=>match c with
  |.cond x cW dv=>match jw x F with
   |.p (.c (.bool v))=>.ite v (qo E call n a cW F σ) (qo E call n b dv F σ)
   |_=>.fail
  |_=>.fail
 |.sub a,c,F,σ=>match c with
  |.block id p=>(qo E call n a p F σ).lB λy=>match y.1 with
   |.exit i=>match Nat.beq i id with
    |true=>.ret (.normal,y.2)
    |false=>.ret y
   |_=>.ret y
  |_=>.fail
 |.loop e,c,F,σ=>match c with
  |.loop p=>JN e.dE e.outs (pw p) e.g F σ
  |_=>.fail
 |.cut dE outs a,c,F,σ=>JN dE outs (pw c) (λx=>((qo E call n a c (AM dE x) (p0 dE x)).lB λy=>.ret (tl dE.blocks y.1 y.2.1 y.2.2 outs)).opt) F σ
def zZ (aV:Program)(n:Nat)(c:Code)(wr:List Nat)(dE:aY)(outs:bG)(g:U dE->Option (bo outs)):Prop:=∀x y,g x=some y->∀m w a,dC m n (AM dE x) a->bQ m (p0 dE x) w->r4 dE.blocks m->∀Q:Exit->Go.Act->World->Prop,(∀ex fk m' c9 w',xO dE.blocks.length ex m' fk c9 outs y->Step m (p0 dE x) w m' fk w'->n<=c9.tmps.size->c9.defers=[]->bQ m' fk w'->iF wr a c9->Q (yj ex) c9 w')->c.wp aV Q a w
def oI (aV:Program)(E:Env)(n:Nat):nF->Code->Prop
 |.one,c=>match c with
  |.region _ ops qX=>qX=true->IG E ops=true
  |_=>True
 |.seq a b,c=>match c with
  |.seq cW dv=>oI aV E n a cW/\oI aV E n b dv
  |_=>True
 |.two a b,c=>match c with
  |.cond x cW dv=>oI aV E n a cW/\oI aV E n b dv
  |_=>True
 |.sub a,c=>match c with
  |.block id p=>oI aV E n a p
  |_=>True
 |.loop e,c=>match c with
  |.loop p=>zZ aV n (.loop p) (pw p) e.dE e.outs e.g
  |_=>True
 |.cut dE outs a,c=>oI aV E n a c
section
variable{aV:Program}{E:Env}{call:lk}{n:Nat}
theorem Z6 {c:Code}{wr:List Nat}{dE:aY}{outs:bG}{g:U dE->Option (bo outs)}(cj:zZ aV n c wr dE outs g){m:M}{σ:bU}{F:Fr}{a:Go.Act}{w:World}{y:l2×Fr×bU}(a5:dC m n F a)(bh:bQ m σ w)(h:cV (JN dE outs wr g F σ) y){Q:Exit->Go.Act->World->Prop}(fo:∀m' c9 w',Step m σ w m' y.2.2 w'->dC m' n y.2.1 c9->bQ m' y.2.2 w'->iF wr a c9->Q (yj y.1) c9 w'):c.wp aV Q a w:=by
 unfold JN at h;split at h
 ·rename_i z ai;split at h
  ·rename_i x aO;obtain⟨aq,aa,af⟩:=h.nh;obtain⟨eB,s1,bn,cW⟩:=Lx ai bh (QV a5 dE.p9);obtain⟨aE,aP,bS,cR,dO,db,fm,dD⟩:=JM (x:=x.1) (ids:=x.2) aO bn cW;have ma:dC (eB.sub z.2 x.2) n (AM dE x.1) a:=ME fm ⟨a5.size,a5.defers,λt=>trivial⟩;refine cj x.1 aq aa _ w a ma db dD Q λex fk cX c9 w' cx cI dw mE fh kJ=>?_;have he:I6 eB z.2 x.2 (p0 dE x.1):=⟨aP,bS,cR,by rw[aE];rfl,dO⟩;obtain⟨g_,eR,gl,jl,mf⟩:=acQ (a5.ext s1.iK.ext) bn he cI dw mE fh kJ (by rw[aE];exact cx) af;have:=fo eR c9 w' (s1.trans bh gl) mf jl kJ;rw[g_] at this;exact this
  ·exact h.cq.elim
 ·exact h.cq.elim
theorem anG {ops:List Oper}{o:Oper}{t:Nat}(b6:o∈ops)(bj:o.dst=some t):t∈Q_ ops:=List.mem_flatMap.2 ⟨o,b6,by rw[bj];simp⟩
theorem aNS (pV:aV.follows .mixedOrders=true)(kE:tY aV E)(jg:r0 aV call){id:Nat}{ops:Array Oper}{qX:Bool}(AI:qX=true->IG E ops=true){m:M}{σ:bU}{F:Fr}{a:Go.Act}{w:World}{y:Fr×bU}(a5:dC m n F a)(bh:bQ m σ w)(h:cV (XD E call n ops qX F σ) y){Q:Exit->Go.Act->World->Prop}(fo:∀m' c9 w',Step m σ w m' y.2 w'->dC m' n y.1 c9->bQ m' y.2 w'->iF (Q_ ops.toList) a c9->Q .normal c9 w'):(Code.region id ops qX).wp aV Q a w:=by
 unfold XD at h;cases qX with
 |false=>
  refine wp_region ?_;have:=am7 (ds:=Q_ ops.toList) kE jg (Q:=Q) ops.toList 0 (by simp) (λo b6 t bj=>anG b6 bj) a5 bh h fo
  rwa [Array.length_toList,<-List.range_eq_range'] at this
 |true=>
  simp only at h;split at h
  ·rename_i l aW;exact apa pV kE jg (AI rfl) aW (λi o t b6 bj=>anG (List.mem_of_getElem? (by rw[Array.getElem?_toList];exact b6)) bj) a5 bh h fo
  ·exact h.cq.elim
theorem vp (pV:aV.follows .mixedOrders=true)(kE:tY aV E)(jg:r0 aV call):∀(iq:nF)(c:Code),oI aV E n iq c->∀{m:M}{σ:bU}{F:Fr}{a:Go.Act}{w:World}{y:l2×Fr×bU}{Q:Exit->Go.Act->World->Prop},dC m n F a->bQ m σ w->
 cV (qo E call n iq c F σ) y->(∀m' c9 w',Step m σ w m' y.2.2 w'->dC m' n y.2.1 c9->bQ m' y.2.2 w'->iF (pw c) a c9->Q (yj y.1) c9 w')->c.wp aV Q a w
 |.one,c,jh,m,σ,F,a,w,y,Q,a5,bh,h,fo=>by
  unfold qo at h;cases c with
  |skip=>obtain rfl:=h.eJ;exact wp_skip (fo m a w (Step.refl ..) a5 bh (iF.refl _ _))
  |region id ops qX=>
   obtain⟨aq,aa,af⟩:=h.lT;obtain rfl:=af.eJ;exact aNS pV kE jg jh a5 bh aa fo
  |exit i=>obtain rfl:=h.eJ;exact wp_exit (fo m a w (Step.refl ..) a5 bh (iF.refl _ _))
  |ret=>obtain rfl:=h.eJ;exact wp_ret (fo m a w (Step.refl ..) a5 bh (iF.refl _ _))
  |_=>exact h.cq.elim
 |.seq iq RT,c,jh,m,σ,F,a,w,y,Q,a5,bh,h,fo=>by
  unfold qo at h;cases c with
  |seq cW dv=>
   obtain⟨aq,aa,af⟩:=h.lT;refine wp_seq (vp pV kE jg iq cW jh.1 a5 bh aa λm' c9 w' e qv rF aM=>?_);have Tg:iF (pw (.seq cW dv)) a c9:=aM.mono λt bR=>List.mem_append_left _ bR;split at af
   ·rename_i az;rw[az];exact vp pV kE jg RT dv jh.2 qv rF af λqG z1 u9 e' aa af pW=>fo qG z1 u9 (e.trans bh e') aa af (Tg.trans (pW.mono λt bR=>List.mem_append_right _ bR))
   ·rename_i az;obtain rfl:=af.eJ;have:=fo m' c9 w' e qv rF Tg;cases he:y.1 with
    |normal=>exact absurd he az
    |exit i=>rw[he] at this;exact this
    |ret=>rw[he] at this;exact this
  |_=>exact h.cq.elim
 |.two iq RT,c,jh,m,σ,F,a,w,y,Q,a5,bh,h,fo=>by
  unfold qo at h;cases c with
  |cond x cW dv=>
   simp only at h;split at h
   ·rename_i v aT;have an:a.eval x=.bool v:=by have:=lU a5 x;rw[aT] at this;exact this
    rcases h.vU with⟨ah,h'⟩|⟨ah,h'⟩
    ·subst ah;exact wp_cond_true an (vp pV kE jg iq cW jh.1 a5 bh h' λm' c9 w' e aa af aM=>fo m' c9 w' e aa af (aM.mono λt bR=>List.mem_append_left _ bR))
    ·subst ah;exact wp_cond_false an (vp pV kE jg RT dv jh.2 a5 bh h' λm' c9 w' e aa af aM=>fo m' c9 w' e aa af (aM.mono λt bR=>List.mem_append_right _ bR))
   ·exact h.cq.elim
  |_=>exact h.cq.elim
 |.sub iq,c,jh,m,σ,F,a,w,y,Q,a5,bh,h,fo=>by
  unfold qo at h;cases c with
  |block id p=>
   obtain⟨aq,aa,af⟩:=h.lT;refine wp_block (vp pV kE jg iq p jh a5 bh aa λm' c9 w' e qv rF aM=>?_);split at af
   ·rename_i i aj;split at af
    ·rename_i ah;obtain rfl:=af.eJ;have:=gB ah;subst this;rw[aj];simpa[yj,Exit.inBlock] using fo m' c9 w' e qv rF aM
    ·rename_i ah;obtain rfl:=af.eJ;have eN:i≠id:=λhe=>by subst he;rw[Nat.beq_refl] at ah;cases ah
     have:=fo m' c9 w' e qv rF aM;rw[aj] at this⊢;simpa[yj,Exit.inBlock,eN] using this
   ·rename_i az;obtain rfl:=af.eJ;have:=fo m' c9 w' e qv rF aM;cases he:y.1 with
    |normal=>rw[he] at this;exact this
    |exit i=>exact absurd he (az i)
    |ret=>rw[he] at this;exact this
  |_=>exact h.cq.elim
 |.loop e,c,jh,m,σ,F,a,w,y,Q,a5,bh,h,fo=>by
  unfold qo at h;cases c with
  |loop p=>exact Z6 jh a5 bh h fo
  |_=>exact h.cq.elim
 |.cut dE outs iq,c,jh,m,σ,F,a,w,y,Q,a5,bh,h,fo=>by
  unfold qo at h;refine Z6 (c:=c) (wr:=pw c) (λx aq cj eB p_ dK aqm aaR yQ aO8 J6=>?_) a5 bh h fo;obtain⟨aB,aa,af⟩:=cV.lT (cV.Mp cj);have af:=af.eJ;refine vp pV kE jg iq c jh aqm aaR aa λm' c9 w' e aI aQ bq=>?_;obtain⟨cX,fk,s1,s2,tS⟩:=Sl aI aQ (yQ.ext e.iK.ext) af.symm;exact J6 aB.1 fk cX c9 w' tS (e.trans aaR s1) aI.size aI.defers s2 bq
end
section
variable{A B:Type}{h:A->Option (A⊕B)}
inductive Reach (h:A->Option (A⊕B)):A->B->Prop
  |done {x:A} {y:B}:h x=some (.inr y)->Reach h x y
  |more {x jn:A} {y:B}:h x=some (.inl jn)->Reach h jn y->Reach h x y
theorem Reach.unique {x:A}{y mI:B}(r:Reach h x y)(mF:Reach h x mI):y=mI:=by
 induction r with
 |done aa=>
  cases mF with
  |done af=>rw[aa] at af;cases af;rfl
  |more af _=>rw[aa] at af;cases af
 |more aa _ cu=>
  cases mF with
  |done af=>rw[aa] at af;cases af
  |more af gl=>rw[aa] at af;cases af;exact cu gl
open Classical in
def a2 (h:A->Option (A⊕B))(x:A):Option B:=if aO:∃y,Reach h x y then some (Classical.choose aO) else none
theorem TO {x:A}{y:B}(r:Reach h x y):a2 h x=some y:=by
 have aO:∃y,Reach h x y:=⟨y,r⟩;unfold a2;rw[dif_pos aO];exact congrArg some ((Classical.choose_spec aO).unique r)
theorem XC {x:A}{y:B}(e:a2 h x=some y):Reach h x y:=by
 unfold a2 at e;split at e
 ·rename_i aO;cases e;exact Classical.choose_spec aO
 ·cases e
theorem atb {x:A}{y:B}(e:h x=some (.inr y)):a2 h x=some y:=TO (.done e)
theorem atc {x jn:A}(e:h x=some (.inl jn)):a2 h x=a2 h jn:=by
 cases cf:a2 h jn with
 |some y=>exact TO (.more e (XC cf))
 |none=>
  cases ai:a2 h x with
  |none=>rfl
  |some z=>
   have:=XC ai;cases this with
   |done aP=>rw[e] at aP;cases aP
   |more aP r=>rw[e] at aP;cases aP;rw[TO r] at cf;cases cf
end
def Ty (σ:bU)(ids:List Nat)(outs:bG):Bool:=outs.all λp=>z6 σ ids p.2.blocks&&(nZ 0 ids.length).all λj=> !live p.2.blocks j||(match ids[j]? with
 |some i=>Nat.beq i j
 |none=>false)
def aN4 (E:Env)(call:lk)(n:Nat)(iq:nF)(c:Code)(dE:aY)(outs:bG)(x:U dE):Q (Option (U dE⊕bo outs)):=(qo E call n iq c (AM dE x) (p0 dE x)).lB λy=>match y.1 with
 |.normal=>match vT dE (QU dE.p9 y.2.1) y.2.2 with
  |some z=>match yg dE z.1 z.2 with
   |some jn=>match Ty z.2 jn.2 outs with
    |true=>.ret (some (.inl jn.1))
    |false=>.fail
   |none=>.fail
  |none=>.fail
 |e=>.ret (match tl dE.blocks e y.2.1 y.2.2 outs with
  |some y=>some (.inr y)
  |none=>none)
def XL (E:Env)(call:lk)(n:Nat)(iq:nF)(c:Code)(dE:aY)(outs:bG)(x:U dE):Option (U dE⊕bo outs):=(aN4 E call n iq c dE outs x).opt
section
variable{aV:Program}{E:Env}{call:lk}{n:Nat}{w eX:World}{m cX:M}{σ kP fk:bU}{dh:Go.Act}{ids:List Nat}
theorem ao5 (bh:bQ m σ w)(he:I6 m σ ids kP)(st:Step (m.sub σ ids) kP w cX fk eX)(yt:bQ cX fk eX)(sw:ids.length<=σ.next){e:l2}:∀{l:bG}{y:bo l},Ty σ ids l=true->xO ids.length e cX fk dh l y->
 ∃eR lZ,Step m σ w eR lZ eX/\bQ eR lZ eX/\xO ids.length e eR lZ dh l y:=by
 have one:∀{p:l2×aY}{y:U p.2},(z6 σ ids p.2.blocks&&(nZ 0 ids.length).all λj=> !live p.2.blocks j||(match ids[j]? with
  |some i=>Nat.beq i j
  |none=>false))=true->qd p.2 ids.length y cX fk (p.2.p9.map λs=>dh.tmps.getD s.1 undef)->∃eR lZ,Step m σ w eR lZ eX/\bQ eR lZ eX/\qd p.2 ids.length y eR lZ (p.2.p9.map λs=>dh.tmps.getD s.1 undef):=by
  intro p y aX an;rw[gQ] at aX;obtain⟨eR,aI,aQ,bq⟩:=KT bh he.vS he.low he.wP he.ei he.iI yt st an aX.1;refine⟨eR,_,aQ,aI,ayF an he.vS he.low bq rfl sw λj aw bl=>?_⟩;have:=List.all_eq_true.1 aX.2 j (Q6 bl);rw[aw] at this;simp only[Bool.not_true,Bool.false_or] at this;split at this
  ·rename_i i aj;rw[aj,gB this]
  ·cases this
 intro l;induction l with
 |nil=>intro y _ h;exact h.elim
 |cons p l cu=>
  intro y aX h;unfold Ty at aX;rw[List.all_cons,gQ] at aX;cases l with
  |nil=>
   obtain⟨eR,lZ,aI,aQ,bq⟩:=one aX.1 h.2;exact⟨eR,lZ,aI,aQ,h.1,bq⟩
  |cons q l=>
   cases y with
   |inl y=>
    have h:p.1=e/\qd p.2 ids.length y cX fk _:=h;obtain⟨eR,lZ,aI,aQ,bq⟩:=one aX.1 h.2;exact⟨eR,lZ,aI,aQ,h.1,bq⟩
   |inr y=>exact cu (y:=y) aX.2 h
theorem acZ (pV:aV.follows .mixedOrders=true)(kE:tY aV E)(jg:r0 aV call){iq:nF}{p:Code}{dE:aY}{outs:bG}{h:U dE->Option (U dE⊕bo outs)}(jh:oI aV E n iq p)(fP:∀x,XL E call n iq p dE outs x=h x):
 zZ aV n (.loop p) (pw p) dE outs (a2 h):=by
 have key:∀{x:U dE}{y:bo outs},Reach h x y->∃N,∀m w a,dC m n (AM dE x) a->bQ m (p0 dE x) w->r4 dE.blocks m->∀Q:Exit->Go.Act->World->Prop,
  (∀ex fk m' c9 w',xO dE.blocks.length ex m' fk c9 outs y->Step m (p0 dE x) w m' fk w'->n<=c9.tmps.size->c9.defers=[]->bQ m' fk w'->iF (pw p) a c9->Q (yj ex) c9 w')->Code.rounds aV p Q N a w:=by
  intro x y r;induction r with
  |@done x y aa=>
   refine⟨1,λm w a a5 bh bL Q fo=>?_⟩;rw[rounds_succ];rw[<-fP] at aa;obtain⟨aB,bn,bB⟩:=cV.lT (cV.Mp aa);refine vp pV kE jg iq p jh a5 bh bn λm' c9 w' e aI aQ bq=>?_;have fin:∀{ex:l2},aB.1=ex->ex≠.normal->tl dE.blocks ex aB.2.1 aB.2.2 outs=some y->Q (yj ex) c9 w':=λ{ex} aO az he=>by
    obtain⟨eR,lZ,s1,s2,tS⟩:=Sl aI aQ (bL.ext e.iK.ext) he;exact fo ex lZ eR c9 w' tS (e.trans bh s1) aI.size aI.defers s2 bq
   cases aO:aB.1 with
   |normal=>
    rw[aO] at bB;simp only at bB;split at bB
    ·split at bB
     ·split at bB
      ·have:=bB.eJ;cases this
      ·exact bB.cq.elim
     ·exact bB.cq.elim
    ·exact bB.cq.elim
   |exit i=>
    rw[aO] at bB;have dc:=bB.eJ;refine fin aO (by simp) ?_;cases he:tl dE.blocks (.exit i) aB.2.1 aB.2.2 outs with
    |none=>rw[he] at dc;cases dc
    |some mI=>rw[he] at dc;cases dc;rfl
   |ret=>
    rw[aO] at bB;have dc:=bB.eJ;refine fin aO (by simp) ?_;cases he:tl dE.blocks .ret aB.2.1 aB.2.2 outs with
    |none=>rw[he] at dc;cases dc
    |some mI=>rw[he] at dc;cases dc;rfl
  |@more x jn y aa _ cu=>
   obtain⟨N,cu⟩:=cu;refine⟨N+1,λm w a a5 bh bL Q fo=>?_⟩;rw[rounds_succ];rw[<-fP] at aa;obtain⟨aB,bn,bB⟩:=cV.lT (cV.Mp aa);refine vp pV kE jg iq p jh a5 bh bn λm' c9 w' e aI aQ bq=>?_;cases aO:aB.1 with
   |normal=>
    rw[aO] at bB;simp only at bB;split at bB
    ·rename_i z ai;split at bB
     ·rename_i n3 nf;split at bB
      ·rename_i arc;have dc:=bB.eJ;cases dc;obtain⟨eB,s1,bD,cW⟩:=Lx ai aQ (QV aI dE.p9);obtain⟨aE,aP,bS,cR,dO,db,fm,dD⟩:=JM (x:=n3.1) (ids:=n3.2) nf bD cW;have ma:dC (eB.sub z.2 n3.2) n (AM dE n3.1) c9:=ME fm ⟨aI.size,aI.defers,λt=>trivial⟩;have k7:Step m (p0 dE x) w eB z.2 w':=e.trans bh s1;refine cu _ w' c9 ma db dD Q λex fk cX dh eX cx cI dw mE fh kJ=>?_;obtain⟨eR,lZ,g_,gl,jl⟩:=ao5 bD ⟨aP,bS,cR,by rw[aE];rfl,dO⟩ cI fh (by rw[aE];exact k7.next) arc (by rw[aE];exact cx);exact fo ex lZ eR dh eX (by rw[aE] at jl;exact jl) (k7.trans bh g_) dw mE gl (bq.trans kJ)
      ·exact bB.cq.elim
     ·exact bB.cq.elim
    ·exact bB.cq.elim
   |exit i=>
    rw[aO] at bB;have dc:=bB.eJ;cases he:tl dE.blocks (.exit i) aB.2.1 aB.2.2 outs with
    |none=>rw[he] at dc;cases dc
    |some mI=>rw[he] at dc;cases dc
   |ret=>
    rw[aO] at bB;have dc:=bB.eJ;cases he:tl dE.blocks .ret aB.2.1 aB.2.2 outs with
    |none=>rw[he] at dc;cases dc
    |some mI=>rw[he] at dc;cases dc
 intro x y cj m w a a5 bh bL Q fo;obtain⟨N,tt⟩:=key (XC cj);exact wp_loop_rounds N (tt m w a a5 bh bL Q fo)
end
open bI (T cO under size kM fC jP qM mh)
structure oJ where
  dE:aY
  out:aY
  g:U dE->Option (U out)
def Zf (v:V):P:=match v with
 |.p x=>x
 |_=>.c .uR
def XK (l:List V):V:=match l with
 |[v]=>v
 |l=>.Q2 (l.map Zf)
def Ce (l:List Value):Value:=match l with
 |[u]=>u
 |us=>.tuple us.toArray
def yX (v:V):List Nat:=match v with
 |.p (.c c)=>j' c
 |.p (.agg cs)=>cs.flatMap j'
 |_=>[]
def KF (nY:Nat->Option oJ)(f:Nat)(args:List V)(σ:bU):List Nat:=match nY f with
 |some e=>match vT e.dE args σ with
  |some z=>match yg e.dE z.1 z.2 with
   |some x=>args.flatMap yX++x.2
   |none=>[]
  |none=>[]
 |none=>[]
def IJ (nY:Nat->Option oJ)(f:Nat)(args:List V)(σ:bU):Q (V×bU):=match nY f with
 |some e=>match vT e.dE args σ with
  |some z=>match yg e.dE z.1 z.2 with
   |some x=>.bind (e.g x.1) λy=>match z6 z.2 x.2 e.out.blocks with
    |true=>.ret (XK (Fg z.2 x.2 e.out y),vX z.2 x.2 e.out y)
    |false=>.fail
   |none=>.fail
  |none=>.fail
 |none=>.fail
def CT (nY:Nat->Option oJ):lk:=⟨IJ nY,KF nY⟩
def ud (aV:Program)(f:Nat)(e:oJ):Prop:=∀x y,e.g x=some y->∀m w (vs:Array Value),bQ m (p0 e.dE x) w->r4 e.dE.blocks m->cO (eo m) (KG e.dE x) vs.toList->(callFunc f vs).run aV w=.ok (.enter f vs) w/\Calls aV f vs w λex w'=>∃m' bd us,ex=.returned (Ce us)/\Step m (p0 e.dE x) w m' bd w'/\bQ m' bd w'/\qd e.out e.dE.blocks.length y m' bd us
section
variable{aV:Program}{w:World}{m:M}{σ bd:bU}
theorem ao_ (f len:Nat->Nat)(s:fw)(x:wA s):∃p,ya f len s x=.p p:=by cases s<;>exact⟨_,rfl⟩
theorem R9 (f len:Nat->Nat):∀{l:List fw}(x:r5 l),∀v∈og f len l x,∃p,v=.p p
 |[],x,v,h=>absurd h List.not_mem_nil
 |s::l,x,v,h=>by
  rw[JF] at h;rcases List.mem_cons.1 h with rfl|h
  ·exact ao_ ..
  ·exact R9 f len x.2 v h
theorem Zg:∀{vs:List V}{us:List Value},(∀v∈vs,∃p,v=.p p)->cO (eo m) vs us->cO (mY m) (vs.map Zf) us
 |[],[],_,_=>trivial
 |v::vs,u::us,bL,⟨aa,af⟩=>by
  refine⟨?_,Zg (λv aT=>bL v (List.mem_cons_of_mem _ aT)) af⟩;obtain⟨p,rfl⟩:=bL v m2;exact aa
theorem amK {vs:List V}{us:List Value}(bL:∀v∈vs,∃p,v=.p p)(h:cO (eo m) vs us):eo m (XK vs) (Ce us):=by
 match vs,us,h with
 |[],[],h=>exact⟨#[],rfl,trivial⟩
 |[v],[u],h=>exact h.1
 |v::en::vs,u::e_::us,h=>exact⟨(u::e_::us).toArray,rfl,by simpa using Zg bL h⟩
theorem Sy {c c':C}(h:ym c σ=some (c',bd)):bd.next=σ.next/\∀i,i∉j' c->bd.heap.get i=σ.heap.get i:=by
 unfold ym at h;split at h
 ·split at h
  ·cases h;exact⟨rfl,λi aj=>bI.T.eQ _ _ λe=>aj (by simp[j',e])⟩
  ·cases h
 ·split at h
  ·split at h
   ·cases h;exact⟨rfl,λi aj=>bI.T.eQ _ _ λe=>aj (by simp[j',e])⟩
   ·cases h
  ·cases h
 ·cases h;exact⟨rfl,λ_ _=>rfl⟩
theorem Dk:∀{l eG:List C}{σ bd:bU},yn l σ=some (eG,bd)->bd.next=σ.next/\∀i,i∉l.flatMap j'->bd.heap.get i=σ.heap.get i
 |[],eG,σ,bd,h=>by cases h;exact⟨rfl,λ_ _=>rfl⟩
 |c::l,eG,σ,bd,h=>by
  rw[yn] at h;split at h
  ·rename_i y cf;split at h
   ·rename_i z ai;cases h;obtain⟨dK,dh⟩:=Sy cf;obtain⟨cY,eT⟩:=Dk ai;refine⟨cY.trans dK,λi aj=>?_⟩;rw[List.flatMap_cons,List.mem_append,not_or] at aj;exact(eT i aj.2).trans (dh i aj.1)
   ·cases h
  ·cases h
theorem apU {s:fw}{v en:V}(h:qY s v σ=some (en,bd)):σ.next<=bd.next/\∀i,i<σ.next->i∉yX v->bd.heap.get i=σ.heap.get i:=by
 have refl:σ.next<=σ.next/\∀i,i<σ.next->i∉yX v->σ.heap.get i=σ.heap.get i:=⟨Nat.le_refl _,λ_ _ _=>rfl⟩;unfold qY at h;split at h
 ·split at h
  ·split at h
   ·rename_i c y cf;cases h;exact⟨Nat.le_of_eq (Sy cf).1.symm,λi _ aj=>(Sy cf).2 i aj⟩
   ·cases h
  ·cases h;exact refl
 ·split at h
  ·split at h
   ·rename_i cs y cf;cases h;exact⟨Nat.le_of_eq (Dk cf).1.symm,λi _ aj=>(Dk cf).2 i aj⟩
   ·cases h
  ·cases h;exact refl
 ·split at h
  ·split at h
   ·rename_i cs y cf;cases h;exact⟨Nat.le_of_eq (Dk cf).1.symm,λi _ aj=>(Dk cf).2 i aj⟩
   ·cases h
  ·cases h;exact refl
 ·split at h
  ·cases h;exact⟨Nat.le_succ _,λi aj _=>bI.T.eQ _ _ ab⟩
  ·cases h;exact refl
 ·split at h
  ·cases h;exact⟨Nat.le_succ _,λi aj _=>bI.T.eQ _ _ ab⟩
  ·cases h;exact refl
 ·cases h;exact refl
theorem aaH:∀{l:List fw}{vs gi:List V}{σ bd:bU},qu l vs σ=some (gi,bd)->σ.next<=bd.next/\∀i,i<σ.next->i∉vs.flatMap yX->bd.heap.get i=σ.heap.get i
 |[],vs,gi,σ,bd,h=>by
  have h:some (vs,σ)=some (gi,bd):=by cases vs<;>exact h
  cases h;exact⟨Nat.le_refl _,λ_ _ _=>rfl⟩
 |s::l,[],gi,σ,bd,h=>by cases h;exact⟨Nat.le_refl _,λ_ _ _=>rfl⟩
 |s::l,v::vs,gi,σ,bd,h=>by
  rw[qu] at h;split at h
  ·rename_i y cf;split at h
   ·rename_i z ai;cases h;obtain⟨dK,dh⟩:=apU cf;obtain⟨cY,eT⟩:=aaH ai;refine⟨jF dK cY,λi bl aj=>?_⟩;rw[List.flatMap_cons,List.mem_append,not_or] at aj;exact(eT i (Nat.lt_of_lt_of_le bl dK) aj.2).trans (dh i bl aj.1)
   ·cases h
  ·cases h
theorem apT {s:fw}{v en:V}(h:qY s v σ=some (en,bd)){k i:Nat}(aT:en=.p (.c (.ptr (some (i,k))))):v=.p (.c (.ptr (some (i,k)))):=by
 unfold qY at h;split at h
 ·split at h
  ·split at h
   ·rename_i c y cf;cases h;unfold ym at cf;split at cf
    ·split at cf
     ·cases cf;cases aT
     ·cases cf
    ·split at cf
     ·split at cf
      ·cases cf;cases aT
      ·cases cf
     ·cases cf
    ·cases cf;exact aT
   ·cases h
  ·cases h;exact aT
 ·split at h
  ·split at h
   ·cases h;cases aT
   ·cases h
  ·cases h;exact aT
 ·split at h
  ·split at h
   ·cases h;cases aT
   ·cases h
  ·cases h;exact aT
 ·split at h
  ·cases h;cases aT
  ·cases h;exact aT
 ·split at h
  ·cases h;cases aT
  ·cases h;exact aT
 ·cases h;exact aT
theorem aaG:∀{l:List fw}{vs gi:List V}{σ bd:bU},qu l vs σ=some (gi,bd)->∀i k,V.p (.c (.ptr (some (i,k))))∈gi->V.p (.c (.ptr (some (i,k))))∈vs
 |[],vs,gi,σ,bd,h=>by
  have h:some (vs,σ)=some (gi,bd):=by cases vs<;>exact h
  cases h;exactλ_ _ h=>h
 |s::l,[],gi,σ,bd,h=>by cases h;exactλ_ _ h=>h
 |s::l,v::vs,gi,σ,bd,h=>by
  rw[qu] at h;split at h
  ·rename_i y cf;split at h
   ·rename_i z ai;cases h;intro i k hm;rcases List.mem_cons.1 hm with g|g
    ·have:=apT cf g.symm;rw[this];exact m2
    ·exact List.mem_cons_of_mem _ (aaG ai i k g)
   ·cases h
  ·cases h
theorem Ua {iI:List ef}:∀{l:List fw}{vs:List V}{σ bd:bU},uT iI l vs σ=some bd->σ.next<=bd.next/\∀j,j<σ.next->(∀k,V.p (.c (.ptr (some (j,k))))∉vs)->bd.heap.get j=σ.heap.get j
 |[],vs,σ,bd,h=>by
  have h:some σ=some bd:=by cases vs<;>exact h
  cases h;exact⟨Nat.le_refl _,λ_ _ _=>rfl⟩
 |s::l,[],σ,bd,h=>by cases h;exact⟨Nat.le_refl _,λ_ _ _=>rfl⟩
 |s::l,v::vs,σ,bd,h=>by
  have rest:uT iI l vs σ=some bd->σ.next<=bd.next/\∀j,j<σ.next->(∀k,V.p (.c (.ptr (some (j,k))))∉v::vs)->bd.heap.get j=σ.heap.get j:=λh=>by
   obtain⟨dK,dh⟩:=Ua h;exact⟨dK,λj aw az=>dh j aw λk aX=>az k (List.mem_cons_of_mem _ aX)⟩
  cases s with
  |ptr k o=>
   simp only[uT] at h;split at h
   ·rename_i y;split at h
    ·split at h
     ·rename_i kP aM;obtain⟨dK,dh⟩:=avr aM;obtain⟨cY,eT⟩:=Ua h;refine⟨jF dK cY,λj aw az=>?_⟩;rw[eT j (Nat.lt_of_lt_of_le aw dK) λk aX=>az k (List.mem_cons_of_mem _ aX)];exact dh j aw λe=>az y.2 (by rw[e];exact m2)
     ·cases h
    ·exact rest h
   ·exact rest h
  |_=>exact rest h
theorem avq {p:aY}{vs gi:List V}(h:vT p vs σ=some (gi,bd)):σ.next<=bd.next/\∀i,i<σ.next->i∉vs.flatMap yX->bd.heap.get i=σ.heap.get i:=by
 unfold vT at h;split at h
 ·rename_i z ai;split at h
  ·rename_i kP aM;cases h;obtain⟨dK,dh⟩:=aaH ai;obtain⟨cY,eT⟩:=Ua aM;refine⟨jF dK cY,λi aj az=>?_⟩;rw[eT i (Nat.lt_of_lt_of_le aj dK) λk aX=>az (List.mem_flatMap.2 ⟨_,aaG ai i k aX,by simp[yX,j']⟩)];exact dh i aj az
  ·cases h
 ·cases h
theorem Jz {nY:Nat->Option oJ}(bR:∀f e,nY f=some e->ud aV f e):r0 aV (CT nY) where
 run f args σ v bd m w vs h bh aT:=by
  have h:cV (IJ nY f args σ) (v,bd):=h;unfold IJ at h;split at h
  ·rename_i e he;split at h
   ·rename_i z ai;split at h
    ·rename_i x aO;obtain⟨y,cf,h⟩:=h.nh;split at h
     ·rename_i bZ;have h:=h.eJ;cases h;obtain⟨eB,s1,bn,cW⟩:=Lx ai bh aT;obtain⟨aE,aP,bS,cR,dO,db,fm,dD⟩:=JM (x:=x.1) (ids:=x.2) aO bn cW;obtain⟨aI,aQ⟩:=bR f e he x.1 y cf _ w vs db dD fm;refine⟨aI,aQ.mono ?_⟩;rintro ex w' ⟨cX,fk,us,rfl,cx,cI,dw⟩;obtain⟨eR,g_,gl,jl⟩:=KT bn aP bS cR (by rw[aE];rfl) dO cI cx (by rw[aE];exact dw) bZ;exact⟨eR,_,rfl,s1.trans bh gl,g_,amK (R9 _ _ _) jl⟩
     ·exact h.cq.elim
    ·exact h.cq.elim
   ·exact h.cq.elim
  ·exact h.cq.elim
 wr f args σ v bd h:=by
  have h:cV (IJ nY f args σ) (v,bd):=h;show∀i,i<σ.next->i∉KF nY f args σ->_;unfold IJ at h;split at h
  ·rename_i e he;split at h
   ·rename_i z ai;split at h
    ·rename_i x aO;obtain⟨y,cf,h⟩:=h.nh;split at h
     ·have h:=h.eJ;cases h;intro i aj az;have ma:KF nY f args σ=args.flatMap yX++x.2:=by unfold KF;rw[he];simp only;rw[ai];simp only;rw[aO]
      rw[ma,List.mem_append,not_or] at az;obtain⟨dK,dh⟩:=avq ai;rw[<-dh i aj az.1];show(putAt _ _ z.2.heap).get i=_;refine Ba λhm=>?_;unfold nW at hm;rcases List.mem_append.1 hm with g|g
      ·exact az.2 g
      ·have:=(IV g).1;omega
     ·exact h.cq.elim
    ·exact h.cq.elim
   ·exact h.cq.elim
  ·exact h.cq.elim
end
def Tu (c:C):Bool:=match c with
 |.ptr (some _)=>true
 |.cJ _ _ _=>true
 |.jZ _ _ _ _=>true
 |_=>false
def XI (E:Env)(b t:Nat)(F:Fr)(σ:bU):Q V:=match lI (gN F b) with
 |some c=>match Tu c with
  |true=>match bI.isAgg E.cC t,size E.cC t with
   |some true,some n=>y7 n c σ
   |some false,_=>vQ c σ
   |_,_=>.fail
  |false=>.fail
 |none=>.fail
def II (E:Env):List ResultVar->Fr->bU->Q (List V)
 |[],F,σ=>.ret []
 |.tmp t::l,F,σ=>(II E l F σ).lB λvs=>.ret (gN F t::vs)
 |.cell b t::l,F,σ=>(XI E b t F σ).lB λv=>(II E l F σ).lB λvs=>.ret (v::vs)
def JQ (p:aY)(jr:List ef)(vs:List V)(σ:bU):Option (U p):=match qu p.kinds vs σ with
 |some z=>match zo jr p.blocks (nZ 0 jr.length) z.2 with
  |some bd=>De p jr.length z.1 bd
  |none=>none
 |none=>none
def CM:List V->Nat->Fr->Fr
 |[],_,F=>F
 |v::l,i,F=>rp (CM l (Nat.succ i) F) i v
def apL (E:Env)(call:lk)(fn:Func)(c:Code)(iq:nF)(dE out:aY)(x:U dE):Q (Option (U out)):=(qo E call fn.ntmps iq c (CM (KG dE x) 0 []) (p0 dE x)).lB λy=>match y.1 with
 |.exit _=>.fail
 |_=>(II E fn.results.toList y.2.1 y.2.2).lB λvs=>.ret (JQ out dE.blocks vs y.2.2)
def Sx (E:Env)(call:lk)(fn:Func)(c:Code)(iq:nF)(dE out:aY)(x:U dE):Option (U out):=(apL E call fn c iq dE out x).opt
def zF (tmps:Array Value):ResultVar->Sem Value
 |.tmp t=>pure (tmps.getD t undef)
 |.cell a t=>do loadVar t (<-asAddr (tmps.getD a undef))
section
variable{aV:Program}{w:World}{m:M}{σ:bU}{F:Fr}{a:Go.Act}{n:Nat}{E:Env}{call:lk}
theorem ayU {c:C}{u:Value}(h:Tu c=true)(an:dz m c u):∃A,u=.pointer (some A):=by
 unfold Tu at h;split at h
 ·obtain⟨r,_,rfl⟩:=an;exact⟨_,rfl⟩
 ·obtain⟨b,a,rfl,_⟩:=an;exact⟨_,rfl⟩
 ·obtain⟨b,k,c,_,rfl⟩:=an;exact⟨_,rfl⟩
 ·cases h
theorem aNZ (b9:fC aV E.cC)(a5:dC m n F a)(bh:bQ m σ w){b t:Nat}{v:V}(h:cV (XI E b t F σ) v):∃u,(zF a.tmps (.cell b t)).run aV w=.ok u w/\eo m v u:=by
 unfold XI at h;split at h
 ·rename_i c an;split at h
  ·rename_i bL;have yC:dz m c (a.tmps.getD b undef):=ql an (a5.slot b);obtain⟨A,dH⟩:=ayU bL yC;have lz:lI (jw (.tmp b) F)=some c:=an;have fin:∀{u:Value},(Instr.loadAt t (a.eval (.tmp b))).run aV w=.ok u w->(zF a.tmps (.cell b t)).run aV w=.ok u w:=λ{u} h=>by
    have aE:a.eval (.tmp b)=.pointer (some A):=dH;rw[aE] at h;rw[<-h];simp only[zF];rw[dH];simp[Instr.loadAt,Instr.sureAddr,asAddr]
   split at h
   ·rename_i k cj aM;obtain⟨u,aa,af⟩:=acX (x:=.tmp b) b9 a5 bh cj aM v (by unfold mD;rw[lz];exact h);exact⟨u,fin aa,af⟩
   ·rename_i _ cj;obtain⟨u,aa,af⟩:=acY (x:=.tmp b) b9 a5 bh cj v (by unfold mD;rw[lz];exact h);exact⟨u,fin aa,af⟩
   ·exact h.cq.elim
  ·exact h.cq.elim
 ·exact h.cq.elim
theorem XJ (b9:fC aV E.cC)(a5:dC m n F a)(bh:bQ m σ w):∀{l:List ResultVar}{vs:List V},cV (II E l F σ) vs->∃us,(l.mapM (zF a.tmps)).run aV w=.ok us w/\cO (eo m) vs us
 |[],vs,h=>by obtain rfl:=h.eJ;exact⟨[],by simp,trivial⟩
 |.tmp t::l,vs,h=>by
  obtain⟨gi,aa,af⟩:=cV.lT h;obtain rfl:=af.eJ;obtain⟨us,aI,aQ⟩:=XJ b9 a5 bh aa;exact⟨a.tmps.getD t undef::us,by simp[List.mapM_cons,zF,aI],a5.slot t,aQ⟩
 |.cell b t::l,vs,h=>by
  obtain⟨v,ba,h⟩:=cV.lT h;obtain⟨gi,aa,af⟩:=cV.lT h;obtain rfl:=af.eJ;obtain⟨u,bn,bB⟩:=aNZ b9 a5 bh ba;obtain⟨us,aI,aQ⟩:=XJ b9 a5 bh aa;exact⟨u::us,by simp[List.mapM_cons,bn,aI],bB,aQ⟩
theorem aN1 (fn:Func)(tmps:Array Value):
 results fn tmps=(fn.results.toList.mapM (zF tmps)>>=λvs=>pure (if h:vs.toArray.size=1 then vs.toArray[0] else .tuple vs.toArray)):=by
 have e:results fn tmps=(fn.results.mapM (zF tmps)>>=λvs=>pure (if h:vs.size=1 then vs[0] else .tuple vs)):=by
  unfold results;refine congrArg (·>>=_) (congrArg (λf=>Array.mapM f fn.results) ?_);funext r;cases r<;>rfl
 rw[e,Array.mapM_eq_mapM_toList];simp
theorem aN0 (us:List Value):(if h:us.toArray.size=1 then us.toArray[0] else .tuple us.toArray)=Ce us:=by
 match us with
 |[]=>rfl
 |[u]=>rfl
 |u::e_::us=>simp[Ce]
theorem Zb:∀{l:List V}{i t:Nat},gN (CM l i []) t=if i<=t then(l[t-i]?).getD .any else .any
 |[],i,t=>by
  show V.any=_;split<;>simp
 |v::l,i,t=>by
  rw[CM,vu,Zb];by_cases h:t=i
  ·subst h;simp
  ·rw[if_neg h];by_cases aa:i<=t
   ·rw[if_pos ab,if_pos aa,show t-i=(t-Nat.succ i)+1 by omega,List.getElem?_cons_succ]
   ·rw[if_neg ab,if_neg aa]
theorem aOq {args:List V}{vs:Array Value}(k:Nat)(aT:cO (eo m) args vs.toList):dC m k (CM args 0 []) {tmps:=vs++Array.replicate (k-vs.size) undef,defers:=[]}:=by
 refine⟨by simp;omega,rfl,λt=>?_⟩;rw[Zb,if_pos (Nat.zero_le _),Nat.sub_zero];have hlen:=aT.length;simp only[Array.length_toList] at hlen;by_cases h:t<args.length
 ·obtain⟨v,aa,af⟩:=aT.get (fG h);rw[fG h];have ax:(vs++Array.replicate (k-vs.size) undef).getD t undef=v:=by
   rw[Array.getD_eq_getD_getElem?,Array.getElem?_append_left ab];rw[Array.getElem?_toList] at aa;rw[aa];rfl
  rw[ax];exact af
 ·rw[List.getElem?_eq_none ab];trivial
theorem apv {p:aY}{jr:List ef}{y:U p}{vs:List V}{us:List Value}(h:JQ p jr vs σ=some y)(bh:bQ m σ w)(bL:r4 jr m)(aT:cO (eo m) vs us):∃m' bd,Step m σ w m' bd w/\bQ m' bd w/\qd p jr.length y m' bd us:=by
 unfold JQ at h;split at h
 ·rename_i z ai;split at h
  ·rename_i bd aM;obtain⟨m',s1,bn,cW⟩:=Dl ai bh aT;obtain⟨eB,s2,bB⟩:=EC aM bn (bL.ext s1.iK.ext);exact⟨eB,bd,s1.trans bh s2,bB,Sp bB h (cW.imp λ_ _=>eo.ext s2.iK.ext)⟩
  ·cases h
 ·cases h
theorem aaA (b9:fC aV E.cC)(pV:aV.follows .mixedOrders=true)(kE:tY aV E)(jg:r0 aV call){f:Nat}{fn:Func}{c:Code}{iq:nF}{e:oJ}(bE:aV.funcs[f]?=some fn)(arC:(fn.name== "runtime.NumGoroutine")=false) (ah:fn.body=some c) (jh:oI aV E fn.ntmps iq c)
 (cj:∀x,Sx E call fn c iq e.dE e.out x=e.g x):ud aV f e:=by
 intro x y cf m w vs bh bL aT;have ax:¬fn.name= "runtime.NumGoroutine":=by simpa using arC
 refine⟨by simp[callFunc,bE,ax,ah],calls_of_wp bE ah ?_⟩;rw[<-cj] at cf;obtain⟨z,aa,af⟩:=cV.lT (cV.Mp cf);refine vp pV kE jg iq c jh (aOq fn.ntmps aT) bh aa λm' c9 w' st a5 rF aM=>?_;have key:cV ((II E fn.results.toList z.2.1 z.2.2).lB λvs=>.ret (JQ e.out e.dE.blocks vs z.2.2)) (some y)->∃v,(results fn c9.tmps).run aV w'=.ok v w'/\∃cX fk us,Ending.returned v=.returned (Ce us)/\Step m (p0 e.dE x) w cX fk w'/\bQ cX fk w'/\qd e.out e.dE.blocks.length y cX fk us:=λh=>by
  obtain⟨gi,bn,bB⟩:=h.lT;have bB:=bB.eJ;obtain⟨us,aI,aQ⟩:=XJ b9 a5 rF bn;obtain⟨cX,fk,s1,s2,tS⟩:=apv bB.symm rF (bL.ext st.iK.ext) aQ;refine⟨Ce us,?_,cX,fk,us,rfl,st.trans bh s1,s2,tS⟩;rw[aN1,iH,aI];simp only[jq,jT];rw[aN0]
 cases aO:z.1 with
 |exit i=>rw[aO] at af;exact af.cq.elim
 |normal=>
  rw[aO] at af;obtain⟨v,cx,cI⟩:=key af;exact⟨a5.defers,v,cx,cI⟩
 |ret=>
  rw[aO] at af;obtain⟨v,cx,cI⟩:=key af;exact⟨a5.defers,v,cx,cI⟩
end
structure CC where
  e:LE
  p:Code
def qj (E:Env):nF->Code->Bool
 |.one,c=>match c with
  |.region _ ops qX=>match qX with
   |true=>IG E ops
   |false=>true
  |_=>true
 |.seq a b,c=>match c with
  |.seq cW dv=>match qj E a cW with
   |true=>qj E b dv
   |false=>false
  |_=>true
 |.two a b,c=>match c with
  |.cond x cW dv=>match qj E a cW with
   |true=>qj E b dv
   |false=>false
  |_=>true
 |.sub a,c=>match c with
  |.block id p=>qj E a p
  |_=>true
 |.loop e,c=>true
 |.cut dE outs a,c=>qj E a c
def r8:nF->Code->List CC
 |.one,c=>[]
 |.seq a b,c=>match c with
  |.seq cW dv=>r8 a cW++r8 b dv
  |_=>[]
 |.two a b,c=>match c with
  |.cond x cW dv=>r8 a cW++r8 b dv
  |_=>[]
 |.sub a,c=>match c with
  |.block id p=>r8 a p
  |_=>[]
 |.loop e,c=>match c with
  |.loop p=>[⟨e,p⟩]
  |_=>[]
 |.cut dE outs a,c=>r8 a c
def tZ (aV:Program)(n:Nat):List CC->Prop
 |[]=>True
 |o::l=>zZ aV n (.loop o.p) (pw o.p) o.e.dE o.e.outs o.e.g/\tZ aV n l
section
variable{aV:Program}{E:Env}{n:Nat}
theorem tZ.app:∀{l r:List CC},tZ aV n (l++r)->tZ aV n l/\tZ aV n r
 |[],r,h=>⟨trivial,h⟩
 |o::l,r,h=>⟨⟨h.1,(tZ.app h.2).1⟩,(tZ.app h.2).2⟩
theorem xZ:∀(iq:nF)(c:Code),qj E iq c=true->tZ aV n (r8 iq c)->oI aV E n iq c
 |.one,c,h,aW=>by
  unfold oI;unfold qj at h;split
  ·rename_i ops qX;simp only at h;intro bj;subst bj;exact h
  ·trivial
 |.seq a b,c,h,aW=>by
  unfold oI;cases c with
  |seq cW dv=>
   unfold qj at h;simp only at h;split at h
   ·rename_i aa;exact⟨xZ a cW aa aW.app.1,xZ b dv h aW.app.2⟩
   ·cases h
  |_=>trivial
 |.two a b,c,h,aW=>by
  unfold oI;cases c with
  |cond x cW dv=>
   unfold qj at h;simp only at h;split at h
   ·rename_i aa;exact⟨xZ a cW aa aW.app.1,xZ b dv h aW.app.2⟩
   ·cases h
  |_=>trivial
 |.sub a,c,h,aW=>by
  unfold oI;cases c with
  |block id p=>exact xZ a p h aW
  |_=>trivial
 |.loop e,c,h,aW=>by
  unfold oI;cases c with
  |loop p=>exact aW.1
  |_=>trivial
 |.cut dE outs a,c,h,aW=>by
  unfold oI;exact xZ a c h aW
theorem Jh {iq:nF}{c:Code}{l:List CC}(h:qj E iq c=true)(aW:r8 iq c=l)(bZ:tZ aV n l):oI aV E n iq c:=xZ iq c h (aW▸bZ)
def Ci (l:List (Nat×oJ)):Nat->Option oJ:=List.rec (motive:=λ_=>Nat->Option oJ) (λ_=>none) (λy _ cu k=>match Nat.beq y.1 k with
 |true=>some y.2
 |false=>cu k) l
def CH (aV:Program):List (Nat×oJ)->Prop
 |[]=>True
 |y::l=>ud aV y.1 y.2/\CH aV l
theorem IQ:∀{l:List (Nat×oJ)},CH aV l->∀f e,Ci l f=some e->ud aV f e
 |[],_,f,e,h=>by cases h
 |y::l,aW,f,e,h=>by
  have lQ:ud aV y.1 y.2/\CH aV l:=aW;have h:(match Nat.beq y.1 f with
   |true=>some y.2
   |false=>Ci l f)=some e:=h
  split at h
  ·rename_i ah;cases h;rw[<-gB ah];exact lQ.1
  ·exact IQ lQ.2 f e h
end
def put {α:Type}(t:T α)(k:Nat)(a:α):T α:=t.put k (some a)
def Sv {α:Type}(l:List α):Nat->T α->T α:=List.rec (motive:=λ_=>Nat->T α->T α) (λ_ t=>t) (λx _ cu i t=>cu (Nat.succ i) (t.put i (some x))) l
def px:Nat:=100000
inductive ve
  |c (k:Nat) (p:aY) (o:bG)
  |s (k:Nat)
structure Rp where
  iq:nF
  k:Nat
  ls:List LE
  cs:List ve
def CZ (k:Nat)(ls:List LE)(cs:List ve)(f:List ve->Rp):Rp:=match cs with
 |[]=>f []
 |.c j p o::r=>match Nat.beq j k with
  |true=>match f r with
   |⟨iq,cB,l,q⟩=>⟨.cut p o iq,cB,l,q⟩
  |false=>f cs
 |.s j::r=>match Nat.beq j k with
  |true=>⟨.one,k+1,ls,r⟩
  |false=>f cs
def AS:Code->Nat->List LE->List ve->Rp
 |.seq a b,k,ls,cs=>CZ k ls cs λcs=>match AS a (k+1) ls cs with
  |⟨x,cB,l,q⟩=>match AS b cB l q with
   |⟨y,cB,l,q⟩=>⟨.seq x y,cB,l,q⟩
 |.cond _ a b,k,ls,cs=>CZ k ls cs λcs=>match AS a (k+1) ls cs with
  |⟨x,cB,l,q⟩=>match AS b cB l q with
   |⟨y,cB,l,q⟩=>⟨.two x y,cB,l,q⟩
 |.block _ a,k,ls,cs=>CZ k ls cs λcs=>match AS a (k+1) ls cs with
  |⟨x,cB,l,q⟩=>⟨.sub x,cB,l,q⟩
 |.loop _,k,ls,cs=>CZ k ls cs λcs=>match ls with
  |e::r=>⟨.loop e,k+1,r,cs⟩
  |[]=>⟨.one,k+1,[],cs⟩
 |_,k,ls,cs=>CZ k ls cs λcs=>⟨.one,k+1,ls,cs⟩
def y8:Code->List Code
 |.seq a b=>y8 a++y8 b
 |.cond _ a b=>y8 a++y8 b
 |.block _ a=>y8 a
 |.loop a=>a::y8 a
 |_=>[]
open bI (T)
set_option maxRecDepth 100000
abbrev bp:dk:=[.int .i64]
abbrev ck:dk:=[.str]
abbrev g4:dk:=[.int .i64,.str]
abbrev dN:dk:=[.str,.int .i64,.str,.int .i64]
abbrev ff:dk:=[.str,.str,.a4 dN]
abbrev du:dk:=[.str,.a4 ck,.a4 ff]
abbrev fS:dk:=[.int .i64,.str,.a4 dN]
abbrev dZ:dk:=[.str,.a4 fS]
abbrev c7:dk:=[.str,.int .i64,.int .i64]
abbrev fR:dk:=[.str,.str,.a4 bp]
abbrev eI:dk:=[.int .i64,.int .i64,.int .i64,.int .i64,.str,.str,.a4 bp,.a4 c7,.a4 fR]
abbrev iP:dk:=[.str,.a4 g4,.int .i64,.a4 eI]
abbrev jD:dk:=[.a4 du,.a4 dZ,.a4 iP]
abbrev gI:dk:=[.str,.int .i64,.str]
abbrev eu:dk:=[.int .i64,.str,.int .i64,.str,.int .i64,.int .i64]
abbrev m0:dk:=[.str,.str,.int .i64]
abbrev cU:dk:=[.int .i64,.str,.str,.str,.str,.int .i64,.a4 bp,.a4 fR,.a4 m0,.int .i64]
abbrev fx:dk:=[.str,.a4 gI,.a4 eu,.a4 cU]
abbrev hP:dk:=[.a4 du,.a4 dZ,.a4 fx]
abbrev s5:dk:=[.int .i64,.int .i64,.int .i64]
abbrev jb:dk:=[.int .i64,.int .i64]
abbrev lF:dk:=[.str,.int .i64,.int .i64,.int .i64]
abbrev jS:dk:=[.int .i64,.str,.a4 lF]
abbrev ib:dk:=[.a4 jS,.a4 ck,.a4 bp]
abbrev fT:dk:=[.bool,.a4 c7]
abbrev au:fw:=.leaf (.int .i64)
abbrev bA:fw:=.leaf (.bool)
abbrev aZ:fw:=.leaf (.str)
abbrev tG:fw:=.leaf (.int .u64)
abbrev b_:fw:=.ptr 0 0
abbrev kD:List Bool:=[false,false,false,false,false,false,false,false,true,false]
abbrev lP:List Bool:=[false,false,false,false,false,false,false,true,false]
abbrev oo:List Bool:=[false,false,false,false]
abbrev W (n:Int):a_ .i64:=a_.w .i64 n
abbrev aC (t:dk):fw:=.leaf (.a4 t)
abbrev aJ (l:List (Nat×fw)):aY:=⟨l,[]⟩
abbrev ju (l:List (Nat×fw)):l2×aY:=(.normal,⟨l,[]⟩)
abbrev fK (l:List (Nat×fw)):l2×aY:=(.ret,⟨l,[]⟩)
abbrev m3:List ef:=[.box [.ptr 1 0,aC du,aZ,aC gI,.tok eu 4 [],.arr 5 cU kD,aZ,aC dZ,au,au,au],.box [aC bp,au],.gone,.gone,.bC eu,.arr cU kD]
abbrev m4:List ef:=[.box [.ptr 1 0,aC du,aZ,aC gI,.tok eu 2 [],.arr 3 cU kD,aZ,aC dZ,au,au,au],.box [aC bp,au],.bC eu,.arr cU kD]
abbrev lJ:List ef:=[.box [.tok [.int .u8] 2 []],.gone,.bC [.int .u8]]
abbrev lK:List ef:=[.box [.tok [.int .u8] 1 []],.bC [.int .u8]]
abbrev qW:List ef:=[.box [aZ,aC ck,aC ff,aZ,.tok [.a4 bp] 2 []],.gone,.bC [.a4 bp]]
abbrev x7:List ef:=[.box [aZ,aC gI,aC eu,aC cU,aC fT,aC [.a4 ck],aC [.a4 bp],aC [.a4 bp],.arr 1 eI lP],.arr eI lP]
abbrev z':List ef:=[.box [aZ,aC gI,aC eu,aC cU,aC fT,aC [.a4 ck],aC [.a4 bp],aC [.a4 bp],.arr 2 eI lP],.gone,.arr eI lP]
abbrev uq:List ef:=[.box [aZ,aC ck,aC ff,aZ,.tok [.a4 bp] 1 []],.bC [.a4 bp]]
abbrev wM:List ef:=[.box [.ptr 1 0],.box [.tok [.int .u8] 3 []],.gone,.bC [.int .u8]]
abbrev wN:List ef:=[.box [.ptr 1 0],.box [.tok [.int .u8] 2 []],.bC [.int .u8]]
abbrev m5:List ef:=[.box [au,au,au]]
abbrev mP:List ef:=[.box [aC bp,au]]
abbrev sa:List ef:=[.arr [.bool] [false]]
abbrev Jr:List ef:=[.box [.tok [.int .u8] 3 []],.gone,.box [b_],.bC [.int .u8]]
abbrev wK:List ef:=[.box [.ptr 1 0],.box [aZ,bA]]
abbrev Js:List ef:=[.box [.tok [.int .u8] 1 []],.bC [.int .u8],.box [b_]]
abbrev RJ:List ef:=[.box [.dm,.dm,.dm],.box [au,au,au],.box [.dm,aC ck,aC bp]]
abbrev wL:List ef:=[.box [aZ,bA],.box [b_]]
abbrev Jt:List ef:=[.arr [.a4 bp] [true],.arr [.a4 bp] [true]]
abbrev RK:List ef:=[.box [au,au,au,au,aZ,aZ,.dm,.dm,.dm]]
abbrev RL:List ef:=[.box [au,au,au],.arr fT [false,false]]
abbrev Ju:List ef:=[.arr bp [false],.arr bp [false]]
abbrev RM:List ef:=[.box [.dm,.dm,.dm],.box [au,au,au]]
abbrev z9:List ef:=[.arr [.a4 ck] [true]]
abbrev z_:List ef:=[.arr [.a4 bp] [true]]
abbrev Jv:List ef:=[.arr [.bool] [false],.bC bp]
abbrev RN:List ef:=[.box [au,au,au],.arr [.bool] [false]]
abbrev RO:List ef:=[.arr [.bool] [false],.gone,.bC bp]
abbrev Jw:List ef:=[.box [au,au,au],.gone]
abbrev RP:List ef:=[.box [aZ,au,au,au]]
abbrev RQ:List ef:=[.box [au,aZ,.dm]]
abbrev RR:List ef:=[.gone,.bC jb]
abbrev RS:List ef:=[.gone,.bC eI]
noncomputable def cC:T TypeInfo:=Sv Tryz.prog.types.toList 0 .nil
noncomputable def aOE:T dk:=(put (put (put (put (put (put (put (put (put (put (put (put (put (put (put (put (put (put (put (put (put (put (put (put (put (put (put (put (put (put (put (put (put (put (put (put (put (put (put (put (put (put (put (put (put (put (put (put (put (put (put (put (put (put (put (put (put (put (put (put .nil 2 bp) 3 bp) 4 [.bool]) 5 [.int .u8]) 9 ck) 22 [.a4 bp]) 23 [.a4 du]) 24 [.a4 dZ]) 25 [.a4 iP]) 27 jD) 31 [.a4 fx]) 33 hP) 44 [.a4 [.int .u8]]) 56 [.a4 g4]) 57 [.a4 eI]) 59 iP) 63 [.a4 [.int .u8]]) 65 [.a4 ck]) 66 [.a4 ff]) 68 du) 71 [.a4 fS]) 73 dZ) 81 [.str,.bool]) 94 [.str,.bool]) 99 s5) 105 [.a4 eu]) 106 [.a4 cU]) 108 fx) 111 [.a4 fT]) 112 [.a4 [.a4 bp]]) 117 [.str,.a4 gI,.a4 eu,.a4 cU,.a4 fT,.a4 [.a4 ck],.a4 [.a4 bp],.a4 [.a4 bp],.a4 eI]) 120 g4) 122 gI) 131 [.a4 fR]) 132 [.a4 m0]) 134 cU) 137 fR) 138 [.a4 c7]) 139 [.a4 fR]) 141 eI) 146 [.a4 dN]) 148 ff) 151 dN) 156 fS) 183 [.a4 jS]) 185 ib) 190 [.a4 c7]) 192 fT) 194 jb) 196 c7) 203 m0) 205 c7) 207 [.a4 bp,.int .i64]) 223 fR) 263 [.str,.a4 ck,.a4 ff,.str,.a4 [.a4 bp]]) 272 eu) 286 [.a4 lF]) 288 jS) 292 lF) 370 jb)
noncomputable def JS:T (List TypeDesc):=(put (put (put (put .nil 120 [.int .i64,.string]) 151 [.string,.int .i64,.string,.int .i64]) 205 [.string,.int .i64,.int .i64]) 370 [.int .i64,.int .i64])
noncomputable def qt (k:Nat):Func:=Tryz.prog.funcs[k]?.getD default
noncomputable def pJ (k:Nat):Code:=(qt k).body.getD .skip
theorem aax {α:Type}:∀(l:List α)(i:Nat)(t:T α)(k:Nat),(Sv l i t).get k=if i<=k/\k-i<l.length then l[k-i]? else t.get k
 |[],i,t,k=>by
  show t.get k=_;rw[if_neg];rintro⟨_,h⟩;exact absurd h (Nat.not_lt_zero _)
 |x::l,i,t,k=>by
  show(Sv l (Nat.succ i) (t.put i (some x))).get k=_;rw[aax l,bI.T.m8];by_cases aa:Nat.succ i<=k/\k-Nat.succ i<l.length
  ·have e:k-i=(k-Nat.succ i)+1:=ab;have af:i<=k/\k-i<(x::l).length:=⟨ab,by rw[e,gX];omega⟩;rw[if_pos aa,if_pos af,e,List.getElem?_cons_succ]
  ·rw[if_neg aa];by_cases ax:k=i
   ·subst ax;rw[if_pos rfl,if_pos ⟨Nat.le_refl _,by simp⟩];simp
   ·rw[if_neg ax,if_neg];rintro⟨a8,cn⟩;rw[gX] at cn;exact aa ⟨ab,ab⟩
theorem X2:bI.fC Tryz.prog cC:=⟨λt i h=>by
 unfold cC at h;rw[aax] at h;split at h
 ·rename_i aa;rw[Nat.sub_zero,Array.getElem?_toList] at h;have bl:t<Tryz.prog.types.size:=(oc.1 h).1;show(if t<Tryz.prog.types.size then Tryz.prog.types[t]? else _)=some i;rw[if_pos bl];exact h
 ·rw[bI.T.get_nil] at h;cases h⟩
theorem mixed:Tryz.prog.follows .mixedOrders=true:=by kernel_rfl
theorem aaw:sX Tryz.prog 120 2 [.int .i64,.string]:=Sw (k:=0) Tryz.underlying120 (by kernel_rfl) (.leaf bu rfl (by kernel_rfl) (.leaf bu rfl (by kernel_rfl) (.nil _)))
theorem apx:∃k,k<=9000/\sX Tryz.prog 120 k [.int .i64,.string]:=⟨_,bu,aaw⟩
theorem asR:ue Tryz.prog 120 (.flat [.int .i64,.string]):=⟨apx,by kernel_rfl⟩
theorem apC:sX Tryz.prog 151 4 [.string,.int .i64,.string,.int .i64]:=Sw (k:=2) Tryz.underlying151 (by kernel_rfl) (.leaf bu rfl (by kernel_rfl) (.row (mq:=[.int .i64,.string]) (fs':=(Tryz.prog.underlying 120).elim #[] λ|.struct j8=>j8|_=>#[]) bu rfl (by kernel_rfl) (by kernel_rfl) aaw (.leaf bu rfl (by kernel_rfl) (.nil _))))
theorem apy:∃k,k<=9000/\sX Tryz.prog 151 k [.string,.int .i64,.string,.int .i64]:=⟨_,bu,apC⟩
theorem asS:ue Tryz.prog 151 (.flat [.string,.int .i64,.string,.int .i64]):=⟨apy,by kernel_rfl⟩
theorem apD:sX Tryz.prog 205 2 [.string,.int .i64,.int .i64]:=Sw (k:=0) Tryz.underlying205 (by kernel_rfl) (.leaf bu rfl (by kernel_rfl) (.leaf bu rfl (by kernel_rfl) (.leaf bu rfl (by kernel_rfl) (.nil _))))
theorem apz:∃k,k<=9000/\sX Tryz.prog 205 k [.string,.int .i64,.int .i64]:=⟨_,bu,apD⟩
theorem asT:ue Tryz.prog 205 (.flat [.string,.int .i64,.int .i64]):=⟨apz,by kernel_rfl⟩
theorem apA:∃k,k<=9000/\sX Tryz.prog 370 k [.int .i64,.int .i64]:=⟨_,bu,apJ (k:=2) (e:=3) (dd:=.int .i64) (i:=(Tryz.prog.info? 3).getD default) (by kernel_rfl) (by kernel_rfl) (by kernel_rfl) (by kernel_rfl)⟩
theorem asU:ue Tryz.prog 370 (.flat [.int .i64,.int .i64]):=⟨apA,by kernel_rfl⟩
theorem asV (t:Nat)(ds:List TypeDesc)(h:JS.get t=some ds):ue Tryz.prog t (.flat ds):=by
 unfold JS put at h;rw[bI.T.m8] at h;split at h
 ·rename_i he;subst he;cases h;exact asU
 rw[bI.T.m8] at h;split at h
 ·rename_i he;subst he;cases h;exact asT
 rw[bI.T.m8] at h;split at h
 ·rename_i he;subst he;cases h;exact asS
 rw[bI.T.m8] at h;split at h
 ·rename_i he;subst he;cases h;exact asR
 rw[bI.T.get_nil] at h;cases h
theorem Jg (E:Env)(aa:E.cC=cC)(af:E.gr=JS):tY Tryz.prog E:=λo=>aoj (by rw[aa];exact X2) (by rw[af];exact asV) o
noncomputable def ua (jN:T wz):Env:=⟨cC,JS,aOE,jN⟩
noncomputable def pb (k i:Nat):Code:=((y8 (pJ k))[i]?).getD .skip
def bV (k i:Nat){dE:aY}{outs:bG}(h:U dE->Option (U dE⊕bo outs)):Prop:=zZ Tryz.prog (qt k).ntmps (.loop (pb k i)) (pw (pb k i)) dE outs (a2 h)
abbrev bt (k:Nat){dE out:aY}(g:U dE->Option (U out)):Prop:=ud Tryz.prog k ⟨dE,out,g⟩
structure vg (k:Nat) where
  i:Nat
  e:LE
  ok:zZ Tryz.prog (qt k).ntmps (.loop (pb k i)) (pw (pb k i)) e.dE e.outs e.g
structure YW where
  k:Nat
  e:oJ
  ok:ud Tryz.prog k e
noncomputable def bW {k i:Nat}{dE:aY}{outs:bG}{h:U dE->Option (U dE⊕bo outs)}(l:bV k i h):vg k:=⟨i,⟨dE,outs,a2 h⟩,l⟩
noncomputable def aH {k:Nat}{dE out:aY}{g:U dE->Option (U out)}(h:bt k g):YW:=⟨k,⟨dE,out,g⟩,h⟩
structure de where
  jN:T wz
  aOz:List YW
noncomputable def fl:de:=⟨.nil,[]⟩
noncomputable def de.nY (c:de):List (Nat×oJ):=c.aOz.map λy=>(y.k,y.e)
theorem de.ok (c:de):CH Tryz.prog c.nY:=by
 obtain⟨q,l⟩:=c;show CH Tryz.prog (l.map λy=>(y.k,y.e));induction l with
 |nil=>exact trivial
 |cons y l cu=>exact⟨y.ok,cu⟩
noncomputable def as5 {k:Nat}(l:List (vg k)):List LE:=l.map (·.e)
noncomputable def Ee {k:Nat}(l:List (vg k)):List CC:=l.map λy=>⟨y.e,pb k y.i⟩
theorem KV {k:Nat}(l:List (vg k)):tZ Tryz.prog (qt k).ntmps (Ee l):=by
 induction l with
 |nil=>exact trivial
 |cons y l cu=>exact⟨y.ok,cu⟩
noncomputable abbrev r9 {k:Nat}(c:Code)(ls:List (vg k))(cs:List ve):nF:=(AS c 0 (as5 ls) cs).iq
section
variable{k i:Nat}{dE:aY}
theorem b5 {outs:bG}{h:U dE->Option (U dE⊕bo outs)}(c:de)(ls:List (vg k))(cs:List ve)(he:XL (ua c.jN) (CT (Ci c.nY)) (qt k).ntmps (r9 (pb k i) ls cs) (pb k i) dE outs=h:=by kernel_rfl)(aU:qj (ua c.jN) (r9 (pb k i) ls cs) (pb k i)=true:=by kernel_rfl)(aW:r8 (r9 (pb k i) ls cs) (pb k i)=Ee ls:=by kernel_rfl):bV k i h:=
 acZ mixed (Jg _ rfl rfl) (Jz (IQ c.ok)) (Jh aU aW (KV ls)) (congrFun he)
theorem ac0 {ρ:Type}{outs:bG}{h:ρ->U dE->Option (U dE⊕bo outs)}(c:ρ->de)(ls:ρ->List (vg k))(cs:List ve)(he:(λr=>XL (ua (c r).jN) (CT (Ci (c r).nY)) (qt k).ntmps (r9 (pb k i) (ls r) cs) (pb k i) dE outs)=h:=by kernel_rfl)(aU:(λr=>qj (ua (c r).jN) (r9 (pb k i) (ls r) cs) (pb k i))=(λ_=>true):=by kernel_rfl)(aW:(λr=>r8 (r9 (pb k i) (ls r) cs) (pb k i))=(λr=>Ee (ls r)):=by kernel_rfl)(r:ρ):bV k i (h r):=
 acZ mixed (Jg _ rfl rfl) (Jz (IQ (c r).ok)) (Jh (congrFun aU r) (congrFun aW r) (KV (ls r))) (congrFun (congrFun he r))
variable{out:aY}
theorem bF {g:U dE->Option (U out)}(c:de)(ls:List (vg k))(cs:List ve)(he:Sx (ua c.jN) (CT (Ci c.nY)) (qt k) (pJ k) (r9 (pJ k) ls cs) dE out=g:=by kernel_rfl)(bE:Tryz.prog.funcs[k]?=some (qt k):=by kernel_rfl)(az:((qt k).name== "runtime.NumGoroutine")=false:=by kernel_rfl) (ah:(qt k).body=some (pJ k):=by kernel_rfl)
 (aU:qj (ua c.jN) (r9 (pJ k) ls cs) (pJ k)=true:=by kernel_rfl)
 (aW:r8 (r9 (pJ k) ls cs) (pJ k)=Ee ls:=by kernel_rfl):bt k g:=
 aaA (E:=ua c.jN) X2 mixed (Jg _ rfl rfl) (Jz (IQ c.ok)) bE az ah (Jh aU aW (KV ls)) (congrFun he)
theorem Al {ρ:Type}{g:ρ->U dE->Option (U out)}(c:ρ->de)(ls:ρ->List (vg k))(cs:List ve)(he:(λr=>Sx (ua (c r).jN) (CT (Ci (c r).nY)) (qt k) (pJ k) (r9 (pJ k) (ls r) cs) dE out)=g:=by kernel_rfl)(bE:Tryz.prog.funcs[k]?=some (qt k):=by kernel_rfl)(az:((qt k).name== "runtime.NumGoroutine")=false:=by kernel_rfl) (ah:(qt k).body=some (pJ k):=by kernel_rfl)
 (aU:(λr=>qj (ua (c r).jN) (r9 (pJ k) (ls r) cs) (pJ k))=(λ_=>true):=by kernel_rfl)
 (aW:(λr=>r8 (r9 (pJ k) (ls r) cs) (pJ k))=(λr=>Ee (ls r)):=by kernel_rfl) (r:ρ):bt k (g r):=
 aaA (E:=ua (c r).jN) X2 mixed (Jg _ rfl rfl) (Jz (IQ (c r).ok)) bE az ah (Jh (congrFun aU r) (congrFun aW r) (KV (ls r))) (congrFun (congrFun he r))
end
def aje:=aJ [(0,.leaf (.int .u8))]
def aEp:=aJ [(0,bA)]
def GM (x:U aje):Option (U aEp):=cond (f_ (a_.w .u8 97) x.1.1) (some (((f_ x.1.1 (a_.w .u8 122)),()),())) (some ((false,()),()))
def aiQ:=aJ [(0,aZ)]
def aDy:=aJ [(0,bA)]
def VH:=aJ [(3,aZ)]
def aiO:=[ju [(4,bA)]]
def VG (x:U VH):Option (bo aiO):=cond (cz x.1.1 (S ⟨#[97,110,100]⟩)) (some (((cz x.1.1 (S ⟨#[97,110,100]⟩)),()),())) (cond (cz x.1.1 (S ⟨#[97,115]⟩)) (some (((cz x.1.1 (S ⟨#[97,115]⟩)),()),())) (cond (cz x.1.1 (S ⟨#[97,116]⟩)) (some (((cz x.1.1 (S ⟨#[97,116]⟩)),()),())) (cond (cz x.1.1 (S ⟨#[98,111,111,108]⟩)) (some (((cz x.1.1 (S ⟨#[98,111,111,108]⟩)),()),())) (cond (cz x.1.1 (S ⟨#[99,97,108,108]⟩)) (some (((cz x.1.1 (S ⟨#[99,97,108,108]⟩)),()),())) (cond (cz x.1.1 (S ⟨#[99,104,97,110]⟩)) (some (((cz x.1.1 (S ⟨#[99,104,97,110]⟩)),()),())) (cond (cz x.1.1 (S ⟨#[100,114,111,112]⟩)) (some (((cz x.1.1 (S ⟨#[100,114,111,112]⟩)),()),())) (cond (cz x.1.1 (S ⟨#[101,108,115,101]⟩)) (some (((cz x.1.1 (S ⟨#[101,108,115,101]⟩)),()),())) (cond (cz x.1.1 (S ⟨#[101,109,112,116,121]⟩)) (some (((cz x.1.1 (S ⟨#[101,109,112,116,121]⟩)),()),())) (cond (cz x.1.1 (S ⟨#[101,110,100]⟩)) (some (((cz x.1.1 (S ⟨#[101,110,100]⟩)),()),())) (cond (cz x.1.1 (S ⟨#[102,97,105,108]⟩)) (some (((cz x.1.1 (S ⟨#[102,97,105,108]⟩)),()),())) (cond (cz x.1.1 (S ⟨#[102,97,108,115,101]⟩)) (some (((cz x.1.1 (S ⟨#[102,97,108,115,101]⟩)),()),())) (cond (cz x.1.1 (S ⟨#[102,114,111,109]⟩)) (some (((cz x.1.1 (S ⟨#[102,114,111,109]⟩)),()),())) (cond (cz x.1.1 (S ⟨#[104,101,97,114]⟩)) (some (((cz x.1.1 (S ⟨#[104,101,97,114]⟩)),()),())) (cond (cz x.1.1 (S ⟨#[105,102]⟩)) (some (((cz x.1.1 (S ⟨#[105,102]⟩)),()),())) (cond (cz x.1.1 (S ⟨#[105,110,116]⟩)) (some (((cz x.1.1 (S ⟨#[105,110,116]⟩)),()),())) (cond (cz x.1.1 (S ⟨#[106,111,105,110]⟩)) (some (((cz x.1.1 (S ⟨#[106,111,105,110]⟩)),()),())) (cond (cz x.1.1 (S ⟨#[108,101,110]⟩)) (some (((cz x.1.1 (S ⟨#[108,101,110]⟩)),()),())) (cond (cz x.1.1 (S ⟨#[108,101,116]⟩)) (some (((cz x.1.1 (S ⟨#[108,101,116]⟩)),()),())) (some (((cz x.1.1 (S ⟨#[108,105,115,116]⟩)),()),()))))))))))))))))))))
def VJ:=aJ [(3,aZ)]
def aiP:=[ju [(25,bA)]]
def VI (x:U VJ):Option (bo aiP):=cond (cz x.1.1 (S ⟨#[108,111,99,97,108]⟩)) (some (((cz x.1.1 (S ⟨#[108,111,99,97,108]⟩)),()),())) (cond (cz x.1.1 (S ⟨#[108,111,115,116]⟩)) (some (((cz x.1.1 (S ⟨#[108,111,115,116]⟩)),()),())) (cond (cz x.1.1 (S ⟨#[109,111,100]⟩)) (some (((cz x.1.1 (S ⟨#[109,111,100]⟩)),()),())) (cond (cz x.1.1 (S ⟨#[110,111,116]⟩)) (some (((cz x.1.1 (S ⟨#[110,111,116]⟩)),()),())) (cond (cz x.1.1 (S ⟨#[111,112,101,110]⟩)) (some (((cz x.1.1 (S ⟨#[111,112,101,110]⟩)),()),())) (cond (cz x.1.1 (S ⟨#[111,114]⟩)) (some (((cz x.1.1 (S ⟨#[111,114]⟩)),()),())) (cond (cz x.1.1 (S ⟨#[112,114,105,110,116]⟩)) (some (((cz x.1.1 (S ⟨#[112,114,105,110,116]⟩)),()),())) (cond (cz x.1.1 (S ⟨#[112,114,111,99]⟩)) (some (((cz x.1.1 (S ⟨#[112,114,111,99]⟩)),()),())) (cond (cz x.1.1 (S ⟨#[112,114,111,116,111,99,111,108]⟩)) (some (((cz x.1.1 (S ⟨#[112,114,111,116,111,99,111,108]⟩)),()),())) (cond (cz x.1.1 (S ⟨#[112,117,115,104]⟩)) (some (((cz x.1.1 (S ⟨#[112,117,115,104]⟩)),()),())) (cond (cz x.1.1 (S ⟨#[114,111,108,101,115]⟩)) (some (((cz x.1.1 (S ⟨#[114,111,108,101,115]⟩)),()),())) (cond (cz x.1.1 (S ⟨#[115,97,121]⟩)) (some (((cz x.1.1 (S ⟨#[115,97,121]⟩)),()),())) (cond (cz x.1.1 (S ⟨#[115,112,97,119,110]⟩)) (some (((cz x.1.1 (S ⟨#[115,112,97,119,110]⟩)),()),())) (cond (cz x.1.1 (S ⟨#[115,116,111,112]⟩)) (some (((cz x.1.1 (S ⟨#[115,116,111,112]⟩)),()),())) (cond (cz x.1.1 (S ⟨#[116,101,120,116]⟩)) (some (((cz x.1.1 (S ⟨#[116,101,120,116]⟩)),()),())) (cond (cz x.1.1 (S ⟨#[116,111]⟩)) (some (((cz x.1.1 (S ⟨#[116,111]⟩)),()),())) (cond (cz x.1.1 (S ⟨#[116,114,117,101]⟩)) (some (((cz x.1.1 (S ⟨#[116,114,117,101]⟩)),()),())) (cond (cz x.1.1 (S ⟨#[117,110,105,116]⟩)) (some (((cz x.1.1 (S ⟨#[117,110,105,116]⟩)),()),())) (some (((cz x.1.1 (S ⟨#[119,105,116,104]⟩)),()),())))))))))))))))))))
def N1 (x:U aiQ):Option (U aDy):=(VG ((x.1.1,()),())).bind λaq=>cond (aq.1.1) (some ((true,()),())) ((VI ((x.1.1,()),())).bind λaB=>cond (aB.1.1) (some ((true,()),())) (some ((false,()),())))
def ajb:=aJ [(0,.leaf (.int .u8))]
def aEc:=aJ [(0,bA)]
def Oa (x:U ajb):Option (U aEc):=cond (f_ (a_.w .u8 48) x.1.1) (some (((f_ x.1.1 (a_.w .u8 57)),()),())) (some ((false,()),()))
def aiS:=aJ [(0,aZ)]
def aDG:=aJ [(0,bA)]
def GC:=aJ [(0,aZ),(3,au)]
def aDE:bG:=[((.exit 0),aJ []),fK [(2,bA)]]
def N3 (x:U GC):Option (U GC⊕bo aDE):=cond (bg x.1.2.1 (kf x.1.1)) ((sF x.1.1 (x.1.2.1).1).bind λv4=>(GM ((v4,()),())).bind λa9=>cond (!a9.1.1) ((sF x.1.1 (x.1.2.1).1).bind λv6=>(Oa ((v6,()),())).bind λbK=>cond (!bK.1.1) (some (.inr (.inr ((false,()),())))) (some (.inl ((x.1.1,(bc x.1.2.1 (W 1)),()),())))) (some (.inl ((x.1.1,(bc x.1.2.1 (W 1)),()),())))) (some (.inr (.inl ((),()))))
def k6 (x:U aiS):Option (U aDG):=cond (bg (kf x.1.1) (W 1)) (some ((false,()),())) (cond (bg (W 12) (kf x.1.1)) (some ((false,()),())) ((sF x.1.1 ((W 0)).1).bind λv1=>(GM ((v1,()),())).bind λaB=>cond (!aB.1.1) (some ((false,()),())) ((N1 ((x.1.1,()),())).bind λaK=>cond (aK.1.1) (some ((false,()),())) ((a2 N3 ((x.1.1,(W 1),()),())).bind λcl=>Sum.elim (λbO=>some ((true,()),())) (λcc=>some ((cc.1.1,()),())) cl))))
def VK:=aJ [(0,aC ck),(1,aZ)]
def aDO:=aJ [(0,au)]
def GG:=aJ [(0,aC ck),(1,aZ),(5,au)]
def aDM:bG:=[((.exit 0),aJ []),fK [(4,au)]]
def Bo (x:U GG):Option (U GG⊕bo aDM):=cond (bg x.1.2.2.1 (bf x.1.1)) ((a1 x.1.1 (x.1.2.2.1).1).bind λaE=>cond (cz aE.1 x.1.2.1) (some (.inr (.inr ((x.1.2.2.1,()),())))) (some (.inl ((x.1.1,x.1.2.1,(bc x.1.2.2.1 (W 1)),()),())))) (some (.inr (.inl ((),()))))
def uZ (x:U VK):Option (U aDO):=(a2 Bo ((x.1.1,x.1.2.1,(W 0),()),())).bind λaB=>Sum.elim (λaK=>some (((W (-1)),()),())) (λaS=>some ((aS.1.1,()),())) aB
def VE:=aJ [(0,aC ck),(1,aZ)]
def aDu:=aJ [(0,bA)]
def pg (x:U VE):Option (U aDu):=(uZ ((x.1.1,x.1.2.1,()),())).bind λaq=>some (((f_ (W 0) aq.1.1),()),())
def aiU:=aJ [(0,aC ck)]
def aDK:=aJ [(0,bA)]
def GF:=aJ [(0,aC ck),(3,au)]
def aDI:bG:=[((.exit 0),aJ []),fK [(2,bA)]]
def N4 (x:U GF):Option (U GF⊕bo aDI):=cond (bg x.1.2.1 (bf x.1.1)) ((nM x.1.1 0 (x.1.2.1).1).bind λv1=>(a1 x.1.1 (x.1.2.1).1).bind λaP=>(pg ((v1,aP.1,()),())).bind λaK=>cond (aK.1.1) (some (.inr (.inr ((false,()),())))) (some (.inl ((x.1.1,(bc x.1.2.1 (W 1)),()),())))) (some (.inr (.inl ((),()))))
def GD (x:U aiU):Option (U aDK):=(a2 N4 ((x.1.1,(W 0),()),())).bind λaS=>Sum.elim (λa9=>some ((true,()),())) (λbJ=>some ((bJ.1.1,()),())) aS
def ajo:=aJ [(0,aC ck),(1,aZ)]
def aEB:=aJ [(0,aC ck)]
def GP:=aJ [(0,aC ck),(1,aZ),(5,au)]
def aEz:bG:=[((.exit 0),aJ [(5,au)])]
def Od (x:U GP):Option (U GP⊕bo aEz):=cond (bg x.1.2.2.1 (bf x.1.1)) ((a1 x.1.1 (x.1.2.2.1).1).bind λaE=>cond (oA aE.1 x.1.2.1) (some (.inl ((x.1.1,x.1.2.1,(bc x.1.2.2.1 (W 1)),()),()))) (some (.inr ((x.1.2.2.1,()),())))) (some (.inr ((x.1.2.2.1,()),())))
def GO (x:U ajo):Option (U aEB):=(a2 Od ((x.1.1,x.1.2.1,(W 0),()),())).bind λaB=>cond (bg aB.1.1 (bf x.1.1)) ((a1 x.1.1 (aB.1.1).1).bind λbS=>cond (cz bS.1 x.1.2.1) (some ((x.1.1,()),())) ((nM x.1.1 0 (aB.1.1).1).bind λv4=>(c6 16 (L.nil:L (D [.str])) v4).bind λgV=>(c6 16 gV (cD [(x.1.2.1,())])).bind λiB=>(nM x.1.1 (aB.1.1).1 x.1.1.1.length).bind λdW=>(c6 16 iB dW).bind λjK=>some ((jK,()),()))) ((nM x.1.1 0 (aB.1.1).1).bind λfi=>(c6 16 (L.nil:L (D [.str])) fi).bind λoz=>(c6 16 oz (cD [(x.1.2.1,())])).bind λp2=>(nM x.1.1 (aB.1.1).1 x.1.1.1.length).bind λeL=>(c6 16 p2 eL).bind λnB=>some ((nB,()),()))
def aiZ:=aJ [(0,aC ck),(1,aZ)]
def aDS:=aJ [(0,aC ck)]
def GI:=aJ [(0,aC ck),(5,aC ck),(6,au)]
def aDQ:bG:=[((.exit 0),aJ [(5,aC ck)])]
def N6 (x:U GI):Option (U GI⊕bo aDQ):=cond (bg x.1.2.2.1 (bf x.1.1)) ((a1 x.1.1 (x.1.2.2.1).1).bind λaE=>(GO ((x.1.2.1,aE.1,()),())).bind λaB=>some (.inl ((x.1.1,aB.1.1,(bc x.1.2.2.1 (W 1)),()),()))) (some (.inr ((x.1.2.1,()),())))
def wg (x:U aiZ):Option (U aDS):=(a2 N6 ((x.1.1,(cD [(x.1.2.1,())]),(W 0),()),())).bind λaK=>some ((aK.1.1,()),())
def aiK:=aJ [(0,au)]
def aDt:=aJ [(0,aZ)]
def VD:=aJ [(0,au),(3,tG)]
def aiJ:=[ju [(3,tG)]]
def VC (x:U VD):Option (bo aiJ):=cond (bg x.1.1 (W 0)) (some (((uI x.1.2.1),()),())) (some ((x.1.2.1,()),()))
def GB:=aJ [(3,tG),(4,aC [.int .u8])]
def aDr:bG:=[((.exit 0),aJ [(4,aC [.int .u8])])]
def N0 (x:U GB):Option (U GB⊕bo aDr):=cond (bg (a_.w .u64 0) x.1.1) ((sE x.1.1 (a_.w .u64 10)).bind λv2=>(c6 1 (cD [((ey .u8 (bc (a_.w .u64 48) v2)),())]) x.1.2.1).bind λcg=>(AO x.1.1 (a_.w .u64 10)).bind λv4=>some (.inl ((v4,cg,()),()))) (cond (bb (bf x.1.2.1) (W 0)) ((sE x.1.1 (a_.w .u64 10)).bind λcQ=>(c6 1 (cD [((ey .u8 (bc (a_.w .u64 48) cQ)),())]) x.1.2.1).bind λiB=>(AO x.1.1 (a_.w .u64 10)).bind λdW=>some (.inl ((dW,iB,()),()))) (some (.inr ((x.1.2.1,()),()))))
def GA (x:U aiK):Option (U aDt):=(VC ((x.1.1,(ey .u64 x.1.1),()),())).bind λaq=>(a2 N0 ((aq.1.1,L.nil,()),())).bind λcl=>cond (bg x.1.1 (W 0)) ((fE (S ⟨#[45]⟩) (nK cl.1.1)).bind λfi=>some ((fi,()),())) (some (((nK cl.1.1),()),()))
def aja:=aJ [(0,au)]
def aEa:=aJ [(0,au)]
def Bq (x:U aja):Option (U aEa):=cond (bg x.1.1 (W 0)) (some (((W (-1)),()),())) (cond (bg (W 19) x.1.1) (some (((W (-1)),()),())) (cond (f_ x.1.1 (W 5)) (some (((W 0),()),())) (cond (bb x.1.1 (W 15)) (some (((W 1),()),())) (cond (bb x.1.1 (W 16)) (some (((W 1),()),())) (some (((W 2),()),()))))))
def ai':=aJ [(0,.agg eu)]
def aD_:=aJ [(0,bA)]
def VN:=aJ [(1,.cJ eu 0),(3,au)]
def ai8:=[ju [],fK [(2,bA)]]
def VM (x:U VN):Option (bo ai8):=cond (bg x.1.2.1 (W 0)) (some (.inr ((false,()),()))) (cond (bg x.1.2.1 (W 2)) (cond (!bb x.1.1.2.2.2.2.2.1 (W (-1))) (some (.inr ((false,()),()))) (cond (bg x.1.2.1 (W 1)) (cond (!bb x.1.1.2.2.2.2.1 (W (-1))) (some (.inr ((false,()),()))) (some (.inl ((),())))) (some (.inl ((),()))))) (cond (bg x.1.2.1 (W 1)) (cond (!bb x.1.1.2.2.2.2.1 (W (-1))) (some (.inr ((false,()),()))) (some (.inl ((),())))) (some (.inl ((),())))))
def VP:=aJ [(1,.cJ eu 0)]
def ai9:=[ju [(4,bA)]]
def VO (x:U VP):Option (bo ai9):=cond (bb x.1.1.1 (W 0)) ((k6 ((x.1.1.2.1,()),())).bind λa9=>cond (a9.1.1) (some ((true,()),())) (cond (!bb x.1.1.1 (W 0)) (some (((cz x.1.1.2.1 (S ⟨#[]⟩)),()),())) (some ((false,()),())))) (cond (!bb x.1.1.1 (W 0)) (some (((cz x.1.1.2.1 (S ⟨#[]⟩)),()),())) (some ((false,()),())))
def VR:=aJ [(1,.cJ eu 0)]
def ai_:=[ju [(5,bA)]]
def VQ (x:U VR):Option (bo ai_):=cond (bb x.1.1.2.2.1 (W 0)) (some ((true,()),())) (cond (bb x.1.1.1 (W 1)) (some ((true,()),())) (cond (bb x.1.1.1 (W 2)) (some (((bb x.1.1.2.2.1 (W 1)),()),())) (some ((false,()),()))))
def N' (x:U ai'):Option (U aD_):=(Bq ((x.1.1.1,()),())).bind λaq=>(VM ((x.1.1,aq.1.1,()),())).bind λaB=>Sum.elim (λaK=>(VO ((x.1.1,()),())).bind λbJ=>(VQ ((x.1.1,()),())).bind λbK=>cond (cz x.1.1.2.2.2.1 (S ⟨#[]⟩)) (cond (bJ.1.1) (cond (bK.1.1) (some ((true,()),())) (some ((false,()),()))) (some ((false,()),()))) (cond (bb x.1.1.1 (W 3)) (cond (bJ.1.1) (cond (bK.1.1) (some (((f_ (kf x.1.1.2.2.2.1) (W 24)),()),())) (some ((false,()),()))) (some ((false,()),()))) (cond (bJ.1.1) (cond (bK.1.1) (some ((false,()),())) (some ((false,()),()))) (some ((false,()),()))))) (λaS=>some ((aS.1.1,()),())) aB
def ajs:=aJ [(0,aC eu),(1,au)]
def aEJ:=aJ [(0,aC bp),(1,bA)]
def V8:=aJ [(0,aC eu),(7,au),(9,au),(10,au)]
def ajr:=[ju [(10,au)]]
def V7 (x:U V8):Option (bo ajr):=cond (bb x.1.2.2.1 (W 1)) ((a1 x.1.1 (x.1.2.1).1).bind λd_=>some ((d_.2.2.2.2.2.1,()),())) (some ((x.1.2.2.2.1,()),()))
def Oh:aY:=⟨[(0,aC eu),(6,.arr 0 bp [false]),(7,au),(8,au),(9,au)],[.arr bp [false]]⟩
def aEH:bG:=[((.exit 2),⟨[],[.arr bp [false]]⟩),(.ret,⟨[(4,.dm),(5,bA)],[.arr bp [false]]⟩)]
def Og (x:U Oh):Option (U Oh⊕bo aEH):=cond (bg x.1.2.2.2.2.1 x.1.2.2.2.1) ((a1 x.1.1 (x.1.2.2.1).1).bind λeV=>(V7 ((x.1.1,x.1.2.2.1,x.1.2.2.2.2.1,eV.2.2.2.2.1,()),())).bind λbT=>cond (bg bT.1.1 (W 0)) (some (.inr (.inr (((),false,()),(x.2.1,()))))) (cond (f_ x.1.2.2.1 bT.1.1) (some (.inr (.inr (((),false,()),(x.2.1,()))))) (cond (decide (0<=(bT.1.1).1)&&decide ((bT.1.1).1<(x.2.1.1.length:Nat))) ((fq x.2.1 ((bT.1.1).1).toNat).bind λiA=>cond (bg (W 0) iA.1) (some (.inr (.inr (((),false,()),(x.2.1,()))))) (cond (decide (0<=(x.1.2.2.1).1)&&decide ((x.1.2.2.1).1<(x.2.1.1.length:Nat))) ((fq x.2.1 ((x.1.2.2.1).1).toNat).bind λkk=>cond (decide (0<=(bT.1.1).1)&&decide ((bT.1.1).1<(x.2.1.1.length:Nat))) ((fq x.2.1 ((bT.1.1).1).toNat).bind λiu=>some (.inl ((x.1.1,(),x.1.2.2.1,x.1.2.2.2.1,(bc x.1.2.2.2.2.1 (W 1)),()),((ej x.2.1 ((bT.1.1).1).toNat ((bc kk.1 (W 1)),())),())))) (none)) (none))) (none)))) (some (.inr (.inl ((),(x.2.1,())))))
def Of:aY:=⟨[(0,aC eu),(6,.arr 0 bp [false]),(7,au)],[.arr bp [false]]⟩
def aEE:bG:=[((.exit 0),⟨[],[.arr bp [false]]⟩),(.ret,⟨[(4,.dm),(5,bA)],[.arr bp [false]]⟩)]
def Oe (x:U Of):Option (U Of⊕bo aEE):=cond (f_ (W 0) x.1.2.2.1) (cond (decide (0<=(x.1.2.2.1).1)&&decide ((x.1.2.2.1).1<(x.2.1.1.length:Nat))) ((fq x.2.1 ((x.1.2.2.1).1).toNat).bind λbS=>cond (bb bS.1 (W 0)) (some (.inl ((x.1.1,(),(gf x.1.2.2.1 (W 1)),()),(x.2.1,())))) ((a1 x.1.1 (x.1.2.2.1).1).bind λcR=>(N' ((cR,()),())).bind λa9=>cond (!a9.1.1) (some (.inr (.inr (((),false,()),(x.2.1,()))))) (cond (decide (0<=(x.1.2.2.1).1)&&decide ((x.1.2.2.1).1<(x.2.1.1.length:Nat))) ((fq x.2.1 ((x.1.2.2.1).1).toNat).bind λdb=>cond (bg (W 24) db.1) (some (.inr (.inr (((),false,()),(x.2.1,()))))) ((a1 x.1.1 (x.1.2.2.1).1).bind λfm=>(Bq ((fm.1,()),())).bind λcl=>(a2 Og ((x.1.1,(),x.1.2.2.1,cl.1.1,(W 0),()),(x.2.1,()))).bind λdy=>Sum.elim (λeD=>some (.inl ((x.1.1,(),(gf x.1.2.2.1 (W 1)),()),(eD.2.1,())))) (λeO=>some (.inr (.inr (((),eO.1.2.1,()),(eO.2.1,()))))) dy)) (none)))) (none)) (some (.inr (.inl ((),(x.2.1,())))))
def GQ (x:U ajs):Option (U aEJ):=cond (bg (W 160) (bf x.1.1)) (some ((L.nil,false,()),())) (cond (bg x.1.2.1 (W 0)) (some ((L.nil,false,()),())) (cond (f_ (bf x.1.1) x.1.2.1) (some ((L.nil,false,()),())) ((rh (α:=D [.int .i64]) 8 (bf x.1.1) ((W 0),())).bind λdF=>cond (decide (0<=(x.1.2.1).1)&&decide ((x.1.2.1).1<(dF.1.length:Nat))) ((fq dF ((x.1.2.1).1).toNat).bind λaP=>(a2 Oe ((x.1.1,(),x.1.2.1,()),((ej dF ((x.1.2.1).1).toNat ((W 1),())),()))).bind λeY=>Sum.elim (λfe=>some ((fe.2.1,true,()),())) (λfM=>some ((L.nil,fM.1.2.1,()),())) eY) (none))))
def ai2:=aJ [(0,aC eu),(1,au)]
def aDZ:=aJ [(0,aC [.bool]),(1,bA)]
def GK:aY:=⟨[(0,aC eu),(6,aC bp),(8,.arr 0 [.bool] [false]),(9,au)],sa⟩
def aDX:bG:=[((.exit 0),⟨[],sa⟩)]
def N8 (x:U GK):Option (U GK⊕bo aDX):=cond (bg x.1.2.2.2.1 (bf x.1.1)) ((a1 x.1.2.1 (x.1.2.2.2.1).1).bind λbS=>cond (decide (0<=(x.1.2.2.2.1).1)&&decide ((x.1.2.2.2.1).1<(x.2.1.1.length:Nat))) ((fq x.2.1 ((x.1.2.2.2.1).1).toNat).bind λcR=>some (.inl ((x.1.1,x.1.2.1,(),(bc x.1.2.2.2.1 (W 1)),()),((ej x.2.1 ((x.1.2.2.2.1).1).toNat ((bg (W 0) bS.1),())),())))) (none)) (some (.inr ((),(x.2.1,()))))
def GJ (x:U ai2):Option (U aDZ):=(GQ ((x.1.1,x.1.2.1,()),())).bind λaq=>cond (!aq.1.2.1) (some ((L.nil,false,()),())) ((rh (α:=D [.bool]) 1 (bf x.1.1) (false,())).bind λea=>(a2 N8 ((x.1.1,aq.1.1,(),(W 0),()),(ea,()))).bind λa9=>some ((a9.2.1,true,()),()))
def ai6:=aJ [(0,aC eu),(1,au)]
def aD4:=aJ [(0,aC ck)]
def GL:=aJ [(0,aC eu),(5,aC [.bool]),(6,bA),(7,aC ck),(8,au)]
def aD1:bG:=[((.exit 0),aJ [(7,aC ck)])]
def N_ (x:U GL):Option (U GL⊕bo aD1):=cond (x.1.2.2.1) (cond (bg x.1.2.2.2.2.1 (bf x.1.1)) ((a1 x.1.2.1 (x.1.2.2.2.2.1).1).bind λaP=>cond (aP.1) ((a1 x.1.1 (x.1.2.2.2.2.1).1).bind λbS=>cond (bb bS.1 (W 0)) ((a1 x.1.1 (x.1.2.2.2.2.1).1).bind λcR=>(GO ((x.1.2.2.2.1,cR.2.1,()),())).bind λa9=>some (.inl ((x.1.1,x.1.2.1,x.1.2.2.1,a9.1.1,(bc x.1.2.2.2.2.1 (W 1)),()),()))) (some (.inl ((x.1.1,x.1.2.1,x.1.2.2.1,x.1.2.2.2.1,(bc x.1.2.2.2.2.1 (W 1)),()),())))) (some (.inl ((x.1.1,x.1.2.1,x.1.2.2.1,x.1.2.2.2.1,(bc x.1.2.2.2.2.1 (W 1)),()),())))) (some (.inr ((x.1.2.2.2.1,()),())))) (some (.inr ((x.1.2.2.2.1,()),())))
def N9 (x:U ai6):Option (U aD4):=(GJ ((x.1.1,x.1.2.1,()),())).bind λaq=>(a2 N_ ((x.1.1,aq.1.1,aq.1.2.1,L.nil,(W 0),()),())).bind λbJ=>some ((bJ.1.1,()),())
def ai1:=aJ [(0,aC eu),(1,au)]
def aDU:=aJ [(0,bA)]
def N7 (x:U ai1):Option (U aDU):=(GQ ((x.1.1,x.1.2.1,()),())).bind λaq=>some ((aq.1.2.1,()),())
def ajv:=aJ [(0,aC c7),(1,aZ)]
def aEO:=aJ [(0,au),(1,au)]
def GR:=aJ [(0,aC c7),(1,aZ),(6,au)]
def aEL:bG:=[((.exit 0),aJ []),fK [(4,au),(5,au)]]
def Oj (x:U GR):Option (U GR⊕bo aEL):=cond (bg x.1.2.2.1 (bf x.1.1)) ((a1 x.1.1 (x.1.2.2.1).1).bind λaE=>cond (cz aE.1 x.1.2.1) ((a1 x.1.1 (x.1.2.2.1).1).bind λaP=>cond (bg aP.2.1 (W 0)) (some (.inr (.inr (((W 0),(W 502),()),())))) ((a1 x.1.1 (x.1.2.2.1).1).bind λbS=>cond (bg (W 5) bS.2.1) (some (.inr (.inr (((W 0),(W 502),()),())))) ((a1 x.1.1 (x.1.2.2.1).1).bind λcR=>some (.inr (.inr ((cR.2.1,(W 0),()),())))))) (some (.inl ((x.1.1,x.1.2.1,(bc x.1.2.2.1 (W 1)),()),())))) (some (.inr (.inl ((),()))))
def Oi (x:U ajv):Option (U aEO):=(a2 Oj ((x.1.1,x.1.2.1,(W 0),()),())).bind λa9=>Sum.elim (λbJ=>some (((W 0),(W 501),()),())) (λbK=>some ((bK.1.1,bK.1.2.1,()),())) a9
def ajd:=aJ [(0,.agg eu),(1,aC c7)]
def aEm:=aJ [(0,au),(1,au)]
def Oc (x:U ajd):Option (U aEm):=cond (bb x.1.1.1 (W 0)) ((Oi ((x.1.2.1,x.1.1.2.1,()),())).bind λaq=>some ((aq.1.1,aq.1.2.1,()),())) (cond (bb x.1.1.1 (W 1)) (some (((W 1),(W 0),()),())) (cond (bb x.1.1.1 (W 2)) (some (((W 2),(W 0),()),())) (cond (bb x.1.1.1 (W 3)) (some (((W 3),(W 0),()),())) (cond (bb x.1.1.1 (W 4)) (some (((W 4),(W 0),()),())) (some (((W 0),(W 0),()),()))))))
def ajm:=aJ [(0,au),(1,au),(2,au)]
def aEx:=aJ [(0,au),(1,au)]
def VW:=aJ [(0,au),(1,au),(2,au)]
def ajg:=[ju [(8,bA)]]
def VV (x:U VW):Option (bo ajg):=cond (f_ x.1.1 (W 10)) (cond (bb x.1.2.1 (W 1)) (some (((bb x.1.2.2.1 (W 1)),()),())) (some ((false,()),()))) (some ((false,()),()))
def VY:=aJ [(0,au),(1,au),(2,au)]
def ajh:=[ju [(19,bA)]]
def VX (x:U VY):Option (bo ajh):=cond (bb x.1.1 (W 11)) (cond (bb x.1.2.1 x.1.2.2.1) (cond (!bb x.1.2.1 (W 5)) (some (((!bb x.1.2.1 (W 5)),()),())) (cond (bb x.1.1 (W 12)) (cond (bb x.1.2.1 (W 1)) (some (((bb x.1.2.2.1 (W 1)),()),())) (some ((false,()),()))) (some ((false,()),())))) (cond (bb x.1.1 (W 12)) (cond (bb x.1.2.1 (W 1)) (some (((bb x.1.2.2.1 (W 1)),()),())) (some ((false,()),()))) (some ((false,()),())))) (cond (bb x.1.1 (W 12)) (cond (bb x.1.2.1 (W 1)) (some (((bb x.1.2.2.1 (W 1)),()),())) (some ((false,()),()))) (some ((false,()),())))
def V2:=aJ [(0,au),(1,au),(2,au)]
def ajj:=[ju [(41,bA)]]
def V1 (x:U V2):Option (bo ajj):=cond (bb x.1.1 (W 13)) (cond (bb x.1.2.1 (W 2)) (some (((bb x.1.2.2.1 (W 2)),()),())) (some ((false,()),()))) (cond (bb x.1.1 (W 14)) (cond (bb x.1.2.1 (W 2)) (some (((bb x.1.2.2.1 (W 2)),()),())) (some ((false,()),()))) (some ((false,()),())))
def V0:=aJ [(0,au),(1,au),(2,au)]
def aji:=[ju [(41,bA)]]
def VZ (x:U V0):Option (bo aji):=(V1 ((x.1.1,x.1.2.1,x.1.2.2.1,()),())).bind λaK=>cond (aK.1.1) (some ((aK.1.1,()),())) (cond (bb x.1.1 (W 15)) (some (((bb x.1.2.1 (W 2)),()),())) (some ((false,()),())))
def V4:=aJ [(0,au),(1,au),(2,au)]
def ajk:=[ju [(62,bA)]]
def V3 (x:U V4):Option (bo ajk):=cond (bb x.1.1 (W 16)) (cond (bb x.1.2.1 (W 3)) (some ((true,()),())) (cond (bb x.1.2.1 (W 4)) (some (((bb x.1.2.1 (W 4)),()),())) (cond (bb x.1.1 (W 17)) (cond (bb x.1.2.1 (W 4)) (some (((bb x.1.2.2.1 (W 1)),()),())) (some ((false,()),()))) (some ((false,()),()))))) (cond (bb x.1.1 (W 17)) (cond (bb x.1.2.1 (W 4)) (some (((bb x.1.2.2.1 (W 1)),()),())) (some ((false,()),()))) (some ((false,()),())))
def V6:=aJ [(0,au),(1,au),(2,au)]
def ajl:=[ju [(83,bA)]]
def V5 (x:U V6):Option (bo ajl):=cond (bb x.1.1 (W 18)) (cond (bb x.1.2.1 (W 4)) (some (((bb x.1.2.2.1 (W 1)),()),())) (some ((false,()),()))) (some ((false,()),()))
def GN (x:U ajm):Option (U aEx):=(VV ((x.1.1,x.1.2.1,x.1.2.2.1,()),())).bind λaq=>cond (aq.1.1) (some (((W 1),(W 0),()),())) ((VX ((x.1.1,x.1.2.1,x.1.2.2.1,()),())).bind λaB=>cond (aB.1.1) (some (((W 2),(W 0),()),())) ((VZ ((x.1.1,x.1.2.1,x.1.2.2.1,()),())).bind λaS=>cond (aS.1.1) (some (((W 2),(W 0),()),())) ((V3 ((x.1.1,x.1.2.1,x.1.2.2.1,()),())).bind λa9=>cond (a9.1.1) (some (((W 1),(W 0),()),())) ((V5 ((x.1.1,x.1.2.1,x.1.2.2.1,()),())).bind λbJ=>cond (bJ.1.1) (some (((W 4),(W 0),()),())) (cond (bb x.1.1 (W 19)) (cond (bb x.1.2.1 (W 3)) (cond (bb x.1.2.2.1 (W 3)) (some (((W 3),(W 0),()),())) (some (((W 0),(W 502),()),()))) (some (((W 0),(W 502),()),()))) (some (((W 0),(W 502),()),())))))))
def u0:aY:=aJ [(0,aC eu),(1,au),(2,aC c7)]
def Bs:aY:=aJ [(0,au),(1,au)]
def Ob (rec:U u0->Option (U Bs))(x:U u0):Option (U Bs):=(a1 x.1.1 (x.1.2.1).1).bind λaE=>(Bq ((aE.1,()),())).bind λaB=>cond (bb aB.1.1 (W 0)) ((Oc ((aE,x.1.2.2.1,()),())).bind λaK=>some ((aK.1.1,aK.1.2.1,()),())) ((rec ((x.1.1,aE.2.2.2.2.1,x.1.2.2.1,()),())).bind λaS=>cond (!bb aS.1.2.1 (W 0)) (some (((W 0),aS.1.2.1,()),())) (cond (bb aB.1.1 (W 2)) ((rec ((x.1.1,aE.2.2.2.2.2.1,x.1.2.2.1,()),())).bind λa9=>cond (!bb a9.1.2.1 (W 0)) (some (((W 0),a9.1.2.1,()),())) ((GN ((aE.1,aS.1.1,a9.1.1,()),())).bind λbJ=>some ((bJ.1.1,bJ.1.2.1,()),()))) ((GN ((aE.1,aS.1.1,(W 0),()),())).bind λbK=>some ((bK.1.1,bK.1.2.1,()),()))))
def Br:Nat->U u0->Option (U Bs)
 |0=>λ_=>none
 |n+1=>Ob (Br n)
def VU:U u0->Option (U Bs):=Br px
def aiR:=aJ [(0,aC eu),(1,au),(2,aC c7)]
def aDB:=aJ [(0,au),(1,au)]
def N2 (x:U aiR):Option (U aDB):=(N7 ((x.1.1,x.1.2.1,()),())).bind λaq=>cond (!aq.1.1) (some (((W 0),(W 500),()),())) ((VU ((x.1.1,x.1.2.1,x.1.2.2.1,()),())).bind λaB=>some ((aB.1.1,aB.1.2.1,()),()))
theorem aEo:bt 195 GM:=bF fl [] []
theorem aDx:bt 196 N1:=bF fl [] [.c 7 VH aiO,.c 89 VJ aiP]
theorem aEb:bt 197 Oa:=bF fl [] []
noncomputable def aiT:de:=⟨.nil,[aH aEo,aH aDx,aH aEb]⟩
theorem aDD:bV 159 0 N3:=b5 aiT [] []
theorem sM:bt 159 k6:=bF aiT [bW aDD] []
theorem aDL:bV 104 0 Bo:=b5 fl [] []
theorem GH:bt 104 uZ:=bF fl [bW aDL] []
theorem v_:bt 102 pg:=bF ⟨.nil,[aH GH]⟩ [] []
noncomputable def aiW:de:=⟨.nil,[aH v_]⟩
theorem aDH:bV 160 0 N4:=b5 aiW [] []
theorem aiV:bt 160 GD:=bF aiW [bW aDH] []
theorem aEy:bV 190 0 Od:=b5 fl [] []
theorem ajp:bt 190 GO:=bF fl [bW aEy] []
noncomputable def ai0:de:=⟨.nil,[aH ajp]⟩
theorem aDP:bV 151 0 N6:=b5 ai0 [] []
theorem VL:bt 151 wg:=bF ai0 [bW aDP] []
noncomputable def aiM:de:=⟨(put .nil 22 .tok),[]⟩
theorem aDq:bV 210 0 N0:=b5 aiM [] []
theorem aiL:bt 210 GA:=bF aiM [bW aDq] [.c 5 VD aiJ]
theorem VS:bt 258 Bq:=bF fl [] []
theorem aD9:bt 257 N':=bF ⟨(put .nil 1 .bY),[aH sM,aH VS]⟩ [] [.c 5 VN ai8,.c 13 VP ai9,.c 15 VR ai_]
noncomputable def V9:de:=⟨(put .nil 26 (.arr [false])),[aH aD9,aH VS]⟩
theorem aEG:bV 236 1 Og:=b5 V9 [] [.c 11 V8 ajr]
theorem aED:bV 236 0 Oe:=b5 V9 [bW aEG] []
theorem ajt:bt 236 GQ:=bF V9 [bW aED] []
noncomputable def ai4:de:=⟨(put .nil 20 (.arr [false])),[aH ajt]⟩
theorem aDW:bV 189 0 N8:=b5 ai4 [] []
theorem ai3:bt 189 GJ:=bF ai4 [bW aDW] []
noncomputable def ai7:de:=⟨.nil,[aH ai3,aH ajp]⟩
theorem aD0:bV 150 0 N_:=b5 ai7 [] []
theorem aD3:bt 150 N9:=bF ai7 [bW aD0] []
theorem aDT:bt 266 N7:=bF ⟨.nil,[aH ajt]⟩ [] []
theorem aEK:bV 273 0 Oj:=b5 fl [] []
theorem aEN:bt 273 Oi:=bF fl [bW aEK] []
theorem aEl:bt 270 Oc:=bF ⟨(put .nil 2 .bY),[aH aEN]⟩ [] []
theorem aEw:bt 271 GN:=bF fl [] [.c 5 VW ajg,.c 11 VY ajh,.c 21 V0 aji,.c 22 V2 ajj,.c 31 V4 ajk,.c 41 V6 ajl]
abbrev ajc:={g:U u0->Option (U Bs)//bt 267 g}
noncomputable def aEj (r:ajc):de:=⟨(put .nil 8 .bY),[aH VS,aH r.2,aH aEl,aH aEw]⟩
theorem aEe:∀r:ajc,bt 267 (Ob r.1):=Al aEj (λr=>[]) []
theorem aEg (n:Nat):bt 267 (Br n):=by
 induction n with
 |zero=>exactλx y h=>by cases h
 |succ n cu=>exact aEe ⟨Br n,cu⟩
theorem aEi:bt 267 VU:=aEg px
theorem aDA:bt 263 N2:=bF ⟨.nil,[aH aDT,aH aEi]⟩ [] []
end cF
end Go.Proofs.YtgmdfchkljaooaaGreat
