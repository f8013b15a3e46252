/- Typed values. -/
import Derived.LoopN
import Derived.Test.YtgmdfchkljaooaaGreatProg
import Derived.KernelRfl
import Derived.Test.YtgmdfchkljaooaaGreatM03
noncomputable section
namespace Go.Proofs.YtgmdfchkljaooaaGreat
open Go.RowKit
namespace cx
open bC (T cL under size kL fx jP)
set_option linter.unusedVariables false
set_option linter.unusedSimpArgs false
def uj (ρ len c7:Nat->Nat)(l:List ec):Nat->nY l->List (Option B):=List.rec (motive:=λl=>Nat->nY l->List (Option B)) (λ_ _=>[]) (λb _ cj j x=>CS ρ len (c7 j) b x.1::cj (Nat.succ j) x.2) l
def B.len:B->Nat
 |.arr _ _ l _ _=>l.1.length
 |_=>0
def ec.o3:ec->Bool
 |.gone=>true
 |_=>false
def ec.tO (P:Nat->Bool):ec->Bool
 |.box cs=>cs.all (fp.tO P)
 |_=>true
section
variable{w:World}{m m':M}{σ:bV}{ρ gd:List fJ}{nn:Bool}
theorem aoc {t:dh}{a1:List Bool}{x:B}{y:kY (.arr t a1)×List fJ}(h:lz ρ (.arr t a1) x=some y):∃t' wz l v,x=.arr t' wz l none v:=by
 simp only[lz] at h;split at h
 ·exact⟨_,_,_,_,rfl⟩
 ·cases h
theorem aoe {b:ec}{cs:List C}{y:kY b×List fJ}(h:lz ρ b (.box cs)=some y):∃iy,b=.box iy:=by
 cases b with
 |box iy=>exact⟨iy,rfl⟩
 |arr t a1=>simp only[lz] at h;cases h
 |bG t=>simp only[lz] at h;cases h
 |gone=>simp only[lz] at h;cases h
theorem aod {b:ec}{x:B}{y:kY b×List fJ}(h:lz ρ b x=some y)(aW:∃t a1 l v,x=.arr t a1 l none v):∃t a1,b=.arr t a1:=by
 obtain⟨t,a1,l,v,rfl⟩:=aW;cases b with
 |arr t a1=>exact⟨t,a1,rfl⟩
 |box cs=>simp only[lz] at h;cases h
 |bG t=>simp only[lz] at h;cases h
 |gone=>simp only[lz] at h;cases h
theorem RK (l:List ec)(j:Nat)(ρ:List fJ):tf nn σ (.gone::l) j ρ=(match tf nn σ l (Nat.succ j) ρ with
 |some z=>some (((),z.1),z.2)
 |none=>none):=rfl
theorem RJ {b:ec}(ah:b.o3=false)(l:List ec)(j:Nat)(ρ:List fJ){z:nY (b::l)×List fJ}(h:tf nn σ (b::l) j ρ=some z):
 ∃id x y fU,kr ρ j=some id/\σ.heap.get id=some x/\Tg nn ρ j b=true/\lz ρ b x=some y/\tf nn σ l (Nat.succ j) y.2=some fU/\z=((y.1,fU.1),fU.2):=by
 have key:(match kr ρ j with
  |none=>none
  |some id=>match σ.heap.get id with
   |none=>none
   |some x=>match Tg nn ρ j b with
    |false=>none
    |true=>match lz ρ b x with
     |some y=>match tf nn σ l (Nat.succ j) y.2 with
      |some z=>some ((y.1,z.1),z.2)
      |none=>none
     |none=>none:Option (nY (b::l)×List fJ))=some z:=by
  cases b with
  |gone=>cases ah
  |box cs=>exact h
  |arr t a1=>exact h
  |bG t=>exact h
 split at key
 ·cases key
 ·rename_i id hid;split at key
  ·cases key
  ·rename_i x aW;split at key
   ·cases key
   ·rename_i hm;split at key
    ·rename_i y b7;split at key
     ·rename_i fU ai;cases key;exact⟨id,x,y,fU,hid,aW,hm,b7,ai,rfl⟩
     ·cases key
    ·cases key
theorem RI {b:ec}{x:B}{y:kY b×List fJ}(h:lz ρ b x=some y):(∀e∈ρ,e∈y.2)/\(n3 ρ->n3 y.2)/\Tb b y.1=x.len:=by
 cases b with
 |box cs=>
  simp only[lz] at h;split at h
  ·obtain⟨aa,af,_⟩:=Ak (m:=⟨λ_=>none,λ_=>none,λ_ _ _=>none,λ_=>[],λ_=>none⟩) h;exact⟨aa,af,rfl⟩
  ·cases h
 |arr t a1=>
  simp only[lz] at h;split at h
  ·split at h
   ·rename_i t' wz l c7 he;split at h
    ·obtain rfl:=kC he;cases h;exact⟨λ_ h=>h,λh=>h,rfl⟩
    ·cases h
   ·cases h
  ·cases h
 |bG t=>
  simp only[lz] at h;split at h
  ·split at h
   ·cases h;exact⟨λ_ h=>h,λh=>h,rfl⟩
   ·cases h
  ·cases h
 |gone=>simp only[lz] at h;cases h
theorem ab7 (bB:n3 gd)(aP:∀e∈ρ,e∈gd){k id:Nat}(h:kr ρ k=some id):kr gd k=some id:=by
 obtain⟨tag,bQ⟩:=ab6 h;exact bB _ (aP _ bQ)
theorem yc:∀{l:List ec}{j:Nat}{ρ:List fJ}{z:nY l×List fJ},tf nn σ l j ρ=some z->n3 ρ->(∀e∈ρ,e∈z.2)/\n3 z.2/\
 ∀idx b,l[idx]?=some b->b.o3=false->∃id x,kr z.2 (j+idx)=some id/\σ.heap.get id=some x/\(ab2 l z.1)[idx]?=some x.len/\((∃t a1,b=.arr t a1)->∃t' wz l v,x=.arr t' wz l none v)/\((∃cs,x=.box cs)->∃iy,b=.box iy)/\((∃t a1 l v,x=.arr t a1 l none v)->∃t a1,b=.arr t a1)
 |[],j,ρ,z,h,bB=>by cases h;exact⟨λ_ h=>h,bB,λidx b ah=>by simp at ah⟩
 |b::l,j,ρ,z,h,bB=>by
  cases cm:b.o3 with
  |true=>
   cases b with
   |gone=>
    rw[RK] at h;split at h
    ·rename_i fU ai;cases h;obtain⟨aa,af,ax⟩:=yc ai bB;refine⟨aa,af,λidx b ah Ar=>?_⟩;cases idx with
     |zero=>simp at ah;subst ah;cases Ar
     |succ idx=>
      obtain⟨id,x,aG,aN,bo⟩:=ax idx b (by simpa using ah) Ar;exact⟨id,x,by rw[show j+(idx+1)=Nat.succ j+idx by omega];exact aG,aN,bo⟩
    ·cases h
   |box cs=>cases cm
   |arr t a1=>cases cm
   |bG t=>cases cm
  |false=>
   obtain⟨id,x,y,fU,bA,bI,c9,ei,jJ,rfl⟩:=RJ cm l j ρ h;obtain⟨dM,di,gL⟩:=RI ei;obtain⟨aa,af,ax⟩:=yc jJ (di bB);refine⟨λe he=>aa e (dM e he),af,λidx f_ ah Ar=>?_⟩;cases idx with
   |zero=>
    simp at ah;subst ah;exact⟨id,x,ab7 af (λe he=>aa e (dM e he)) bA,bI,by show some (Tb b y.1)=_;rw[gL],λ⟨t,a1,he⟩=>(by subst he;exact aoc ei),λ⟨cs,he⟩=>(by subst he;exact aoe ei),aod ei⟩
   |succ idx=>
    obtain⟨id,x,aG,aN,bo⟩:=ax idx f_ (by simpa using ah) Ar;exact⟨id,x,by rw[show j+(idx+1)=Nat.succ j+idx by omega];exact aG,aN,bo⟩
theorem RL (bf:bM m σ w):∀{l:List ec}{j:Nat}{ρ:List fJ}{z:nY l×List fJ},tf true σ l j ρ=some z->n3 ρ->(∀e∈ρ,e.tag=1->m.pl e.id≠none)->(∀e∈z.2,e.tag=1->m.pl e.id≠none)/\
 ∀idx cs,l[idx]?=some (.box cs)->∀id,kr z.2 (j+idx)=some id->m.pl id≠none
 |[],j,ρ,z,h,bB,hm=>by cases h;exact⟨hm,λidx b ah=>by simp at ah⟩
 |b::l,j,ρ,z,h,bB,hm=>by
  cases cm:b.o3 with
  |true=>
   cases b with
   |gone=>
    rw[RK] at h;split at h
    ·rename_i fU ai;cases h;obtain⟨aa,af⟩:=RL bf ai bB hm;refine⟨aa,λidx cs ah id hid=>?_⟩;cases idx with
     |zero=>simp at ah
     |succ idx=>exact af idx cs (by simpa using ah) id (by rw[show Nat.succ j+idx=j+(idx+1) by omega];exact hid)
    ·cases h
   |box cs=>cases cm
   |arr t a1=>cases cm
   |bG t=>cases cm
  |false=>
   obtain⟨id,x,y,fU,bA,bI,c9,ei,jJ,rfl⟩:=RJ cm l j ρ h;obtain⟨dM,di,a0⟩:=RI ei;have aqs:∀e∈y.2,e.tag=1->m.pl e.id≠none:=by
    cases b with
    |gone=>cases cm
    |arr t a1=>
     simp only[lz] at ei;split at ei
     ·split at ei
      ·split at ei
       ·cases ei;exact hm
       ·cases ei
      ·cases ei
     ·cases ei
    |bG t=>
     simp only[lz] at ei;split at ei
     ·split at ei
      ·cases ei;exact hm
      ·cases ei
     ·cases ei
    |box cs=>
     simp only[lz] at ei;split at ei
     ·rename_i xb;obtain⟨_,_,_,oQ⟩:=Ak (m:=m) ei;have w7:m.pl id≠none:=by
       have c9:hasTag ρ j 1=true:=c9;unfold hasTag at c9;obtain⟨e,he,cM⟩:=List.any_eq_true.1 c9;rw[gR] at cM;have aD:=gB cM.1;have aQ:=gB cM.2;have:=bB e he;rw[aD,bA] at this;cases this;exact hm e he aQ
      have m4:∀v∈xb.map (λc=>V.p (.c c)),∃u,en m v u:=λv aL=>by
       obtain⟨c,an,rfl⟩:=List.mem_map.1 aL;rcases bf.live id _ bI with g|⟨r,cur,ty,b_,aG,aN,bo,cE,eM,_⟩
       ·exact absurd g w7
       ·obtain⟨i,aj⟩:=List.mem_iff_getElem?.1 an;obtain⟨u,_,hu⟩:=eM i c aj;exact⟨u,hu⟩
      intro e he bQ;rcases oQ m4 e he bQ with g|g
      ·exact hm e g bQ
      ·exact g
     ·cases ei
   obtain⟨aa,af⟩:=RL bf jJ (di bB) aqs;obtain⟨cW,dA,_⟩:=yc jJ (di bB);refine⟨aa,λidx cs ah yW hid=>?_⟩;cases idx with
   |zero=>
    simp at ah;subst ah;have c9:hasTag ρ j 1=true:=c9;unfold hasTag at c9;obtain⟨e,he,cM⟩:=List.any_eq_true.1 c9;rw[gR] at cM;have aD:=gB cM.1;have aQ:=gB cM.2;have ax:=dA e (cW e (dM e he));rw[aD] at ax;have hid:kr fU.2 j=some yW:=hid;rw[hid] at ax;cases ax;exact hm e he aQ
   |succ idx=>exact af idx cs (by simpa using ah) yW (by rw[show Nat.succ j+idx=j+(idx+1) by omega];exact hid)
theorem aog {s:fp}{c:C}{y:wq s×List fJ}(h:nI ρ s (.p (.c c))=some y)(f len:Nat->Nat):∃c',x9 f len s y.1=.p (.c c'):=by
 cases s with
 |agg t=>simp only[nI] at h;cases h
 |sD t nl=>simp only[nI] at h;cases h
 |_=>exact⟨_,rfl⟩
theorem YV {f f' len:Nat->Nat}{P:Nat->Bool}(bQ:uf m m' f f' P):∀{l:List fp}{cs:List C}{ρ:List fJ}{y:rZ l×List fJ},yd l ρ (cs.map λc=>.p (.c c))=some y->l.all (fp.tO P)=true->ud m y.2 f len->
 ((n_ f' len l y.1).map wi).length=cs.length/\∀(j:Nat) c',((n_ f' len l y.1).map wi)[j]?=some c'->∃c,cs[j]?=some c/\∀v,dv m c v->dv m' c' v
 |[],cs,ρ,y,h,hu,aO=>by
  match cs,h with
  |[],h=>cases h;exact⟨rfl,λj c' aq=>by simp[n_] at aq⟩
  |c::cs,h=>cases h
 |s::l,cs,ρ,y,h,hu,aO=>by
  match cs,h with
  |[],h=>cases h
  |c::cs,h=>
   rw[List.map_cons,Zt] at h;rw[List.all_cons,gR] at hu;split at h
   ·rename_i az aa;split at h
    ·rename_i z ai;cases h;obtain⟨c4,_,_,_⟩:=Ak (m:=m) ai;obtain⟨_,_,gL,_⟩:=Zs (m:=m) aa;obtain⟨aG,aN⟩:=YV bQ ai hu.2 aO;rw[Ja,List.map_cons];refine⟨by simp[aG],λj c' aq=>?_⟩;cases j with
     |zero=>
      simp at aq;subst aq;refine⟨c,rfl,λv aL=>?_⟩;have:=Rx (len:=len) bQ hu.1 (gL f len (aO.of c4) v aL);obtain⟨c',kS⟩:=aog aa f' len;rw[kS] at this⊢;exact this
     |succ j=>
      obtain⟨pz,bA,bI⟩:=aN j c' (by simpa using aq);exact⟨pz,by simpa using bA,bI⟩
    ·cases h
   ·cases h
theorem aof {f f' len:Nat->Nat}{P:Nat->Bool}(bQ:uf m m' f f' P){b:ec}{x:B}{y:kY b×List fJ}(h:lz ρ b x=some y)(hu:b.tO P=true)(aO:ud m y.2 f len)(c7:Nat):
 ∃f_,CS f' len c7 b y.1=some f_/\tV m m' x f_/\(∀t a1 l k v,f_=.arr t a1 l k v->v=c7)/\((∀t a1,b≠.arr t a1)->f_.c7=0):=by
 cases b with
 |box cs=>
  simp only[lz] at h;split at h
  ·obtain⟨aG,aN⟩:=YV bQ h hu aO;exact⟨_,rfl,.box aG aN,(λt a1 l k v aL=>by cases aL),λ_=>rfl⟩
  ·cases h
 |arr t a1=>
  simp only[lz] at h;split at h
  ·split at h
   ·rename_i t' wz l j4 he;split at h
    ·rename_i cf;obtain rfl:=kC he;obtain rfl:=of_decide_eq_true cf;cases h;exact⟨_,rfl,.arr j4 c7,(λt a1 l k v aL=>by cases aL;rfl),λaA=>absurd rfl (aA _ _)⟩
    ·cases h
   ·cases h
  ·cases h
 |bG t=>
  simp only[lz] at h;split at h
  ·split at h
   ·rename_i he;obtain rfl:=kC he;cases h;exact⟨_,rfl,.bG _,(λt a1 l k v aL=>by cases aL),λ_=>rfl⟩
   ·cases h
  ·cases h
 |gone=>simp only[lz] at h;cases h
theorem Jf {f f' len c7:Nat->Nat}{P:Nat->Bool}(bQ:uf m m' f f' P):∀{l:List ec}{j:Nat}{ρ:List fJ}{z:nY l×List fJ},tf nn σ l j ρ=some z->n3 ρ->l.all (ec.tO P)=true->ud m z.2 f len->
 ∀idx b,l[idx]?=some b->((b.o3=true/\(uj f' len c7 l j z.1)[idx]?=some none)\/(b.o3=false/\∃id x f_,kr z.2 (j+idx)=some id/\σ.heap.get id=some x/\(uj f' len c7 l j z.1)[idx]?=some (some f_)/\tV m m' x f_/\
  (∀t a1 l k v,f_=.arr t a1 l k v->v=c7 (j+idx))))
 |[],j,ρ,z,h,bB,hu,aO=>λidx b ah=>by simp at ah
 |b::l,j,ρ,z,h,bB,hu,aO=>by
  rw[List.all_cons,gR] at hu;cases cm:b.o3 with
  |true=>
   cases b with
   |gone=>
    rw[RK] at h;split at h
    ·rename_i fU ai;cases h;intro idx f_ ah;cases idx with
     |zero=>simp at ah;subst ah;exact .inl ⟨rfl,rfl⟩
     |succ idx=>
      have:=Jf (c7:=c7) bQ ai bB hu.2 aO idx f_ (by simpa using ah);rw[show j+(idx+1)=Nat.succ j+idx by omega];exact this
    ·cases h
   |box cs=>cases cm
   |arr t a1=>cases cm
   |bG t=>cases cm
  |false=>
   obtain⟨id,x,y,fU,bA,bI,c9,ei,jJ,rfl⟩:=RJ cm l j ρ h;obtain⟨dM,di,gL⟩:=RI ei;obtain⟨cW,dA,_⟩:=yc jJ (di bB);intro idx f_ ah;cases idx with
   |zero=>
    simp at ah;subst ah;obtain⟨f_,aG,aN,bo,_⟩:=aof bQ ei hu.1 (aO.of cW) (c7 j);exact .inr ⟨cm,id,x,f_,ab7 dA (λe he=>cW e (dM e he)) bA,bI,by show some (CS f' len (c7 j) b y.1)=_;rw[aG],aN,bo⟩
   |succ idx=>
    have:=Jf (c7:=c7) bQ jJ (di bB) hu.2 aO idx f_ (by simpa using ah);rw[show j+(idx+1)=Nat.succ j+idx by omega];exact this
end
def live (l:List ec)(k:Nat):Bool:=match l[k]? with
 |some b=> !b.o3
 |none=>false
def w_ (l:List ec)(k:Nat):Bool:=match l[k]? with
 |some (.arr _ _)=>true
 |_=>false
def Xp (ρ:List fJ)(l:List ec):Bool:=ρ.all λe=>match Nat.beq e.tag 2 with
 |true=>w_ l e.k
 |false=>true
def a4.ok (p:a4):Bool:=p.kinds.all (fp.tO (live p.blocks))&&p.blocks.all (ec.tO (live p.blocks))
def Jg (nn:Bool)(p:a4)(QE:List fJ)(vs:List V)(σ:bV):Option (U p×List fJ):=match yd p.kinds QE vs with
 |some y=>match tf nn σ p.blocks 0 y.2 with
  |some z=>match Xp z.2 p.blocks with
   |true=>some ((y.1,z.1),z.2)
   |false=>none
  |none=>none
 |none=>none
def KZ:List Nat->Bool
 |[]=>true
 |x::l=> !vq x l&&KZ l
theorem adL:∀{l:List Nat},KZ l=true->l.Nodup
 |[],_=>List.nodup_nil
 |x::l,h=>by
  rw[KZ,gR,Bool.not_eq_true'] at h;rw[List.nodup_cons];exact⟨λhm=>(by rw[(yx _ _).2 hm] at h;cases h.1),adL h.2⟩
def J9 (ρ:List fJ)(j:Nat):Nat->Option (List Nat)
 |0=>some []
 |n+1=>match kr ρ j with
  |some id=>match J9 ρ (Nat.succ j) n with
   |some l=>some (id::l)
   |none=>none
  |none=>none
theorem abt {ρ:List fJ}:∀{n j:Nat}{l:List Nat},J9 ρ j n=some l->l.length=n/\∀k,k<n->l[k]?=kr ρ (j+k)
 |0,j,l,h=>by cases h;exact⟨rfl,λk aU=>by omega⟩
 |n+1,j,l,h=>by
  rw[J9] at h;split at h
  ·rename_i id hid;split at h
   ·rename_i r aO;cases h;obtain⟨aa,af⟩:=abt aO;refine⟨by simp[aa],λk aU=>?_⟩;cases k with
    |zero=>simp[hid]
    |succ k=>rw[show j+(k+1)=Nat.succ j+k by omega,<-af k ab];simp
   ·cases h
  ·cases h
def putAt:List Nat->List (Option B)->T B->T B
 |i::l,b::r,t=>putAt l r (t.put i b)
 |_,_,t=>t
theorem Ba:∀{l:List Nat}{s4:List (Option B)}{t:T B}{i:Nat},i∉l->(putAt l s4 t).get i=t.get i
 |[],s4,t,i,_=>by cases s4<;>rfl
 |k::l,[],t,i,_=>rfl
 |k::l,b::r,t,i,h=>by
  rw[List.mem_cons,not_or] at h;rw[putAt,Ba h.2,bC.T.eP _ _ h.1]
theorem A':∀{l:List Nat}{s4:List (Option B)}{t:T B}{i j:Nat}{b:Option B},l.Nodup->l[j]?=some i->s4[j]?=some b->(putAt l s4 t).get i=b
 |[],s4,t,i,j,b,_,h,_=>by simp at h
 |k::l,[],t,i,j,b,_,_,h=>by simp at h
 |k::l,cR::r,t,i,j,b,bg,aa,af=>by
  rw[List.nodup_cons] at bg;cases j with
  |zero=>
   simp at aa af;subst aa af;rw[putAt,Ba bg.1,bC.T.il]
  |succ j=>
   show(putAt l r (t.put k cR)).get i=b;exact A' (j:=j) bg.2 (by simpa using aa) (by simpa using af)
def nV (i:Nat):Nat->List Nat
 |0=>[]
 |n+1=>i::nV (Nat.succ i) n
theorem Cb:∀{n i k:Nat},k<n->(nV i n)[k]?=some (i+k)
 |n+1,i,0,_=>rfl
 |n+1,i,k+1,h=>by
  rw[nV,List.getElem?_cons_succ,Cb ab];congr 1;omega
theorem Xr:∀{n i:Nat},(nV i n).length=n
 |0,_=>rfl
 |n+1,i=>by rw[nV,gS,Xr]
theorem Ik {n i x:Nat}(h:x∈nV i n):i<=x/\x<i+n:=by
 obtain⟨k,aU⟩:=List.mem_iff_getElem?.1 h;have bn:k<n:=by
  have:=(eu.1 aU).1
  rwa [Xr] at this
 rw[Cb bn] at aU;cases aU;omega
theorem Qw:∀{n i:Nat},(nV i n).Nodup
 |0,_=>List.nodup_nil
 |n+1,i=>by
  rw[nV,List.nodup_cons];exact⟨λh=>by have:=(Ik h).1;omega,Qw⟩
def ye (p:a4)(vs:List V)(σ:bV):Option (U p×List Nat):=match Jg true p [] vs σ with
 |some y=>match J9 y.2 0 p.blocks.length with
  |some ids=>match KZ ids&&p.ok&&p.blocks.all (λb=> !b.o3) with
   |true=>some (y.1,ids)
   |false=>none
  |none=>none
 |none=>none
def pS (p:a4)(x:U p):bV:=⟨putAt (nV 0 p.blocks.length) (uj (λk=>k) (lenOf x.2) (λ_=>0) p.blocks 0 x.2) .nil,p.blocks.length⟩
def J' (p:a4)(x:U p):List V:=n_ (λk=>k) (lenOf x.2) p.kinds x.1
section
variable{w eU:World}{m dc:M}{σ fh:bV}{p:a4}{vs:List V}{us:List Value}
theorem Q1:∀(vs gi:List V)(us:List Value),cL (λv ej=>∀u,en m v u->en m ej u) vs gi->cL (en m) vs us->cL (en m) gi us
 |[],[],[]=>λ_ _=>trivial
 |[],[],_::_=>λ_ h=>h.elim
 |[],_::_,_=>λh _=>h.elim
 |_::_,[],_=>λh _=>h.elim
 |_::_,_::_,[]=>λ_ h=>h.elim
 |v::vs,ej::gi,u::us=>λh k=>⟨h.1 u k.1,Q1 vs gi us h.2 k.2⟩
theorem Rz {f f' len:Nat->Nat}{P:Nat->Bool}(bQ:uf m dc f f' P):∀{l:List fp}{x:rZ l}{us:List Value},l.all (fp.tO P)=true->cL (en m) (n_ f len l x) us->cL (en dc) (n_ f' len l x) us
 |[],x,us,_,h=>by
  match us,h with
  |[],_=>trivial
 |s::l,x,us,hu,h=>by
  rw[List.all_cons,gR] at hu
  match us,h with
  |u::us,⟨aa,af⟩=>exact⟨Rx bQ hu.1 aa,Rz bQ hu.2 af⟩
theorem aln (bf:bM m σ w){nn:Bool}{l:List ec}{ρ:List fJ}{z:nY l×List fJ}(h:tf nn σ l 0 ρ=some z)(bB:n3 ρ)(bQ:Xp z.2 l=true):ud m z.2 (λk=>(kr z.2 k).getD 0) (lenOf z.1):=by
 obtain⟨aa,af,ax⟩:=yc h bB;refine⟨λe he=>(by show(kr z.2 e.k).getD 0=e.id;rw[af e he];rfl),λe he cM A n c pM=>?_⟩;have:=List.all_eq_true.1 bQ e he;rw[cM] at this;have this:w_ l e.k=true:=this;unfold w_ at this;split at this
 ·rename_i t a1 aU;obtain⟨id,x,aG,aN,bo,cE,_⟩:=ax e.k _ aU rfl;obtain⟨t',wz,aPq,v,rfl⟩:=cE ⟨t,a1,rfl⟩;rw[fW,af e he] at aG;cases aG;obtain⟨eW,c',bA,_⟩:=bf.live _ _ aN;rw[bA] at pM;cases pM;unfold lenOf;rw[bo];rfl
 ·cases this
theorem Zq {nn:Bool}{QE:List fJ}{z:U p×List fJ}(h:Jg nn p QE vs σ=some z):∃sN,yd p.kinds QE vs=some (z.1.1,sN)/\tf nn σ p.blocks 0 sN=some (z.1.2,z.2)/\Xp z.2 p.blocks=true:=by
 unfold Jg at h;split at h
 ·rename_i y b7;split at h
  ·rename_i fU ai;split at h
   ·rename_i bQ;cases h;exact⟨y.2,b7,ai,bQ⟩
   ·cases h
  ·cases h
 ·cases h
def rY (iJ:List ec)(m:M):Prop:=∀j iy,iJ[j]?=some (.box iy)->m.pl j≠none
theorem Jh {x:U p}{ids:List Nat}(h:ye p vs σ=some (x,ids))(bf:bM m σ w)(aL:cL (en m) vs us):ids.length=p.blocks.length/\ids.Nodup/\(∀i∈ids,i<σ.next)/\(∀i∈ids,∀cs,σ.heap.get i=some (.box cs)->m.pl i≠none)/\
 (∀j c4,(pS p x).heap.get j=some c4->∃i b,ids[j]?=some i/\σ.heap.get i=some b)/\bM (m.sub σ ids) (pS p x) w/\cL (en (m.sub σ ids)) (J' p x) us/\rY p.blocks (m.sub σ ids):=by
 unfold ye at h;split at h
 ·rename_i y b7;split at h
  ·rename_i aPk aaB;split at h
   ·rename_i om;cases h;rw[gR,gR] at om;obtain⟨om,aaV⟩:=om;obtain⟨sN,aD,aQ,bO⟩:=Zq b7;obtain⟨i1,i2⟩:=abt aaB;have AF:=adL om.1;have ji:=om.2;unfold a4.ok at ji;rw[gR] at ji;obtain⟨dM,di,gL,k_⟩:=Ak (m:=m) aD;have qW:n3 sN:=di λe he=>by cases he
    have m4:∀v∈vs,∃u,en m v u:=λv aq2=>by
     obtain⟨i,aj⟩:=List.mem_iff_getElem?.1 aq2;obtain⟨u,_,hu⟩:=aL.get aj;exact⟨u,hu⟩
    have aqq:∀e∈sN,e.tag=1->m.pl e.id≠none:=λe he bQ=>by
     rcases k_ m4 e he bQ with g|g
     ·cases g
     ·exact g
    obtain⟨c4,fD,ij⟩:=yc aQ qW;obtain⟨cW,dA⟩:=RL bf aQ qW aqq;have DK:=aln bf aQ qW bO;have DO:uf m (m.sub σ ids) (λk=>(kr y.2 k).getD 0) (λk=>k) (live p.blocks):=by
     refine⟨iA.refl _,λk aU=>?_⟩;have bn:k<p.blocks.length:=by
      unfold live at aU;split at aU
      ·rename_i b ah;exact(eu.1 ah).1
      ·cases aU
     have aa:=i2 k bn;rw[fW] at aa;have af:ids[k]?=some (ids[k]'ab):=fy ab
     rw[af] at aa;simp only[<-aa,Option.getD_some];exact⟨λr aO=>by simp[M.sub,af,aO],λv aL=>by simp[M.sub,af,aL]⟩
    have apH:=Jf (f':=λk=>k) (c7:=λ_=>0) DO aQ qW ji.2 DK;have Ax:∀j c4,(pS p y.1).heap.get j=some c4->∃i b,ids[j]?=some i/\σ.heap.get i=some b/\tV m (m.sub σ ids) b c4/\c4.c7=0:=λj c4 aq=>by
     rcases ky j p.blocks.length with bn|mu
     ·have bF:=Cb (i:=0) bn;rw[fW] at bF;have si:p.blocks[j]?=some (p.blocks[j]'bn):=fy bn
      rcases apH j _ si with⟨_,aG⟩|⟨_,id,b,f_,aG,aN,bo,cE,eM⟩
      ·have:=A' (t:=.nil) Qw bF aG;have aq:(putAt _ _ T.nil).get j=some c4:=aq;rw[this] at aq;cases aq
      ·have:=A' (t:=.nil) Qw bF bo;have aq:(putAt _ _ T.nil).get j=some c4:=aq;rw[this] at aq;cases aq;rw[fW] at aG;have aa:=i2 j bn;rw[fW,aG] at aa;refine⟨id,b,aa,aN,cE,?_⟩;cases c4 with
       |arr t a1 l k v=>exact eM _ _ _ _ _ rfl
       |box cs=>rfl
       |bG t=>rfl
     ·have aq:(putAt _ _ T.nil).get j=some c4:=aq;rw[Ba (λhm=>by have:=(Ik hm).2;omega),bC.T.get_nil] at aq;cases aq
    have lU:∀i∈ids,∃k,k<p.blocks.length/\kr y.2 k=some i:=λi aj=>by
     obtain⟨k,aU⟩:=List.mem_iff_getElem?.1 aj;have bn:k<p.blocks.length:=by have:=(eu.1 aU).1;omega
     have aa:=i2 k bn;rw[fW] at aa;exact⟨k,bn,by rw[<-aa];exact aU⟩
    have apJ:∀i∈ids,∀b,σ.heap.get i=some b->i<σ.next:=λi aj b ah=>by
     rcases ky i σ.next with g|g
     ·exact g
     ·rw[(bf.fresh i g).2.2.2] at ah;cases ah
    refine⟨i1,AF,λi aj=>?_,λi aj cs ah=>?_,λj c4 aq=>?_,bf.sub AF (by rw[i1];rfl) Ax,Rz DO ji.1 (Q1 _ _ _ (gL _ (lenOf y.1.2) (DK.of c4)) aL),λj iy aq=>?_⟩
    ·obtain⟨k,aU,aZ⟩:=lU i aj;have si:p.blocks[k]?=some (p.blocks[k]'aU):=fy aU
     have cm:(p.blocks[k]'aU).o3=false:=by simpa using List.all_eq_true.1 aaV _ (List.mem_of_getElem? si)
     obtain⟨id,x,aG,aN,_⟩:=ij k _ si cm;rw[fW,aZ] at aG;cases aG;exact apJ i aj x aN
    ·obtain⟨k,aU,aZ⟩:=lU i aj;have si:p.blocks[k]?=some (p.blocks[k]'aU):=fy aU
     have cm:(p.blocks[k]'aU).o3=false:=by simpa using List.all_eq_true.1 aaV _ (List.mem_of_getElem? si)
     obtain⟨id,x,aG,aN,_,_,bo,_⟩:=ij k _ si cm;rw[fW,aZ] at aG;cases aG;rw[ah] at aN;cases aN;obtain⟨iy,vB⟩:=bo ⟨cs,rfl⟩;exact dA k iy (by rw[si,vB]) i (by rw[fW];exact aZ)
    ·obtain⟨i,b,aG,aN,_⟩:=Ax j c4 aq;exact⟨i,b,aG,aN⟩
    ·have bn:j<p.blocks.length:=(eu.1 aq).1;obtain⟨id,x,aG,_⟩:=ij j _ aq rfl;have aa:=i2 j bn;rw[aG] at aa;have af:=dA j iy aq id aG;show(ids[j]?).bind m.pl≠none;rw[aa];exact af
   ·cases h
  ·cases h
 ·cases h
end
def LS (k:Nat):List fJ:=(nV 0 k).map λj=>⟨j,j,0⟩
def af0 (a b:Option Nat):Bool:=match a with
 |some x=>match b with
  |some y=> !Nat.beq x y
  |none=>true
 |none=>true
def aro (ρ:List fJ)(l:List ec):Bool:=(nV 0 l.length).all λj=>(nV 0 l.length).all λkq=>Nat.beq j kq|| !live l j|| !live l kq||af0 (kr ρ j) (kr ρ kq)
def C5 (p:a4)(k:Nat)(vs:List V)(σ:bV):Option (U p):=match Jg false p (LS k) vs σ with
 |some y=>match Nat.ble k p.blocks.length&&p.ok&&aro y.2 p.blocks with
  |true=>some y.1
  |false=>none
 |none=>none
def nS (σ:bV)(ids:List Nat)(n:Nat):List Nat:=ids++nV σ.next (n-ids.length)
def uT (σ:bV)(ids:List Nat)(n k:Nat):Nat:=(nS σ ids n)[k]?.getD 0
def A7 (σ:bV)(ids:List Nat)(j:Nat):Nat:=match ids[j]? with
 |some i=>xE σ i+1
 |none=>0
def vU (σ:bV)(ids:List Nat)(p:a4)(y:U p):bV:=⟨putAt (nS σ ids p.blocks.length) (uj (uT σ ids p.blocks.length) (lenOf y.2) (A7 σ ids) p.blocks 0 y.2) σ.heap,σ.next+(p.blocks.length-ids.length)⟩
def EZ (σ:bV)(ids:List Nat)(p:a4)(y:U p):List V:=n_ (uT σ ids p.blocks.length) (lenOf y.2) p.kinds y.1
def z5 (σ:bV)(ids:List Nat)(l:List ec):Bool:=(nV 0 ids.length).all λj=> !w_ l j||(match ids[j]? with
 |some i=>match σ.heap.get i with
  |some (.arr _ _ _ _ _)=>true
  |_=>false
 |none=>false)
section
variable{w eU:World}{m dc:M}{σ kN fh:bV}{p:a4}{vs:List V}{us:List Value}{ids:List Nat}
theorem axr:∀k,n3 (LS k)/\∀j,j<k->(⟨j,j,0⟩:fJ)∈LS k:=λk=>by
 have mem:∀{e:fJ},e∈LS k->e.k=e.id:=λ{e} he=>by
  obtain⟨j,_,rfl⟩:=List.mem_map.1 he;rfl
 have key:∀{l:List fJ},(∀e∈l,e.k=e.id)->∀e∈l,kr l e.k=some e.id:=by
  intro l;induction l with
  |nil=>intro _ e he;cases he
  |cons x l cj=>
   intro aZ e he;rw[kr];split
   ·rename_i ah;have:=gB ah;rw[<-aZ x mY,this,aZ e he]
   ·rename_i ah;rcases List.mem_cons.1 he with rfl|he
    ·rw[Nat.beq_refl] at ah;cases ah
    ·exact cj (λe he=>aZ e (List.mem_cons_of_mem _ he)) e he
 refine⟨key λe he=>mem he,λj aq=>List.mem_map.2 ⟨j,?_,rfl⟩⟩;have:=Cb (i:=0) aq;rw[fW] at this;exact List.mem_of_getElem? this
def y3:List Nat->Nat->Option Nat
 |[],_=>none
 |x::l,i=>if x=i then some 0 else(y3 l i).map (·+1)
theorem abF:∀{l:List Nat}{i j:Nat},y3 l i=some j->l[j]?=some i
 |x::l,i,j,h=>by
  rw[y3] at h;split at h
  ·rename_i he;cases h;simp[he]
  ·obtain⟨k,aU,rfl⟩:=Option.map_eq_some_iff.1 h;simpa using abF aU
theorem abE:∀{l:List Nat}{i j:Nat},l.Nodup->l[j]?=some i->y3 l i=some j
 |[],i,j,_,h=>by simp at h
 |x::l,i,0,_,h=>by simp at h;simp[y3,h]
 |x::l,i,j+1,bg,h=>by
  rw[List.nodup_cons] at bg;have h:l[j]?=some i:=by simpa using h
  have eJ:x≠i:=λe=>bg.1 (by rw[e];exact List.mem_of_getElem? h);rw[y3,if_neg eJ,abE bg.2 h];rfl
theorem agj (bg:ids.Nodup)(aZ:∀i∈ids,i<σ.next)(n:Nat):(nS σ ids n).Nodup:=by
 unfold nS;rw[List.nodup_append];refine⟨bg,Qw,λa cf b ah e=>?_⟩;have:=aZ a cf;have:=(Ik ah).1;omega
theorem L8 {n j:Nat}(aq:j<ids.length):(nS σ ids n)[j]?=ids[j]?:=by
 unfold nS;rw[ml aq]
theorem Ub {n j:Nat}(aq:ids.length<=j)(aA:j<n):(nS σ ids n)[j]?=some (σ.next+(j-ids.length)):=by
 unfold nS;rw[mm aq,Cb ab]
theorem Ua {n:Nat}(h:ids.length<=n):(nS σ ids n).length=n:=by
 unfold nS;rw[bl,Xr];omega
structure amL (p:a4)(k:Nat)(y:U p)(m:M)(σ:bV)(us:List Value)(f:Nat->Nat):Prop where
  ok:p.ok=true
  aU:k<=p.blocks.length
  vT:∀j,live p.blocks j=true->j<k->f j=j
  inj:∀j kq,live p.blocks j=true->live p.blocks kq=true->f j=f kq->j=kq
  Im:cL (en m) (n_ f (lenOf y.2) p.kinds y.1) us
  anm:∀(j:Nat)(b:ec),p.blocks[j]?=some b->b.o3=false->∃x,σ.heap.get (f j)=some x/\((∃t a1 l v,x=.arr t a1 l none v)->w_ p.blocks j=true)/\
    ∀(f':Nat->Nat)(fw:M)(c7:Nat->Nat),uf m fw f f' (live p.blocks)->∃f_,(uj f' (lenOf y.2) c7 p.blocks 0 y.2)[j]?=some (some f_)/\tV m fw x f_/\∀t a1 l k v,f_=.arr t a1 l k v->v=c7 j
  gone:∀(j:Nat)(b:ec),p.blocks[j]?=some b->b.o3=true->∀(f' c7:Nat->Nat),(uj f' (lenOf y.2) c7 p.blocks 0 y.2)[j]?=some none
def p5 (p:a4)(k:Nat)(y:U p)(m:M)(σ:bV)(us:List Value):Prop:=∃f,amL p k y m σ us f
theorem Qv {j n:Nat}(h:j<n):j∈nV 0 n:=by
 have:=Cb (i:=0) h;rw[fW] at this;exact List.mem_of_getElem? this
theorem Td {l:List ec}{j:Nat}(h:live l j=true):∃b,l[j]?=some b/\b.o3=false:=by
 unfold live at h;split at h
 ·rename_i b ah;exact⟨b,ah,by simpa using h⟩
 ·cases h
theorem ZU {l:List ec}{j:Nat}{b:ec}(h:l[j]?=some b)(cm:b.o3=false):live l j=true:=by unfold live;rw[h];simp[cm]
theorem Y' (f len c7:Nat->Nat):∀{l:List ec}{i j:Nat}(x:nY l){b:ec},l[j]?=some b->b.o3=true->(uj f len c7 l i x)[j]?=some none
 |[],i,j,x,b,h,_=>by simp at h
 |cR::l,i,0,x,b,h,cm=>by
  simp at h;subst h;cases cR with
  |gone=>rfl
  |box cs=>cases cm
  |arr t a1=>cases cm
  |bG t=>cases cm
 |cR::l,i,j+1,x,b,h,cm=>by
  show(uj f len c7 l (Nat.succ i) x.2)[j]?=some none;exact Y' f len c7 x.2 (by simpa using h) cm
theorem RR {k:Nat}{y:U p}(af:bM dc fh eU)(h:C5 p k vs fh=some y)(aL:cL (en dc) vs us):p5 p k y dc fh us:=by
 unfold C5 at h;split at h
 ·rename_i z ai;split at h
  ·rename_i om;cases h;simp only[gR] at om;obtain⟨⟨aU,ji⟩,ap1⟩:=om;have aU:=Nat.le_of_ble_eq_true aU;have aqC:=ji;unfold a4.ok at ji;rw[gR] at ji;obtain⟨sN,aD,aQ,bO⟩:=Zq ai;obtain⟨dM,di,gL,k_⟩:=Ak (m:=dc) aD;obtain⟨m8,mA⟩:=axr k;have qW:=di m8;obtain⟨c4,fD,ij⟩:=yc aQ qW;have DK:=aln af aQ qW bO;have JV:∀j,j<k->kr z.2 j=some j:=λj aq=>fD _ (c4 _ (dM _ (mA j aq)));have w3:∀j,live p.blocks j=true->j<p.blocks.length/\∃s,kr z.2 j=some s:=λj aq=>by
    obtain⟨b,ah,cm⟩:=Td aq;obtain⟨id,x,aG,_⟩:=ij j b ah cm;exact⟨(eu.1 ah).1,id,by rw[fW] at aG;exact aG⟩
   refine⟨λk=>(kr z.2 k).getD 0,aqC,aU,λj aq bn=>(by show(kr z.2 j).getD 0=j;rw[JV j bn];rfl),λj kq aq mc he=>?_,Q1 _ _ _ (gL _ (lenOf z.1.2) (DK.of c4)) aL,λj b ah cm=>?_,λj b ah cm f' c7=>Y' _ _ _ _ ah cm⟩
   ·obtain⟨aA,s,aP⟩:=w3 j aq;obtain⟨tu,eA,pQ⟩:=w3 kq mc;simp only[aP,pQ,Option.getD_some] at he;subst he;have:=List.all_eq_true.1 (List.all_eq_true.1 ap1 j (Qv aA)) kq (Qv tu);rw[aq,mc,aP,pQ] at this;cases tl:Nat.beq j kq with
    |true=>exact gB tl
    |false=>
     rw[tl] at this;simp[af0] at this
   ·obtain⟨id,x,cr,cI,dw,fe,kV,mD⟩:=ij j b ah cm;rw[fW] at cr;refine⟨x,by simp only[cr,Option.getD_some];exact cI,λaW=>?_,λf' fw c7 bQ=>?_⟩
    ·obtain⟨t,a1,he⟩:=mD aW;unfold w_;rw[ah,he]
    ·rcases Jf (f':=f') (c7:=c7) bQ aQ qW ji.2 DK j b ah with⟨jX,_⟩|⟨_,yW,jn,f_,aG,aN,bo,cE,eM⟩
     ·rw[cm] at jX;cases jX
     ·rw[fW,cr] at aG;cases aG;rw[cI] at aN;cases aN;rw[fW] at eM;exact⟨f_,bo,cE,eM⟩
  ·cases h
 ·cases h
theorem Kl {y:U p}(bf:bM m σ w)(bg:ids.Nodup)(aZ:∀i∈ids,i<σ.next)(Sg:∀i∈ids,∀cs,σ.heap.get i=some (.box cs)->m.pl i≠none)(tv:kN.next=ids.length)(aC:∀j c4,kN.heap.get j=some c4->∃i b,ids[j]?=some i/\σ.heap.get i=some b)(af:bM dc fh eU)(st:Step (m.sub σ ids) kN w dc fh eU)(h:p5 p ids.length y dc fh us)(cf:z5 σ ids p.blocks=true):
 ∃fw,bM fw (vU σ ids p y) eU/\Step m σ w fw (vU σ ids p y) eU/\cL (en fw) (EZ σ ids p y) us:=by
 obtain⟨f,an⟩:=h;have aU:=an.aU;have ji:=an.ok;unfold a4.ok at ji;rw[gR] at ji;have w3:∀j,live p.blocks j=true->j<p.blocks.length:=λj aq=>by
  obtain⟨b,ah,_⟩:=Td aq;exact(eu.1 ah).1
 have A9:=agj (σ:=σ) bg aZ p.blocks.length;obtain⟨pos,lW⟩:∃pos,pos=nS σ ids p.blocks.length:=⟨_,rfl⟩;obtain⟨ex,hex⟩:∃ex:Nat->Option Nat,ex=λi=>match y3 pos i with
  |some j=>if live p.blocks j=true then some (f j) else none
  |none=>none:=⟨_,rfl⟩
 have Jk:∀{i s:Nat},ex i=some s->∃j,pos[j]?=some i/\live p.blocks j=true/\f j=s:=λ{i s} h=>by
  rw[hex] at h;simp only at h;split at h
  ·rename_i j aq;split at h
   ·rename_i yL;exact⟨j,abF aq,yL,by cases h;rfl⟩
   ·cases h
  ·cases h
 have ZB:∀{j i:Nat},pos[j]?=some i->live p.blocks j=true->ex i=some (f j):=λ{j i} aa af=>by
  rw[hex];simp only
  rw[abE (by rw[lW];exact A9) aa];simp only
  rw[if_pos af]
 have ZD:XQ σ ids ex (vU σ ids p y).next:=by
  refine⟨λi s h bn=>?_,λi s h mu=>?_,λi dV s h h'=>?_⟩
  ·obtain⟨j,aG,aN,bo⟩:=Jk h;rcases ky j ids.length with aq|aq
   ·rw[lW,L8 aq] at aG;rw[an.vT j aN aq] at bo;rw[<-bo];exact aG
   ·rw[lW,Ub aq (w3 j aN)] at aG;cases aG;omega
  ·obtain⟨j,aG,aN,bo⟩:=Jk h;rcases ky j ids.length with aq|aq
   ·rw[lW,L8 aq] at aG;have:=aZ i (List.mem_of_getElem? aG);omega
   ·have m6:=w3 j aN;rw[lW,Ub aq m6] at aG;cases aG;show _<σ.next+(p.blocks.length-ids.length);omega
  ·obtain⟨j,aG,aN,bo⟩:=Jk h;obtain⟨kq,C_,Js,aoX⟩:=Jk h';have:=an.inj j kq aN Js (bo.trans aoX.symm);subst this;rw[aG] at C_;cases C_;rfl
 have low:∀{s i:Nat},ids[s]?=some i->s<kN.next:=λ{s i} aP=>by rw[tv];exact(eu.1 aP).1
 have zx:∀{i s:Nat},ex i=some s->(m.glue σ dc fh ex).pl i=dc.pl s:=λ{i s} he=>by
  show(if i<σ.next then _ else _)=_;split
  ·rename_i bn;have aP:=ZD.vT i s he bn;rw[st.iL.pl s (low aP)];simp[M.sub,aP]
  ·rw[he];rfl
 have aue:∀{k:Nat},live p.blocks k=true->∃i,pos[k]?=some i/\uT σ ids p.blocks.length k=i/\ex i=some (f k):=λ{k} sq=>by
  have aa:=w3 k sq;obtain⟨i,bF⟩:∃i,pos[k]?=some i:=⟨_,fy (by rw[lW,Ua aU];exact aa)⟩;refine⟨i,bF,?_,ZB bF sq⟩;unfold uT;rw[<-lW,bF];rfl
 have DO:uf dc (m.glue σ dc fh ex) f (uT σ ids p.blocks.length) (live p.blocks):=by
  refine⟨iA.refl _,λk sq=>?_⟩;obtain⟨i,aG,aN,cE⟩:=aue sq;simp only[aN];refine⟨λr aO=>by rw[zx cE];exact aO,λv aL=>?_⟩;show(match ex i with|some s=>dc.bg s|none=>m.bg i)=_;rw[cE];exact aL
 have key:=bf.glue (l4:=vU σ ids p y) aZ tv aC Sg af st ZD (Nat.le_add_right _ _) (λi aqy bn=>?_) (λi ann aj ql=>?_)
 ·exact⟨_,key.1,key.2,Rz DO ji.1 an.Im⟩
 ·show(putAt _ _ σ.heap).get i=_;refine Ba λhm=>?_;unfold nS at hm;rcases List.mem_append.1 hm with g|g
  ·exact aqy g
  ·have:=(Ik g).1;omega
 ·have aj:(putAt (nS σ ids p.blocks.length) _ σ.heap).get i=some ann:=aj;have Sz:i∈nS σ ids p.blocks.length:=Classical.byContradiction λaA=>by
   rw[Ba aA] at aj;rcases ql with g|g
   ·exact aA (by unfold nS;exact List.mem_append_left _ g)
   ·rw[(bf.fresh i g).2.2.2] at aj;cases aj
  obtain⟨j,aq⟩:=List.mem_iff_getElem?.1 Sz;have m6:j<p.blocks.length:=by
   have:=(eu.1 aq).1
   rwa [Ua aU] at this
  have si:p.blocks[j]?=some (p.blocks[j]'m6):=fy m6
  cases cm:(p.blocks[j]'m6).o3 with
  |true=>
   rw[A' A9 aq (an.gone j _ si cm _ _)] at aj;cases aj
  |false=>
   obtain⟨x,aN,ao2,bo⟩:=an.anm j _ si cm;obtain⟨f_,cE,eM,fH⟩:=bo _ _ (A7 σ ids) DO;rw[A' A9 aq cE] at aj;cases aj;have DB:=ZU si cm;refine⟨f j,x,ZB (by rw[lW];exact aq) DB,aN,eM,λt a1 l k j4 ah=>?_⟩;have SN:=fH t a1 l k j4 ah;subst SN;unfold tG;rcases ky j ids.length with AB|AB
   ·rw[L8 AB] at aq;have bn:=aZ i (List.mem_of_getElem? aq);rw[if_neg ab];have ap6:w_ p.blocks j=true:=by
     subst ah;cases eM with
     |arr c7 j4=>exact ao2 ⟨_,_,_,_,rfl⟩
    have:=List.all_eq_true.1 cf j (Qv AB);rw[ap6,aq] at this;simp only[Bool.not_true,Bool.false_or] at this;split at this
    ·rename_i t0 aNR xb a6 v0 aaz;(try rw[aaz]);simp only[A7,aq,xE,aaz,B.c7]
    ·cases this
   ·rw[Ub AB m6] at aq;cases aq;rw[if_pos ab];have:ids[j]?=none:=List.getElem?_eq_none AB;simp[A7,this]
theorem al9 {f f' len:Nat->Nat}{P:Nat->Bool}{m m':M}(bQ:uf m m' f f' P):∀{l:List fp}{x:rZ l},l.all (fp.tO P)=true->((n_ f' len l x).map wi).length=((n_ f len l x).map wi).length/\
 ∀(j:Nat) c',((n_ f' len l x).map wi)[j]?=some c'->∃c,((n_ f len l x).map wi)[j]?=some c/\∀v,dv m c v->dv m' c' v
 |[],x,_=>⟨rfl,λj c' h=>by simp[n_] at h⟩
 |s::l,x,hu=>by
  rw[List.all_cons,gR] at hu;obtain⟨aa,af⟩:=al9 (len:=len) (x:=x.2) bQ hu.2;rw[Ja,Ja,List.map_cons,List.map_cons];refine⟨by simp[aa],λj c' aq=>?_⟩;cases j with
  |zero=>
   simp at aq;subst aq;refine⟨_,rfl,λv aL=>?_⟩;have key:=Rx (len:=len) (x:=x.1) (u:=v) bQ hu.1;cases s with
   |agg t=>exact aL
   |sD t nl=>exact aL
   |_=>exact key aL
  |succ j=>
   obtain⟨c,aG,aN⟩:=af j c' (by simpa using aq);exact⟨c,by simpa using aG,aN⟩
theorem Y_ (f len c7:Nat->Nat):∀{l:List ec}{i j:Nat}(x:nY l){b:ec},l[j]?=some b->∃z:kY b,∀(f:Nat->Nat)(c7:Nat->Nat),(uj f len c7 l i x)[j]?=some (CS f len (c7 (i+j)) b z)
 |[],i,j,x,b,h=>by simp at h
 |cR::l,i,0,x,b,h=>by
  simp at h;subst h;exact⟨x.1,λf c7=>rfl⟩
 |cR::l,i,j+1,x,b,h=>by
  obtain⟨z,ai⟩:=Y_ f len c7 (i:=Nat.succ i) x.2 (by simpa using h);exact⟨z,λf c7=>by
   show(uj f len c7 l (Nat.succ i) x.2)[j]?=_;rw[ai,show Nat.succ i+j=i+(j+1) by omega]⟩
theorem axC {y:U p}{k:Nat}{fw:M}(h:p5 p ids.length y dc fh us)(bg:ids.Nodup)(aZ:∀i∈ids,i<σ.next)(aL:cL (en fw) (EZ σ ids p y) us)(aU:ids.length=k)(sr:k<=σ.next)(hold:∀j,live p.blocks j=true->j<k->ids[j]?=some j):
 p5 p k y fw (vU σ ids p y) us:=by
 obtain⟨f,an⟩:=h;subst aU;have ji:=an.ok;unfold a4.ok at ji;rw[gR] at ji;have A9:=agj (σ:=σ) bg aZ p.blocks.length;have w3:∀j,live p.blocks j=true->j<p.blocks.length:=λj aq=>by
  obtain⟨b,ah,_⟩:=Td aq;exact(eu.1 ah).1
 have fO:∀j,live p.blocks j=true->(nS σ ids p.blocks.length)[j]?=some (uT σ ids p.blocks.length j):=λj aq=>by
  unfold uT;have:(nS σ ids p.blocks.length)[j]?=some ((nS σ ids p.blocks.length)[j]'(by rw[Ua an.aU];exact w3 j aq)):=fy _
  rw[this];rfl
 refine⟨uT σ ids p.blocks.length,an.ok,an.aU,λj aq bn=>?_,λj kq aq mc he=>?_,aL,λj b ah cm=>?_,an.gone⟩
 ·have aa:=fO j aq;rw[L8 bn,hold j aq bn] at aa;exact(eD aa).symm
 ·have aa:=fO j aq;rw[he] at aa;exact idx_eq A9 aa (fO kq mc)
 ·have aq:=ZU ah cm;obtain⟨z,ai⟩:=Y_ (uT σ ids p.blocks.length) (lenOf y.2) (A7 σ ids) (i:=0) y.2 ah;have hu:b.tO (live p.blocks)=true:=List.all_eq_true.1 ji.2 b (List.mem_of_getElem? ah);obtain⟨c4,aC⟩:∃c4,CS (uT σ ids p.blocks.length) (lenOf y.2) (A7 σ ids (0+j)) b z=some c4:=by
   cases b with
   |gone=>cases cm
   |box cs=>exact⟨_,rfl⟩
   |arr t a1=>exact⟨_,rfl⟩
   |bG t=>exact⟨_,rfl⟩
  refine⟨c4,?_,λaW=>?_,λf' sA c7 bQ=>?_⟩
  ·show(putAt _ _ σ.heap).get _=_;rw[A' A9 (fO j aq) (ai _ _),aC]
  ·obtain⟨t,a1,l,v,rfl⟩:=aW;unfold w_;rw[ah];cases b with
   |arr t a1=>rfl
   |gone=>cases cm
   |box cs=>cases aC
   |bG t=>cases aC
  ·rw[ai];cases b with
   |gone=>cases cm
   |arr t a1=>
    cases aC;exact⟨_,rfl,.arr _ _,λt a1 l k v aL=>by cases aL;rw[fW]⟩
   |bG t=>
    cases aC;exact⟨_,rfl,.bG _,λt a1 l k v aL=>by cases aL⟩
   |box cs=>
    cases aC;obtain⟨cr,cI⟩:=al9 (len:=lenOf y.2) (x:=z) bQ hu;exact⟨_,rfl,.box cr cI,λt a1 l k v aL=>by cases aL⟩
end
def yj (c:C)(σ:bV):Option (C×bV):=match c with
 |.aR id n=>match σ.heap.get id with
  |some (.arr t a1 l none c7)=>some (.row t l .no,⟨σ.heap.put id none,σ.next⟩)
  |_=>none
 |.u1 id dx n sz=>match σ.heap.get id with
  |some (.arr t a1 l none c7)=>match Nat.beq t.length sz with
   |true=>some (.row t (nf l dx n) .no,⟨σ.heap.put id none,σ.next⟩)
   |false=>none
  |_=>none
 |c=>some (c,σ)
def yl:List C->bV->Option (List C×bV)
 |[],σ=>some ([],σ)
 |c::l,σ=>match yj c σ with
  |some y=>match yl l y.2 with
   |some z=>some (y.1::z.1,z.2)
   |none=>none
  |none=>none
def qR (s:fp)(v:V)(σ:bV):Option (V×bV):=match s with
 |.leaf _=>match v with
  |.p (.c c)=>match yj c σ with
   |some y=>some (.p (.c y.1),y.2)
   |none=>none
  |v=>some (v,σ)
 |.agg _=>match v with
  |.p (.agg cs)=>match yl cs σ with
   |some y=>some (.p (.agg y.1),y.2)
   |none=>none
  |v=>some (v,σ)
 |.sD _ _=>match v with
  |.p (.agg cs)=>match yl cs σ with
   |some y=>some (.p (.agg y.1),y.2)
   |none=>none
  |v=>some (v,σ)
 |.tok t _ _=>match v with
  |.p (.c .dt)=>some (.p (.c (.row t L.nil (.dW σ.next (t.map λ_=>true) t.length))),⟨σ.heap.put σ.next (some (.bG t)),σ.next+1⟩)
  |v=>some (v,σ)
 |.arr _ t a1=>match v with
  |.p (.c .dt)=>some (.p (.c (.aR σ.next 0)),⟨σ.heap.put σ.next (some (.arr t a1 L.nil none 0)),σ.next+1⟩)
  |v=>some (v,σ)
 |_=>some (v,σ)
def qi:List fp->List V->bV->Option (List V×bV)
 |s::l,v::vs,σ=>match qR s v σ with
  |some y=>match qi l vs y.2 with
   |some z=>some (y.1::z.1,z.2)
   |none=>none
  |none=>none
 |_,vs,σ=>some (vs,σ)
section
variable{w:World}{m:M}{σ bb:bV}
theorem Step.drop {m':M}{i:Nat}{b:B}(h:bM m σ w)(aj:σ.heap.get i=some b)(ah:(∀q,b≠.box q)\/m.pl i≠none)(e:jR σ.next m m')(k:hJ m σ w m' ⟨σ.heap.put i none,σ.next⟩ w):Step m σ w m' ⟨σ.heap.put i none,σ.next⟩ w:=⟨e,k,Nat.le_refl _,λj cs aq bF=>E6 aj ah aq bF none⟩
theorem ZO {c c':C}{u:Value}(h:yj c σ=some (c',bb))(bf:bM m σ w)(an:dv m c u):∃m',Step m σ w m' bb w/\bM m' bb w/\dv m' c' u:=by
 unfold yj at h;split at h
 ·rename_i id n;split at h
  ·rename_i t a1 l c7 aj;cases h;obtain⟨A,cp,aa,af,ax,a8⟩:=an;obtain⟨m',aG,aN,bo,cE⟩:=bf.ZN aj (by rw[af]);exact⟨m',.drop bf aj (.inl λq ay=>by cases ay) aG cE,bo,aN,trivial⟩
  ·cases h
 ·rename_i id dx n sz;split at h
  ·rename_i t a1 l c7 aj;split at h
   ·rename_i fA;have fA:=gB fA;subst fA;cases h;obtain⟨A,cp,rfl,af,ax,a8⟩:=an;obtain⟨amE,pz,aD,_⟩:=bf.live id _ aj;obtain⟨m',aG,aN,bo,cE⟩:=bf.ZN aj aD;refine⟨m',.drop bf aj (.inl λq ay=>by cases ay) aG cE,bo,?_,trivial⟩;have hlen:n≠0->(nf l dx n).1.length=n:=λaA=>by
     obtain⟨b,k,cW,cr,cI,dw⟩:=a8 aA;rw[cr] at aD;cases aD;show((l.1.drop dx).take n).length=n;rw[List.length_take,List.length_drop];omega
    simp only[dQ];by_cases aA:n=0
    ·subst aA;have aL:(nf l dx 0).1=[]:=by simp[nf]
     exact⟨A,cp,by rw[aL];rfl,by rw[aL];exact Nat.zero_le _,λq=>absurd aL q⟩
    ·obtain⟨b,k,cW,cr,rfl,dw⟩:=a8 aA;rw[cr] at aD;cases aD;simp only[dQ] at aN;obtain⟨XF,dA,fQ,eQ,gq⟩:=aN;cases fQ;have eJ:l.1≠[]:=λq=>by
      have a6:l.1.length=0:=by rw[q];rfl
      rw[a6] at dw;exact aA (Nat.le_zero.1 (jd (Nat.le_add_left n dx) dw))
     obtain⟨f_,fC,s1,s2⟩:=gq eJ;cases s1;refine⟨_,cp,by rw[hlen aA],by rw[hlen aA];exact af,λ_=>⟨b,dx*t.length,rfl,λi e he=>?_⟩⟩;have fu:((l.1.drop dx).take n)[i]?=some e:=he;have bn:i<n:=by
      have:=(eu.1 fu).1;rw[List.length_take] at this;omega
     rw[List.getElem?_take,if_pos bn,List.getElem?_drop] at fu;have:=s2 (dx+i) e fu
     rwa [fW,iR] at this
   ·cases h
  ·cases h
 ·cases h;exact⟨m,Step.refl ..,bf,an⟩
theorem R2:∀{l eC:List C}{us:List Value}{m:M}{σ bb:bV},yl l σ=some (eC,bb)->bM m σ w->cL (dv m) l us->∃m',Step m σ w m' bb w/\bM m' bb w/\cL (dv m') eC us
 |[],eC,us,m,σ,bb,h,bf,aL=>by cases h;exact⟨m,Step.refl ..,bf,aL⟩
 |c::l,eC,us,m,σ,bb,h,bf,aL=>by
  rw[yl] at h;split at h
  ·rename_i y b7;split at h
   ·rename_i z ai;cases h
    match us,aL with
    |u::us,⟨aa,af⟩=>
     obtain⟨ga,s1,bA,cW⟩:=ZO b7 bf aa;obtain⟨dc,s2,bI,dA⟩:=R2 ai bA (af.imp λ_ _=>dv.ext s1.iL.ext);exact⟨dc,s1.trans bf s2,bI,cW.ext s2.iL.ext,dA⟩
   ·cases h
  ·cases h
theorem aoP {s:fp}{v ej:V}{u:Value}(h:qR s v σ=some (ej,bb))(bf:bM m σ w)(aL:en m v u):∃m',Step m σ w m' bb w/\bM m' bb w/\en m' ej u:=by
 unfold qR at h;split at h
 ·split at h
  ·split at h
   ·rename_i c y b7;cases h;exact ZO b7 bf aL
   ·cases h
  ·cases h;exact⟨m,Step.refl ..,bf,aL⟩
 ·split at h
  ·split at h
   ·rename_i cs y b7;cases h;obtain⟨vs,rfl,af⟩:=aL;obtain⟨m',s1,bA,cW⟩:=R2 b7 bf af;exact⟨m',s1,bA,vs,rfl,cW⟩
   ·cases h
  ·cases h;exact⟨m,Step.refl ..,bf,aL⟩
 ·split at h
  ·split at h
   ·rename_i cs y b7;cases h;obtain⟨vs,rfl,af⟩:=aL;obtain⟨m',s1,bA,cW⟩:=R2 b7 bf af;exact⟨m',s1,bA,vs,rfl,cW⟩
   ·cases h
  ·cases h;exact⟨m,Step.refl ..,bf,aL⟩
 ·rename_i t k nl;split at h
  ·cases h;obtain⟨aG,aN,bo⟩:=bf.Tz t;have hu:u=.slice none 0 0:=aL;subst hu;exact⟨_,.put bf aG bo,aN,dQ.nil _ t,by simp[M.eE],n4.nil⟩
  ·cases h;exact⟨m,Step.refl ..,bf,aL⟩
 ·rename_i k t a1;split at h
  ·cases h;obtain⟨m',aG,aN,bo,cE⟩:=bf.Tx t a1;have hu:u=.slice none 0 0:=aL;subst hu;exact⟨_,.put bf aG bo,aN,none,0,rfl,cE,λh=>absurd rfl h,ab⟩
  ·cases h;exact⟨m,Step.refl ..,bf,aL⟩
 ·cases h;exact⟨m,Step.refl ..,bf,aL⟩
theorem C8:∀{l:List fp}{vs gi:List V}{us:List Value}{m:M}{σ bb:bV},qi l vs σ=some (gi,bb)->bM m σ w->cL (en m) vs us->∃m',Step m σ w m' bb w/\bM m' bb w/\cL (en m') gi us
 |[],vs,gi,us,m,σ,bb,h,bf,aL=>by
  have h:some (vs,σ)=some (gi,bb):=by cases vs<;>exact h
  cases h;exact⟨m,Step.refl ..,bf,aL⟩
 |s::l,[],gi,us,m,σ,bb,h,bf,aL=>by cases h;exact⟨m,Step.refl ..,bf,aL⟩
 |s::l,v::vs,gi,us,m,σ,bb,h,bf,aL=>by
  rw[qi] at h;split at h
  ·rename_i y b7;split at h
   ·rename_i z ai;cases h
    match us,aL with
    |u::us,⟨aa,af⟩=>
     obtain⟨ga,s1,bA,cW⟩:=aoP b7 bf aa;obtain⟨dc,s2,bI,dA⟩:=C8 ai bA (af.imp λ_ _=>en.ext s1.iL.ext);exact⟨dc,s1.trans bf s2,bI,cW.ext s2.iL.ext,dA⟩
   ·cases h
  ·cases h
theorem bM.aL3 {i r:Nat}{cs l:List C}{cur:Array Value}{ty:TypeId}{b_:Nat×Nat}(h:bM m σ w)(aj:σ.heap.get i=some (.box cs))(aO:m.pl i=some r)(hw:w.heap[r]?=some (.cells cur ty b_))(aL:cL (dv m) l cur.toList):
 bM m ⟨σ.heap.put i (some (.box l)),σ.next⟩ w/\Step m σ w m ⟨σ.heap.put i (some (.box l)),σ.next⟩ w:=by
 have DB:=h.live i _ aj;rcases DB with g|⟨mE,h_,jm,jG,aa,af,ax,a8,cy,dm,dL⟩
 ·rw[aO] at g;cases g
 rw[aO] at aa;cases aa;rw[hw] at af;cases af;have key:=h.change (m':=m) (w':=w) (bb:=⟨σ.heap.put i (some (.box l)),σ.next⟩) (λj=>j=i) (Ext.refl m) ⟨rfl,rfl,rfl⟩ (Nat.le_refl _) (λj aq=>?_) (λj b aq ah=>?_) (λj aq=>⟨bC.T.eP _ _ aq,rfl,rfl⟩)
  (λb ah aW=>⟨rfl,rfl,rfl⟩) (λj k _ _ _ aq aU _ _ _ _=>aq.trans aU.symm) (λj x R aq _ fm=>.inr (.inl ⟨i,_,rfl,aj,aq▸fm⟩)) h.own (λb R k aa af=>absurd aa af) h.stay
 ·refine⟨key.1,jR.refl _ m,key.2,Nat.le_refl _,λj lf aq bF=>E6 aj (.inr (by rw[aO];simp)) aq bF _⟩
 ·obtain⟨aG,aN,bo,cE⟩:=h.fresh j aq;refine⟨aG,aN,bo,?_⟩;rw[bC.T.m3];split
  ·subst_vars;rw[aG] at aO;cases aO
  ·exact cE
 ·subst aq;simp only[bC.T.il] at ah;cases ah;have hlen:=aL.length;rw[Array.length_toList] at hlen;refine .inr ⟨r,cur,ty,b_,aO,hw,ax,hlen.symm,λk c an=>?_,dm,dL⟩;obtain⟨v,bA,bI⟩:=aL.get an;exact⟨v,by simpa using bA,bI⟩
def Ek (i:Nat)(iy:List fp)(σ:bV):Option bV:=match σ.heap.get i with
 |some (.box cs)=>match qi iy (cs.map λc=>.p (.c c)) σ with
  |some z=>match z.2.heap.get i with
   |some (.box _)=>some ⟨z.2.heap.put i (some (.box (z.1.map wi))),z.2.next⟩
   |_=>none
  |none=>none
 |_=>none
theorem al8:∀{vs:List V}{us:List Value},(∀v∈vs,∃c,v=.p (.c c))->cL (en m) vs us->cL (dv m) (vs.map wi) us
 |[],[],_,_=>trivial
 |v::vs,u::us,bF,⟨aa,af⟩=>by
  refine⟨?_,al8 (λv aL=>bF v (List.mem_cons_of_mem _ aL)) af⟩;obtain⟨c,rfl⟩:=bF v mY;exact aa
theorem aoM {s:fp}{c:C}{ej:V}(h:qR s (.p (.c c)) σ=some (ej,bb)):∃c',ej=.p (.c c'):=by
 cases s with
 |leaf l=>
  simp only[qR] at h;split at h
  ·cases h;exact⟨_,rfl⟩
  ·cases h
 |tok t k nl=>
  simp only[qR] at h;split at h
  ·cases h;exact⟨_,rfl⟩
  ·cases h;exact⟨_,rfl⟩
 |arr k t a1=>
  simp only[qR] at h;split at h
  ·cases h;exact⟨_,rfl⟩
  ·cases h;exact⟨_,rfl⟩
 |_=>cases h;exact⟨_,rfl⟩
theorem ZP:∀{l:List fp}{vs gi:List V}{σ bb:bV},qi l vs σ=some (gi,bb)->(∀v∈vs,∃c,v=.p (.c c))->∀v∈gi,∃c,v=.p (.c c)
 |[],vs,gi,σ,bb,h,bF=>by
  have h:some (vs,σ)=some (gi,bb):=by cases vs<;>exact h
  cases h;exact bF
 |s::l,[],gi,σ,bb,h,bF=>by cases h;exact bF
 |s::l,v::vs,gi,σ,bb,h,bF=>by
  rw[qi] at h;split at h
  ·rename_i y b7;split at h
   ·rename_i z ai;cases h;intro ej uy;obtain⟨c,rfl⟩:=bF v mY;rcases List.mem_cons.1 uy with rfl|uy
    ·exact aoM b7
    ·exact ZP ai (λv aL=>bF v (List.mem_cons_of_mem _ aL)) ej uy
   ·cases h
  ·cases h
theorem adO {i r:Nat}{iy:List fp}(h:Ek i iy σ=some bb)(bf:bM m σ w)(aO:m.pl i=some r):∃m',Step m σ w m' bb w/\bM m' bb w:=by
 unfold Ek at h;split at h
 ·rename_i cs aj;split at h
  ·rename_i z ai;split at h
   ·rename_i aNU So;cases h;rcases bf.live i _ aj with g|⟨mE,cur,ty,b_,aa,af,ax,a8,cy,dm,dL⟩
    ·rw[aO] at g;cases g
    rw[aO] at aa;cases aa;have lh:∀{cs:List C}{vs:List Value},vs.length=cs.length->(∀(j:Nat) c,cs[j]?=some c->∃v,vs[j]?=some v/\dv m c v)->cL (en m) (cs.map λc=>.p (.c c)) vs:=by
     intro cs;induction cs with
     |nil=>intro vs aZ _;match vs,aZ with|[],_=>trivial
     |cons c cs cj=>
      intro vs aZ an
      match vs,aZ with
      |v::vs,aZ=>
       obtain⟨ej,bA,bI⟩:=an 0 c rfl;simp at bA;subst bA;exact⟨bI,cj (by simpa using aZ) λj c aq=>by
        obtain⟨ej,bA,bI⟩:=an (j+1) c (by simpa using aq);exact⟨ej,by simpa using bA,bI⟩⟩
    have m4:=lh (cs:=cs) (vs:=cur.toList) (by rw[Array.length_toList];exact a8) λj c aq=>by
     obtain⟨v,bA,bI⟩:=cy j c aq;exact⟨v,by simpa using bA,bI⟩
    obtain⟨ga,s1,bA,cW⟩:=C8 ai bf m4;have yP:ga.pl i=some r:=s1.iL.ext.pl i r aO;have Sh:=al8 (ZP ai λv aL=>by
     obtain⟨c,_,rfl⟩:=List.mem_map.1 aL;exact⟨c,rfl⟩) cW
    obtain⟨cr,cI⟩:=bA.aL3 So yP af Sh;exact⟨ga,s1.trans bf cI,cr⟩
   ·cases h
  ·cases h
 ·cases h
def zr (jr iJ:List ec):List Nat->bV->Option bV
 |[],σ=>some σ
 |j::l,σ=>match jr[j]? with
  |some (.box _)=>match iJ[j]? with
   |some (.box iy)=>match Ek j iy σ with
    |some bb=>zr jr iJ l bb
    |none=>none
   |_=>zr jr iJ l σ
  |_=>zr jr iJ l σ
theorem El {jr iJ:List ec}:∀{l:List Nat}{m:M}{σ bb:bV},zr jr iJ l σ=some bb->bM m σ w->rY jr m->∃m',Step m σ w m' bb w/\bM m' bb w
 |[],m,σ,bb,h,bf,bF=>by
  have h:some σ=some bb:=h;cases h;exact⟨m,Step.refl ..,bf⟩
 |j::l,m,σ,bb,h,bf,bF=>by
  unfold zr at h;split at h
  ·rename_i arR aq;split at h
   ·split at h
    ·rename_i kN aP;cases aO:m.pl j with
     |none=>exact absurd aO (bF j arR aq)
     |some r=>
      obtain⟨ga,s1,bA⟩:=adO aP bf aO;obtain⟨dc,s2,bI⟩:=El h bA λi iy aj=>by
       have:=bF i iy aj;cases ay:m.pl i with
       |none=>exact absurd ay this
       |some r=>rw[s1.iL.ext.pl i r ay];simp
      exact⟨dc,s1.trans bf s2,bI⟩
    ·cases h
   ·exact El h bf bF
  ·exact El h bf bF
theorem rY.ext {iJ:List ec}{m m':M}(h:rY iJ m)(e:Ext m m'):rY iJ m':=λj iy aq=>by
 have:=h j iy aq;cases ay:m.pl j with
 |none=>exact absurd ay this
 |some r=>rw[e.pl j r ay];simp
end
inductive l6
  |normal
  |exit (i:Nat)
  |ret
def RP:l6->l6->Bool
 |.normal,.normal=>true
 |.exit i,.exit j=>Nat.beq i j
 |.ret,.ret=>true
 |_,_=>false
theorem Zv:∀{a b:l6},RP a b=true->a=b
 |.normal,.normal,_=>rfl
 |.exit i,.exit j,h=>by rw[gB h]
 |.ret,.ret,_=>rfl
 |.normal,.exit _,h=>by cases h
 |.normal,.ret,h=>by cases h
 |.exit _,.normal,h=>by cases h
 |.exit _,.ret,h=>by cases h
 |.ret,.normal,h=>by cases h
 |.ret,.exit _,h=>by cases h
def yf:l6->Exit
 |.normal=>.normal
 |.exit i=>.exit i
 |.ret=>.ret
abbrev bE:=List (l6×a4)
@[reducible] def bq:bE->Type
 |[]=>Empty
 |[p]=>U p.2
 |p::q::l=>U p.2⊕bq (q::l)
def Qi (l:List (Nat×fp))(F:Fr):List V:=List.rec (motive:=λ_=>List V) [] (λs _ cj=>gN F s.1::cj) l
def Uf (l:List (Nat×fp)):List V->Fr->Fr:=List.rec (motive:=λ_=>List V->Fr->Fr) (λ_ F=>F) (λs _ cj vs F=>match vs with
 |v::vs=>rj (cj vs F) s.1 v
 |[]=>cj [] F) l
def wL (wr:List Nat):Fr->Fr
 |[]=>[]
 |x::l=>match vq x.1 wr with
  |true=>wL wr l
  |false=>x::wL wr l
def C4 (p:a4)(jr:List ec)(F:Fr)(σ:bV):Option (U p):=match qi p.kinds (Qi p.pZ F) σ with
 |some z=>match zr jr p.blocks (nV 0 jr.length) z.2 with
  |some bb=>C5 p jr.length z.1 bb
  |none=>none
 |none=>none
def tg (jr:List ec)(e:l6)(F:Fr)(σ:bV):(l:bE)->Option (bq l)
 |[]=>none
 |[p]=>match RP p.1 e with
  |true=>C4 p.2 jr F σ
  |false=>none
 |p::q::l=>match RP p.1 e with
  |true=>match C4 p.2 jr F σ with
   |some y=>some (.inl y)
   |none=>none
  |false=>match tg jr e F σ (q::l) with
   |some y=>some (.inr y)
   |none=>none
def Kk (F:Fr)(σ:bV)(ids wr:List Nat)(p:l6×a4)(y:U p.2):Q (l6×Fr×bV):=match z5 σ ids p.2.blocks with
 |true=>.ret (p.1,Uf p.2.pZ (EZ σ ids p.2 y) (wL wr F),vU σ ids p.2 y)
 |false=>.fail
def S' (F:Fr)(σ:bV)(ids wr:List Nat):(l:bE)->bq l->Q (l6×Fr×bV)
 |[],_=>.fail
 |[p],y=>Kk F σ ids wr p y
 |p::q::l,y=>.alt y (λy=>Kk F σ ids wr p y) λy=>S' F σ ids wr (q::l) y
def AN (p:a4)(x:U p):Fr:=Uf p.pZ (J' p x) []
section
variable{w eU:World}{m dc:M}{σ kN fh:bV}{F zT:Fr}{a di:Go.Act}{n:Nat}
theorem Qj (a2:dB m n F a):∀(l:List (Nat×fp)),cL (en m) (Qi l F) (l.map λs=>a.tmps.getD s.1 undef)
 |[]=>trivial
 |s::l=>⟨a2.slot s.1,Qj a2 l⟩
theorem L_:∀{l:List (Nat×fp)}{vs:List V}{F:Fr},cL (en m) vs (l.map λs=>a.tmps.getD s.1 undef)->dB m n F a->dB m n (Uf l vs F) a
 |[],vs,F,_,a2=>a2
 |s::l,[],F,h,_=>h.elim
 |s::l,v::vs,F,⟨aa,af⟩,a2=>(L_ af a2).qA aa
theorem Zh (wr:List Nat)(t:Nat):∀(F:Fr),gN (wL wr F) t=if t∈wr then .any else gN F t
 |[]=>by
  show V.any=_;split<;>rfl
 |x::F=>by
  rw[wL];have cj:=Zh wr t F;have aW:gN (x::F) t=if t=x.1 then x.2 else gN F t:=vo F x.1 t x.2
  cases ah:vq x.1 wr with
  |true=>
   simp only
   rw[cj,aW];have:=(yx _ _).1 ah;by_cases bQ:t=x.1
   ·subst bQ;rw[if_pos this,if_pos this]
   ·rw[if_neg bQ]
  |false=>
   simp only
   have aA:x.1∉wr:=λh=>by rw[(yx _ _).2 h] at ah;cases ah
   rw[show gN (x::wL wr F) t=if t=x.1 then x.2 else gN (wL wr F) t from vo _ x.1 t x.2,cj,aW];by_cases bQ:t=x.1
   ·subst bQ;rw[if_pos rfl,if_neg aA,if_pos rfl]
   ·rw[if_neg bQ,if_neg bQ]
theorem an4 {wr:List Nat}(a2:dB m n F a)(aP:iG wr a di)(ai:a.tmps.size<=di.tmps.size\/n<=di.tmps.size)(bg:di.defers=[])(e:Ext m dc):dB dc n (wL wr F) di:=by
 refine⟨?_,bg,λt=>?_⟩
 ·have:=a2.size;rcases ai with h|h<;>omega
 ·rw[Zh];split
  ·trivial
  ·rename_i bQ;rw[aP t bQ];exact(a2.slot t).ext e
theorem aol {p:a4}{jr:List ec}{y:U p}(h:C4 p jr zT fh=some y)(a2:dB dc n zT di)(bf:bM dc fh eU)(bF:rY jr dc):
 ∃vs m' bb,C5 p jr.length vs bb=some y/\Step dc fh eU m' bb eU/\bM m' bb eU/\cL (en m') vs (p.pZ.map λs=>di.tmps.getD s.1 undef):=by
 unfold C4 at h;split at h
 ·rename_i z ai;split at h
  ·rename_i bb aP;obtain⟨m',s1,bA,cW⟩:=C8 ai bf (Qj a2 p.pZ);obtain⟨ga,s2,bI⟩:=El aP bA (bF.ext s1.iL.ext);exact⟨z.1,ga,bb,h,s1.trans bf s2,bI,cW.imp λ_ _=>en.ext s2.iL.ext⟩
  ·cases h
 ·cases h
structure Iv (m:M)(σ:bV)(ids:List Nat)(kN:bV):Prop where
  vP:ids.Nodup
  low:∀i∈ids,i<σ.next
  wJ:∀i∈ids,∀cs,σ.heap.get i=some (.box cs)->m.pl i≠none
  ef:kN.next=ids.length
  iJ:∀j c4,kN.heap.get j=some c4->∃i b,ids[j]?=some i/\σ.heap.get i=some b
def xN (k:Nat)(e:l6)(m:M)(σ:bV)(a:Go.Act):(l:bE)->bq l->Prop
 |[],_=>False
 |[p],y=>p.1=e/\p5 p.2 k y m σ (p.2.pZ.map λs=>a.tmps.getD s.1 undef)
 |p::q::l,y=>match y with
  |.inl y=>p.1=e/\p5 p.2 k y m σ (p.2.pZ.map λs=>a.tmps.getD s.1 undef)
  |.inr y=>xN k e m σ a (q::l) y
theorem ZC {p:a4}{jr:List ec}{y:U p}(h:C4 p jr zT fh=some y)(a2:dB dc n zT di)(bf:bM dc fh eU)(bF:rY jr dc):
 ∃m' bb,Step dc fh eU m' bb eU/\bM m' bb eU/\p5 p jr.length y m' bb (p.pZ.map λs=>di.tmps.getD s.1 undef):=by
 obtain⟨vs,m',bb,bA,bI,c9,ei⟩:=aol h a2 bf bF;exact⟨m',bb,bI,c9,RR c9 bA ei⟩
theorem RM (a2:dB dc n zT di)(bf:bM dc fh eU){jr:List ec}(bF:rY jr dc){e:l6}:∀{l:bE}{y:bq l},tg jr e zT fh l=some y->∃m' bb,Step dc fh eU m' bb eU/\bM m' bb eU/\xN jr.length e m' bb di l y
 |[],y,h=>by cases h
 |[p],y,h=>by
  rw[tg] at h;split at h
  ·rename_i aW;obtain⟨m',bb,aa,af,ax⟩:=ZC h a2 bf bF;exact⟨m',bb,aa,af,Zv aW,ax⟩
  ·cases h
 |p::q::l,y,h=>by
  rw[tg] at h;split at h
  ·rename_i aW;split at h
   ·rename_i az b7;cases h;obtain⟨m',bb,aa,af,ax⟩:=ZC b7 a2 bf bF;exact⟨m',bb,aa,af,Zv aW,ax⟩
   ·cases h
  ·split at h
   ·rename_i az b7;cases h;exact RM a2 bf bF (l:=q::l) b7
   ·cases h
theorem ab0 {ids wr:List Nat}{p:l6×a4}{y:U p.2}{z:l6×Fr×bV}(a2:dB m n F a)(bf:bM m σ w)(he:Iv m σ ids kN)(st:Step (m.sub σ ids) kN w dc fh eU)(fA:n<=di.tmps.size)(Dm:di.defers=[])(yt:bM dc fh eU)(aP:iG wr a di)(aa:p5 p.2 ids.length y dc fh (p.2.pZ.map λs=>di.tmps.getD s.1 undef))(h:cU (Kk F σ ids wr p y) z):z.1=p.1/\∃fw,Step m σ w fw z.2.2 eU/\bM fw z.2.2 eU/\dB fw n z.2.1 di:=by
 unfold Kk at h;split at h
 ·rename_i cf;obtain rfl:=h.eH;obtain⟨fw,aG,aN,bo⟩:=Kl bf he.vP he.low he.wJ he.ef he.iJ yt st aa cf;exact⟨rfl,fw,aN,aG,L_ bo (an4 a2 aP (.inr fA) Dm aN.iL.ext)⟩
 ·exact h.cc.elim
theorem ab1 {ids wr:List Nat}(a2:dB m n F a)(bf:bM m σ w)(he:Iv m σ ids kN)(st:Step (m.sub σ ids) kN w dc fh eU)(fA:n<=di.tmps.size)(Dm:di.defers=[])(yt:bM dc fh eU)(aP:iG wr a di){e:l6}:∀{l:bE}{y:bq l}{z:l6×Fr×bV},
 xN ids.length e dc fh di l y->cU (S' F σ ids wr l y) z->z.1=e/\∃fw,Step m σ w fw z.2.2 eU/\bM fw z.2.2 eU/\dB fw n z.2.1 di
 |[],y,z,h,aO=>h.elim
 |[p],y,z,h,aO=>by
  have:=ab0 a2 bf he st fA Dm yt aP h.2 aO;rw[h.1] at this;exact this
 |p::q::l,y,z,h,aO=>by
  rcases aO.afV with⟨mG,aa,af⟩|⟨mG,aa,af⟩
  ·subst aa;have h:p.1=e/\p5 p.2 ids.length mG dc fh _:=h;have:=ab0 a2 bf he st fA Dm yt aP h.2 af;rw[h.1] at this;exact this
  ·subst aa;exact ab1 a2 bf he st fA Dm yt aP (l:=q::l) h af
end
section
variable{w:World}{m:M}{σ bb:bV}
def Ii (s:fp):fp:=match s with
 |.tok t k nl=>.tok t k nl
 |.arr k t a1=>.arr k t a1
 |_=>.KW
def K1 (i:Nat)(iy:List fp)(σ:bV):Option bV:=Ek i (iy.map Ii) σ
theorem auo {i r:Nat}{iy:List fp}(h:K1 i iy σ=some bb)(bf:bM m σ w)(aO:m.pl i=some r):∃m',Step m σ w m' bb w/\bM m' bb w:=adO h bf aO
theorem aoQ {s:fp}{v ej:V}(h:qR (Ii s) v σ=some (ej,bb)):σ.next<=bb.next/\∀i,i<σ.next->bb.heap.get i=σ.heap.get i:=by
 have refl:σ.next<=σ.next/\∀i,i<σ.next->σ.heap.get i=σ.heap.get i:=⟨Nat.le_refl _,λ_ _=>rfl⟩;cases s with
 |tok t k nl=>
  simp only[Ii,qR] at h;split at h
  ·cases h;exact⟨Nat.le_succ _,λi aj=>bC.T.eP _ _ ab⟩
  ·cases h;exact refl
 |arr k t a1=>
  simp only[Ii,qR] at h;split at h
  ·cases h;exact⟨Nat.le_succ _,λi aj=>bC.T.eP _ _ ab⟩
  ·cases h;exact refl
 |_=>cases h;exact refl
theorem ZS:∀{l:List fp}{vs gi:List V}{σ bb:bV},qi (l.map Ii) vs σ=some (gi,bb)->σ.next<=bb.next/\∀i,i<σ.next->bb.heap.get i=σ.heap.get i
 |[],vs,gi,σ,bb,h=>by
  have h:some (vs,σ)=some (gi,bb):=by cases vs<;>exact h
  cases h;exact⟨Nat.le_refl _,λ_ _=>rfl⟩
 |s::l,[],gi,σ,bb,h=>by cases h;exact⟨Nat.le_refl _,λ_ _=>rfl⟩
 |s::l,v::vs,gi,σ,bb,h=>by
  rw[List.map_cons,qi] at h;split at h
  ·rename_i y b7;split at h
   ·rename_i z ai;cases h;obtain⟨dM,di⟩:=aoQ b7;obtain⟨c4,fD⟩:=ZS ai;exact⟨jd dM c4,λi aj=>(fD i (Nat.lt_of_lt_of_le aj dM)).trans (di i aj)⟩
   ·cases h
  ·cases h
theorem aun {i:Nat}{iy:List fp}(h:K1 i iy σ=some bb):σ.next<=bb.next/\∀j,j<σ.next->j≠i->bb.heap.get j=σ.heap.get j:=by
 unfold K1 Ek at h;split at h
 ·split at h
  ·rename_i z ai;split at h
   ·cases h;obtain⟨dM,di⟩:=ZS ai;exact⟨dM,λj aq eJ=>(bC.T.eP _ _ eJ).trans (di j aq)⟩
   ·cases h
  ·cases h
 ·cases h
def uO (iJ:List ec):List fp->List V->bV->Option bV
 |s::l,v::vs,σ=>match s with
  |.ptr k _=>match v with
   |.p (.c (.ptr (some y)))=>match iJ[k]? with
    |some (.box cs)=>match K1 y.1 cs σ with
     |some bb=>uO iJ l vs bb
     |none=>none
    |_=>uO iJ l vs σ
   |_=>uO iJ l vs σ
  |_=>uO iJ l vs σ
 |_,_,σ=>some σ
def vQ (p:a4)(vs:List V)(σ:bV):Option (List V×bV):=match qi p.kinds vs σ with
 |some z=>match uO p.blocks p.kinds z.1 z.2 with
  |some bb=>some (z.1,bb)
  |none=>none
 |none=>none
theorem Em {iJ:List ec}:∀{l:List fp}{vs:List V}{us:List Value}{m:M}{σ bb:bV},uO iJ l vs σ=some bb->bM m σ w->cL (en m) vs us->∃m',Step m σ w m' bb w/\bM m' bb w
 |[],vs,us,m,σ,bb,h,bf,aL=>by
  have h:some σ=some bb:=by cases vs<;>exact h
  cases h;exact⟨m,Step.refl ..,bf⟩
 |s::l,[],us,m,σ,bb,h,bf,aL=>by cases h;exact⟨m,Step.refl ..,bf⟩
 |s::l,v::vs,us,m,σ,bb,h,bf,aL=>by
  match us,aL with
  |u::us,⟨aa,af⟩=>
   cases s with
   |ptr k o=>
    simp only[uO] at h;split at h
    ·split at h
     ·split at h
      ·rename_i kN aP;obtain⟨r,aO,_⟩:=aa;obtain⟨ga,s1,bA⟩:=auo aP bf aO;obtain⟨dc,s2,bI⟩:=Em h bA (af.imp λ_ _=>en.ext s1.iL.ext);exact⟨dc,s1.trans bf s2,bI⟩
      ·cases h
     ·exact Em h bf af
    ·exact Em h bf af
   |_=>exact Em (l:=l) (vs:=vs) h bf af
theorem K0 {p:a4}{vs gi:List V}{us:List Value}(h:vQ p vs σ=some (gi,bb))(bf:bM m σ w)(aL:cL (en m) vs us):∃m',Step m σ w m' bb w/\bM m' bb w/\cL (en m') gi us:=by
 unfold vQ at h;split at h
 ·rename_i z ai;split at h
  ·rename_i kN aP;cases h;obtain⟨ga,s1,bA,cW⟩:=C8 ai bf aL;obtain⟨dc,s2,bI⟩:=Em aP bA cW;exact⟨dc,s1.trans bf s2,bI,cW.imp λ_ _=>en.ext s2.iL.ext⟩
  ·cases h
 ·cases h
end
structure LE where
  dD:a4
  outs:bE
  g:U dD->Option (bq outs)
inductive nz
  |one
  |seq (a b:nz)
  |two (a b:nz)
  |sub (a:nz)
  |loop (e:LE)
  |cut (dD:a4) (outs:bE) (a:nz)
def Qz (l:List Oper):List Nat:=l.flatMap λo=>o.dst.toList
def pf:Code->List Nat
 |.region _ ops _=>Qz ops.toList
 |.seq a b=>pf a++pf b
 |.cond _ a b=>pf a++pf b
 |.block _ a=>pf a
 |.loop a=>pf a
 |_=>[]
def Ji (dD:a4)(outs:bE)(wr:List Nat)(g:U dD->Option (bq outs))(F:Fr)(σ:bV):Q (l6×Fr×bV):=match vQ dD (Qi dD.pZ F) σ with
 |some z=>match ye dD z.1 z.2 with
  |some x=>.bind (g x.1) λy=>S' F z.2 x.2 wr outs y
  |none=>.fail
 |none=>.fail
def WY (E:Env)(call:lp)(n:Nat)(ops:Array Oper)(qO:Bool)(F:Fr)(σ:bV):Q (Fr×bV):=match qO with
 |false=>steps E call n ops ops.toList F σ
 |true=>match A_ .nil 0 ops.toList with
  |some l=>drawn E call n ops l F σ
  |none=>.fail
def qc (E:Env)(call:lp)(n:Nat):nz->Code->Fr->bV->Q (l6×Fr×bV)
 |.one,c,F,σ=>match c with
  |.skip=>.ret (.normal,F,σ)
  |.region _ ops qO=>(WY E call n ops qO F σ).lG λy=>.ret (.normal,y.1,y.2)
  |.exit i=>.ret (.exit i,F,σ)
  |.ret=>.ret (.ret,F,σ)
  |_=>.fail
 |.seq a b,c,F,σ=>match c with
  |.seq cW dA=>(qc E call n a cW F σ).lG λy=>match y.1 with
   |.normal=>qc E call n b dA y.2.1 y.2.2
   |_=>.ret y
  |_=>.fail
 |.two a b,c,F,σ=>match c with
  |.cond x cW dA=>match jx x F with
   |.p (.c (.bool v))=>.ite v (qc E call n a cW F σ) (qc E call n b dA F σ)
   |_=>.fail
  |_=>.fail
 |.sub a,c,F,σ=>match c with
  |.block id p=>(qc E call n a p F σ).lG λy=>match y.1 with
   |.exit i=>match Nat.beq i id with
    |true=>.ret (.normal,y.2)
    |false=>.ret y
   |_=>.ret y
  |_=>.fail
 |.loop e,c,F,σ=>match c with
  |.loop p=>Ji e.dD e.outs (pf p) e.g F σ
  |_=>.fail
 |.cut dD outs a,c,F,σ=>Ji dD outs (pf c) (λx=>((qc E call n a c (AN dD x) (pS dD x)).lG λy=>.ret (tg dD.blocks y.1 y.2.1 y.2.2 outs)).opt) F σ
def zY (aS:Program)(n:Nat)(c:Code)(wr:List Nat)(dD:a4)(outs:bE)(g:U dD->Option (bq outs)):Prop:=∀x y,g x=some y->∀m w a,dB m n (AN dD x) a->bM m (pS dD x) w->rY dD.blocks m->∀Q:Exit->Go.Act->World->Prop,(∀ex fh m' c6 w',xN dD.blocks.length ex m' fh c6 outs y->Step m (pS dD x) w m' fh w'->n<=c6.tmps.size->c6.defers=[]->bM m' fh w'->iG wr a c6->Q (yf ex) c6 w')->c.wp aS Q a w
def oF (aS:Program)(E:Env)(n:Nat):nz->Code->Prop
 |.one,c=>match c with
  |.region _ ops qO=>qO=true->H7 E ops=true
  |_=>True
 |.seq a b,c=>match c with
  |.seq cW dA=>oF aS E n a cW/\oF aS E n b dA
  |_=>True
 |.two a b,c=>match c with
  |.cond x cW dA=>oF aS E n a cW/\oF aS E n b dA
  |_=>True
 |.sub a,c=>match c with
  |.block id p=>oF aS E n a p
  |_=>True
 |.loop e,c=>match c with
  |.loop p=>zY aS n (.loop p) (pf p) e.dD e.outs e.g
  |_=>True
 |.cut dD outs a,c=>oF aS E n a c
section
variable{aS:Program}{E:Env}{call:lp}{n:Nat}
theorem Zu {c:Code}{wr:List Nat}{dD:a4}{outs:bE}{g:U dD->Option (bq outs)}(cm:zY aS n c wr dD outs g){m:M}{σ:bV}{F:Fr}{a:Go.Act}{w:World}{y:l6×Fr×bV}(a2:dB m n F a)(bf:bM m σ w)(h:cU (Ji dD outs wr g F σ) y){Q:Exit->Go.Act->World->Prop}(fl:∀m' c6 w',Step m σ w m' y.2.2 w'->dB m' n y.2.1 c6->bM m' y.2.2 w'->iG wr a c6->Q (yf y.1) c6 w'):c.wp aS Q a w:=by
 unfold Ji at h;split at h
 ·rename_i z ai;split at h
  ·rename_i x aW;obtain⟨az,aa,af⟩:=h.m9;obtain⟨ga,s1,bA,cW⟩:=K0 ai bf (Qj a2 dD.pZ);obtain⟨aD,aQ,bO,cP,dP,db,fk,dG⟩:=Jh (x:=x.1) (ids:=x.2) aW bA cW;have lU:dB (ga.sub z.2 x.2) n (AN dD x.1) a:=L_ fk ⟨a2.size,a2.defers,λt=>trivial⟩;refine cm x.1 az aa _ w a lU db dG Q λex fh dc c6 w' cr cI dw mD fe kV=>?_;have he:Iv ga z.2 x.2 (pS dD x.1):=⟨aQ,bO,cP,by rw[aD];rfl,dP⟩;obtain⟨fQ,fw,eQ,gq,k7⟩:=ab1 (a2.ext s1.iL.ext) bA he cI dw mD fe kV (by rw[aD];exact cr) af;have:=fl fw c6 w' (s1.trans bf eQ) k7 gq kV;rw[fQ] at this;exact this
  ·exact h.cc.elim
 ·exact h.cc.elim
theorem amu {ops:List Oper}{o:Oper}{t:Nat}(bX:o∈ops)(bg:o.dst=some t):t∈Qz ops:=List.mem_flatMap.2 ⟨o,bX,by rw[bg];simp⟩
theorem aL4 (pP:aS.follows .mixedOrders=true)(kE:tT aS E)(jh:rV aS call){id:Nat}{ops:Array Oper}{qO:Bool}(AH:qO=true->H7 E ops=true){m:M}{σ:bV}{F:Fr}{a:Go.Act}{w:World}{y:Fr×bV}(a2:dB m n F a)(bf:bM m σ w)(h:cU (WY E call n ops qO F σ) y){Q:Exit->Go.Act->World->Prop}(fl:∀m' c6 w',Step m σ w m' y.2 w'->dB m' n y.1 c6->bM m' y.2 w'->iG (Qz ops.toList) a c6->Q .normal c6 w'):(Code.region id ops qO).wp aS Q a w:=by
 unfold WY at h;cases qO with
 |false=>
  refine wp_region ?_;have:=alV (ds:=Qz ops.toList) kE jh (Q:=Q) ops.toList 0 (by simp) (λo bX t bg=>amu bX bg) a2 bf h fl
  rwa [Array.length_toList,<-List.range_eq_range'] at this
 |true=>
  simp only at h;split at h
  ·rename_i l aZ;exact an3 pP kE jh (AH rfl) aZ (λi o t bX bg=>amu (List.mem_of_getElem? (by rw[Array.getElem?_toList];exact bX)) bg) a2 bf h fl
  ·exact h.cc.elim
theorem vj (pP:aS.follows .mixedOrders=true)(kE:tT aS E)(jh:rV aS call):∀(iu:nz)(c:Code),oF aS E n iu c->∀{m:M}{σ:bV}{F:Fr}{a:Go.Act}{w:World}{y:l6×Fr×bV}{Q:Exit->Go.Act->World->Prop},dB m n F a->bM m σ w->
 cU (qc E call n iu c F σ) y->(∀m' c6 w',Step m σ w m' y.2.2 w'->dB m' n y.2.1 c6->bM m' y.2.2 w'->iG (pf c) a c6->Q (yf y.1) c6 w')->c.wp aS Q a w
 |.one,c,ji,m,σ,F,a,w,y,Q,a2,bf,h,fl=>by
  unfold qc at h;cases c with
  |skip=>obtain rfl:=h.eH;exact wp_skip (fl m a w (Step.refl ..) a2 bf (iG.refl _ _))
  |region id ops qO=>
   obtain⟨az,aa,af⟩:=h.lX;obtain rfl:=af.eH;exact aL4 pP kE jh ji a2 bf aa fl
  |exit i=>obtain rfl:=h.eH;exact wp_exit (fl m a w (Step.refl ..) a2 bf (iG.refl _ _))
  |ret=>obtain rfl:=h.eH;exact wp_ret (fl m a w (Step.refl ..) a2 bf (iG.refl _ _))
  |_=>exact h.cc.elim
 |.seq iu Ri,c,ji,m,σ,F,a,w,y,Q,a2,bf,h,fl=>by
  unfold qc at h;cases c with
  |seq cW dA=>
   obtain⟨az,aa,af⟩:=h.lX;refine wp_seq (vj pP kE jh iu cW ji.1 a2 bf aa λm' c6 w' e qj rA aP=>?_);have aa9:iG (pf (.seq cW dA)) a c6:=aP.mono λt bQ=>List.mem_append_left _ bQ;split at af
   ·rename_i aA;rw[aA];exact vj pP kE jh Ri dA ji.2 qj rA af λqw z0 u2 e' aa af pQ=>fl qw z0 u2 (e.trans bf e') aa af (aa9.trans (pQ.mono λt bQ=>List.mem_append_right _ bQ))
   ·rename_i aA;obtain rfl:=af.eH;have:=fl m' c6 w' e qj rA aa9;cases he:y.1 with
    |normal=>exact absurd he aA
    |exit i=>rw[he] at this;exact this
    |ret=>rw[he] at this;exact this
  |_=>exact h.cc.elim
 |.two iu Ri,c,ji,m,σ,F,a,w,y,Q,a2,bf,h,fl=>by
  unfold qc at h;cases c with
  |cond x cW dA=>
   simp only at h;split at h
   ·rename_i v aL;have an:a.eval x=.bool v:=by have:=lY a2 x;rw[aL] at this;exact this
    rcases h.vR with⟨ah,h'⟩|⟨ah,h'⟩
    ·subst ah;exact wp_cond_true an (vj pP kE jh iu cW ji.1 a2 bf h' λm' c6 w' e aa af aP=>fl m' c6 w' e aa af (aP.mono λt bQ=>List.mem_append_left _ bQ))
    ·subst ah;exact wp_cond_false an (vj pP kE jh Ri dA ji.2 a2 bf h' λm' c6 w' e aa af aP=>fl m' c6 w' e aa af (aP.mono λt bQ=>List.mem_append_right _ bQ))
   ·exact h.cc.elim
  |_=>exact h.cc.elim
 |.sub iu,c,ji,m,σ,F,a,w,y,Q,a2,bf,h,fl=>by
  unfold qc at h;cases c with
  |block id p=>
   obtain⟨az,aa,af⟩:=h.lX;refine wp_block (vj pP kE jh iu p ji a2 bf aa λm' c6 w' e qj rA aP=>?_);split at af
   ·rename_i i aj;split at af
    ·rename_i ah;obtain rfl:=af.eH;have:=gB ah;subst this;rw[aj];simpa[yf,Exit.inBlock] using fl m' c6 w' e qj rA aP
    ·rename_i ah;obtain rfl:=af.eH;have eJ:i≠id:=λhe=>by subst he;rw[Nat.beq_refl] at ah;cases ah
     have:=fl m' c6 w' e qj rA aP;rw[aj] at this⊢;simpa[yf,Exit.inBlock,eJ] using this
   ·rename_i aA;obtain rfl:=af.eH;have:=fl m' c6 w' e qj rA aP;cases he:y.1 with
    |normal=>rw[he] at this;exact this
    |exit i=>exact absurd he (aA i)
    |ret=>rw[he] at this;exact this
  |_=>exact h.cc.elim
 |.loop e,c,ji,m,σ,F,a,w,y,Q,a2,bf,h,fl=>by
  unfold qc at h;cases c with
  |loop p=>exact Zu ji a2 bf h fl
  |_=>exact h.cc.elim
 |.cut dD outs iu,c,ji,m,σ,F,a,w,y,Q,a2,bf,h,fl=>by
  unfold qc at h;refine Zu (c:=c) (wr:=pf c) (λx az cm ga ny dM ape Z1 yP aNL JE=>?_) a2 bf h fl;obtain⟨aF,aa,af⟩:=cU.lX (cU.LR cm);have af:=af.eH;refine vj pP kE jh iu c ji ape Z1 aa λm' c6 w' e aG aN bo=>?_;obtain⟨dc,fh,s1,s2,tN⟩:=RM aG aN (yP.ext e.iL.ext) af.symm;exact JE aF.1 fh dc c6 w' tN (e.trans Z1 s1) aG.size aG.defers s2 bo
end
section
variable{A B:Type}{h:A->Option (A⊕B)}
inductive Reach (h:A->Option (A⊕B)):A->B->Prop
  |done {x:A} {y:B}:h x=some (.inr y)->Reach h x y
  |more {x jn:A} {y:B}:h x=some (.inl jn)->Reach h jn y->Reach h x y
theorem Reach.unique {x:A}{y mG:B}(r:Reach h x y)(mE:Reach h x mG):y=mG:=by
 induction r with
 |done aa=>
  cases mE with
  |done af=>rw[aa] at af;cases af;rfl
  |more af _=>rw[aa] at af;cases af
 |more aa _ cj=>
  cases mE with
  |done af=>rw[aa] at af;cases af
  |more af eQ=>rw[aa] at af;cases af;exact cj eQ
open Classical in
def a3 (h:A->Option (A⊕B))(x:A):Option B:=if aW:∃y,Reach h x y then some (Classical.choose aW) else none
theorem Te {x:A}{y:B}(r:Reach h x y):a3 h x=some y:=by
 have aW:∃y,Reach h x y:=⟨y,r⟩;unfold a3;rw[dif_pos aW];exact congrArg some ((Classical.choose_spec aW).unique r)
theorem WW {x:A}{y:B}(e:a3 h x=some y):Reach h x y:=by
 unfold a3 at e;split at e
 ·rename_i aW;cases e;exact Classical.choose_spec aW
 ·cases e
theorem ar7 {x:A}{y:B}(e:h x=some (.inr y)):a3 h x=some y:=Te (.done e)
theorem ar8 {x jn:A}(e:h x=some (.inl jn)):a3 h x=a3 h jn:=by
 cases b7:a3 h jn with
 |some y=>exact Te (.more e (WW b7))
 |none=>
  cases ai:a3 h x with
  |none=>rfl
  |some z=>
   have:=WW ai;cases this with
   |done aQ=>rw[e] at aQ;cases aQ
   |more aQ r=>rw[e] at aQ;cases aQ;rw[Te r] at b7;cases b7
end
def SZ (σ:bV)(ids:List Nat)(outs:bE):Bool:=outs.all λp=>z5 σ ids p.2.blocks&&(nV 0 ids.length).all λj=> !live p.2.blocks j||(match ids[j]? with
 |some i=>Nat.beq i j
 |none=>false)
def aMi (E:Env)(call:lp)(n:Nat)(iu:nz)(c:Code)(dD:a4)(outs:bE)(x:U dD):Q (Option (U dD⊕bq outs)):=(qc E call n iu c (AN dD x) (pS dD x)).lG λy=>match y.1 with
 |.normal=>match vQ dD (Qi dD.pZ y.2.1) y.2.2 with
  |some z=>match ye dD z.1 z.2 with
   |some jn=>match SZ z.2 jn.2 outs with
    |true=>.ret (some (.inl jn.1))
    |false=>.fail
   |none=>.fail
  |none=>.fail
 |e=>.ret (match tg dD.blocks e y.2.1 y.2.2 outs with
  |some y=>some (.inr y)
  |none=>none)
def W7 (E:Env)(call:lp)(n:Nat)(iu:nz)(c:Code)(dD:a4)(outs:bE)(x:U dD):Option (U dD⊕bq outs):=(aMi E call n iu c dD outs x).opt
section
variable{aS:Program}{E:Env}{call:lp}{n:Nat}{w eU:World}{m dc:M}{σ kN fh:bV}{di:Go.Act}{ids:List Nat}
theorem anW (bf:bM m σ w)(he:Iv m σ ids kN)(st:Step (m.sub σ ids) kN w dc fh eU)(yt:bM dc fh eU)(sr:ids.length<=σ.next){e:l6}:∀{l:bE}{y:bq l},SZ σ ids l=true->xN ids.length e dc fh di l y->
 ∃fw l4,Step m σ w fw l4 eU/\bM fw l4 eU/\xN ids.length e fw l4 di l y:=by
 have one:∀{p:l6×a4}{y:U p.2},(z5 σ ids p.2.blocks&&(nV 0 ids.length).all λj=> !live p.2.blocks j||(match ids[j]? with
  |some i=>Nat.beq i j
  |none=>false))=true->p5 p.2 ids.length y dc fh (p.2.pZ.map λs=>di.tmps.getD s.1 undef)->∃fw l4,Step m σ w fw l4 eU/\bM fw l4 eU/\p5 p.2 ids.length y fw l4 (p.2.pZ.map λs=>di.tmps.getD s.1 undef):=by
  intro p y aU an;rw[gR] at aU;obtain⟨fw,aG,aN,bo⟩:=Kl bf he.vP he.low he.wJ he.ef he.iJ yt st an aU.1;refine⟨fw,_,aN,aG,axC an he.vP he.low bo rfl sr λj aq bn=>?_⟩;have:=List.all_eq_true.1 aU.2 j (Qv bn);rw[aq] at this;simp only[Bool.not_true,Bool.false_or] at this;split at this
  ·rename_i i aj;rw[aj,gB this]
  ·cases this
 intro l;induction l with
 |nil=>intro y _ h;exact h.elim
 |cons p l cj=>
  intro y aU h;unfold SZ at aU;rw[List.all_cons,gR] at aU;cases l with
  |nil=>
   obtain⟨fw,l4,aG,aN,bo⟩:=one aU.1 h.2;exact⟨fw,l4,aG,aN,h.1,bo⟩
  |cons q l=>
   cases y with
   |inl y=>
    have h:p.1=e/\p5 p.2 ids.length y dc fh _:=h;obtain⟨fw,l4,aG,aN,bo⟩:=one aU.1 h.2;exact⟨fw,l4,aG,aN,h.1,bo⟩
   |inr y=>exact cj (y:=y) aU.2 h
theorem ab_ (pP:aS.follows .mixedOrders=true)(kE:tT aS E)(jh:rV aS call){iu:nz}{p:Code}{dD:a4}{outs:bE}{h:U dD->Option (U dD⊕bq outs)}(ji:oF aS E n iu p)(fM:∀x,W7 E call n iu p dD outs x=h x):
 zY aS n (.loop p) (pf p) dD outs (a3 h):=by
 have key:∀{x:U dD}{y:bq outs},Reach h x y->∃N,∀m w a,dB m n (AN dD x) a->bM m (pS dD x) w->rY dD.blocks m->∀Q:Exit->Go.Act->World->Prop,
  (∀ex fh m' c6 w',xN dD.blocks.length ex m' fh c6 outs y->Step m (pS dD x) w m' fh w'->n<=c6.tmps.size->c6.defers=[]->bM m' fh w'->iG (pf p) a c6->Q (yf ex) c6 w')->Code.rounds aS p Q N a w:=by
  intro x y r;induction r with
  |@done x y aa=>
   refine⟨1,λm w a a2 bf bF Q fl=>?_⟩;rw[rounds_succ];rw[<-fM] at aa;obtain⟨aF,bA,bI⟩:=cU.lX (cU.LR aa);refine vj pP kE jh iu p ji a2 bf bA λm' c6 w' e aG aN bo=>?_;have fin:∀{ex:l6},aF.1=ex->ex≠.normal->tg dD.blocks ex aF.2.1 aF.2.2 outs=some y->Q (yf ex) c6 w':=λ{ex} aW aA he=>by
    obtain⟨fw,l4,s1,s2,tN⟩:=RM aG aN (bF.ext e.iL.ext) he;exact fl ex l4 fw c6 w' tN (e.trans bf s1) aG.size aG.defers s2 bo
   cases aW:aF.1 with
   |normal=>
    rw[aW] at bI;simp only at bI;split at bI
    ·split at bI
     ·split at bI
      ·have:=bI.eH;cases this
      ·exact bI.cc.elim
     ·exact bI.cc.elim
    ·exact bI.cc.elim
   |exit i=>
    rw[aW] at bI;have c9:=bI.eH;refine fin aW (by simp) ?_;cases he:tg dD.blocks (.exit i) aF.2.1 aF.2.2 outs with
    |none=>rw[he] at c9;cases c9
    |some mG=>rw[he] at c9;cases c9;rfl
   |ret=>
    rw[aW] at bI;have c9:=bI.eH;refine fin aW (by simp) ?_;cases he:tg dD.blocks .ret aF.2.1 aF.2.2 outs with
    |none=>rw[he] at c9;cases c9
    |some mG=>rw[he] at c9;cases c9;rfl
  |@more x jn y aa _ cj=>
   obtain⟨N,cj⟩:=cj;refine⟨N+1,λm w a a2 bf bF Q fl=>?_⟩;rw[rounds_succ];rw[<-fM] at aa;obtain⟨aF,bA,bI⟩:=cU.lX (cU.LR aa);refine vj pP kE jh iu p ji a2 bf bA λm' c6 w' e aG aN bo=>?_;cases aW:aF.1 with
   |normal=>
    rw[aW] at bI;simp only at bI;split at bI
    ·rename_i z ai;split at bI
     ·rename_i nW m7;split at bI
      ·rename_i ap8;have c9:=bI.eH;cases c9;obtain⟨ga,s1,bx,cW⟩:=K0 ai aN (Qj aG dD.pZ);obtain⟨aD,aQ,bO,cP,dP,db,fk,dG⟩:=Jh (x:=nW.1) (ids:=nW.2) m7 bx cW;have lU:dB (ga.sub z.2 nW.2) n (AN dD nW.1) c6:=L_ fk ⟨aG.size,aG.defers,λt=>trivial⟩;have pd:Step m (pS dD x) w ga z.2 w':=e.trans bf s1;refine cj _ w' c6 lU db dG Q λex fh dc di eU cr cI dw mD fe kV=>?_;obtain⟨fw,l4,fQ,eQ,gq⟩:=anW bx ⟨aQ,bO,cP,by rw[aD];rfl,dP⟩ cI fe (by rw[aD];exact pd.next) ap8 (by rw[aD];exact cr);exact fl ex l4 fw di eU (by rw[aD] at gq;exact gq) (pd.trans bf fQ) dw mD eQ (bo.trans kV)
      ·exact bI.cc.elim
     ·exact bI.cc.elim
    ·exact bI.cc.elim
   |exit i=>
    rw[aW] at bI;have c9:=bI.eH;cases he:tg dD.blocks (.exit i) aF.2.1 aF.2.2 outs with
    |none=>rw[he] at c9;cases c9
    |some mG=>rw[he] at c9;cases c9
   |ret=>
    rw[aW] at bI;have c9:=bI.eH;cases he:tg dD.blocks .ret aF.2.1 aF.2.2 outs with
    |none=>rw[he] at c9;cases c9
    |some mG=>rw[he] at c9;cases c9
 intro x y cm m w a a2 bf bF Q fl;obtain⟨N,tk⟩:=key (WW cm);exact wp_loop_rounds N (tk m w a a2 bf bF Q fl)
end
open bC (T cL under size kL fx jP qC mf)
structure oG where
  dD:a4
  out:a4
  g:U dD->Option (U out)
def YE (v:V):P:=match v with
 |.p x=>x
 |_=>.c .uM
def W6 (l:List V):V:=match l with
 |[v]=>v
 |l=>.Qr (l.map YE)
def B6 (l:List Value):Value:=match l with
 |[u]=>u
 |us=>.tuple us.toArray
def yX (v:V):List Nat:=match v with
 |.p (.c c)=>j8 c
 |.p (.agg cs)=>cs.flatMap j8
 |_=>[]
def J_ (nU:Nat->Option oG)(f:Nat)(args:List V)(σ:bV):List Nat:=match nU f with
 |some e=>match vQ e.dD args σ with
  |some z=>match ye e.dD z.1 z.2 with
   |some x=>args.flatMap yX++x.2
   |none=>[]
  |none=>[]
 |none=>[]
def H9 (nU:Nat->Option oG)(f:Nat)(args:List V)(σ:bV):Q (V×bV):=match nU f with
 |some e=>match vQ e.dD args σ with
  |some z=>match ye e.dD z.1 z.2 with
   |some x=>.bind (e.g x.1) λy=>match z5 z.2 x.2 e.out.blocks with
    |true=>.ret (W6 (EZ z.2 x.2 e.out y),vU z.2 x.2 e.out y)
    |false=>.fail
   |none=>.fail
  |none=>.fail
 |none=>.fail
def CL (nU:Nat->Option oG):lp:=⟨H9 nU,J_ nU⟩
def tZ (aS:Program)(f:Nat)(e:oG):Prop:=∀x y,e.g x=some y->∀m w (vs:Array Value),bM m (pS e.dD x) w->rY e.dD.blocks m->cL (en m) (J' e.dD x) vs.toList->(callFunc f vs).run aS w=.ok (.enter f vs) w/\Calls aS f vs w λex w'=>∃m' bb us,ex=.returned (B6 us)/\Step m (pS e.dD x) w m' bb w'/\bM m' bb w'/\p5 e.out e.dD.blocks.length y m' bb us
section
variable{aS:Program}{w:World}{m:M}{σ bb:bV}
theorem an1 (f len:Nat->Nat)(s:fp)(x:wq s):∃p,x9 f len s x=.p p:=by cases s<;>exact⟨_,rfl⟩
theorem Ry (f len:Nat->Nat):∀{l:List fp}(x:rZ l),∀v∈n_ f len l x,∃p,v=.p p
 |[],x,v,h=>absurd h List.not_mem_nil
 |s::l,x,v,h=>by
  rw[Ja] at h;rcases List.mem_cons.1 h with rfl|h
  ·exact an1 ..
  ·exact Ry f len x.2 v h
theorem YF:∀{vs:List V}{us:List Value},(∀v∈vs,∃p,v=.p p)->cL (en m) vs us->cL (mU m) (vs.map YE) us
 |[],[],_,_=>trivial
 |v::vs,u::us,bF,⟨aa,af⟩=>by
  refine⟨?_,YF (λv aL=>bF v (List.mem_cons_of_mem _ aL)) af⟩;obtain⟨p,rfl⟩:=bF v mY;exact aa
theorem alv {vs:List V}{us:List Value}(bF:∀v∈vs,∃p,v=.p p)(h:cL (en m) vs us):en m (W6 vs) (B6 us):=by
 match vs,us,h with
 |[],[],h=>exact⟨#[],rfl,trivial⟩
 |[v],[u],h=>exact h.1
 |v::ej::vs,u::e7::us,h=>exact⟨(u::e7::us).toArray,rfl,by simpa using YF bF h⟩
theorem R1 {c c':C}(h:yj c σ=some (c',bb)):bb.next=σ.next/\∀i,i∉j8 c->bb.heap.get i=σ.heap.get i:=by
 unfold yj at h;split at h
 ·split at h
  ·cases h;exact⟨rfl,λi aj=>bC.T.eP _ _ λe=>aj (by simp[j8,e])⟩
  ·cases h
 ·split at h
  ·split at h
   ·cases h;exact⟨rfl,λi aj=>bC.T.eP _ _ λe=>aj (by simp[j8,e])⟩
   ·cases h
  ·cases h
 ·cases h;exact⟨rfl,λ_ _=>rfl⟩
theorem C7:∀{l eC:List C}{σ bb:bV},yl l σ=some (eC,bb)->bb.next=σ.next/\∀i,i∉l.flatMap j8->bb.heap.get i=σ.heap.get i
 |[],eC,σ,bb,h=>by cases h;exact⟨rfl,λ_ _=>rfl⟩
 |c::l,eC,σ,bb,h=>by
  rw[yl] at h;split at h
  ·rename_i y b7;split at h
   ·rename_i z ai;cases h;obtain⟨dM,di⟩:=R1 b7;obtain⟨c4,fD⟩:=C7 ai;refine⟨c4.trans dM,λi aj=>?_⟩;rw[List.flatMap_cons,List.mem_append,not_or] at aj;exact(fD i aj.2).trans (di i aj.1)
   ·cases h
  ·cases h
theorem aoO {s:fp}{v ej:V}(h:qR s v σ=some (ej,bb)):σ.next<=bb.next/\∀i,i<σ.next->i∉yX v->bb.heap.get i=σ.heap.get i:=by
 have refl:σ.next<=σ.next/\∀i,i<σ.next->i∉yX v->σ.heap.get i=σ.heap.get i:=⟨Nat.le_refl _,λ_ _ _=>rfl⟩;unfold qR at h;split at h
 ·split at h
  ·split at h
   ·rename_i c y b7;cases h;exact⟨Nat.le_of_eq (R1 b7).1.symm,λi _ aj=>(R1 b7).2 i aj⟩
   ·cases h
  ·cases h;exact refl
 ·split at h
  ·split at h
   ·rename_i cs y b7;cases h;exact⟨Nat.le_of_eq (C7 b7).1.symm,λi _ aj=>(C7 b7).2 i aj⟩
   ·cases h
  ·cases h;exact refl
 ·split at h
  ·split at h
   ·rename_i cs y b7;cases h;exact⟨Nat.le_of_eq (C7 b7).1.symm,λi _ aj=>(C7 b7).2 i aj⟩
   ·cases h
  ·cases h;exact refl
 ·split at h
  ·cases h;exact⟨Nat.le_succ _,λi aj _=>bC.T.eP _ _ ab⟩
  ·cases h;exact refl
 ·split at h
  ·cases h;exact⟨Nat.le_succ _,λi aj _=>bC.T.eP _ _ ab⟩
  ·cases h;exact refl
 ·cases h;exact refl
theorem ZR:∀{l:List fp}{vs gi:List V}{σ bb:bV},qi l vs σ=some (gi,bb)->σ.next<=bb.next/\∀i,i<σ.next->i∉vs.flatMap yX->bb.heap.get i=σ.heap.get i
 |[],vs,gi,σ,bb,h=>by
  have h:some (vs,σ)=some (gi,bb):=by cases vs<;>exact h
  cases h;exact⟨Nat.le_refl _,λ_ _ _=>rfl⟩
 |s::l,[],gi,σ,bb,h=>by cases h;exact⟨Nat.le_refl _,λ_ _ _=>rfl⟩
 |s::l,v::vs,gi,σ,bb,h=>by
  rw[qi] at h;split at h
  ·rename_i y b7;split at h
   ·rename_i z ai;cases h;obtain⟨dM,di⟩:=aoO b7;obtain⟨c4,fD⟩:=ZR ai;refine⟨jd dM c4,λi bn aj=>?_⟩;rw[List.flatMap_cons,List.mem_append,not_or] at aj;exact(fD i (Nat.lt_of_lt_of_le bn dM) aj.2).trans (di i bn aj.1)
   ·cases h
  ·cases h
theorem aoN {s:fp}{v ej:V}(h:qR s v σ=some (ej,bb)){k i:Nat}(aL:ej=.p (.c (.ptr (some (i,k))))):v=.p (.c (.ptr (some (i,k)))):=by
 unfold qR at h;split at h
 ·split at h
  ·split at h
   ·rename_i c y b7;cases h;unfold yj at b7;split at b7
    ·split at b7
     ·cases b7;cases aL
     ·cases b7
    ·split at b7
     ·split at b7
      ·cases b7;cases aL
      ·cases b7
     ·cases b7
    ·cases b7;exact aL
   ·cases h
  ·cases h;exact aL
 ·split at h
  ·split at h
   ·cases h;cases aL
   ·cases h
  ·cases h;exact aL
 ·split at h
  ·split at h
   ·cases h;cases aL
   ·cases h
  ·cases h;exact aL
 ·split at h
  ·cases h;cases aL
  ·cases h;exact aL
 ·split at h
  ·cases h;cases aL
  ·cases h;exact aL
 ·cases h;exact aL
theorem ZQ:∀{l:List fp}{vs gi:List V}{σ bb:bV},qi l vs σ=some (gi,bb)->∀i k,V.p (.c (.ptr (some (i,k))))∈gi->V.p (.c (.ptr (some (i,k))))∈vs
 |[],vs,gi,σ,bb,h=>by
  have h:some (vs,σ)=some (gi,bb):=by cases vs<;>exact h
  cases h;exactλ_ _ h=>h
 |s::l,[],gi,σ,bb,h=>by cases h;exactλ_ _ h=>h
 |s::l,v::vs,gi,σ,bb,h=>by
  rw[qi] at h;split at h
  ·rename_i y b7;split at h
   ·rename_i z ai;cases h;intro i k hm;rcases List.mem_cons.1 hm with g|g
    ·have:=aoN b7 g.symm;rw[this];exact mY
    ·exact List.mem_cons_of_mem _ (ZQ ai i k g)
   ·cases h
  ·cases h
theorem TB {iJ:List ec}:∀{l:List fp}{vs:List V}{σ bb:bV},uO iJ l vs σ=some bb->σ.next<=bb.next/\∀j,j<σ.next->(∀k,V.p (.c (.ptr (some (j,k))))∉vs)->bb.heap.get j=σ.heap.get j
 |[],vs,σ,bb,h=>by
  have h:some σ=some bb:=by cases vs<;>exact h
  cases h;exact⟨Nat.le_refl _,λ_ _ _=>rfl⟩
 |s::l,[],σ,bb,h=>by cases h;exact⟨Nat.le_refl _,λ_ _ _=>rfl⟩
 |s::l,v::vs,σ,bb,h=>by
  have rest:uO iJ l vs σ=some bb->σ.next<=bb.next/\∀j,j<σ.next->(∀k,V.p (.c (.ptr (some (j,k))))∉v::vs)->bb.heap.get j=σ.heap.get j:=λh=>by
   obtain⟨dM,di⟩:=TB h;exact⟨dM,λj aq aA=>di j aq λk aU=>aA k (List.mem_cons_of_mem _ aU)⟩
  cases s with
  |ptr k o=>
   simp only[uO] at h;split at h
   ·rename_i y;split at h
    ·split at h
     ·rename_i kN aP;obtain⟨dM,di⟩:=aun aP;obtain⟨c4,fD⟩:=TB h;refine⟨jd dM c4,λj aq aA=>?_⟩;rw[fD j (Nat.lt_of_lt_of_le aq dM) λk aU=>aA k (List.mem_cons_of_mem _ aU)];exact di j aq λe=>aA y.2 (by rw[e];exact mY)
     ·cases h
    ·exact rest h
   ·exact rest h
  |_=>exact rest h
theorem aum {p:a4}{vs gi:List V}(h:vQ p vs σ=some (gi,bb)):σ.next<=bb.next/\∀i,i<σ.next->i∉vs.flatMap yX->bb.heap.get i=σ.heap.get i:=by
 unfold vQ at h;split at h
 ·rename_i z ai;split at h
  ·rename_i kN aP;cases h;obtain⟨dM,di⟩:=ZR ai;obtain⟨c4,fD⟩:=TB aP;refine⟨jd dM c4,λi aj aA=>?_⟩;rw[fD i (Nat.lt_of_lt_of_le aj dM) λk aU=>aA (List.mem_flatMap.2 ⟨_,ZQ ai i k aU,by simp[yX,j8]⟩)];exact di i aj aA
  ·cases h
 ·cases h
theorem I3 {nU:Nat->Option oG}(bQ:∀f e,nU f=some e->tZ aS f e):rV aS (CL nU) where
 run f args σ v bb m w vs h bf aL:=by
  have h:cU (H9 nU f args σ) (v,bb):=h;unfold H9 at h;split at h
  ·rename_i e he;split at h
   ·rename_i z ai;split at h
    ·rename_i x aW;obtain⟨y,b7,h⟩:=h.m9;split at h
     ·rename_i cf;have h:=h.eH;cases h;obtain⟨ga,s1,bA,cW⟩:=K0 ai bf aL;obtain⟨aD,aQ,bO,cP,dP,db,fk,dG⟩:=Jh (x:=x.1) (ids:=x.2) aW bA cW;obtain⟨aG,aN⟩:=bQ f e he x.1 y b7 _ w vs db dG fk;refine⟨aG,aN.mono ?_⟩;rintro ex w' ⟨dc,fh,us,rfl,cr,cI,dw⟩;obtain⟨fw,fQ,eQ,gq⟩:=Kl bA aQ bO cP (by rw[aD];rfl) dP cI cr (by rw[aD];exact dw) cf;exact⟨fw,_,rfl,s1.trans bf eQ,fQ,alv (Ry _ _ _) gq⟩
     ·exact h.cc.elim
    ·exact h.cc.elim
   ·exact h.cc.elim
  ·exact h.cc.elim
 wr f args σ v bb h:=by
  have h:cU (H9 nU f args σ) (v,bb):=h;show∀i,i<σ.next->i∉J_ nU f args σ->_;unfold H9 at h;split at h
  ·rename_i e he;split at h
   ·rename_i z ai;split at h
    ·rename_i x aW;obtain⟨y,b7,h⟩:=h.m9;split at h
     ·have h:=h.eH;cases h;intro i aj aA;have lU:J_ nU f args σ=args.flatMap yX++x.2:=by unfold J_;rw[he];simp only;rw[ai];simp only;rw[aW]
      rw[lU,List.mem_append,not_or] at aA;obtain⟨dM,di⟩:=aum ai;rw[<-di i aj aA.1];show(putAt _ _ z.2.heap).get i=_;refine Ba λhm=>?_;unfold nS at hm;rcases List.mem_append.1 hm with g|g
      ·exact aA.2 g
      ·have:=(Ik g).1;omega
     ·exact h.cc.elim
    ·exact h.cc.elim
   ·exact h.cc.elim
  ·exact h.cc.elim
end
def SV (c:C):Bool:=match c with
 |.ptr (some _)=>true
 |.cH _ _ _=>true
 |.jW _ _ _ _=>true
 |_=>false
def W4 (E:Env)(b t:Nat)(F:Fr)(σ:bV):Q V:=match lO (gN F b) with
 |some c=>match SV c with
  |true=>match bC.isAgg E.cw t,size E.cw t with
   |some true,some n=>y8 n c σ
   |some false,_=>vM c σ
   |_,_=>.fail
  |false=>.fail
 |none=>.fail
def H8 (E:Env):List ResultVar->Fr->bV->Q (List V)
 |[],F,σ=>.ret []
 |.tmp t::l,F,σ=>(H8 E l F σ).lG λvs=>.ret (gN F t::vs)
 |.cell b t::l,F,σ=>(W4 E b t F σ).lG λv=>(H8 E l F σ).lG λvs=>.ret (v::vs)
def Jl (p:a4)(jr:List ec)(vs:List V)(σ:bV):Option (U p):=match qi p.kinds vs σ with
 |some z=>match zr jr p.blocks (nV 0 jr.length) z.2 with
  |some bb=>C5 p jr.length z.1 bb
  |none=>none
 |none=>none
def CE:List V->Nat->Fr->Fr
 |[],_,F=>F
 |v::l,i,F=>rj (CE l (Nat.succ i) F) i v
def aoF (E:Env)(call:lp)(fn:Func)(c:Code)(iu:nz)(dD out:a4)(x:U dD):Q (Option (U out)):=(qc E call fn.ntmps iu c (CE (J' dD x) 0 []) (pS dD x)).lG λy=>match y.1 with
 |.exit _=>.fail
 |_=>(H8 E fn.results.toList y.2.1 y.2.2).lG λvs=>.ret (Jl out dD.blocks vs y.2.2)
def RZ (E:Env)(call:lp)(fn:Func)(c:Code)(iu:nz)(dD out:a4)(x:U dD):Option (U out):=(aoF E call fn c iu dD out x).opt
def zF (tmps:Array Value):ResultVar->Sem Value
 |.tmp t=>pure (tmps.getD t undef)
 |.cell a t=>do loadVar t (<-asAddr (tmps.getD a undef))
section
variable{aS:Program}{w:World}{m:M}{σ:bV}{F:Fr}{a:Go.Act}{n:Nat}{E:Env}{call:lp}
theorem axX {c:C}{u:Value}(h:SV c=true)(an:dv m c u):∃A,u=.pointer (some A):=by
 unfold SV at h;split at h
 ·obtain⟨r,_,rfl⟩:=an;exact⟨_,rfl⟩
 ·obtain⟨b,a,rfl,_⟩:=an;exact⟨_,rfl⟩
 ·obtain⟨b,k,c,_,rfl⟩:=an;exact⟨_,rfl⟩
 ·cases h
theorem aMd (b6:fx aS E.cw)(a2:dB m n F a)(bf:bM m σ w){b t:Nat}{v:V}(h:cU (W4 E b t F σ) v):∃u,(zF a.tmps (.cell b t)).run aS w=.ok u w/\en m v u:=by
 unfold W4 at h;split at h
 ·rename_i c an;split at h
  ·rename_i bF;have yC:dv m c (a.tmps.getD b undef):=qa an (a2.slot b);obtain⟨A,dH⟩:=axX bF yC;have lE:lO (jx (.tmp b) F)=some c:=an;have fin:∀{u:Value},(Instr.loadAt t (a.eval (.tmp b))).run aS w=.ok u w->(zF a.tmps (.cell b t)).run aS w=.ok u w:=λ{u} h=>by
    have aD:a.eval (.tmp b)=.pointer (some A):=dH;rw[aD] at h;rw[<-h];simp only[zF];rw[dH];simp[Instr.loadAt,Instr.sureAddr,asAddr]
   split at h
   ·rename_i k cm aP;obtain⟨u,aa,af⟩:=ab8 (x:=.tmp b) b6 a2 bf cm aP v (by unfold mC;rw[lE];exact h);exact⟨u,fin aa,af⟩
   ·rename_i _ cm;obtain⟨u,aa,af⟩:=ab9 (x:=.tmp b) b6 a2 bf cm v (by unfold mC;rw[lE];exact h);exact⟨u,fin aa,af⟩
   ·exact h.cc.elim
  ·exact h.cc.elim
 ·exact h.cc.elim
theorem W5 (b6:fx aS E.cw)(a2:dB m n F a)(bf:bM m σ w):∀{l:List ResultVar}{vs:List V},cU (H8 E l F σ) vs->∃us,(l.mapM (zF a.tmps)).run aS w=.ok us w/\cL (en m) vs us
 |[],vs,h=>by obtain rfl:=h.eH;exact⟨[],by simp,trivial⟩
 |.tmp t::l,vs,h=>by
  obtain⟨gi,aa,af⟩:=cU.lX h;obtain rfl:=af.eH;obtain⟨us,aG,aN⟩:=W5 b6 a2 bf aa;exact⟨a.tmps.getD t undef::us,by simp[List.mapM_cons,zF,aG],a2.slot t,aN⟩
 |.cell b t::l,vs,h=>by
  obtain⟨v,a6,h⟩:=cU.lX h;obtain⟨gi,aa,af⟩:=cU.lX h;obtain rfl:=af.eH;obtain⟨u,bA,bI⟩:=aMd b6 a2 bf a6;obtain⟨us,aG,aN⟩:=W5 b6 a2 bf aa;exact⟨u::us,by simp[List.mapM_cons,bA,aG],bI,aN⟩
theorem aMf (fn:Func)(tmps:Array Value):
 results fn tmps=(fn.results.toList.mapM (zF tmps)>>=λvs=>pure (if h:vs.toArray.size=1 then vs.toArray[0] else .tuple vs.toArray)):=by
 have e:results fn tmps=(fn.results.mapM (zF tmps)>>=λvs=>pure (if h:vs.size=1 then vs[0] else .tuple vs)):=by
  unfold results;refine congrArg (·>>=_) (congrArg (λf=>Array.mapM f fn.results) ?_);funext r;cases r<;>rfl
 rw[e,Array.mapM_eq_mapM_toList];simp
theorem aMe (us:List Value):(if h:us.toArray.size=1 then us.toArray[0] else .tuple us.toArray)=B6 us:=by
 match us with
 |[]=>rfl
 |[u]=>rfl
 |u::e7::us=>simp[B6]
theorem YA:∀{l:List V}{i t:Nat},gN (CE l i []) t=if i<=t then(l[t-i]?).getD .any else .any
 |[],i,t=>by
  show V.any=_;split<;>simp
 |v::l,i,t=>by
  rw[CE,vo,YA];by_cases h:t=i
  ·subst h;simp
  ·rw[if_neg h];by_cases aa:i<=t
   ·rw[if_pos ab,if_pos aa,show t-i=(t-Nat.succ i)+1 by omega,List.getElem?_cons_succ]
   ·rw[if_neg ab,if_neg aa]
theorem aMP {args:List V}{vs:Array Value}(k:Nat)(aL:cL (en m) args vs.toList):dB m k (CE args 0 []) {tmps:=vs++Array.replicate (k-vs.size) undef,defers:=[]}:=by
 refine⟨by simp;omega,rfl,λt=>?_⟩;rw[YA,if_pos (Nat.zero_le _),Nat.sub_zero];have hlen:=aL.length;simp only[Array.length_toList] at hlen;by_cases h:t<args.length
 ·obtain⟨v,aa,af⟩:=aL.get (fy h);rw[fy h];have ax:(vs++Array.replicate (k-vs.size) undef).getD t undef=v:=by
   rw[Array.getD_eq_getD_getElem?,Array.getElem?_append_left ab];rw[Array.getElem?_toList] at aa;rw[aa];rfl
  rw[ax];exact af
 ·rw[List.getElem?_eq_none ab];trivial
theorem aom {p:a4}{jr:List ec}{y:U p}{vs:List V}{us:List Value}(h:Jl p jr vs σ=some y)(bf:bM m σ w)(bF:rY jr m)(aL:cL (en m) vs us):∃m' bb,Step m σ w m' bb w/\bM m' bb w/\p5 p jr.length y m' bb us:=by
 unfold Jl at h;split at h
 ·rename_i z ai;split at h
  ·rename_i bb aP;obtain⟨m',s1,bA,cW⟩:=C8 ai bf aL;obtain⟨ga,s2,bI⟩:=El aP bA (bF.ext s1.iL.ext);exact⟨ga,bb,s1.trans bf s2,bI,RR bI h (cW.imp λ_ _=>en.ext s2.iL.ext)⟩
  ·cases h
 ·cases h
theorem ZK (b6:fx aS E.cw)(pP:aS.follows .mixedOrders=true)(kE:tT aS E)(jh:rV aS call){f:Nat}{fn:Func}{c:Code}{iu:nz}{e:oG}(bB:aS.funcs[f]?=some fn)(aqu:(fn.name== "runtime.NumGoroutine")=false) (ah:fn.body=some c) (ji:oF aS E fn.ntmps iu c)
 (cm:∀x,RZ E call fn c iu e.dD e.out x=e.g x):tZ aS f e:=by
 intro x y b7 m w vs bf bF aL;have ax:¬fn.name= "runtime.NumGoroutine":=by simpa using aqu
 refine⟨by simp[callFunc,bB,ax,ah],calls_of_wp bB ah ?_⟩;rw[<-cm] at b7;obtain⟨z,aa,af⟩:=cU.lX (cU.LR b7);refine vj pP kE jh iu c ji (aMP fn.ntmps aL) bf aa λm' c6 w' st a2 rA aP=>?_;have key:cU ((H8 E fn.results.toList z.2.1 z.2.2).lG λvs=>.ret (Jl e.out e.dD.blocks vs z.2.2)) (some y)->∃v,(results fn c6.tmps).run aS w'=.ok v w'/\∃dc fh us,Ending.returned v=.returned (B6 us)/\Step m (pS e.dD x) w dc fh w'/\bM dc fh w'/\p5 e.out e.dD.blocks.length y dc fh us:=λh=>by
  obtain⟨gi,bA,bI⟩:=h.lX;have bI:=bI.eH;obtain⟨us,aG,aN⟩:=W5 b6 a2 rA bA;obtain⟨dc,fh,s1,s2,tN⟩:=aom bI.symm rA (bF.ext st.iL.ext) aN;refine⟨B6 us,?_,dc,fh,us,rfl,st.trans bf s1,s2,tN⟩;rw[aMf,iI,aG];simp only[jq,jT];rw[aMe]
 cases aW:z.1 with
 |exit i=>rw[aW] at af;exact af.cc.elim
 |normal=>
  rw[aW] at af;obtain⟨v,cr,cI⟩:=key af;exact⟨a2.defers,v,cr,cI⟩
 |ret=>
  rw[aW] at af;obtain⟨v,cr,cI⟩:=key af;exact⟨a2.defers,v,cr,cI⟩
end
structure Cs where
  e:LE
  p:Code
def p_ (E:Env):nz->Code->Bool
 |.one,c=>match c with
  |.region _ ops qO=>match qO with
   |true=>H7 E ops
   |false=>true
  |_=>true
 |.seq a b,c=>match c with
  |.seq cW dA=>match p_ E a cW with
   |true=>p_ E b dA
   |false=>false
  |_=>true
 |.two a b,c=>match c with
  |.cond x cW dA=>match p_ E a cW with
   |true=>p_ E b dA
   |false=>false
  |_=>true
 |.sub a,c=>match c with
  |.block id p=>p_ E a p
  |_=>true
 |.loop e,c=>true
 |.cut dD outs a,c=>p_ E a c
def r3:nz->Code->List Cs
 |.one,c=>[]
 |.seq a b,c=>match c with
  |.seq cW dA=>r3 a cW++r3 b dA
  |_=>[]
 |.two a b,c=>match c with
  |.cond x cW dA=>r3 a cW++r3 b dA
  |_=>[]
 |.sub a,c=>match c with
  |.block id p=>r3 a p
  |_=>[]
 |.loop e,c=>match c with
  |.loop p=>[⟨e,p⟩]
  |_=>[]
 |.cut dD outs a,c=>r3 a c
def tU (aS:Program)(n:Nat):List Cs->Prop
 |[]=>True
 |o::l=>zY aS n (.loop o.p) (pf o.p) o.e.dD o.e.outs o.e.g/\tU aS n l
section
variable{aS:Program}{E:Env}{n:Nat}
theorem tU.app:∀{l r:List Cs},tU aS n (l++r)->tU aS n l/\tU aS n r
 |[],r,h=>⟨trivial,h⟩
 |o::l,r,h=>⟨⟨h.1,(tU.app h.2).1⟩,(tU.app h.2).2⟩
theorem xY:∀(iu:nz)(c:Code),p_ E iu c=true->tU aS n (r3 iu c)->oF aS E n iu c
 |.one,c,h,aZ=>by
  unfold oF;unfold p_ at h;split
  ·rename_i ops qO;simp only at h;intro bg;subst bg;exact h
  ·trivial
 |.seq a b,c,h,aZ=>by
  unfold oF;cases c with
  |seq cW dA=>
   unfold p_ at h;simp only at h;split at h
   ·rename_i aa;exact⟨xY a cW aa aZ.app.1,xY b dA h aZ.app.2⟩
   ·cases h
  |_=>trivial
 |.two a b,c,h,aZ=>by
  unfold oF;cases c with
  |cond x cW dA=>
   unfold p_ at h;simp only at h;split at h
   ·rename_i aa;exact⟨xY a cW aa aZ.app.1,xY b dA h aZ.app.2⟩
   ·cases h
  |_=>trivial
 |.sub a,c,h,aZ=>by
  unfold oF;cases c with
  |block id p=>exact xY a p h aZ
  |_=>trivial
 |.loop e,c,h,aZ=>by
  unfold oF;cases c with
  |loop p=>exact aZ.1
  |_=>trivial
 |.cut dD outs a,c,h,aZ=>by
  unfold oF;exact xY a c h aZ
theorem IK {iu:nz}{c:Code}{l:List Cs}(h:p_ E iu c=true)(aZ:r3 iu c=l)(cf:tU aS n l):oF aS E n iu c:=xY iu c h (aZ▸cf)
def B_ (l:List (Nat×oG)):Nat->Option oG:=List.rec (motive:=λ_=>Nat->Option oG) (λ_=>none) (λy _ cj k=>match Nat.beq y.1 k with
 |true=>some y.2
 |false=>cj k) l
def Cy (aS:Program):List (Nat×oG)->Prop
 |[]=>True
 |y::l=>tZ aS y.1 y.2/\Cy aS l
theorem Ig:∀{l:List (Nat×oG)},Cy aS l->∀f e,B_ l f=some e->tZ aS f e
 |[],_,f,e,h=>by cases h
 |y::l,aZ,f,e,h=>by
  have lV:tZ aS y.1 y.2/\Cy aS l:=aZ;have h:(match Nat.beq y.1 f with
   |true=>some y.2
   |false=>B_ l f)=some e:=h
  split at h
  ·rename_i ah;cases h;rw[<-gB ah];exact lV.1
  ·exact Ig lV.2 f e h
end
def put {α:Type}(t:T α)(k:Nat)(a:α):T α:=t.put k (some a)
def RX {α:Type}(l:List α):Nat->T α->T α:=List.rec (motive:=λ_=>Nat->T α->T α) (λ_ t=>t) (λx _ cj i t=>cj (Nat.succ i) (t.put i (some x))) l
def pg:Nat:=100000
inductive u7
  |c (k:Nat) (p:a4) (o:bE)
  |s (k:Nat)
structure QP where
  iu:nz
  k:Nat
  ls:List LE
  cs:List u7
def CQ (k:Nat)(ls:List LE)(cs:List u7)(f:List u7->QP):QP:=match cs with
 |[]=>f []
 |.c j p o::r=>match Nat.beq j k with
  |true=>match f r with
   |⟨iu,cv,l,q⟩=>⟨.cut p o iu,cv,l,q⟩
  |false=>f cs
 |.s j::r=>match Nat.beq j k with
  |true=>⟨.one,k+1,ls,r⟩
  |false=>f cs
def AT:Code->Nat->List LE->List u7->QP
 |.seq a b,k,ls,cs=>CQ k ls cs λcs=>match AT a (k+1) ls cs with
  |⟨x,cv,l,q⟩=>match AT b cv l q with
   |⟨y,cv,l,q⟩=>⟨.seq x y,cv,l,q⟩
 |.cond _ a b,k,ls,cs=>CQ k ls cs λcs=>match AT a (k+1) ls cs with
  |⟨x,cv,l,q⟩=>match AT b cv l q with
   |⟨y,cv,l,q⟩=>⟨.two x y,cv,l,q⟩
 |.block _ a,k,ls,cs=>CQ k ls cs λcs=>match AT a (k+1) ls cs with
  |⟨x,cv,l,q⟩=>⟨.sub x,cv,l,q⟩
 |.loop _,k,ls,cs=>CQ k ls cs λcs=>match ls with
  |e::r=>⟨.loop e,k+1,r,cs⟩
  |[]=>⟨.one,k+1,[],cs⟩
 |_,k,ls,cs=>CQ k ls cs λcs=>⟨.one,k+1,ls,cs⟩
def y9:Code->List Code
 |.seq a b=>y9 a++y9 b
 |.cond _ a b=>y9 a++y9 b
 |.block _ a=>y9 a
 |.loop a=>a::y9 a
 |_=>[]
open bC (T)
set_option maxRecDepth 100000
abbrev bp:dh:=[.int .i64]
abbrev cl:dh:=[.str]
abbrev ig:dh:=[.int .i64,.str]
abbrev dR:dh:=[.str,.int .i64,.str,.int .i64]
abbrev fi:dh:=[.str,.str,.aR dR]
abbrev dE:dh:=[.str,.aR cl,.aR fi]
abbrev fZ:dh:=[.int .i64,.str,.aR dR]
abbrev ek:dh:=[.str,.aR fZ]
abbrev c_:dh:=[.str,.int .i64,.int .i64]
abbrev fV:dh:=[.str,.str,.aR bp]
abbrev ey:dh:=[.int .i64,.int .i64,.int .i64,.int .i64,.str,.str,.aR bp,.aR c_,.aR fV]
abbrev hU:dh:=[.str,.aR ig,.int .i64,.aR ey]
abbrev gX:dh:=[.aR dE,.aR ek,.aR hU]
abbrev gH:dh:=[.str,.int .i64,.str]
abbrev er:dh:=[.int .i64,.str,.int .i64,.str,.int .i64,.int .i64]
abbrev mW:dh:=[.str,.str,.int .i64]
abbrev cS:dh:=[.int .i64,.str,.str,.str,.str,.int .i64,.aR bp,.aR fV,.aR mW,.int .i64]
abbrev fq:dh:=[.str,.aR gH,.aR er,.aR cS]
abbrev hY:dh:=[.aR dE,.aR ek,.aR fq]
abbrev sY:dh:=[.int .i64,.int .i64,.int .i64]
abbrev jc:dh:=[.int .i64,.int .i64]
abbrev lL:dh:=[.str,.int .i64,.int .i64,.int .i64]
abbrev jS:dh:=[.int .i64,.str,.aR lL]
abbrev ie:dh:=[.aR jS,.aR cl,.aR bp]
abbrev fR:dh:=[.bool,.aR c_]
abbrev au:fp:=.leaf (.int .i64)
abbrev bR:fp:=.leaf (.bool)
abbrev a_:fp:=.leaf (.str)
abbrev uD:fp:=.leaf (.int .u64)
abbrev cC:fp:=.ptr 0 0
abbrev kD:List Bool:=[false,false,false,false,false,false,false,false,true,false]
abbrev lS:List Bool:=[false,false,false,false,false,false,false,true,false]
abbrev nJ:List Bool:=[false,false,false,false]
abbrev W (n:Int):bc .i64:=bc.w .i64 n
abbrev aB (t:dh):fp:=.leaf (.aR t)
abbrev aH (l:List (Nat×fp)):a4:=⟨l,[]⟩
abbrev jL (l:List (Nat×fp)):l6×a4:=(.normal,⟨l,[]⟩)
abbrev fP (l:List (Nat×fp)):l6×a4:=(.ret,⟨l,[]⟩)
abbrev mZ:List ec:=[.box [.ptr 1 0,aB dE,a_,aB gH,.tok er 4 [],.arr 5 cS kD,a_,aB ek,au,au,au],.box [aB bp,au],.gone,.gone,.bG er,.arr cS kD]
abbrev m0:List ec:=[.box [.ptr 1 0,aB dE,a_,aB gH,.tok er 2 [],.arr 3 cS kD,a_,aB ek,au,au,au],.box [aB bp,au],.bG er,.arr cS kD]
abbrev lP:List ec:=[.box [.tok [.int .u8] 2 []],.gone,.bG [.int .u8]]
abbrev lQ:List ec:=[.box [.tok [.int .u8] 1 []],.bG [.int .u8]]
abbrev qN:List ec:=[.box [a_,aB cl,aB fi,a_,.tok [.aR bp] 2 []],.gone,.bG [.aR bp]]
abbrev x5:List ec:=[.box [a_,aB gH,aB er,aB cS,aB fR,aB [.aR cl],aB [.aR bp],aB [.aR bp],.arr 1 ey lS],.arr ey lS]
abbrev z':List ec:=[.box [a_,aB gH,aB er,aB cS,aB fR,aB [.aR cl],aB [.aR bp],aB [.aR bp],.arr 2 ey lS],.gone,.arr ey lS]
abbrev ui:List ec:=[.box [a_,aB cl,aB fi,a_,.tok [.aR bp] 1 []],.bG [.aR bp]]
abbrev wG:List ec:=[.box [.ptr 1 0],.box [.tok [.int .u8] 3 []],.gone,.bG [.int .u8]]
abbrev wH:List ec:=[.box [.ptr 1 0],.box [.tok [.int .u8] 2 []],.bG [.int .u8]]
abbrev m1:List ec:=[.box [au,au,au]]
abbrev mK:List ec:=[.box [aB bp,au]]
abbrev r6:List ec:=[.arr [.bool] [false]]
abbrev IW:List ec:=[.box [.tok [.int .u8] 3 []],.gone,.box [cC],.bG [.int .u8]]
abbrev wE:List ec:=[.box [.ptr 1 0],.box [a_,bR]]
abbrev IX:List ec:=[.box [.tok [.int .u8] 1 []],.bG [.int .u8],.box [cC]]
abbrev Q9:List ec:=[.box [.dt,.dt,.dt],.box [au,au,au],.box [.dt,aB cl,aB bp]]
abbrev wF:List ec:=[.box [a_,bR],.box [cC]]
abbrev IY:List ec:=[.arr [.aR bp] [true],.arr [.aR bp] [true]]
abbrev Q_:List ec:=[.box [au,au,au,au,a_,a_,.dt,.dt,.dt]]
abbrev Ra:List ec:=[.box [au,au,au],.arr fR [false,false]]
abbrev IZ:List ec:=[.arr bp [false],.arr bp [false]]
abbrev Rb:List ec:=[.box [.dt,.dt,.dt],.box [au,au,au]]
abbrev z9:List ec:=[.arr [.aR cl] [true]]
abbrev z_:List ec:=[.arr [.aR bp] [true]]
abbrev I0:List ec:=[.arr [.bool] [false],.bG bp]
abbrev Rc:List ec:=[.box [au,au,au],.arr [.bool] [false]]
abbrev Rd:List ec:=[.arr [.bool] [false],.gone,.bG bp]
abbrev I1:List ec:=[.box [au,au,au],.gone]
abbrev Re:List ec:=[.box [a_,au,au,au]]
abbrev Rf:List ec:=[.box [au,a_,.dt]]
abbrev Rg:List ec:=[.gone,.bG jc]
abbrev Rh:List ec:=[.gone,.bG ey]
noncomputable def cw:T TypeInfo:=RX Tryz.prog.types.toList 0 .nil
noncomputable def aM6:T dh:=(put (put (put (put (put (put (put (put (put (put (put (put (put (put (put (put (put (put (put (put (put (put (put (put (put (put (put (put (put (put (put (put (put (put (put (put (put (put (put (put (put (put (put (put (put (put (put (put (put (put (put (put (put (put (put (put (put (put (put (put .nil 2 bp) 3 bp) 4 [.bool]) 5 [.int .u8]) 9 cl) 22 [.aR bp]) 23 [.aR dE]) 24 [.aR ek]) 25 [.aR hU]) 27 gX) 31 [.aR fq]) 33 hY) 44 [.aR [.int .u8]]) 56 [.aR ig]) 57 [.aR ey]) 59 hU) 63 [.aR [.int .u8]]) 65 [.aR cl]) 66 [.aR fi]) 68 dE) 71 [.aR fZ]) 73 ek) 81 [.str,.bool]) 94 [.str,.bool]) 99 sY) 105 [.aR er]) 106 [.aR cS]) 108 fq) 111 [.aR fR]) 112 [.aR [.aR bp]]) 117 [.str,.aR gH,.aR er,.aR cS,.aR fR,.aR [.aR cl],.aR [.aR bp],.aR [.aR bp],.aR ey]) 120 ig) 122 gH) 131 [.aR fV]) 132 [.aR mW]) 134 cS) 137 fV) 138 [.aR c_]) 139 [.aR fV]) 141 ey) 146 [.aR dR]) 148 fi) 151 dR) 156 fZ) 183 [.aR jS]) 185 ie) 190 [.aR c_]) 192 fR) 194 jc) 196 c_) 203 mW) 205 c_) 207 [.aR bp,.int .i64]) 223 fV) 263 [.str,.aR cl,.aR fi,.str,.aR [.aR bp]]) 272 er) 286 [.aR lL]) 288 jS) 292 lL) 370 jc)
noncomputable def Jn:T (List TypeDesc):=(put (put (put (put .nil 120 [.int .i64,.string]) 151 [.string,.int .i64,.string,.int .i64]) 205 [.string,.int .i64,.int .i64]) 370 [.int .i64,.int .i64])
noncomputable def qh (k:Nat):Func:=Tryz.prog.funcs[k]?.getD default
noncomputable def pE (k:Nat):Code:=(qh k).body.getD .skip
theorem ZF {α:Type}:∀(l:List α)(i:Nat)(t:T α)(k:Nat),(RX l i t).get k=if i<=k/\k-i<l.length then l[k-i]? else t.get k
 |[],i,t,k=>by
  show t.get k=_;rw[if_neg];rintro⟨_,h⟩;exact absurd h (Nat.not_lt_zero _)
 |x::l,i,t,k=>by
  show(RX l (Nat.succ i) (t.put i (some x))).get k=_;rw[ZF l,bC.T.m3];by_cases aa:Nat.succ i<=k/\k-Nat.succ i<l.length
  ·have e:k-i=(k-Nat.succ i)+1:=ab;have af:i<=k/\k-i<(x::l).length:=⟨ab,by rw[e,gS];omega⟩;rw[if_pos aa,if_pos af,e,List.getElem?_cons_succ]
  ·rw[if_neg aa];by_cases ax:k=i
   ·subst ax;rw[if_pos rfl,if_pos ⟨Nat.le_refl _,by simp⟩];simp
   ·rw[if_neg ax,if_neg];rintro⟨a8,cy⟩;rw[gS] at cy;exact aa ⟨ab,ab⟩
theorem Xo:bC.fx Tryz.prog cw:=⟨λt i h=>by
 unfold cw at h;rw[ZF] at h;split at h
 ·rename_i aa;rw[Nat.sub_zero,Array.getElem?_toList] at h;have bn:t<Tryz.prog.types.size:=(n7.1 h).1;show(if t<Tryz.prog.types.size then Tryz.prog.types[t]? else _)=some i;rw[if_pos bn];exact h
 ·rw[bC.T.get_nil] at h;cases h⟩
theorem mixed:Tryz.prog.follows .mixedOrders=true:=by kernel_rfl
theorem ZE:sR Tryz.prog 120 2 [.int .i64,.string]:=RY (k:=0) Tryz.underlying120 (by kernel_rfl) (.leaf bk rfl (by kernel_rfl) (.leaf bk rfl (by kernel_rfl) (.nil _)))
theorem aop:∃k,k<=9000/\sR Tryz.prog 120 k [.int .i64,.string]:=⟨_,bk,ZE⟩
theorem arM:t_ Tryz.prog 120 (.flat [.int .i64,.string]):=⟨aop,by kernel_rfl⟩
theorem aou:sR Tryz.prog 151 4 [.string,.int .i64,.string,.int .i64]:=RY (k:=2) Tryz.underlying151 (by kernel_rfl) (.leaf bk rfl (by kernel_rfl) (.row (mo:=[.int .i64,.string]) (fs':=(Tryz.prog.underlying 120).elim #[] λ|.struct fs=>fs|_=>#[]) bk rfl (by kernel_rfl) (by kernel_rfl) ZE (.leaf bk rfl (by kernel_rfl) (.nil _))))
theorem aoq:∃k,k<=9000/\sR Tryz.prog 151 k [.string,.int .i64,.string,.int .i64]:=⟨_,bk,aou⟩
theorem arN:t_ Tryz.prog 151 (.flat [.string,.int .i64,.string,.int .i64]):=⟨aoq,by kernel_rfl⟩
theorem aov:sR Tryz.prog 205 2 [.string,.int .i64,.int .i64]:=RY (k:=0) Tryz.underlying205 (by kernel_rfl) (.leaf bk rfl (by kernel_rfl) (.leaf bk rfl (by kernel_rfl) (.leaf bk rfl (by kernel_rfl) (.nil _))))
theorem aor:∃k,k<=9000/\sR Tryz.prog 205 k [.string,.int .i64,.int .i64]:=⟨_,bk,aov⟩
theorem arO:t_ Tryz.prog 205 (.flat [.string,.int .i64,.int .i64]):=⟨aor,by kernel_rfl⟩
theorem aos:∃k,k<=9000/\sR Tryz.prog 370 k [.int .i64,.int .i64]:=⟨_,bk,aoD (k:=2) (e:=3) (dd:=.int .i64) (i:=(Tryz.prog.info? 3).getD default) (by kernel_rfl) (by kernel_rfl) (by kernel_rfl) (by kernel_rfl)⟩
theorem arP:t_ Tryz.prog 370 (.flat [.int .i64,.int .i64]):=⟨aos,by kernel_rfl⟩
theorem arQ (t:Nat)(ds:List TypeDesc)(h:Jn.get t=some ds):t_ Tryz.prog t (.flat ds):=by
 unfold Jn put at h;rw[bC.T.m3] at h;split at h
 ·rename_i he;subst he;cases h;exact arP
 rw[bC.T.m3] at h;split at h
 ·rename_i he;subst he;cases h;exact arO
 rw[bC.T.m3] at h;split at h
 ·rename_i he;subst he;cases h;exact arN
 rw[bC.T.m3] at h;split at h
 ·rename_i he;subst he;cases h;exact arM
 rw[bC.T.get_nil] at h;cases h
theorem IJ (E:Env)(aa:E.cw=cw)(af:E.dC=Jn):tT Tryz.prog E:=λo=>am8 (by rw[aa];exact Xo) (by rw[af];exact arQ) o
noncomputable def tW (jN:T wo):Env:=⟨cw,Jn,aM6,jN⟩
noncomputable def o5 (k i:Nat):Code:=((y9 (pE k))[i]?).getD .skip
def bZ (k i:Nat){dD:a4}{outs:bE}(h:U dD->Option (U dD⊕bq outs)):Prop:=zY Tryz.prog (qh k).ntmps (.loop (o5 k i)) (pf (o5 k i)) dD outs (a3 h)
abbrev bw (k:Nat){dD out:a4}(g:U dD->Option (U out)):Prop:=tZ Tryz.prog k ⟨dD,out,g⟩
structure u_ (k:Nat) where
  i:Nat
  e:LE
  ok:zY Tryz.prog (qh k).ntmps (.loop (o5 k i)) (pf (o5 k i)) e.dD e.outs e.g
structure Yj where
  k:Nat
  e:oG
  ok:tZ Tryz.prog k e
noncomputable def b8 {k i:Nat}{dD:a4}{outs:bE}{h:U dD->Option (U dD⊕bq outs)}(l:bZ k i h):u_ k:=⟨i,⟨dD,outs,a3 h⟩,l⟩
noncomputable def aI {k:Nat}{dD out:a4}{g:U dD->Option (U out)}(h:bw k g):Yj:=⟨k,⟨dD,out,g⟩,h⟩
structure dn where
  jN:T wo
  aMX:List Yj
noncomputable def fj:dn:=⟨.nil,[]⟩
noncomputable def dn.nU (c:dn):List (Nat×oG):=c.aMX.map λy=>(y.k,y.e)
theorem dn.ok (c:dn):Cy Tryz.prog c.nU:=by
 obtain⟨q,l⟩:=c;show Cy Tryz.prog (l.map λy=>(y.k,y.e));induction l with
 |nil=>exact trivial
 |cons y l cj=>exact⟨y.ok,cj⟩
noncomputable def ar0 {k:Nat}(l:List (u_ k)):List LE:=l.map (·.e)
noncomputable def DZ {k:Nat}(l:List (u_ k)):List Cs:=l.map λy=>⟨y.e,o5 k y.i⟩
theorem Kn {k:Nat}(l:List (u_ k)):tU Tryz.prog (qh k).ntmps (DZ l):=by
 induction l with
 |nil=>exact trivial
 |cons y l cj=>exact⟨y.ok,cj⟩
noncomputable abbrev r4 {k:Nat}(c:Code)(ls:List (u_ k))(cs:List u7):nz:=(AT c 0 (ar0 ls) cs).iu
section
variable{k i:Nat}{dD:a4}
theorem b9 {outs:bE}{h:U dD->Option (U dD⊕bq outs)}(c:dn)(ls:List (u_ k))(cs:List u7)(he:W7 (tW c.jN) (CL (B_ c.nU)) (qh k).ntmps (r4 (o5 k i) ls cs) (o5 k i) dD outs=h:=by kernel_rfl)(aO:p_ (tW c.jN) (r4 (o5 k i) ls cs) (o5 k i)=true:=by kernel_rfl)(aZ:r3 (r4 (o5 k i) ls cs) (o5 k i)=DZ ls:=by kernel_rfl):bZ k i h:=
 ab_ mixed (IJ _ rfl rfl) (I3 (Ig c.ok)) (IK aO aZ (Kn ls)) (congrFun he)
theorem ab' {ρ:Type}{outs:bE}{h:ρ->U dD->Option (U dD⊕bq outs)}(c:ρ->dn)(ls:ρ->List (u_ k))(cs:List u7)(he:(λr=>W7 (tW (c r).jN) (CL (B_ (c r).nU)) (qh k).ntmps (r4 (o5 k i) (ls r) cs) (o5 k i) dD outs)=h:=by kernel_rfl)(aO:(λr=>p_ (tW (c r).jN) (r4 (o5 k i) (ls r) cs) (o5 k i))=(λ_=>true):=by kernel_rfl)(aZ:(λr=>r3 (r4 (o5 k i) (ls r) cs) (o5 k i))=(λr=>DZ (ls r)):=by kernel_rfl)(r:ρ):bZ k i (h r):=
 ab_ mixed (IJ _ rfl rfl) (I3 (Ig (c r).ok)) (IK (congrFun aO r) (congrFun aZ r) (Kn (ls r))) (congrFun (congrFun he r))
variable{out:a4}
theorem bD {g:U dD->Option (U out)}(c:dn)(ls:List (u_ k))(cs:List u7)(he:RZ (tW c.jN) (CL (B_ c.nU)) (qh k) (pE k) (r4 (pE k) ls cs) dD out=g:=by kernel_rfl)(bB:Tryz.prog.funcs[k]?=some (qh k):=by kernel_rfl)(aA:((qh k).name== "runtime.NumGoroutine")=false:=by kernel_rfl) (ah:(qh k).body=some (pE k):=by kernel_rfl)
 (aO:p_ (tW c.jN) (r4 (pE k) ls cs) (pE k)=true:=by kernel_rfl)
 (aZ:r3 (r4 (pE k) ls cs) (pE k)=DZ ls:=by kernel_rfl):bw k g:=
 ZK (E:=tW c.jN) Xo mixed (IJ _ rfl rfl) (I3 (Ig c.ok)) bB aA ah (IK aO aZ (Kn ls)) (congrFun he)
theorem Al {ρ:Type}{g:ρ->U dD->Option (U out)}(c:ρ->dn)(ls:ρ->List (u_ k))(cs:List u7)(he:(λr=>RZ (tW (c r).jN) (CL (B_ (c r).nU)) (qh k) (pE k) (r4 (pE k) (ls r) cs) dD out)=g:=by kernel_rfl)(bB:Tryz.prog.funcs[k]?=some (qh k):=by kernel_rfl)(aA:((qh k).name== "runtime.NumGoroutine")=false:=by kernel_rfl) (ah:(qh k).body=some (pE k):=by kernel_rfl)
 (aO:(λr=>p_ (tW (c r).jN) (r4 (pE k) (ls r) cs) (pE k))=(λ_=>true):=by kernel_rfl)
 (aZ:(λr=>r3 (r4 (pE k) (ls r) cs) (pE k))=(λr=>DZ (ls r)):=by kernel_rfl) (r:ρ):bw k (g r):=
 ZK (E:=tW (c r).jN) Xo mixed (IJ _ rfl rfl) (I3 (Ig (c r).ok)) bB aA ah (IK (congrFun aO r) (congrFun aZ r) (Kn (ls r))) (congrFun (congrFun he r))
end
def aiA:=aH [(0,.leaf (.int .u8))]
def aDA:=aH [(0,bR)]
def Gq (x:U aiA):Option (U aDA):=cond (fN (bc.w .u8 97) x.1.1) (some (((fN x.1.1 (bc.w .u8 122)),()),())) (some ((false,()),()))
def ah':=aH [(0,a_)]
def aCJ:=aH [(0,bR)]
def Vc:=aH [(3,a_)]
def ah9:=[jL [(4,bR)]]
def Vb (x:U Vc):Option (bq ah9):=cond (cB x.1.1 (S ⟨#[97,110,100]⟩)) (some (((cB x.1.1 (S ⟨#[97,110,100]⟩)),()),())) (cond (cB x.1.1 (S ⟨#[97,115]⟩)) (some (((cB x.1.1 (S ⟨#[97,115]⟩)),()),())) (cond (cB x.1.1 (S ⟨#[97,116]⟩)) (some (((cB x.1.1 (S ⟨#[97,116]⟩)),()),())) (cond (cB x.1.1 (S ⟨#[98,111,111,108]⟩)) (some (((cB x.1.1 (S ⟨#[98,111,111,108]⟩)),()),())) (cond (cB x.1.1 (S ⟨#[99,97,108,108]⟩)) (some (((cB x.1.1 (S ⟨#[99,97,108,108]⟩)),()),())) (cond (cB x.1.1 (S ⟨#[99,104,97,110]⟩)) (some (((cB x.1.1 (S ⟨#[99,104,97,110]⟩)),()),())) (cond (cB x.1.1 (S ⟨#[100,114,111,112]⟩)) (some (((cB x.1.1 (S ⟨#[100,114,111,112]⟩)),()),())) (cond (cB x.1.1 (S ⟨#[101,108,115,101]⟩)) (some (((cB x.1.1 (S ⟨#[101,108,115,101]⟩)),()),())) (cond (cB x.1.1 (S ⟨#[101,109,112,116,121]⟩)) (some (((cB x.1.1 (S ⟨#[101,109,112,116,121]⟩)),()),())) (cond (cB x.1.1 (S ⟨#[101,110,100]⟩)) (some (((cB x.1.1 (S ⟨#[101,110,100]⟩)),()),())) (cond (cB x.1.1 (S ⟨#[102,97,105,108]⟩)) (some (((cB x.1.1 (S ⟨#[102,97,105,108]⟩)),()),())) (cond (cB x.1.1 (S ⟨#[102,97,108,115,101]⟩)) (some (((cB x.1.1 (S ⟨#[102,97,108,115,101]⟩)),()),())) (cond (cB x.1.1 (S ⟨#[102,114,111,109]⟩)) (some (((cB x.1.1 (S ⟨#[102,114,111,109]⟩)),()),())) (cond (cB x.1.1 (S ⟨#[104,101,97,114]⟩)) (some (((cB x.1.1 (S ⟨#[104,101,97,114]⟩)),()),())) (cond (cB x.1.1 (S ⟨#[105,102]⟩)) (some (((cB x.1.1 (S ⟨#[105,102]⟩)),()),())) (cond (cB x.1.1 (S ⟨#[105,110,116]⟩)) (some (((cB x.1.1 (S ⟨#[105,110,116]⟩)),()),())) (cond (cB x.1.1 (S ⟨#[106,111,105,110]⟩)) (some (((cB x.1.1 (S ⟨#[106,111,105,110]⟩)),()),())) (cond (cB x.1.1 (S ⟨#[108,101,110]⟩)) (some (((cB x.1.1 (S ⟨#[108,101,110]⟩)),()),())) (cond (cB x.1.1 (S ⟨#[108,101,116]⟩)) (some (((cB x.1.1 (S ⟨#[108,101,116]⟩)),()),())) (some (((cB x.1.1 (S ⟨#[108,105,115,116]⟩)),()),()))))))))))))))))))))
def Ve:=aH [(3,a_)]
def ah_:=[jL [(25,bR)]]
def Vd (x:U Ve):Option (bq ah_):=cond (cB x.1.1 (S ⟨#[108,111,99,97,108]⟩)) (some (((cB x.1.1 (S ⟨#[108,111,99,97,108]⟩)),()),())) (cond (cB x.1.1 (S ⟨#[108,111,115,116]⟩)) (some (((cB x.1.1 (S ⟨#[108,111,115,116]⟩)),()),())) (cond (cB x.1.1 (S ⟨#[109,111,100]⟩)) (some (((cB x.1.1 (S ⟨#[109,111,100]⟩)),()),())) (cond (cB x.1.1 (S ⟨#[110,111,116]⟩)) (some (((cB x.1.1 (S ⟨#[110,111,116]⟩)),()),())) (cond (cB x.1.1 (S ⟨#[111,112,101,110]⟩)) (some (((cB x.1.1 (S ⟨#[111,112,101,110]⟩)),()),())) (cond (cB x.1.1 (S ⟨#[111,114]⟩)) (some (((cB x.1.1 (S ⟨#[111,114]⟩)),()),())) (cond (cB x.1.1 (S ⟨#[112,114,105,110,116]⟩)) (some (((cB x.1.1 (S ⟨#[112,114,105,110,116]⟩)),()),())) (cond (cB x.1.1 (S ⟨#[112,114,111,99]⟩)) (some (((cB x.1.1 (S ⟨#[112,114,111,99]⟩)),()),())) (cond (cB x.1.1 (S ⟨#[112,114,111,116,111,99,111,108]⟩)) (some (((cB x.1.1 (S ⟨#[112,114,111,116,111,99,111,108]⟩)),()),())) (cond (cB x.1.1 (S ⟨#[112,117,115,104]⟩)) (some (((cB x.1.1 (S ⟨#[112,117,115,104]⟩)),()),())) (cond (cB x.1.1 (S ⟨#[114,111,108,101,115]⟩)) (some (((cB x.1.1 (S ⟨#[114,111,108,101,115]⟩)),()),())) (cond (cB x.1.1 (S ⟨#[115,97,121]⟩)) (some (((cB x.1.1 (S ⟨#[115,97,121]⟩)),()),())) (cond (cB x.1.1 (S ⟨#[115,112,97,119,110]⟩)) (some (((cB x.1.1 (S ⟨#[115,112,97,119,110]⟩)),()),())) (cond (cB x.1.1 (S ⟨#[115,116,111,112]⟩)) (some (((cB x.1.1 (S ⟨#[115,116,111,112]⟩)),()),())) (cond (cB x.1.1 (S ⟨#[116,101,120,116]⟩)) (some (((cB x.1.1 (S ⟨#[116,101,120,116]⟩)),()),())) (cond (cB x.1.1 (S ⟨#[116,111]⟩)) (some (((cB x.1.1 (S ⟨#[116,111]⟩)),()),())) (cond (cB x.1.1 (S ⟨#[116,114,117,101]⟩)) (some (((cB x.1.1 (S ⟨#[116,114,117,101]⟩)),()),())) (cond (cB x.1.1 (S ⟨#[117,110,105,116]⟩)) (some (((cB x.1.1 (S ⟨#[117,110,105,116]⟩)),()),())) (some (((cB x.1.1 (S ⟨#[119,105,116,104]⟩)),()),())))))))))))))))))))
def Nu (x:U ah'):Option (U aCJ):=(Vb ((x.1.1,()),())).bind λaz=>cond (az.1.1) (some ((true,()),())) ((Vd ((x.1.1,()),())).bind λaF=>cond (aF.1.1) (some ((true,()),())) (some ((false,()),())))
def aix:=aH [(0,.leaf (.int .u8))]
def aDn:=aH [(0,bR)]
def NG (x:U aix):Option (U aDn):=cond (fN (bc.w .u8 48) x.1.1) (some (((fN x.1.1 (bc.w .u8 57)),()),())) (some ((false,()),()))
def aib:=aH [(0,a_)]
def aCR:=aH [(0,bR)]
def Gg:=aH [(0,a_),(3,au)]
def aCP:bE:=[((.exit 0),aH []),fP [(2,bR)]]
def Nw (x:U Gg):Option (U Gg⊕bq aCP):=cond (bh x.1.2.1 (mO x.1.1)) ((uC x.1.1 (x.1.2.1).1).bind λv4=>(Gq ((v4,()),())).bind λa5=>cond (!a5.1.1) ((uC x.1.1 (x.1.2.1).1).bind λv6=>(NG ((v6,()),())).bind λbL=>cond (!bL.1.1) (some (.inr (.inr ((false,()),())))) (some (.inl ((x.1.1,(bj x.1.2.1 (W 1)),()),())))) (some (.inl ((x.1.1,(bj x.1.2.1 (W 1)),()),())))) (some (.inr (.inl ((),()))))
def k6 (x:U aib):Option (U aCR):=cond (bh (mO x.1.1) (W 1)) (some ((false,()),())) (cond (bh (W 12) (mO x.1.1)) (some ((false,()),())) ((uC x.1.1 ((W 0)).1).bind λv1=>(Gq ((v1,()),())).bind λaF=>cond (!aF.1.1) (some ((false,()),())) ((Nu ((x.1.1,()),())).bind λaT=>cond (aT.1.1) (some ((false,()),())) ((a3 Nw ((x.1.1,(W 1),()),())).bind λcu=>Sum.elim (λbU=>some ((true,()),())) (λcd=>some ((cd.1.1,()),())) cu))))
def Vf:=aH [(0,aB cl),(1,a_)]
def aCZ:=aH [(0,au)]
def Gj:=aH [(0,aB cl),(1,a_),(5,au)]
def aCX:bE:=[((.exit 0),aH []),fP [(4,au)]]
def Bo (x:U Gj):Option (U Gj⊕bq aCX):=cond (bh x.1.2.2.1 (ba x.1.1)) ((aX x.1.1 (x.1.2.2.1).1).bind λaD=>cond (cB aD.1 x.1.2.1) (some (.inr (.inr ((x.1.2.2.1,()),())))) (some (.inl ((x.1.1,x.1.2.1,(bj x.1.2.2.1 (W 1)),()),())))) (some (.inr (.inl ((),()))))
def uU (x:U Vf):Option (U aCZ):=(a3 Bo ((x.1.1,x.1.2.1,(W 0),()),())).bind λaF=>Sum.elim (λaT=>some (((W (-1)),()),())) (λaY=>some ((aY.1.1,()),())) aF
def U':=aH [(0,aB cl),(1,a_)]
def aCF:=aH [(0,bR)]
def o_ (x:U U'):Option (U aCF):=(uU ((x.1.1,x.1.2.1,()),())).bind λaz=>some (((fN (W 0) az.1.1),()),())
def aid:=aH [(0,aB cl)]
def aCV:=aH [(0,bR)]
def Gi:=aH [(0,aB cl),(3,au)]
def aCT:bE:=[((.exit 0),aH []),fP [(2,bR)]]
def Nx (x:U Gi):Option (U Gi⊕bq aCT):=cond (bh x.1.2.1 (ba x.1.1)) ((nG x.1.1 0 (x.1.2.1).1).bind λv1=>(aX x.1.1 (x.1.2.1).1).bind λaQ=>(o_ ((v1,aQ.1,()),())).bind λaT=>cond (aT.1.1) (some (.inr (.inr ((false,()),())))) (some (.inl ((x.1.1,(bj x.1.2.1 (W 1)),()),())))) (some (.inr (.inl ((),()))))
def Gh (x:U aid):Option (U aCV):=(a3 Nx ((x.1.1,(W 0),()),())).bind λaY=>Sum.elim (λa5=>some ((true,()),())) (λbK=>some ((bK.1.1,()),())) aY
def aiK:=aH [(0,aB cl),(1,a_)]
def aDM:=aH [(0,aB cl)]
def Gt:=aH [(0,aB cl),(1,a_),(5,au)]
def aDK:bE:=[((.exit 0),aH [(5,au)])]
def NJ (x:U Gt):Option (U Gt⊕bq aDK):=cond (bh x.1.2.2.1 (ba x.1.1)) ((aX x.1.1 (x.1.2.2.1).1).bind λaD=>cond (ox aD.1 x.1.2.1) (some (.inl ((x.1.1,x.1.2.1,(bj x.1.2.2.1 (W 1)),()),()))) (some (.inr ((x.1.2.2.1,()),())))) (some (.inr ((x.1.2.2.1,()),())))
def Gs (x:U aiK):Option (U aDM):=(a3 NJ ((x.1.1,x.1.2.1,(W 0),()),())).bind λaF=>cond (bh aF.1.1 (ba x.1.1)) ((aX x.1.1 (aF.1.1).1).bind λbO=>cond (cB bO.1 x.1.2.1) (some ((x.1.1,()),())) ((nG x.1.1 0 (aF.1.1).1).bind λv4=>(c8 16 (L.nil:L (D [.str])) v4).bind λiD=>(c8 16 iD (cD [(x.1.2.1,())])).bind λmN=>(nG x.1.1 (aF.1.1).1 x.1.1.1.length).bind λdU=>(c8 16 mN dU).bind λj0=>some ((j0,()),()))) ((nG x.1.1 0 (aF.1.1).1).bind λe8=>(c8 16 (L.nil:L (D [.str])) e8).bind λnu=>(c8 16 nu (cD [(x.1.2.1,())])).bind λrJ=>(nG x.1.1 (aF.1.1).1 x.1.1.1.length).bind λeB=>(c8 16 rJ eB).bind λmz=>some ((mz,()),()))
def aij:=aH [(0,aB cl),(1,a_)]
def aC3:=aH [(0,aB cl)]
def Gl:=aH [(0,aB cl),(5,aB cl),(6,au)]
def aC1:bE:=[((.exit 0),aH [(5,aB cl)])]
def Nz (x:U Gl):Option (U Gl⊕bq aC1):=cond (bh x.1.2.2.1 (ba x.1.1)) ((aX x.1.1 (x.1.2.2.1).1).bind λaD=>(Gs ((x.1.2.1,aD.1,()),())).bind λaF=>some (.inl ((x.1.1,aF.1.1,(bj x.1.2.2.1 (W 1)),()),()))) (some (.inr ((x.1.2.1,()),())))
def v9 (x:U aij):Option (U aC3):=(a3 Nz ((x.1.1,(cD [(x.1.2.1,())]),(W 0),()),())).bind λaT=>some ((aT.1.1,()),())
def ah5:=aH [(0,au)]
def aCE:=aH [(0,a_)]
def U_:=aH [(0,au),(3,uD)]
def ah4:=[jL [(3,uD)]]
def U9 (x:U U_):Option (bq ah4):=cond (bh x.1.1 (W 0)) (some (((uA x.1.2.1),()),())) (some ((x.1.2.1,()),()))
def Gf:=aH [(3,uD),(4,aB [.int .u8])]
def aCC:bE:=[((.exit 0),aH [(4,aB [.int .u8])])]
def Nt (x:U Gf):Option (U Gf⊕bq aCC):=cond (bh (bc.w .u64 0) x.1.1) ((lk x.1.1 (bc.w .u64 10)).bind λv2=>(c8 1 (cD [((eN .u8 (bj (bc.w .u64 48) v2)),())]) x.1.2.1).bind λbT=>(vK x.1.1 (bc.w .u64 10)).bind λv4=>some (.inl ((v4,bT,()),()))) (cond (a9 (ba x.1.2.1) (W 0)) ((lk x.1.1 (bc.w .u64 10)).bind λcV=>(c8 1 (cD [((eN .u8 (bj (bc.w .u64 48) cV)),())]) x.1.2.1).bind λmN=>(vK x.1.1 (bc.w .u64 10)).bind λdU=>some (.inl ((dU,mN,()),()))) (some (.inr ((x.1.2.1,()),()))))
def Ge (x:U ah5):Option (U aCE):=(U9 ((x.1.1,(eN .u64 x.1.1),()),())).bind λaz=>(a3 Nt ((az.1.1,L.nil,()),())).bind λcu=>cond (bh x.1.1 (W 0)) ((fF (S ⟨#[45]⟩) (py cu.1.1)).bind λe8=>some ((e8,()),())) (some (((py cu.1.1),()),()))
def aiw:=aH [(0,au)]
def aDl:=aH [(0,au)]
def Bq (x:U aiw):Option (U aDl):=cond (bh x.1.1 (W 0)) (some (((W (-1)),()),())) (cond (bh (W 19) x.1.1) (some (((W (-1)),()),())) (cond (fN x.1.1 (W 5)) (some (((W 0),()),())) (cond (a9 x.1.1 (W 15)) (some (((W 1),()),())) (cond (a9 x.1.1 (W 16)) (some (((W 1),()),())) (some (((W 2),()),()))))))
def aiv:=aH [(0,.agg er)]
def aDj:=aH [(0,bR)]
def Vi:=aH [(1,.cH er 0),(3,au)]
def ais:=[jL [],fP [(2,bR)]]
def Vh (x:U Vi):Option (bq ais):=cond (bh x.1.2.1 (W 0)) (some (.inr ((false,()),()))) (cond (bh x.1.2.1 (W 2)) (cond (!a9 x.1.1.2.2.2.2.2.1 (W (-1))) (some (.inr ((false,()),()))) (cond (bh x.1.2.1 (W 1)) (cond (!a9 x.1.1.2.2.2.2.1 (W (-1))) (some (.inr ((false,()),()))) (some (.inl ((),())))) (some (.inl ((),()))))) (cond (bh x.1.2.1 (W 1)) (cond (!a9 x.1.1.2.2.2.2.1 (W (-1))) (some (.inr ((false,()),()))) (some (.inl ((),())))) (some (.inl ((),())))))
def Vk:=aH [(1,.cH er 0)]
def ait:=[jL [(4,bR)]]
def Vj (x:U Vk):Option (bq ait):=cond (a9 x.1.1.1 (W 0)) ((k6 ((x.1.1.2.1,()),())).bind λa5=>cond (a5.1.1) (some ((true,()),())) (cond (!a9 x.1.1.1 (W 0)) (some (((cB x.1.1.2.1 (S ⟨#[]⟩)),()),())) (some ((false,()),())))) (cond (!a9 x.1.1.1 (W 0)) (some (((cB x.1.1.2.1 (S ⟨#[]⟩)),()),())) (some ((false,()),())))
def Vm:=aH [(1,.cH er 0)]
def aiu:=[jL [(5,bR)]]
def Vl (x:U Vm):Option (bq aiu):=cond (a9 x.1.1.2.2.1 (W 0)) (some ((true,()),())) (cond (a9 x.1.1.1 (W 1)) (some ((true,()),())) (cond (a9 x.1.1.1 (W 2)) (some (((a9 x.1.1.2.2.1 (W 1)),()),())) (some ((false,()),()))))
def NF (x:U aiv):Option (U aDj):=(Bq ((x.1.1.1,()),())).bind λaz=>(Vh ((x.1.1,az.1.1,()),())).bind λaF=>Sum.elim (λaT=>(Vj ((x.1.1,()),())).bind λbK=>(Vl ((x.1.1,()),())).bind λbL=>cond (cB x.1.1.2.2.2.1 (S ⟨#[]⟩)) (cond (bK.1.1) (cond (bL.1.1) (some ((true,()),())) (some ((false,()),()))) (some ((false,()),()))) (cond (a9 x.1.1.1 (W 3)) (cond (bK.1.1) (cond (bL.1.1) (some (((fN (mO x.1.1.2.2.2.1) (W 24)),()),())) (some ((false,()),()))) (some ((false,()),()))) (cond (bK.1.1) (cond (bL.1.1) (some ((false,()),())) (some ((false,()),()))) (some ((false,()),()))))) (λaY=>some ((aY.1.1,()),())) aF
def aiO:=aH [(0,aB er),(1,au)]
def aDU:=aH [(0,aB bp),(1,bR)]
def VD:=aH [(0,aB er),(7,au),(9,au),(10,au)]
def aiN:=[jL [(10,au)]]
def VC (x:U VD):Option (bq aiN):=cond (a9 x.1.2.2.1 (W 1)) ((aX x.1.1 (x.1.2.1).1).bind λea=>some ((ea.2.2.2.2.2.1,()),())) (some ((x.1.2.2.2.1,()),()))
def NN:a4:=⟨[(0,aB er),(6,.arr 0 bp [false]),(7,au),(8,au),(9,au)],[.arr bp [false]]⟩
def aDS:bE:=[((.exit 2),⟨[],[.arr bp [false]]⟩),(.ret,⟨[(4,.dt),(5,bR)],[.arr bp [false]]⟩)]
def NM (x:U NN):Option (U NN⊕bq aDS):=cond (bh x.1.2.2.2.2.1 x.1.2.2.2.1) ((aX x.1.1 (x.1.2.2.1).1).bind λeS=>(VC ((x.1.1,x.1.2.2.1,x.1.2.2.2.2.1,eS.2.2.2.2.1,()),())).bind λbY=>cond (bh bY.1.1 (W 0)) (some (.inr (.inr (((),false,()),(x.2.1,()))))) (cond (fN x.1.2.2.1 bY.1.1) (some (.inr (.inr (((),false,()),(x.2.1,()))))) (cond (decide (0<=(bY.1.1).1)&&decide ((bY.1.1).1<(x.2.1.1.length:Nat))) ((eO x.2.1 ((bY.1.1).1).toNat).bind λiC=>cond (bh (W 0) iC.1) (some (.inr (.inr (((),false,()),(x.2.1,()))))) (cond (decide (0<=(x.1.2.2.1).1)&&decide ((x.1.2.2.1).1<(x.2.1.1.length:Nat))) ((eO x.2.1 ((x.1.2.2.1).1).toNat).bind λkj=>cond (decide (0<=(bY.1.1).1)&&decide ((bY.1.1).1<(x.2.1.1.length:Nat))) ((eO x.2.1 ((bY.1.1).1).toNat).bind λgM=>some (.inl ((x.1.1,(),x.1.2.2.1,x.1.2.2.2.1,(bj x.1.2.2.2.2.1 (W 1)),()),((dO x.2.1 ((bY.1.1).1).toNat ((bj kj.1 (W 1)),())),())))) (none)) (none))) (none)))) (some (.inr (.inl ((),(x.2.1,())))))
def NL:a4:=⟨[(0,aB er),(6,.arr 0 bp [false]),(7,au)],[.arr bp [false]]⟩
def aDP:bE:=[((.exit 0),⟨[],[.arr bp [false]]⟩),(.ret,⟨[(4,.dt),(5,bR)],[.arr bp [false]]⟩)]
def NK (x:U NL):Option (U NL⊕bq aDP):=cond (fN (W 0) x.1.2.2.1) (cond (decide (0<=(x.1.2.2.1).1)&&decide ((x.1.2.2.1).1<(x.2.1.1.length:Nat))) ((eO x.2.1 ((x.1.2.2.1).1).toNat).bind λbO=>cond (a9 bO.1 (W 0)) (some (.inl ((x.1.1,(),(eF x.1.2.2.1 (W 1)),()),(x.2.1,())))) ((aX x.1.1 (x.1.2.2.1).1).bind λcP=>(NF ((cP,()),())).bind λa5=>cond (!a5.1.1) (some (.inr (.inr (((),false,()),(x.2.1,()))))) (cond (decide (0<=(x.1.2.2.1).1)&&decide ((x.1.2.2.1).1<(x.2.1.1.length:Nat))) ((eO x.2.1 ((x.1.2.2.1).1).toNat).bind λdb=>cond (bh (W 24) db.1) (some (.inr (.inr (((),false,()),(x.2.1,()))))) ((aX x.1.1 (x.1.2.2.1).1).bind λfk=>(Bq ((fk.1,()),())).bind λcu=>(a3 NM ((x.1.1,(),x.1.2.2.1,cu.1.1,(W 0),()),(x.2.1,()))).bind λdF=>Sum.elim (λeK=>some (.inl ((x.1.1,(),(eF x.1.2.2.1 (W 1)),()),(eK.2.1,())))) (λfg=>some (.inr (.inr (((),fg.1.2.1,()),(fg.2.1,()))))) dF)) (none)))) (none)) (some (.inr (.inl ((),(x.2.1,())))))
def Gu (x:U aiO):Option (U aDU):=cond (bh (W 160) (ba x.1.1)) (some ((L.nil,false,()),())) (cond (bh x.1.2.1 (W 0)) (some ((L.nil,false,()),())) (cond (fN (ba x.1.1) x.1.2.1) (some ((L.nil,false,()),())) ((q9 (α:=D [.int .i64]) 8 (ba x.1.1) ((W 0),())).bind λdk=>cond (decide (0<=(x.1.2.1).1)&&decide ((x.1.2.1).1<(dk.1.length:Nat))) ((eO dk ((x.1.2.1).1).toNat).bind λaQ=>(a3 NK ((x.1.1,(),x.1.2.1,()),((dO dk ((x.1.2.1).1).toNat ((W 1),())),()))).bind λe_=>Sum.elim (λfo=>some ((fo.2.1,true,()),())) (λfY=>some ((L.nil,fY.1.2.1,()),())) e_) (none))))
def aim:=aH [(0,aB er),(1,au)]
def aC_:=aH [(0,aB [.bool]),(1,bR)]
def Gn:a4:=⟨[(0,aB er),(6,aB bp),(8,.arr 0 [.bool] [false]),(9,au)],r6⟩
def aC8:bE:=[((.exit 0),⟨[],r6⟩)]
def NB (x:U Gn):Option (U Gn⊕bq aC8):=cond (bh x.1.2.2.2.1 (ba x.1.1)) ((aX x.1.2.1 (x.1.2.2.2.1).1).bind λbO=>cond (decide (0<=(x.1.2.2.2.1).1)&&decide ((x.1.2.2.2.1).1<(x.2.1.1.length:Nat))) ((eO x.2.1 ((x.1.2.2.2.1).1).toNat).bind λcP=>some (.inl ((x.1.1,x.1.2.1,(),(bj x.1.2.2.2.1 (W 1)),()),((dO x.2.1 ((x.1.2.2.2.1).1).toNat ((bh (W 0) bO.1),())),())))) (none)) (some (.inr ((),(x.2.1,()))))
def Gm (x:U aim):Option (U aC_):=(Gu ((x.1.1,x.1.2.1,()),())).bind λaz=>cond (!az.1.2.1) (some ((L.nil,false,()),())) ((q9 (α:=D [.bool]) 1 (ba x.1.1) (false,())).bind λdg=>(a3 NB ((x.1.1,az.1.1,(),(W 0),()),(dg,()))).bind λa5=>some ((a5.2.1,true,()),()))
def aiq:=aH [(0,aB er),(1,au)]
def aDd:=aH [(0,aB cl)]
def Gp:=aH [(0,aB er),(5,aB [.bool]),(6,bR),(7,aB cl),(8,au)]
def aDa:bE:=[((.exit 0),aH [(7,aB cl)])]
def ND (x:U Gp):Option (U Gp⊕bq aDa):=cond (x.1.2.2.1) (cond (bh x.1.2.2.2.2.1 (ba x.1.1)) ((aX x.1.2.1 (x.1.2.2.2.2.1).1).bind λaQ=>cond (aQ.1) ((aX x.1.1 (x.1.2.2.2.2.1).1).bind λbO=>cond (a9 bO.1 (W 0)) ((aX x.1.1 (x.1.2.2.2.2.1).1).bind λcP=>(Gs ((x.1.2.2.2.1,cP.2.1,()),())).bind λa5=>some (.inl ((x.1.1,x.1.2.1,x.1.2.2.1,a5.1.1,(bj x.1.2.2.2.2.1 (W 1)),()),()))) (some (.inl ((x.1.1,x.1.2.1,x.1.2.2.1,x.1.2.2.2.1,(bj x.1.2.2.2.2.1 (W 1)),()),())))) (some (.inl ((x.1.1,x.1.2.1,x.1.2.2.1,x.1.2.2.2.1,(bj x.1.2.2.2.2.1 (W 1)),()),())))) (some (.inr ((x.1.2.2.2.1,()),())))) (some (.inr ((x.1.2.2.2.1,()),())))
def NC (x:U aiq):Option (U aDd):=(Gm ((x.1.1,x.1.2.1,()),())).bind λaz=>(a3 ND ((x.1.1,az.1.1,az.1.2.1,L.nil,(W 0),()),())).bind λbK=>some ((bK.1.1,()),())
def ail:=aH [(0,aB er),(1,au)]
def aC5:=aH [(0,bR)]
def NA (x:U ail):Option (U aC5):=(Gu ((x.1.1,x.1.2.1,()),())).bind λaz=>some ((az.1.2.1,()),())
def aiR:=aH [(0,aB c_),(1,a_)]
def aDZ:=aH [(0,au),(1,au)]
def Gv:=aH [(0,aB c_),(1,a_),(6,au)]
def aDW:bE:=[((.exit 0),aH []),fP [(4,au),(5,au)]]
def NP (x:U Gv):Option (U Gv⊕bq aDW):=cond (bh x.1.2.2.1 (ba x.1.1)) ((aX x.1.1 (x.1.2.2.1).1).bind λaD=>cond (cB aD.1 x.1.2.1) ((aX x.1.1 (x.1.2.2.1).1).bind λaQ=>cond (bh aQ.2.1 (W 0)) (some (.inr (.inr (((W 0),(W 502),()),())))) ((aX x.1.1 (x.1.2.2.1).1).bind λbO=>cond (bh (W 5) bO.2.1) (some (.inr (.inr (((W 0),(W 502),()),())))) ((aX x.1.1 (x.1.2.2.1).1).bind λcP=>some (.inr (.inr ((cP.2.1,(W 0),()),())))))) (some (.inl ((x.1.1,x.1.2.1,(bj x.1.2.2.1 (W 1)),()),())))) (some (.inr (.inl ((),()))))
def NO (x:U aiR):Option (U aDZ):=(a3 NP ((x.1.1,x.1.2.1,(W 0),()),())).bind λa5=>Sum.elim (λbK=>some (((W 0),(W 501),()),())) (λbL=>some ((bL.1.1,bL.1.2.1,()),())) a5
def aiz:=aH [(0,.agg er),(1,aB c_)]
def aDx:=aH [(0,au),(1,au)]
def NI (x:U aiz):Option (U aDx):=cond (a9 x.1.1.1 (W 0)) ((NO ((x.1.2.1,x.1.1.2.1,()),())).bind λaz=>some ((az.1.1,az.1.2.1,()),())) (cond (a9 x.1.1.1 (W 1)) (some (((W 1),(W 0),()),())) (cond (a9 x.1.1.1 (W 2)) (some (((W 2),(W 0),()),())) (cond (a9 x.1.1.1 (W 3)) (some (((W 3),(W 0),()),())) (cond (a9 x.1.1.1 (W 4)) (some (((W 4),(W 0),()),())) (some (((W 0),(W 0),()),()))))))
def aiI:=aH [(0,au),(1,au),(2,au)]
def aDI:=aH [(0,au),(1,au)]
def Vr:=aH [(0,au),(1,au),(2,au)]
def aiC:=[jL [(8,bR)]]
def Vq (x:U Vr):Option (bq aiC):=cond (fN x.1.1 (W 10)) (cond (a9 x.1.2.1 (W 1)) (some (((a9 x.1.2.2.1 (W 1)),()),())) (some ((false,()),()))) (some ((false,()),()))
def Vt:=aH [(0,au),(1,au),(2,au)]
def aiD:=[jL [(19,bR)]]
def Vs (x:U Vt):Option (bq aiD):=cond (a9 x.1.1 (W 11)) (cond (a9 x.1.2.1 x.1.2.2.1) (cond (!a9 x.1.2.1 (W 5)) (some (((!a9 x.1.2.1 (W 5)),()),())) (cond (a9 x.1.1 (W 12)) (cond (a9 x.1.2.1 (W 1)) (some (((a9 x.1.2.2.1 (W 1)),()),())) (some ((false,()),()))) (some ((false,()),())))) (cond (a9 x.1.1 (W 12)) (cond (a9 x.1.2.1 (W 1)) (some (((a9 x.1.2.2.1 (W 1)),()),())) (some ((false,()),()))) (some ((false,()),())))) (cond (a9 x.1.1 (W 12)) (cond (a9 x.1.2.1 (W 1)) (some (((a9 x.1.2.2.1 (W 1)),()),())) (some ((false,()),()))) (some ((false,()),())))
def Vx:=aH [(0,au),(1,au),(2,au)]
def aiF:=[jL [(41,bR)]]
def Vw (x:U Vx):Option (bq aiF):=cond (a9 x.1.1 (W 13)) (cond (a9 x.1.2.1 (W 2)) (some (((a9 x.1.2.2.1 (W 2)),()),())) (some ((false,()),()))) (cond (a9 x.1.1 (W 14)) (cond (a9 x.1.2.1 (W 2)) (some (((a9 x.1.2.2.1 (W 2)),()),())) (some ((false,()),()))) (some ((false,()),())))
def Vv:=aH [(0,au),(1,au),(2,au)]
def aiE:=[jL [(41,bR)]]
def Vu (x:U Vv):Option (bq aiE):=(Vw ((x.1.1,x.1.2.1,x.1.2.2.1,()),())).bind λaT=>cond (aT.1.1) (some ((aT.1.1,()),())) (cond (a9 x.1.1 (W 15)) (some (((a9 x.1.2.1 (W 2)),()),())) (some ((false,()),())))
def Vz:=aH [(0,au),(1,au),(2,au)]
def aiG:=[jL [(62,bR)]]
def Vy (x:U Vz):Option (bq aiG):=cond (a9 x.1.1 (W 16)) (cond (a9 x.1.2.1 (W 3)) (some ((true,()),())) (cond (a9 x.1.2.1 (W 4)) (some (((a9 x.1.2.1 (W 4)),()),())) (cond (a9 x.1.1 (W 17)) (cond (a9 x.1.2.1 (W 4)) (some (((a9 x.1.2.2.1 (W 1)),()),())) (some ((false,()),()))) (some ((false,()),()))))) (cond (a9 x.1.1 (W 17)) (cond (a9 x.1.2.1 (W 4)) (some (((a9 x.1.2.2.1 (W 1)),()),())) (some ((false,()),()))) (some ((false,()),())))
def VB:=aH [(0,au),(1,au),(2,au)]
def aiH:=[jL [(83,bR)]]
def VA (x:U VB):Option (bq aiH):=cond (a9 x.1.1 (W 18)) (cond (a9 x.1.2.1 (W 4)) (some (((a9 x.1.2.2.1 (W 1)),()),())) (some ((false,()),()))) (some ((false,()),()))
def Gr (x:U aiI):Option (U aDI):=(Vq ((x.1.1,x.1.2.1,x.1.2.2.1,()),())).bind λaz=>cond (az.1.1) (some (((W 1),(W 0),()),())) ((Vs ((x.1.1,x.1.2.1,x.1.2.2.1,()),())).bind λaF=>cond (aF.1.1) (some (((W 2),(W 0),()),())) ((Vu ((x.1.1,x.1.2.1,x.1.2.2.1,()),())).bind λaY=>cond (aY.1.1) (some (((W 2),(W 0),()),())) ((Vy ((x.1.1,x.1.2.1,x.1.2.2.1,()),())).bind λa5=>cond (a5.1.1) (some (((W 1),(W 0),()),())) ((VA ((x.1.1,x.1.2.1,x.1.2.2.1,()),())).bind λbK=>cond (bK.1.1) (some (((W 4),(W 0),()),())) (cond (a9 x.1.1 (W 19)) (cond (a9 x.1.2.1 (W 3)) (cond (a9 x.1.2.2.1 (W 3)) (some (((W 3),(W 0),()),())) (some (((W 0),(W 502),()),()))) (some (((W 0),(W 502),()),()))) (some (((W 0),(W 502),()),())))))))
def uV:a4:=aH [(0,aB er),(1,au),(2,aB c_)]
def Bs:a4:=aH [(0,au),(1,au)]
def NH (rec:U uV->Option (U Bs))(x:U uV):Option (U Bs):=(aX x.1.1 (x.1.2.1).1).bind λaD=>(Bq ((aD.1,()),())).bind λaF=>cond (a9 aF.1.1 (W 0)) ((NI ((aD,x.1.2.2.1,()),())).bind λaT=>some ((aT.1.1,aT.1.2.1,()),())) ((rec ((x.1.1,aD.2.2.2.2.1,x.1.2.2.1,()),())).bind λaY=>cond (!a9 aY.1.2.1 (W 0)) (some (((W 0),aY.1.2.1,()),())) (cond (a9 aF.1.1 (W 2)) ((rec ((x.1.1,aD.2.2.2.2.2.1,x.1.2.2.1,()),())).bind λa5=>cond (!a9 a5.1.2.1 (W 0)) (some (((W 0),a5.1.2.1,()),())) ((Gr ((aD.1,aY.1.1,a5.1.1,()),())).bind λbK=>some ((bK.1.1,bK.1.2.1,()),()))) ((Gr ((aD.1,aY.1.1,(W 0),()),())).bind λbL=>some ((bL.1.1,bL.1.2.1,()),()))))
def Br:Nat->U uV->Option (U Bs)
 |0=>λ_=>none
 |n+1=>NH (Br n)
def Vp:U uV->Option (U Bs):=Br pg
def aia:=aH [(0,aB er),(1,au),(2,aB c_)]
def aCM:=aH [(0,au),(1,au)]
def Nv (x:U aia):Option (U aCM):=(NA ((x.1.1,x.1.2.1,()),())).bind λaz=>cond (!az.1.1) (some (((W 0),(W 500),()),())) ((Vp ((x.1.1,x.1.2.1,x.1.2.2.1,()),())).bind λaF=>some ((aF.1.1,aF.1.2.1,()),()))
theorem aDz:bw 195 Gq:=bD fj [] []
theorem aCI:bw 196 Nu:=bD fj [] [.c 7 Vc ah9,.c 89 Ve ah_]
theorem aDm:bw 197 NG:=bD fj [] []
noncomputable def aic:dn:=⟨.nil,[aI aDz,aI aCI,aI aDm]⟩
theorem aCO:bZ 159 0 Nw:=b9 aic [] []
theorem sG:bw 159 k6:=bD aic [b8 aCO] []
theorem aCW:bZ 104 0 Bo:=b9 fj [] []
theorem Gk:bw 104 uU:=bD fj [b8 aCW] []
theorem v7:bw 102 o_:=bD ⟨.nil,[aI Gk]⟩ [] []
noncomputable def aif:dn:=⟨.nil,[aI v7]⟩
theorem aCS:bZ 160 0 Nx:=b9 aif [] []
theorem aie:bw 160 Gh:=bD aif [b8 aCS] []
theorem aDJ:bZ 190 0 NJ:=b9 fj [] []
theorem aiL:bw 190 Gs:=bD fj [b8 aDJ] []
noncomputable def aik:dn:=⟨.nil,[aI aiL]⟩
theorem aC0:bZ 151 0 Nz:=b9 aik [] []
theorem Vg:bw 151 v9:=bD aik [b8 aC0] []
noncomputable def ah7:dn:=⟨(put .nil 22 .tok),[]⟩
theorem aCB:bZ 210 0 Nt:=b9 ah7 [] []
theorem ah6:bw 210 Ge:=bD ah7 [b8 aCB] [.c 5 U_ ah4]
theorem Vn:bw 258 Bq:=bD fj [] []
theorem aDi:bw 257 NF:=bD ⟨(put .nil 1 .bW),[aI sG,aI Vn]⟩ [] [.c 5 Vi ais,.c 13 Vk ait,.c 15 Vm aiu]
noncomputable def VE:dn:=⟨(put .nil 26 (.arr [false])),[aI aDi,aI Vn]⟩
theorem aDR:bZ 236 1 NM:=b9 VE [] [.c 11 VD aiN]
theorem aDO:bZ 236 0 NK:=b9 VE [b8 aDR] []
theorem aiP:bw 236 Gu:=bD VE [b8 aDO] []
noncomputable def aio:dn:=⟨(put .nil 20 (.arr [false])),[aI aiP]⟩
theorem aC7:bZ 189 0 NB:=b9 aio [] []
theorem ain:bw 189 Gm:=bD aio [b8 aC7] []
noncomputable def air:dn:=⟨.nil,[aI ain,aI aiL]⟩
theorem aC':bZ 150 0 ND:=b9 air [] []
theorem aDc:bw 150 NC:=bD air [b8 aC'] []
theorem aC4:bw 266 NA:=bD ⟨.nil,[aI aiP]⟩ [] []
theorem aDV:bZ 273 0 NP:=b9 fj [] []
theorem aDY:bw 273 NO:=bD fj [b8 aDV] []
theorem aDw:bw 270 NI:=bD ⟨(put .nil 2 .bW),[aI aDY]⟩ [] []
theorem aDH:bw 271 Gr:=bD fj [] [.c 5 Vr aiC,.c 11 Vt aiD,.c 21 Vv aiE,.c 22 Vx aiF,.c 31 Vz aiG,.c 41 VB aiH]
abbrev aiy:={g:U uV->Option (U Bs)//bw 267 g}
noncomputable def aDu (r:aiy):dn:=⟨(put .nil 8 .bW),[aI Vn,aI r.2,aI aDw,aI aDH]⟩
theorem aDp:∀r:aiy,bw 267 (NH r.1):=Al aDu (λr=>[]) []
theorem aDr (n:Nat):bw 267 (Br n):=by
 induction n with
 |zero=>exactλx y h=>by cases h
 |succ n cj=>exact aDp ⟨Br n,cj⟩
theorem aDt:bw 267 Vp:=aDr pg
theorem aCL:bw 263 Nv:=bD ⟨.nil,[aI aC4,aI aDt]⟩ [] []
end cx
end Go.Proofs.YtgmdfchkljaooaaGreat
