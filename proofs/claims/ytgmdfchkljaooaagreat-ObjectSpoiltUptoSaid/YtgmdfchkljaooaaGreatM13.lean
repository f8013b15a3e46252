/- The typed functions come to something (printed by gen/twokrun.py). -/
import Derived.Test.YtgmdfchkljaooaaGreatM07
import Derived.Test.YtgmdfchkljaooaaGreatM08
import Derived.Test.YtgmdfchkljaooaaGreatM12
noncomputable section
namespace Go.Proofs.YtgmdfchkljaooaaGreat
namespace cB
set_option linter.unusedVariables false
set_option linter.unusedSimpArgs false
set_option maxRecDepth 100000
theorem aaS:∀(n:Nat) (l:List Nat),l.Nodup->(∀x∈l,x<n)->l.length<=n
 |0,l,_,h=>by
  cases l with
  |nil=>simp
  |cons a l=>exact absurd (h a (by simp)) ab
 |n+1,l,bb,h=>by
  have aa:=aaS n (l.erase n) (bb.erase n) (λx aV=>by
   have:=(bb.mem_erase_iff).1 aV;have:=h x this.2
   omega)
  have ae:=List.length_erase (a:=n) (l:=l);split at ae<;>omega
def lp {α:Type} (f:α->Nat) (l:List α):Prop:=(l.map f).Nodup
section
variable{α:Type} {f:α->Nat} {l:List α}
theorem aK.mem {P:α->Prop} (h:aK P l) {e:α} (he:e∈l):P e:=by
 obtain⟨j,au⟩:=List.mem_iff_getElem?.1 he;exact h j e au
theorem lp.length {n:Nat} (h:lp f l) (a3:aK (λe=>f e<n) l):l.length<=n:=by
 have:=aaS n (l.map f) h (λx aV=>by
  obtain⟨e,he,rfl⟩:=List.mem_map.1 aV;exact a3.mem he)
 rwa [List.length_map] at this
theorem lp.add {a:α} (h:lp f l) (bW:aK (λe=>f e≠f a) l):lp f (l++[a]):=by
 unfold lp;rw[List.map_append];refine List.nodup_append.2 ⟨h,by simp,λx aV y bT=> ?_⟩;obtain⟨e,he,rfl⟩:=List.mem_map.1 aV;simp at bT;subst bT;exact bW.mem he
theorem lp.one (a:α):lp f [a]:=by simp[lp]
end
def yK {α:Type} (l:List α) (i:Int) (f:α->Nat):Nat:=((l[i.toNat]?).map f).getD 0
theorem GP {α:Type} {l:List α} {i:Int} {f:α->Nat} {e:α} (h:l[i.toNat]? =some e):yK l i f=f e:=by simp[yK,h]
def uz (n:Int) (a:D eb):Prop:=0<=a.2.2.2.1.1/\a.2.2.2.1.1<n
structure qm (l:D dt):Prop where
  t1:1<=l.2.1.1.length
  t2:l.2.1.1.length<=40
  eE:aK (λt:D gz=>t.2.2.1.1.length<=6/\aK (uz l.2.1.1.length) t.2.2.1.1) l.2.1.1
structure sm (l:D dt):Prop where
  t2:l.2.1.1.length<=40
  eE:aK (λt:D gz=>t.2.2.1.1.length<=6) l.2.1.1
theorem sr.ajC {l} (h:sr l):sm l:=⟨h.t2,h.eE.imp λe he=>he.1⟩
def tv (n:Int) (a:D k1):Prop:=0<=a.2.2.2.1.1/\a.2.2.2.1.1<n/\(a.2.1.1=5->0<=a.2.2.1.1/\a.2.2.1.1<n)
def tB (n:Int) (a:D jt):Prop:=a.2.2.1.1.length<=6/\aK (tv n) a.2.2.1.1
structure qO (b:D hG):Prop where
  n:b.1.1.length<=400
  rs:aK (λr:D [.int .i64]=>0<=r.1.1/\r.1.1<b.1.1.length) b.2.2.1.1
  Rp:aK (tB b.1.1.length) b.1.1
def wT (x:D jt) (s:ew):Prop:=∃(j:Nat) (e:D k1),x.2.2.1.1[j]? =some e/\e.1=s
def mP (n:Int) (p:D ir):Prop:=0<=p.1.1/\p.1.1<n/\0<=p.2.1.1/\p.2.1.1<n
def vj (p:D ir):Nat:=p.1.1.toNat*400+p.2.1.1.toNat
def u5 (p:D [.int .i64]):Nat:=p.1.1.toNat
theorem ajJ {p q less more:D jt} (h:(less=p/\more=q)\/(less=q/\more=p)) {s:ew} (a3:wT less s) (hm:wT more s):wT p s/\wT q s:=by
 rcases h with⟨rfl,rfl⟩|⟨rfl,rfl⟩;exact⟨a3,hm⟩;exact⟨hm,a3⟩
theorem adi {l:List (D ir)} {n:Int} (aA:n<=400) (h:lp vj l) (a3:aK (mP n) l):l.length<=160000:=h.length (a3.imp λe he=>by unfold mP at he;unfold vj;omega)
theorem aDu:∀x:U FG,((True)/\((0<=x.1.2.1.1)/\(x.1.2.1.1<=((x.1.1.2.1.1.length:Nat):Int))/\(ej (λt:D gz=>t.2.2.1.1.length<=6/\aK (uz x.1.1.2.1.1.length) t.2.2.1.1) x.1.1.2.1.1 x.1.2.1.1)))->aL (a_ MM x) (Sum.elim (λy=>aK (λt:D gz=>t.2.2.1.1.length<=6/\aK (uz x.1.1.2.1.1.length) t.2.2.1.1) x.1.1.2.1.1) (λy=>y.1.1=false)):=by
 rintro x ⟨aq,aj⟩;exact cJ (λz:U FG=>∃cZ,z=((x.1.1,cZ,()),())/\((0<=cZ.1)/\(cZ.1<=((x.1.1.2.1.1.length:Nat):Int))/\(ej (λt:D gz=>t.2.2.1.1.length<=6/\aK (uz x.1.1.2.1.1.length) t.2.2.1.1) x.1.1.2.1.1 cZ.1))) (λz:U FG=>(((x.1.1.2.1.1.length:Nat):Int)-z.1.2.1.1).toNat) (λz ax=>by
  obtain⟨cZ,rfl,aD⟩:=ax;unfold MM;dsimp only
  obtain⟨bo,cO,bD⟩:=aD;have o_:=L.b x.1.1.2.1;apply ah<;>intro aC<;>simp only[av] at aC;refine bk λaE cL=> ?_;apply ah<;>intro aT<;>simp only[av] at aT;apply ah<;>intro bJ<;>simp only[av] at bJ;exact ba (by(dsimp only[Sum.elim])<;>(exact bD.all ab));have amA:=L.b aE.2.2.1;apply ah<;>intro c7<;>simp only[av] at c7;exact ba (by(dsimp only[Sum.elim])<;>(exact bD.all ab));exact bG ⟨⟨_,rfl,(by(have aA:=dK cZ bo ab;refine⟨ab,ab, ?_⟩;rw[aA];refine bD.step bo cL ?_;(exact⟨ab,by rw[oW (l:=aE.2.2.1.1) ab];exact aK.nil⟩)))⟩,eQ⟩;apply ah<;>intro dM<;>simp only[av] at dM;apply ah<;>intro fH<;>simp only[av] at fH;refine af (lk _ aY) λaG cn=> ?_;dsimp only at cn;apply ah<;>intro gF<;>simp only[av] at gF;exact ba (by(dsimp only[Sum.elim])<;>(exact bD.all ab));refine af (TI _ aY) λa1 cq=> ?_;dsimp only at cq;apply ah<;>intro iy<;>simp only[av] at iy;exact ba (by(dsimp only[Sum.elim])<;>(exact bD.all ab));exact bG ⟨⟨_,rfl,(by(have aA:=dK cZ bo ab;refine⟨ab,ab, ?_⟩;rw[aA];refine bD.step bo cL ?_;exact⟨(cq (by assumption)).1.1,(cq (by assumption)).1.2.imp λe he=>he.2.2⟩))⟩,eQ⟩;exact ba (by(dsimp only[Sum.elim])<;>(exact bD.all ab));apply ah<;>intro kG<;>simp only[av] at kG;refine af (lk _ aY) λa2 c9=> ?_;dsimp only at c9;apply ah<;>intro m1<;>simp only[av] at m1;exact ba (by(dsimp only[Sum.elim])<;>(exact bD.all ab));refine af (TI _ aY) λbf cU=> ?_;dsimp only at cU;apply ah<;>intro ou<;>simp only[av] at ou;exact ba (by(dsimp only[Sum.elim])<;>(exact bD.all ab));exact bG ⟨⟨_,rfl,(by(have aA:=dK cZ bo ab;refine⟨ab,ab, ?_⟩;rw[aA];refine bD.step bo cL ?_;exact⟨(cU (by assumption)).1.1,(cU (by assumption)).1.2.imp λe he=>he.2.2⟩))⟩,eQ⟩;exact ba (by(dsimp only[Sum.elim])<;>(exact bD.all ab));exact ba (by(dsimp only[Sum.elim])<;>(exact bD.all ab))) x ⟨_,rfl,aj⟩
theorem TN:∀x:U agA,(True)->aL (AD x) (λy=>y.1.1=true->qm x.1.1):=by
 intro x aD;unfold AD;have o_:=L.b x.1.1.2.1;apply ah<;>intro aC<;>simp only[av] at aC;exact an (by(dsimp only)<;>(intro ay;exact Bool.noConfusion ay));apply ah<;>intro aT<;>simp only[av] at aT;exact an (by(dsimp only)<;>(intro ay;exact Bool.noConfusion ay));refine af (aDu _ (by(dsimp only)<;>(exact⟨aY,bp,db,by simp only[aI];exact ej.zero⟩))) λbO dB=> ?_;dsimp only at dB;refine dZ dB (λbU en=> ?_) (λcD eY=> ?_);exact an (by(dsimp only)<;>(intro ay;exact⟨ab,ab,en⟩));exact an (by(dsimp only)<;>(intro ay;(rw[eY] at ay;exact Bool.noConfusion ay)))
theorem uv:∀x:U agX,(True)->aL (rn x) (λy=>y.1.1.1=x.1.1):=by
 intro x aD;unfold rn;exact an rfl
theorem aEC:∀x:U FV,((x.1.2.2.1.1.length+x.1.1.1.length<=1000000)/\((0<=x.1.2.2.2.1.1)/\(x.1.2.2.2.1.1<=((x.1.1.1.length:Nat):Int))/\((x.1.2.2.1.1.length:Int)+x.1.2.2.2.1.1<=x.1.2.2.1.1.length+x.1.2.2.2.1.1)/\(ej lr x.1.1.1 x.1.2.2.2.1.1)))->aL (a_ M8 x) (Sum.elim (λy=>y.1.1.1.length+x.1.2.2.2.1.1<=x.1.2.2.1.1.length+x.1.1.1.length/\aK lr x.1.1.1) (λy=>y.2.1.1.1≠0)):=by
 rintro x ⟨aq,aj⟩;exact cJ (λz:U FV=>∃c5,∃v6,z=((x.1.1,(),c5,v6,()),(x.2.1,(),()))/\((0<=v6.1)/\(v6.1<=((x.1.1.1.length:Nat):Int))/\((c5.1.length:Int)+x.1.2.2.2.1.1<=x.1.2.2.1.1.length+v6.1)/\(ej lr x.1.1.1 v6.1))) (λz:U FV=>(((x.1.1.1.length:Nat):Int)-z.1.2.2.2.1.1).toNat) (λz ax=>by
  obtain⟨c5,v6,rfl,aD⟩:=ax;unfold M8;dsimp only
  obtain⟨bo,cO,bD,cz⟩:=aD;have jZ:=L.b x.1.1;apply ah<;>intro aC<;>simp only[av] at aC;refine bk λbL eT=> ?_;refine af (MW _ aY) λa2 c9=> ?_;dsimp only at c9;apply ah<;>intro aT<;>simp only[av] at aT;refine af (uv _ aY) λbf cU=> ?_;dsimp only at cU;exact ba (by(dsimp only[Sum.elim])<;>(rw[cU];simp only[aI];decide));refine bk λdh gl=> ?_;refine af (dv dA) λj1 qy=> ?_;exact bG ⟨⟨_,_,rfl,(by(have aA:=dK v6 bo ab;refine⟨ab,ab,by rw[qy.2];simp only[aI,b5]<;>omega, ?_⟩;rw[aA];exact cz.step bo eT (c9 aT)))⟩,eQ⟩;exact ba (by(dsimp only[Sum.elim])<;>(exact⟨ab,cz.all ab⟩))) x ⟨_,_,rfl,aj⟩
theorem aEF:∀x:U FW,((x.1.2.2.2.1.1.length+x.1.2.1.1.length<=1000000)/\((0<=x.1.2.2.2.2.1.1)/\(x.1.2.2.2.2.1.1<=((x.1.2.1.1.length:Nat):Int))/\((x.1.2.2.2.1.1.length:Int)+x.1.2.2.2.2.1.1<=x.1.2.2.2.1.1.length+x.1.2.2.2.2.1.1)/\(ej qm x.1.2.1.1 x.1.2.2.2.2.1.1)))->aL (a_ M9 x) (Sum.elim (λy=>y.1.1.1.length+x.1.2.2.2.2.1.1<=x.1.2.2.2.1.1.length+x.1.2.1.1.length/\aK qm x.1.2.1.1) (λy=>y.2.1.1.1≠0)):=by
 rintro x ⟨aq,aj⟩;exact cJ (λz:U FW=>∃c5,∃dN,z=((x.1.1,x.1.2.1,(),c5,dN,()),(x.2.1,(),()))/\((0<=dN.1)/\(dN.1<=((x.1.2.1.1.length:Nat):Int))/\((c5.1.length:Int)+x.1.2.2.2.2.1.1<=x.1.2.2.2.1.1.length+dN.1)/\(ej qm x.1.2.1.1 dN.1))) (λz:U FW=>(((x.1.2.1.1.length:Nat):Int)-z.1.2.2.2.2.1.1).toNat) (λz ax=>by
  obtain⟨c5,dN,rfl,aD⟩:=ax;unfold M9;dsimp only
  obtain⟨bo,cO,bD,cz⟩:=aD;have lR:=L.b x.1.2.1;apply ah<;>intro aC<;>simp only[av] at aC;refine bk λgk mB=> ?_;refine af (TN _ aY) λcS eV=> ?_;dsimp only at eV;apply ah<;>intro aT<;>simp only[av] at aT;refine af (uv _ aY) λdD gR=> ?_;dsimp only at gR;exact ba (by(dsimp only[Sum.elim])<;>(rw[gR];simp only[aI];decide));refine bk λj9 ov=> ?_;refine af (lk _ aY) λev ji=> ?_;dsimp only at ji;apply ah<;>intro bJ<;>simp only[av] at bJ;refine af (uv _ aY) λeN gm=> ?_;dsimp only at gm;exact ba (by(dsimp only[Sum.elim])<;>(rw[gm];simp only[aI];decide));refine bk λkp lC=> ?_;refine af (dv dA) λY4 amr=> ?_;exact bG ⟨⟨_,_,rfl,(by(have aA:=dK dN bo ab;refine⟨ab,ab,by rw[amr.2];simp only[aI,b5]<;>omega, ?_⟩;rw[aA];exact cz.step bo mB (eV aT)))⟩,eQ⟩;exact ba (by(dsimp only[Sum.elim])<;>(exact⟨ab,cz.all ab⟩))) x ⟨_,_,rfl,aj⟩
theorem aEI:∀x:U FX,((True)/\((0<=x.1.2.2.1.1)/\(x.1.2.2.1.1<=((x.1.2.1.1.length:Nat):Int))))->aL (a_ M_ x) (Sum.elim (λy=>True) (λy=>y.2.1.1.1≠0)):=by
 rintro x ⟨aq,aj⟩;exact cJ (λz:U FX=>∃dj,z=(((),x.1.2.1,dj,()),(x.2.1,()))/\((0<=dj.1)/\(dj.1<=((x.1.2.1.1.length:Nat):Int)))) (λz:U FX=>(((x.1.2.1.1.length:Nat):Int)-z.1.2.2.1.1).toNat) (λz ax=>by
  obtain⟨dj,rfl,aD⟩:=ax;unfold M_;dsimp only
  have lR:=L.b x.1.2.1;apply ah<;>intro aC<;>simp only[av] at aC;refine af (pT ab) λaiO aKd=> ?_;refine bk λmz q2=> ?_;refine af (vp _ aY) λmL q7=> ?_;dsimp only at q7;apply ah<;>intro aT;refine af (uv _ aY) λkA p5=> ?_;dsimp only at p5;exact ba (by(dsimp only[Sum.elim])<;>(rw[p5];simp only[aI];decide));exact bG ⟨⟨_,rfl,dA⟩,dR⟩;exact ba cw) x ⟨_,rfl,aj⟩
theorem aEL:∀x:U ag0,(True)->aL (M7 x) (λy=>y.1.1.1.1=0->x.1.1.1.length<=6/\x.1.2.1.1.length<=12/\aK lr x.1.1.1/\aK qm x.1.2.1.1):=by
 intro x aD;unfold M7;have jZ:=L.b x.1.1;apply ah<;>intro aC<;>simp only[av] at aC;refine af (uv _ aY) λaB cd=> ?_;dsimp only at cd;exact an (by(dsimp only)<;>(intro ay;(rw[cd] at ay;simp only[aI] at ay;omega)));have lR:=L.b x.1.2.1;apply ah<;>intro aT<;>simp only[av] at aT;refine af (uv _ aY) λaG cn=> ?_;dsimp only at cn;exact an (by(dsimp only)<;>(intro ay;(rw[cn] at ay;simp only[aI] at ay;omega)));refine af (aEC _ (by(dsimp only)<;>(exact⟨db,bp,db,ab,by simp only[aI];exact ej.zero⟩))) λcD eY=> ?_;dsimp only at eY;refine dZ eY (λbV dV=> ?_) (λcu eZ=> ?_);obtain⟨sX,an2⟩:=dV;simp only[aI,b5] at sX;refine af (aEF _ (by(dsimp only)<;>(exact⟨ab,bp,db,ab,by simp only[aI];exact ej.zero⟩))) λfI jP=> ?_;dsimp only at jP;refine dZ jP (λga kI=> ?_) (λjc q6=> ?_);obtain⟨an0,an1⟩:=kI;simp only[aI,b5] at an0;refine af (aEI _ (by(dsimp only)<;>(exact⟨aY,bp,db⟩))) λnZ pf=> ?_;dsimp only at pf;refine dZ pf (λAU aKh=> ?_) (λyN Iu=> ?_);exact an (by(dsimp only)<;>(intro ay;exact⟨ab,ab,an2,an1⟩));exact an (by(dsimp only)<;>(intro ay;exact absurd ay Iu));exact an (by(dsimp only)<;>(intro ay;exact absurd ay q6));exact an (by(dsimp only)<;>(intro ay;exact absurd ay eZ))
theorem aGo:∀x:U Gl,((aK lr x.1.1.1/\0<=x.1.2.2.1.1/\x.1.2.2.1.1<x.1.1.1.length/\x.1.2.1.1.length<=1000/\x.1.2.2.2.1.1=0)/\((0<=x.1.2.2.2.1.1)/\((x.1.2.1.1.length:Int)<=x.1.2.1.1.length+x.1.2.2.2.1.1/\x.1.2.2.2.1.1<=5)))->aL (a_ NG x) (λy=>y.1.1.1.length<=x.1.2.1.1.length+5):=by
 rintro x ⟨aq,aj⟩;exact cJ (λz:U Gl=>∃c5,∃dN,z=((x.1.1,c5,x.1.2.2.1,dN,()),((),()))/\((0<=dN.1)/\((c5.1.length:Int)<=x.1.2.1.1.length+dN.1/\dN.1<=5))) (λz:U Gl=>((yK x.1.1.1 x.1.2.2.1.1 (λe=>e.2.1.1.length):Nat)-z.1.2.2.2.1.1:Int).toNat) (λz ax=>by
  obtain⟨c5,dN,rfl,aD⟩:=ax;unfold NG;dsimp only
  obtain⟨cN,dq,eJ,iD,lu⟩:=aq;have ax:(S ⟨#[46]⟩).1.size=1:=rfl;refine bk λaE cL=> ?_;have anw:=GP (f:=(λe=>e.2.1.1.length)) cL;have dE:=(cN _ _ cL).fU;have amz:=L.b aE.2.1;apply ah<;>intro aC<;>simp only[av] at aC;refine bk λaX df=> ?_;have dc:=(cN _ _ df).p_;refine af (oh ab) λcZ zN=> ?_;refine bk λcM fA=> ?_;rw[cL] at fA;cases fA;refine bk λdX gj=> ?_;have oV:=((cN _ _ cL).rs _ _ gj).2;refine af (oh ab) λv6 zO=> ?_;refine af (dv dA) λj1 qy=> ?_;exact bG ⟨⟨_,_,rfl,dA⟩,dR⟩;exact ba gI) x ⟨_,_,rfl,aj⟩
theorem aGl:∀x:U Gk,((aK lr x.1.1.1/\x.1.1.1.length<=6)/\((0<=x.1.2.2.1.1)/\(x.1.2.2.1.1<=((x.1.1.1.length:Nat):Int))/\(x.1.2.1.1.length<=5*x.1.2.2.1.1)))->aL (a_ NF x) (λy=>y.1.1.1.length<=30):=by
 rintro x ⟨aq,aj⟩;exact cJ (λz:U Gk=>∃c5,∃v6,z=((x.1.1,c5,v6,()),((),()))/\((0<=v6.1)/\(v6.1<=((x.1.1.1.length:Nat):Int))/\(c5.1.length<=5*v6.1))) (λz:U Gk=>(((x.1.1.1.length:Nat):Int)-z.1.2.2.1.1).toNat) (λz ax=>by
  obtain⟨c5,v6,rfl,aD⟩:=ax;unfold NF;dsimp only
  have jZ:=L.b x.1.1;apply ah<;>intro aC<;>simp only[av] at aC;refine af (aGo _ (by(dsimp only)<;>(exact⟨⟨aq.1,ab,ab,ab,by simp only[aI]<;>rfl⟩,bp,db,bp⟩))) λcD eY=> ?_;dsimp only at eY;exact bG ⟨⟨_,_,rfl,(by(simp only[aI]<;>omega))⟩,eQ⟩;exact ba gI) x ⟨_,_,rfl,aj⟩
theorem aGr:∀x:U Gm,((x.1.2.1.1.length+x.1.1.1.length<=1000000)/\((0<=x.1.2.2.1.1)/\(x.1.2.2.1.1<=((x.1.1.1.length:Nat):Int))/\((x.1.2.1.1.length:Int)+x.1.2.2.1.1<=x.1.2.1.1.length+x.1.2.2.1.1)))->aL (a_ NH x) (λy=>y.1.1.1.length+x.1.2.2.1.1<=x.1.2.1.1.length+x.1.1.1.length):=by
 rintro x ⟨aq,aj⟩;exact cJ (λz:U Gm=>∃c5,∃dj,z=((x.1.1,c5,dj,()),((),()))/\((0<=dj.1)/\(dj.1<=((x.1.1.1.length:Nat):Int))/\((c5.1.length:Int)+x.1.2.2.1.1<=x.1.2.1.1.length+dj.1))) (λz:U Gm=>(((x.1.1.1.length:Nat):Int)-z.1.2.2.1.1).toNat) (λz ax=>by
  obtain⟨c5,dj,rfl,aD⟩:=ax;unfold NH;dsimp only
  have jZ:=L.b x.1.1;apply ah<;>intro aC<;>simp only[av] at aC;refine bk λee lB=> ?_;refine af (dv dA) λq_ B9=> ?_;exact bG ⟨⟨_,_,rfl,dA⟩,dR⟩;exact ba gI) x ⟨_,_,rfl,aj⟩
theorem aGu:∀x:U ahG,(x.1.1.1.length<=6/\x.1.2.1.1.length<=12/\aK lr x.1.1.1)->aL (ND x) (λy=>y.1.1.1.length<=42):=by
 intro x aD;unfold ND;refine af (aGl _ (by(dsimp only)<;>(exact⟨⟨aD.2.2,aD.1⟩,bp,db,bp⟩))) λbV dV=> ?_;dsimp only at dV;refine af (aGr _ dR) λcS eV=> ?_;dsimp only at eV;exact an dR
theorem aFx:∀x:U F7,((x.1.2.1.1.length+x.1.1.2.2.1.1.length<=1000000)/\((0<=x.1.2.2.1.1)/\(x.1.2.2.1.1<=((x.1.1.2.2.1.1.length:Nat):Int))/\((x.1.2.1.1.length:Int)+x.1.2.2.1.1<=x.1.2.1.1.length+x.1.2.2.1.1)))->aL (a_ Nq x) (λy=>y.1.1.1.length+x.1.2.2.1.1<=x.1.2.1.1.length+x.1.1.2.2.1.1.length):=by
 rintro x ⟨aq,aj⟩;exact cJ (λz:U F7=>∃cZ,∃v4,z=((x.1.1,cZ,v4,()),((),()))/\((0<=v4.1)/\(v4.1<=((x.1.1.2.2.1.1.length:Nat):Int))/\((cZ.1.length:Int)+x.1.2.2.1.1<=x.1.2.1.1.length+v4.1))) (λz:U F7=>(((x.1.1.2.2.1.1.length:Nat):Int)-z.1.2.2.1.1).toNat) (λz ax=>by
  obtain⟨cZ,v4,rfl,aD⟩:=ax;unfold Nq;dsimp only
  have qz:=L.b x.1.1.2.2.1;apply ah<;>intro aC<;>simp only[av] at aC;refine bk λaE cL=> ?_;refine af (dv dA) λeo nm=> ?_;exact bG ⟨⟨_,_,rfl,dA⟩,dR⟩;exact ba gI) x ⟨_,_,rfl,aj⟩
theorem aFA:∀x:U ahk,(x.1.1.2.2.1.1.length<=1000)->aL (Np x) (λy=>True):=by
 intro x aD;unfold Np;refine af (aFx _ dR) λa1 cq=> ?_;dsimp only at cq;exact an aY
theorem aGM:∀x:U Gt,((0<=x.1.2.2.1.1/\x.1.2.2.1.1<x.1.1.1.length)/\(0<=x.1.2.2.2.1.1))->aL (a_ NP x) (Sum.elim (λy=>True) (λy=>True)):=by
 rintro x ⟨aq,aj⟩;exact cJ (λz:U Gt=>∃v6,z=((x.1.1,x.1.2.1,x.1.2.2.1,v6,()),())/\(0<=v6.1)) (λz:U Gt=>((yK x.1.1.1 x.1.2.2.1.1 (λe=>e.1.1.length):Nat)-z.1.2.2.2.1.1:Int).toNat) (λz ax=>by
  obtain⟨v6,rfl,aD⟩:=ax;unfold NP;dsimp only
  refine bk λaE cL=> ?_;have anw:=GP (f:=(λe=>e.1.1.length)) cL;have aJx:=L.b aE.1;apply ah<;>intro aC<;>simp only[av] at aC;refine bk λaX df=> ?_;rw[cL] at df;cases df;refine bk λbL eT=> ?_;apply ah<;>intro aT<;>simp only[av] at aT;refine af (vp _ aY) λa2 c9=> ?_;dsimp only at c9;apply ah<;>intro bJ<;>simp only[av] at bJ;exact ba cw;exact bG ⟨⟨_,rfl,dA⟩,dR⟩;exact bG ⟨⟨_,rfl,dA⟩,dR⟩;exact ba cw) x ⟨_,rfl,aj⟩
theorem aGJ:∀x:U Gs,((True)/\((0<=x.1.2.2.1.1)/\(x.1.2.2.1.1<=((x.1.1.1.length:Nat):Int))))->aL (a_ NO x) (Sum.elim (λy=>True) (λy=>True)):=by
 rintro x ⟨aq,aj⟩;exact cJ (λz:U Gs=>∃c5,z=((x.1.1,x.1.2.1,c5,()),())/\((0<=c5.1)/\(c5.1<=((x.1.1.1.length:Nat):Int)))) (λz:U Gs=>(((x.1.1.1.length:Nat):Int)-z.1.2.2.1.1).toNat) (λz ax=>by
  obtain⟨c5,rfl,aD⟩:=ax;unfold NO;dsimp only
  have jZ:=L.b x.1.1;apply ah<;>intro aC<;>simp only[av] at aC;refine af (aGM _ dR) λbf cU=> ?_;dsimp only at cU;refine dZ cU (λbO dB=> ?_) (λbU en=> ?_);exact bG ⟨⟨_,rfl,dA⟩,dR⟩;exact ba cw;exact ba cw) x ⟨_,rfl,aj⟩
theorem ahJ:∀x:U ahI,(True)->aL (Gr x) (λy=>True):=by
 intro x aD;unfold Gr;refine af (aGJ _ (by(dsimp only)<;>(and_intros<;>(intros)<;>first|exact aY|(simp only[aI,b5] at*<;>omega)))) λcD eY=> ?_;dsimp only at eY;refine dZ eY (λbV dV=> ?_) (λcu eZ=> ?_);exact an aY;exact an aY
theorem aGb:∀x:U Gi,((x.1.1.2.1.1.length<=1000)/\((0<=x.1.2.2.1.1)/\(x.1.2.2.1.1<=((x.1.1.2.1.1.length:Nat):Int))/\((x.1.2.1.1.length:Int)=x.1.2.2.1.1/\∀P:L (D eb)->Prop,aK (λt:D gz=>P t.2.2.1) x.1.1.2.1.1->aK (λr:D [.aH eb]=>P r.1) x.1.2.1.1)))->aL (a_ NA x) (λy=>y.1.1.1.length=x.1.1.2.1.1.length/\∀P:L (D eb)->Prop,aK (λt:D gz=>P t.2.2.1) x.1.1.2.1.1->aK (λr:D [.aH eb]=>P r.1) y.1.1.1):=by
 rintro x ⟨aq,aj⟩;exact cJ (λz:U Gi=>∃cZ,∃v4,z=((x.1.1,cZ,v4,()),((),()))/\((0<=v4.1)/\(v4.1<=((x.1.1.2.1.1.length:Nat):Int))/\((cZ.1.length:Int)=v4.1/\∀P:L (D eb)->Prop,aK (λt:D gz=>P t.2.2.1) x.1.1.2.1.1->aK (λr:D [.aH eb]=>P r.1) cZ.1))) (λz:U Gi=>(((x.1.1.2.1.1.length:Nat):Int)-z.1.2.2.1.1).toNat) (λz ax=>by
  obtain⟨cZ,v4,rfl,aD⟩:=ax;unfold NA;dsimp only
  obtain⟨bo,cO,bD,cz⟩:=aD;have o_:=L.b x.1.1.2.1;apply ah<;>intro aC<;>simp only[av] at aC;refine bk λaE cL=> ?_;refine af (dv (by(simp only[b5]<;>omega))) λeo nm=> ?_;exact bG ⟨⟨_,_,rfl,(by(exact⟨db,db,by rw[nm.2];simp only[aI,b5]<;>omega,λP fE=>by rw[nm.1];exact(cz P fE).append (aK.one (fE _ _ cL))⟩))⟩,eQ⟩;exact ba (by(dsimp only[Sum.elim])<;>(exact⟨ab,cz⟩))) x ⟨_,_,rfl,aj⟩
theorem ahD:∀x:U ahA,(x.1.1.2.1.1.length<=1000)->aL (Gh x) (λy=>y.1.1.1.length=x.1.1.2.1.1.length/\∀P:L (D eb)->Prop,aK (λt:D gz=>P t.2.2.1) x.1.1.2.1.1->aK (λr:D [.aH eb]=>P r.1) y.1.1.1):=by
 intro x aD;unfold Gh;refine af (aGb _ (by(dsimp only)<;>(exact⟨aD,bp,db,rfl,λP _=>aK.nil⟩))) λa1 cq=> ?_;dsimp only at cq;exact an (by(dsimp only)<;>(exact cq))
theorem aEb:∀x:U FQ,((0<=x.1.2.2.1.1/\x.1.2.2.1.1<x.1.1.1.length)/\(0<=x.1.2.2.2.1.1/\x.1.2.2.2.1.1<=x.2.1.1.length))->aL (a_ M0 x) (λy=>0<=y.1.1.1/\y.1.1.1<=x.2.1.1.length/\y.2.1=x.2.1):=by
 rintro x ⟨aq,aj⟩;exact cJ (λz:U FQ=>∃c5,z=((x.1.1,(),x.1.2.2.1,c5,()),(x.2.1,()))/\(0<=c5.1/\c5.1<=x.2.1.1.length)) (λz:U FQ=>z.1.2.2.2.1.1.toNat) (λz ax=>by
  obtain⟨c5,rfl,aD⟩:=ax;unfold M0;dsimp only
  have ai:=L.b x.2.1;apply ah<;>intro aC<;>simp only[av] at aC;apply ah<;>intro aT<;>simp only[av] at aT;refine af (ld dA) λaE cL=> ?_;refine bk λaX df=> ?_;apply ah<;>intro bJ<;>simp only[av] at bJ;exact bG ⟨⟨_,rfl,dA⟩,dR⟩;exact ba ⟨aD.1,aD.2,rfl⟩;exfalso
  (omega)
  exact ba ⟨aD.1,aD.2,rfl⟩) x ⟨_,rfl,aj⟩
theorem aD_:∀x:U FP,((x.1.1.1.length<=1000/\x.2.1.1.length=0)/\((0<=x.1.2.2.1.1)/\(x.1.2.2.1.1<=((x.1.1.1.length:Nat):Int))/\((x.2.1.1.length:Int)=x.1.2.2.1.1/\∀P:D eb->Prop,aK P x.1.1.1->aK P x.2.1.1)))->aL (a_ MZ x) (λy=>y.2.2.1.1.length=x.1.1.1.length/\∀P:D eb->Prop,aK P x.1.1.1->aK P y.2.2.1.1):=by
 rintro x ⟨aq,aj⟩;exact cJ (λz:U FP=>∃v4,∃cH,z=((x.1.1,(),v4,()),(cH,()))/\((0<=v4.1)/\(v4.1<=((x.1.1.1.length:Nat):Int))/\((cH.1.length:Int)=v4.1/\∀P:D eb->Prop,aK P x.1.1.1->aK P cH.1))) (λz:U FP=>(((x.1.1.1.length:Nat):Int)-z.1.2.2.1.1).toNat) (λz ax=>by
  obtain⟨v4,cH,rfl,aD⟩:=ax;unfold MZ;dsimp only
  obtain⟨bo,cO,bD,cz⟩:=aD;have jZ:=L.b x.1.1;apply ah<;>intro aC<;>simp only[av] at aC;refine af (aEb _ eQ) λa1 cq=> ?_;dsimp only at cq;obtain⟨bq,bE,c8⟩:=cq;have t1:(nY a1.2.1 (0:Int).toNat ((a1.1.1).1-(0:Int)).toNat).1.length=a1.1.1.1.toNat:=by simp only[nY,List.length_take,List.length_drop,c8];omega
  have t2:(nY a1.2.1 ((a1.1.1).1).toNat (((cH.1.length:Nat):Int)-(a1.1.1).1).toNat).1.length=cH.1.length-a1.1.1.1.toNat:=by simp only[nY,List.length_take,List.length_drop,c8];omega
  apply ah<;>intro aT<;>simp only[av] at aT;refine af (dv (by(rw[t1];simp only[aI,b5]<;>omega))) λgv kU=> ?_;refine bk λdh gl=> ?_;refine af (dv (by(rw[kU.2,t1];simp only[aI,b5]<;>omega))) λj1 qy=> ?_;apply ah<;>intro bJ<;>simp only[av] at bJ;refine af (dv (by(rw[qy.2,kU.2,t1,t2];simp only[aI,b5]<;>omega))) λnU u0=> ?_;exact bG ⟨⟨_,_,rfl,(by(refine⟨db,db,by rw[u0.2,qy.2,kU.2,t1,t2];simp only[aI,b5]<;>omega,λP fE=> ?_⟩;rw[u0.1,qy.1,kU.1];refine((aK.nil.append ?_).append (aK.one (fE _ _ gl))).append ?_<;>(simp only[nY,c8];exact((cz P fE).drop).take)))⟩,eQ⟩;exfalso
  (omega)
  exfalso
  (omega)
  exact ba (by(dsimp only[Sum.elim])<;>(exact⟨ab,cz⟩))) x ⟨_,_,rfl,aj⟩
theorem agP:∀x:U agN,(x.1.1.1.length<=1000)->aL (FO x) (λy=>y.2.1.1.length=x.1.1.1.length/\∀P:D eb->Prop,aK P x.1.1.1->aK P y.2.1.1):=by
 intro x aD;unfold FO;refine af (aD_ _ (by(dsimp only)<;>(exact⟨⟨aD,by simp only[aI,b5]⟩,bp,db,rfl,λP _=>aK.nil⟩))) λcu eZ=> ?_;dsimp only at eZ;exact an (by(dsimp only)<;>(exact eZ))
theorem aFt:∀x:U F6,((True)/\((0<=x.1.2.2.1.1)/\(x.1.2.2.1.1<=((x.1.1.1.length:Nat):Int))/\(ej (λe:D [.int .i64]=>e.1.1≠x.1.2.1.1) x.1.1.1 x.1.2.2.1.1)))->aL (a_ No x) (Sum.elim (λy=>aK (λe:D [.int .i64]=>e.1.1≠x.1.2.1.1) x.1.1.1) (λy=>0<=y.1.1.1/\y.1.1.1<x.1.1.1.length)):=by
 rintro x ⟨aq,aj⟩;exact cJ (λz:U F6=>∃c5,z=((x.1.1,x.1.2.1,c5,()),())/\((0<=c5.1)/\(c5.1<=((x.1.1.1.length:Nat):Int))/\(ej (λe:D [.int .i64]=>e.1.1≠x.1.2.1.1) x.1.1.1 c5.1))) (λz:U F6=>(((x.1.1.1.length:Nat):Int)-z.1.2.2.1.1).toNat) (λz ax=>by
  obtain⟨c5,rfl,aD⟩:=ax;unfold No;dsimp only
  obtain⟨bo,cO,bD⟩:=aD;have jZ:=L.b x.1.1;apply ah<;>intro aC<;>simp only[av] at aC;refine bk λaE cL=> ?_;apply ah<;>intro aT<;>simp only[av] at aT;exact ba gI;exact bG ⟨⟨_,rfl,(by(have aA:=dK c5 bo ab;refine⟨ab,ab, ?_⟩;rw[aA];exact bD.step bo cL aT))⟩,eQ⟩;exact ba (bD.all ab)) x ⟨_,rfl,aj⟩
theorem ahj:∀x:U ahg,(True)->aL (F5 x) (λy=>-1<=y.1.1.1/\y.1.1.1<x.1.1.1.length/\(y.1.1.1<0->aK (λe:D [.int .i64]=>e.1.1≠x.1.2.1.1) x.1.1.1)):=by
 intro x aD;unfold F5;refine af (aFt _ (by(dsimp only)<;>(exact⟨aY,bp,db,by simp only[aI];exact ej.zero⟩))) λaG cn=> ?_;dsimp only at cn;refine dZ cn (λa1 cq=> ?_) (λa2 c9=> ?_);exact an (by(dsimp only)<;>(exact⟨bp,db,λ_=>cq⟩));exact an (by(dsimp only)<;>(exact⟨ab,ab,λ_=>by omega⟩))
theorem aEP:∀x:U ag1,(True)->aL (Na x) (λy=>y.1.1=false->aK (λe:D [.int .i64]=>e.1.1≠x.1.2.1.1) x.1.1.1):=by
 intro x aD;unfold Na;refine af (ahj _ aY) λaB cd=> ?_;dsimp only at cd;exact an (by(dsimp only)<;>(intro ay;simp only[cc,aI] at ay;exact cd.2.2 ab))
theorem aFG (n:Nat):∀x:U F9,((n<=1000/\aK (uz n) x.2.2.1.1)/\((0<=x.1.2.2.1.1)/\(x.1.2.2.1.1<=((x.2.2.1.1.length:Nat):Int))/\(aK (kn n) x.1.1.1/\lp u5 x.1.1.1/\x.1.1.1.length<=x.1.1.1.length)))->aL (a_ Nt x) (λy=>aK (kn n) y.1.1.1/\lp u5 y.1.1.1/\x.1.1.1.length<=y.1.1.1.length):=by
 rintro x ⟨aq,aj⟩;exact cJ (λz:U F9=>∃cZ,∃v6,z=((cZ,(),v6,()),((),x.2.2.1,()))/\((0<=v6.1)/\(v6.1<=((x.2.2.1.1.length:Nat):Int))/\(aK (kn n) cZ.1/\lp u5 cZ.1/\x.1.1.1.length<=cZ.1.length))) (λz:U F9=>(((x.2.2.1.1.length:Nat):Int)-z.1.2.2.1.1).toNat) (λz ax=>by
  obtain⟨cZ,v6,rfl,aD⟩:=ax;unfold Nt;dsimp only
  obtain⟨bo,cO,bD,cz,fY⟩:=aD;obtain⟨cN,dq⟩:=aq;have Ce:=cz.length (n:=n) (bD.imp λe he=>by unfold kn at he;unfold u5;omega);have ay:=L.b x.2.2.1;apply ah<;>intro aC<;>simp only[av] at aC;apply ah<;>intro aT<;>simp only[av] at aT;refine hY λcM fA=> ?_;have kD:=dq _ _ fA;refine af (aEP _ aY) λbf cU=> ?_;dsimp only at cU;apply ah<;>intro bJ<;>simp only[av] at bJ;apply ah<;>intro c7<;>simp only[av] at c7;refine hY λdh gl=> ?_;rw[fA] at gl;cases gl;refine af (dv (by(simp only[aI,b5]<;>omega))) λj1 qy=> ?_;have dI:=qy.2;simp only[b5] at dI;have gn:aK (kn n) j1.1:=by rw[qy.1];exact bD.append (aK.one kD)
  have dg:lp u5 j1.1:=by
   rw[qy.1];refine cz.add λk e he=> ?_;have cR:=bD _ _ he;have fg:=cU bJ _ _ he;unfold kn at cR;unfold uz at kD;unfold u5;dsimp only at fg⊢;omega
  exact bG ⟨⟨_,_,rfl,(by(exact⟨db,db,gn,dg,ab⟩))⟩,eQ⟩;exfalso
  (omega)
  exact bG ⟨⟨_,_,rfl,(by(exact⟨db,db,bD,cz,fY⟩))⟩,eQ⟩;exfalso
  (omega)
  exact ba ⟨bD,cz,fY⟩) x ⟨_,_,rfl,aj⟩
theorem aFD:∀x:U F8,((x.1.1.1.length<=1000/\aK (λr:D [.aH eb]=>r.1.1.length<=1000/\aK (uz x.1.1.1.length) r.1.1) x.1.1.1)/\((0<=x.1.2.2.1.1)/\(aK (kn x.1.1.1.length) x.1.2.1.1/\lp u5 x.1.2.1.1/\x.1.2.1.1.length<=x.1.2.1.1.length)))->aL (a_ Ns x) (λy=>aK (kn x.1.1.1.length) y.1.1.1/\y.1.1.1.length<=x.1.1.1.length/\x.1.2.1.1.length<=y.1.1.1.length):=by
 rintro x ⟨aq,aj⟩;exact cJ (λz:U F8=>∃cZ,∃v4,z=((x.1.1,cZ,v4,()),((),()))/\((0<=v4.1)/\(aK (kn x.1.1.1.length) cZ.1/\lp u5 cZ.1/\x.1.2.1.1.length<=cZ.1.length))) (λz:U F8=>(x.1.1.1.length-z.1.2.2.1.1).toNat) (λz ax=>by
  obtain⟨cZ,v4,rfl,aD⟩:=ax;unfold Ns;dsimp only
  obtain⟨bo,cO,bD,cz⟩:=aD;obtain⟨cN,dq⟩:=aq;have Ce:=bD.length (n:=x.1.1.1.length) (cO.imp λe he=>by unfold kn at he;unfold u5;omega);have aJH:=L.b cZ;apply ah<;>intro aC<;>simp only[av] at aC;refine bk λaE cL=> ?_;obtain⟨dE,dc⟩:=cO _ _ cL;refine bk λaX df=> ?_;obtain⟨cR,fg⟩:=dq _ _ df;refine af (agP _ fW) λa1 cq=> ?_;dsimp only at cq;obtain⟨bq,bE⟩:=cq;have c8:=bE _ fg;refine af (aFG (x.1.1.1.length) _ (by(dsimp only)<;>(exact⟨⟨cN,c8⟩,bp,db,cO,bD,Nat.le_refl _⟩))) λcD eY=> ?_;dsimp only at eY;obtain⟨gn,dg,fi⟩:=eY;exact bG ⟨⟨_,_,rfl,(by(exact⟨db,gn,dg,ab⟩))⟩,eQ⟩;exact ba (by(dsimp only[Sum.elim])<;>(exact⟨cO,Ce,cz⟩))) x ⟨_,_,rfl,aj⟩
theorem aFJ:∀x:U ahm,(1<=x.1.1.1.length/\x.1.1.1.length<=1000/\aK (λr:D [.aH eb]=>r.1.1.length<=1000/\aK (uz x.1.1.1.length) r.1.1) x.1.1.1)->aL (Nr x) (λy=>aK (kn x.1.1.1.length) y.1.1.1/\y.1.1.1.length<=x.1.1.1.length):=by
 intro x aD;unfold Nr;refine af (aFD _ (by(dsimp only)<;>(exact⟨aD.2,bp,by rw[fT (by simp)];exact aK.one ⟨by simp only[aI];omega,by have:=aD.1;simp only[aI];omega⟩,by rw[fT (by simp)];exact lp.one _,Nat.le_refl _⟩))) λbV dV=> ?_;dsimp only at dV;exact an (by(dsimp only)<;>(exact⟨dV.1,dV.2.1⟩))
theorem aDz:∀x:U agC,(True)->aL (MN x) (λy=>aK (kn x.1.1.2.1.1.length) y.1.1.1/\y.1.1.1.length<=40/\(1<=y.1.1.1.length->qm x.1.1)):=by
 intro x aD;unfold MN;refine af (TN _ aY) λaB cd=> ?_;dsimp only at cd;apply ah<;>intro aC<;>simp only[av] at aC;exact an (by(dsimp only)<;>(exact⟨aK.nil,bp,λq=>by simp only[b5,aI] at q;omega⟩));have a3:=cd aC;have nm:=a3.t2;have kf:=a3.t1;refine af (ahD _ fW) λaG cn=> ?_;dsimp only at cn;obtain⟨bq,bE⟩:=cn;have c8:=bE (λr=>r.1.length<=6/\aK (uz x.1.1.2.1.1.length) r.1) a3.eE;refine af (aFJ _ (by(dsimp only)<;>(exact⟨ab,ab,c8.imp λe he=>⟨by have:=he.1;omega,by rw[bq];exact he.2⟩⟩))) λa1 cq=> ?_;dsimp only at cq;obtain⟨gn,dg⟩:=cq;rw[bq] at gn;exact an (by(dsimp only)<;>(exact⟨gn,ab,λ_=>a3⟩))
theorem aE2:∀x:U FZ,((True)/\((0<=x.1.2.2.1.1)/\(x.2.1.1.length=x.2.1.1.length)))->aL (a_ Ng x) (λy=>y.2.1.1.length=x.2.1.1.length):=by
 rintro x ⟨aq,aj⟩;exact cJ (λz:U FZ=>∃v6,∃cH,z=((x.1.1,(),v6,()),(cH,()))/\((0<=v6.1)/\(cH.1.length=x.2.1.1.length))) (λz:U FZ=>(x.2.1.1.length-z.1.2.2.1.1:Int).toNat) (λz ax=>by
  obtain⟨v6,cH,rfl,aD⟩:=ax;unfold Ng;dsimp only
  have ai:=L.b cH;apply ah<;>intro aC<;>simp only[av] at aC;apply ah<;>intro aT<;>simp only[av] at aT;refine hY λaX df=> ?_;refine af (ahj _ aY) λa1 cq=> ?_;dsimp only at cq;apply ah<;>intro bJ<;>simp only[av] at bJ;refine hY λcM fA=> ?_;exact bG ⟨⟨_,_,rfl,(by(exact⟨by have:=aD.1;simp only[aI] at aC⊢;omega,by simp only[b5];exact aD.2⟩))⟩,(by(dsimp only)<;>(have:=aD.1;simp only[aI] at aC⊢;omega))⟩;exfalso
  (omega)
  exfalso
  (omega)
  exact ba aD.2) x ⟨_,_,rfl,aj⟩
theorem aE5:∀x:U ag5,(x.1.1.1.length<=1000)->aL (Nf x) (λy=>y.1.1.1.length=x.1.1.1.length):=by
 intro x aD;unfold Nf;refine af (agP _ (by(dsimp only)<;>(exact aD))) λaB cd=> ?_;dsimp only at cd;refine af (aE2 _ (by(dsimp only)<;>(exact⟨aY,bp,rfl⟩))) λbf cU=> ?_;dsimp only at cU;exact an (by(dsimp only)<;>(exact cU.trans cd.1))
theorem aDC:∀x:U FH,((qm x.1.1/\aK (kn x.1.1.2.1.1.length) x.1.2.1.1/\x.1.2.1.1.length<=40)/\((0<=x.1.2.2.2.1.1)/\(x.1.2.2.2.1.1<=((x.1.2.1.1.length:Nat):Int))/\((x.2.1.2.1.1.length:Int)=x.1.2.2.2.1.1/\aK (λt:D gz=>t.2.2.1.1.length<=6) x.2.1.2.1.1)))->aL (a_ MP x) (λy=>y.2.1.2.1.1.length<=40/\aK (λt:D gz=>t.2.2.1.1.length<=6) y.2.1.2.1.1):=by
 rintro x ⟨aq,aj⟩;exact cJ (λz:U FH=>∃c5,∃oX,z=((x.1.1,x.1.2.1,(),c5,()),((x.2.1.1,oX,()),(),()))/\((0<=c5.1)/\(c5.1<=((x.1.2.1.1.length:Nat):Int))/\((oX.1.length:Int)=c5.1/\aK (λt:D gz=>t.2.2.1.1.length<=6) oX.1))) (λz:U FH=>(((x.1.2.1.1.length:Nat):Int)-z.1.2.2.2.1.1).toNat) (λz ax=>by
  obtain⟨c5,oX,rfl,aD⟩:=ax;unfold MP;dsimp only
  obtain⟨bo,cO,bD,cz⟩:=aD;obtain⟨cN,dq,eJ⟩:=aq;have lR:=L.b x.1.2.1;apply ah<;>intro aC<;>simp only[av] at aC;refine bk λaX df=> ?_;obtain⟨dE,dc⟩:=dq _ _ df;refine bk λbL eT=> ?_;obtain⟨cR,fg⟩:=cN.eE _ _ eT;refine af (aE5 _ fW) λa2 c9=> ?_;dsimp only at c9;refine af (dv (by(simp only[b5]<;>omega))) λgv kU=> ?_;exact bG ⟨⟨_,_,rfl,(by(exact⟨db,db,by rw[kU.2];simp only[aI,b5]<;>omega,by rw[kU.1];exact cz.append (aK.one (by dsimp only;omega))⟩))⟩,eQ⟩;exact ba (by(dsimp only[Sum.elim])<;>(exact⟨ab,cz⟩))) x ⟨_,_,rfl,aj⟩
theorem aDF:∀x:U agD,(True)->aL (MO x) (λy=>sm y.1.1):=by
 intro x aD;unfold MO;refine af (aDz _ aY) λaB cd=> ?_;dsimp only at cd;have aJX:=L.b aB.1.1;apply ah<;>intro aC<;>simp only[av] at aC;exact an ⟨bp,aK.nil⟩;refine af (aDC _ (by(dsimp only)<;>(obtain⟨gn,dg,fi⟩:=cd;exact⟨⟨fi ab,gn,dg⟩,bp,db,rfl,aK.nil⟩))) λbO dB=> ?_;dsimp only at dB;exact an ⟨dB.1,dB.2⟩
theorem aGx:∀x:U Gn,((x.1.1.1.length<=6/\x.1.2.2.1.1.length=0/\x.1.2.2.2.1.1=0)/\((0<=x.1.2.2.2.1.1)/\(x.1.2.2.2.1.1<=((x.1.1.1.length:Nat):Int))/\(x.1.2.2.1.1.length<=5*x.1.2.2.2.1.1/\aK sm x.1.2.2.1.1)))->aL (a_ NK x) (Sum.elim (λy=>y.1.1.1.length<=30/\aK sm y.1.1.1) (λy=>True)):=by
 rintro x ⟨aq,aj⟩;exact cJ (λz:U Gn=>∃v6,∃dN,z=((x.1.1,(),v6,dN,()),(x.2.1,(),()))/\((0<=dN.1)/\(dN.1<=((x.1.1.1.length:Nat):Int))/\(v6.1.length<=5*dN.1/\aK sm v6.1))) (λz:U Gn=>(((x.1.1.1.length:Nat):Int)-z.1.2.2.2.1.1).toNat) (λz ax=>by
  obtain⟨v6,dN,rfl,aD⟩:=ax;unfold NK;dsimp only
  obtain⟨bo,cO,bD,cz⟩:=aD;have jZ:=L.b x.1.1;apply ah<;>intro aC<;>simp only[av] at aC;refine bk λaE cL=> ?_;refine af (TG _ aY) λaG cn=> ?_;dsimp only at cn;obtain⟨bq,bE,_⟩:=cn;apply ah<;>intro aT<;>simp only[av] at aT;refine af (uv _ aY) λa1 cq=> ?_;dsimp only at cq;exact ba cw;refine af (dv ab) λkx ox=> ?_;exact bG ⟨⟨_,_,rfl,(by(exact⟨db,db,by rw[ox.2];simp only[aI,b5]<;>omega,by rw[ox.1];exact cz.append ((bE aT).2.2.imp λe he=>he.ajC)⟩))⟩,eQ⟩;exact ba (by(dsimp only[Sum.elim])<;>(exact⟨ab,cz⟩))) x ⟨_,_,rfl,aj⟩
theorem aGA:∀x:U Gp,((aK lr x.1.1.1)/\((0<=x.1.2.2.2.1.1)/\(x.1.2.2.2.1.1<=((x.1.1.1.length:Nat):Int))))->aL (a_ NL x) (Sum.elim (λy=>True) (λy=>True)):=by
 rintro x ⟨aq,aj⟩;exact cJ (λz:U Gp=>∃eH,z=((x.1.1,(),x.1.2.2.1,eH,()),(x.2.1,()))/\((0<=eH.1)/\(eH.1<=((x.1.1.1.length:Nat):Int)))) (λz:U Gp=>(((x.1.1.1.length:Nat):Int)-z.1.2.2.2.1.1).toNat) (λz ax=>by
  obtain⟨eH,rfl,aD⟩:=ax;unfold NL;dsimp only
  have jZ:=L.b x.1.1;apply ah<;>intro aC<;>simp only[av] at aC;refine bk λeK kr=> ?_;have sB:=(aq _ _ kr).fw;refine af (aFA _ fW) λcu eZ=> ?_;refine af (ahJ _ aY) λb6 eU=> ?_;apply ah<;>intro aT<;>simp only[av] at aT;refine af (uv _ aY) λcS eV=> ?_;dsimp only at eV;exact ba cw;exact bG ⟨⟨_,rfl,dA⟩,dR⟩;exact ba cw) x ⟨_,rfl,aj⟩
theorem aGD:∀x:U Gq,((aK qm x.1.2.1.1/\x.1.2.1.1.length<=12/\x.1.2.2.2.1.1.length<=30/\x.1.2.2.2.2.2.1.1=0)/\((0<=x.1.2.2.2.2.2.1.1)/\(x.1.2.2.2.2.2.1.1<=((x.1.2.1.1.length:Nat):Int))/\(x.1.2.2.2.1.1.length<=30+x.1.2.2.2.2.2.1.1/\aK sm x.1.2.2.2.1.1)))->aL (a_ NM x) (Sum.elim (λy=>y.1.1.1.length<=42/\aK sm y.1.1.1) (λy=>True)):=by
 rintro x ⟨aq,aj⟩;exact cJ (λz:U Gq=>∃v6,∃iK,z=((x.1.1,x.1.2.1,(),v6,x.1.2.2.2.2.1,iK,()),(x.2.1,(),()))/\((0<=iK.1)/\(iK.1<=((x.1.2.1.1.length:Nat):Int))/\(v6.1.length<=30+iK.1/\aK sm v6.1))) (λz:U Gq=>(((x.1.2.1.1.length:Nat):Int)-z.1.2.2.2.2.2.1.1).toNat) (λz ax=>by
  obtain⟨v6,iK,rfl,aD⟩:=ax;unfold NM;dsimp only
  obtain⟨bo,cO,bD,cz⟩:=aD;have lR:=L.b x.1.2.1;apply ah<;>intro aC<;>simp only[av] at aC;refine bk λik jX=> ?_;have ajw:=(aq.1 _ _ jX).t2;refine af (ahD _ fW) λfo iA=> ?_;dsimp only at iA;refine af (ahJ _ aY) λe4 kv=> ?_;apply ah<;>intro aT<;>simp only[av] at aT;refine af (uv _ aY) λfI jP=> ?_;dsimp only at jP;exact ba cw;refine bk λpV tO=> ?_;refine af (aDF _ aY) λjc q6=> ?_;dsimp only at q6;refine af (dv (by(simp only[b5]<;>omega))) λY6 X3=> ?_;exact bG ⟨⟨_,_,rfl,(by(exact⟨db,db,by rw[X3.2];simp only[aI,b5]<;>omega,by rw[X3.1];exact cz.append (aK.one q6)⟩))⟩,eQ⟩;exact ba (by(dsimp only[Sum.elim])<;>(exact⟨ab,cz⟩))) x ⟨_,_,rfl,aj⟩
theorem aGG:∀x:U ahH,(x.1.1.1.length<=6/\x.1.2.1.1.length<=12/\aK lr x.1.1.1/\aK qm x.1.2.1.1)->aL (NJ x) (λy=>y.1.1.1.length<=42/\aK sm y.1.1.1):=by
 intro x aD;unfold NJ;obtain⟨aa,ae,az,a9⟩:=aD;refine af (aGx _ (by(dsimp only)<;>(exact⟨⟨aa,rfl,by simp only[aI]<;>rfl⟩,bp,db,bp,aK.nil⟩))) λbf cU=> ?_;dsimp only at cU;refine dZ cU (λbO dB=> ?_) (λbU en=> ?_);refine af (aGu _ (by(dsimp only)<;>(exact⟨aa,ae,az⟩))) λcD eY=> ?_;dsimp only at eY;refine af (aGA _ (by(dsimp only)<;>(exact⟨az,bp,db⟩))) λcG fm=> ?_;dsimp only at fm;refine dZ fm (λev ji=> ?_) (λdD gR=> ?_);refine af (aGD _ (by(dsimp only)<;>(exact⟨⟨a9,ae,dB.1,by simp only[aI]<;>rfl⟩,bp,db,by have:=dB.1;simp only[aI];omega,dB.2⟩))) λmn rZ=> ?_;dsimp only at rZ;refine dZ rZ (λmL q7=> ?_) (λkA p5=> ?_);exact an (by(dsimp only)<;>(exact q7));exact an (by(dsimp only)<;>(exact⟨bp,aK.nil⟩));exact an (by(dsimp only)<;>(exact⟨bp,aK.nil⟩));exact an (by(dsimp only)<;>(exact⟨bp,aK.nil⟩))
theorem aFn:∀x:U F4,((True)/\((0<=x.1.2.2.1.1)/\(x.1.2.2.1.1<=((x.1.1.1.length:Nat):Int))))->aL (a_ Nn x) (Sum.elim (λy=>True) (λy=>True)):=by
 rintro x ⟨aq,aj⟩;exact cJ (λz:U F4=>∃v1,∃c5,z=((x.1.1,v1,c5,()),())/\((0<=c5.1)/\(c5.1<=((x.1.1.1.length:Nat):Int)))) (λz:U F4=>(((x.1.1.1.length:Nat):Int)-z.1.2.2.1.1).toNat) (λz ax=>by
  obtain⟨v1,c5,rfl,aD⟩:=ax;unfold Nn;dsimp only
  have jZ:=L.b x.1.1;apply ah<;>intro aC<;>simp only[av] at aC;refine bk λaE cL=> ?_;have amz:=L.b aE.2.1;apply ah<;>intro aT<;>simp only[av] at aT;exact ba cw;refine bk λaX df=> ?_;exact bG ⟨⟨_,_,rfl,dA⟩,dR⟩;exact ba cw) x ⟨_,_,rfl,aj⟩
theorem aFq:∀x:U ahe,(True)->aL (Nm x) (λy=>True):=by
 intro x aD;unfold Nm;refine af (aFn _ (by(dsimp only)<;>(and_intros<;>(intros)<;>first|exact aY|(simp only[aI,b5] at*<;>omega)))) λa1 cq=> ?_;dsimp only at cq;refine dZ cq (λa2 c9=> ?_) (λbf cU=> ?_);exact an aY;exact an aY
theorem aE8:∀x:U F0,((x.2.1.2.1.1.length<=1000)/\(0<=x.1.2.2.1.1/\x.1.2.2.1.1<=x.2.1.2.1.1.length))->aL (a_ Ni x) (λy=>0<=y.1.1.1/\y.1.1.1<=x.2.1.2.1.1.length/\y.2.1=x.2.1):=by
 rintro x ⟨aq,aj⟩;exact cJ (λz:U F0=>∃dN,z=((x.1.1,(),dN,()),(x.2.1,()))/\(0<=dN.1/\dN.1<=x.2.1.2.1.1.length)) (λz:U F0=>z.1.2.2.1.1.toNat) (λz ax=>by
  obtain⟨dN,rfl,aD⟩:=ax;unfold Ni;dsimp only
  apply ah<;>intro aC<;>simp only[av] at aC;refine af (eG dA) λaE cL=> ?_;apply ah<;>intro aT<;>simp only[av] at aT;exact bG ⟨⟨_,rfl,dA⟩,dR⟩;exact ba ⟨aD.1,aD.2,rfl⟩;exact ba ⟨aD.1,aD.2,rfl⟩) x ⟨_,rfl,aj⟩
theorem aE':∀x:U ag7,(x.1.1.2.1.1.length=x.1.1.2.2.1.1.length/\x.1.1.2.1.1.length<=1000)->aL (Nh x) (λy=>y.1.1.2.1.1.length=y.1.1.2.2.1.1.length/\y.1.1.2.1.1.length=x.1.1.2.1.1.length+1):=by
 intro x aD;unfold Nh;obtain⟨aa,ae⟩:=aD;refine af (aE8 _ dR) λaG cn=> ?_;dsimp only at cn;obtain⟨bq,bE,c8⟩:=cn;rw[c8];refine af (pT dA) λcZ zN=> ?_;refine af (dv dA) λkx ox=> ?_;refine af (dv dA) λgv kU=> ?_;refine af (pT dA) λv6 zO=> ?_;refine af (dv dA) λj1 qy=> ?_;refine af (dv dA) λjA oy=> ?_;refine af (pT dA) λfx Yv=> ?_;refine af (dv dA) λoE sQ=> ?_;refine af (pT dA) λv11 Yt=> ?_;refine af (dv dA) λu7 B_=> ?_;exact an dR
theorem ahp:∀x:U ahn,(True)->aL (F_ x) (λy=>(y.1.2.1=true->∃j:Nat,x.1.1.2.2.1.1[j]? =some (y.1.1,()))/\(y.1.2.1=false->y.1.1.1=0)):=by
 intro x aD;unfold F_;refine af (afk _ aY) λaB cd=> ?_;dsimp only at cd;apply ah<;>intro aC<;>simp only[av] at aC;exact an ⟨λq=>Bool.noConfusion q,λ_=>rfl⟩;have qz:=L.b x.1.1.2.2.1;apply ah<;>intro aT<;>simp only[av] at aT;exact an ⟨λq=>Bool.noConfusion q,λ_=>rfl⟩;refine bk λaX df=> ?_;exact an ⟨λ_=>⟨_,df⟩,λq=>Bool.noConfusion q⟩
theorem T6:∀x:U ahu,(True)->aL (AH x) (λy=>y.1.1.1.1=5->x.1.2.1.1.1=5/\∃j:Nat,x.1.1.2.2.1.1[j]? =some (y.1.1.2.1,())):=by
 intro x aD;unfold AH;apply ah<;>intro aC<;>simp only[av] at aC;refine af (ahp _ aY) λaB cd=> ?_;dsimp only at cd;apply ah<;>intro aT<;>simp only[av] at aT;exact an (by(dsimp only)<;>(intro ay;(simp only[aI] at ay<;>omega)));exact an (by(dsimp only)<;>(intro ay;exact⟨aC,cd.1 aT⟩));apply ah<;>intro bJ<;>simp only[av] at bJ;exact an (by(dsimp only)<;>(intro ay;(simp only[aI] at ay<;>omega)));apply ah<;>intro c7<;>simp only[av] at c7;exact an (by(dsimp only)<;>(intro ay;(simp only[aI] at ay<;>omega)));apply ah<;>intro dM<;>simp only[av] at dM;exact an (by(dsimp only)<;>(intro ay;(simp only[aI] at ay<;>omega)));exact an (by(dsimp only)<;>(intro ay;omega))
theorem aDd:∀x:U FA,((x.1.2.2.2.1.1.length<=42/\x.1.2.2.2.2.2.2.1.1=0)/\((0<=x.1.2.2.2.2.2.2.1.1)/\(x.1.2.2.2.2.2.2.1.1<=((x.1.2.2.2.1.1.length:Nat):Int))/\(x.2.2.2.1.2.1.1.length=x.2.2.2.1.2.2.1.1.length/\x.2.2.2.1.2.1.1.length=x.1.2.2.2.2.2.2.1.1)))->aL (a_ MI x) (Sum.elim (λy=>True) (λy=>True)):=by
 rintro x ⟨aq,aj⟩;exact cJ (λz:U FA=>∃v10,∃v11,∃Hi,∃w5,z=((x.1.1,(),(),x.1.2.2.2.1,(),v10,v11,()),(((),(),(),()),x.2.2.1,((),Hi,w5,()),()))/\((0<=v11.1)/\(v11.1<=((x.1.2.2.2.1.1.length:Nat):Int))/\(Hi.1.length=w5.1.length/\Hi.1.length=v11.1))) (λz:U FA=>(((x.1.2.2.2.1.1.length:Nat):Int)-z.1.2.2.2.2.2.2.1.1).toNat) (λz ax=>by
  obtain⟨v10,v11,Hi,w5,rfl,aD⟩:=ax;unfold MI;dsimp only
  have Ii:=L.b x.1.2.2.2.1;apply ah<;>intro aC<;>simp only[av] at aC;refine bk λbL eT=> ?_;have aJD:=L.b bL.2.1;apply ah<;>intro aT<;>simp only[av] at aT;refine af (aFq _ aY) λa2 c9=> ?_;refine af (uv _ aY) λbf cU=> ?_;dsimp only at cU;exact ba cw;refine bk λdh gl=> ?_;refine af (aE' _ fW) λbU en=> ?_;dsimp only at en;refine bk λdG h_=> ?_;exact bG ⟨⟨_,_,_,_,rfl,dA⟩,dR⟩;exact ba cw) x ⟨_,_,_,_,rfl,aj⟩
theorem aDm:∀x:U FD,((x.2.2.2.1.2.2.1.1.length+x.1.2.2.1.2.2.1.1.length<=1000000)/\((0<=x.1.2.2.2.2.1.1)/\(x.1.2.2.2.2.1.1<=((x.1.2.2.1.2.2.1.1.length:Nat):Int))/\((x.2.2.2.1.2.2.1.1.length:Int)+x.1.2.2.2.2.1.1<=x.2.2.2.1.2.2.1.1.length+x.1.2.2.2.2.1.1)))->aL (a_ ML x) (λy=>y.2.1=x.2.1):=by
 rintro x ⟨aq,aj⟩;exact cJ (λz:U FD=>∃lJ,∃w5,z=(((),x.1.2.1,x.1.2.2.1,(),lJ,()),(x.2.1,(),(x.2.2.2.1.1,x.2.2.2.1.2.1,w5,()),(),()))/\((0<=lJ.1)/\(lJ.1<=((x.1.2.2.1.2.2.1.1.length:Nat):Int))/\((w5.1.length:Int)+x.1.2.2.2.2.1.1<=x.2.2.2.1.2.2.1.1.length+lJ.1))) (λz:U FD=>(((x.1.2.2.1.2.2.1.1.length:Nat):Int)-z.1.2.2.2.2.1.1).toNat) (λz ax=>by
  obtain⟨lJ,w5,rfl,aD⟩:=ax;unfold ML;dsimp only
  have aJN:=L.b x.1.2.2.1.2.2.1;apply ah<;>intro aC<;>simp only[av] at aC;refine bk λjx ow=> ?_;refine af (T6 _ aY) λeN gm=> ?_;dsimp only at gm;refine bk λkp lC=> ?_;refine bk λkq o7=> ?_;refine af (dv dA) λY5 aJs=> ?_;exact bG ⟨⟨_,_,rfl,dA⟩,dR⟩;exact ba cw) x ⟨_,_,rfl,aj⟩
theorem aDj:∀x:U FC,((0<=x.1.2.2.2.1.1/\x.1.2.2.2.1.1<x.1.1.1.length/\aK sm x.1.1.1/\x.2.1.1.1.length<=2000/\x.1.2.2.2.2.1.1=0)/\((0<=x.1.2.2.2.2.1.1)/\((x.2.1.1.1.length:Int)=x.2.1.1.1.length+x.1.2.2.2.2.1.1/\x.1.2.2.2.2.1.1<=40)))->aL (a_ MK x) (λy=>y.2.1.1.1.length<=x.2.1.1.1.length+40):=by
 rintro x ⟨aq,aj⟩;exact cJ (λz:U FC=>∃kK,∃w4,∃oX,∃VY,z=((x.1.1,(),x.1.2.2.1,x.1.2.2.2.1,kK,()),((w4,oX,VY,()),(),()))/\((0<=kK.1)/\((w4.1.length:Int)=x.2.1.1.1.length+kK.1/\kK.1<=40))) (λz:U FC=>((yK x.1.1.1 x.1.2.2.2.1.1 (λe=>e.2.1.1.length):Nat)-z.1.2.2.2.2.1.1:Int).toNat) (λz ax=>by
  obtain⟨kK,w4,oX,VY,rfl,aD⟩:=ax;unfold MK;dsimp only
  obtain⟨cN,dq,eJ,iD,lu⟩:=aq;refine bk λjw kT=> ?_;have aKj:=GP (f:=(λe=>e.2.1.1.length)) kT;have uJ:=(eJ _ _ kT).t2;have aJv:=L.b jw.2.1;apply ah<;>intro aC<;>simp only[av] at aC;refine bk λj9 ov=> ?_;rw[kT] at ov;cases ov;refine bk λiX mi=> ?_;have aIY:=(eJ _ _ kT).eE _ _ mi;refine af (aDm _ dR) λga kI=> ?_;dsimp only at kI;rw[kI];refine af (dv dA) λwk xI=> ?_;have ads:=xI.2;simp only[b5] at ads;exact bG ⟨⟨_,_,_,_,rfl,dA⟩,dR⟩;exact ba gI) x ⟨_,_,_,_,rfl,aj⟩
theorem aDg:∀x:U FB,((aK sm x.1.1.1/\x.1.1.1.length<=42/\x.2.1.1.1.length=0)/\((0<=x.1.2.2.2.1.1)/\(x.1.2.2.2.1.1<=((x.1.1.1.length:Nat):Int))/\(x.2.1.1.1.length<=40*x.1.2.2.2.1.1)))->aL (a_ MJ x) (λy=>True):=by
 rintro x ⟨aq,aj⟩;exact cJ (λz:U FB=>∃v10,∃eH,∃cH,z=((x.1.1,(),v10,eH,()),(cH,(),()))/\((0<=eH.1)/\(eH.1<=((x.1.1.1.length:Nat):Int))/\(cH.1.1.length<=40*eH.1))) (λz:U FB=>(((x.1.1.1.length:Nat):Int)-z.1.2.2.2.1.1).toNat) (λz ax=>by
  obtain⟨v10,eH,cH,rfl,aD⟩:=ax;unfold MJ;dsimp only
  have jZ:=L.b x.1.1;apply ah<;>intro aC<;>simp only[av] at aC;refine af (aDj _ (by(dsimp only)<;>(exact⟨⟨ab,ab,aq.1,ab,by simp only[aI]<;>rfl⟩,bp,by simp only[aI,b5]<;>omega,bp⟩))) λe9 m2=> ?_;dsimp only at m2;refine bk λmz q2=> ?_;exact bG ⟨⟨_,_,_,rfl,(by(simp only[aI]<;>omega))⟩,eQ⟩;exact ba gI) x ⟨_,_,_,rfl,aj⟩
theorem aDp:∀x:U agw,(True)->aL (MH x) (λy=>True):=by
 intro x aD;unfold MH;refine af (aEL _ aY) λaB cd=> ?_;dsimp only at cd;apply ah<;>intro aC<;>simp only[av] at aC;exact an aY;obtain⟨f1,f2,f3,f4⟩:=cd aC;refine af (aGG _ (by(dsimp only)<;>(exact⟨f1,f2,f3,f4⟩))) λaG cn=> ?_;dsimp only at cn;apply ah<;>intro aT<;>simp only[av] at aT;exact an aY;refine af (aDd _ (by(dsimp only)<;>(exact⟨⟨cn.1,by simp only[aI]<;>rfl⟩,bp,db,rfl,by simp only[aI,b5]<;>rfl⟩))) λbV dV=> ?_;dsimp only at dV;refine dZ dV (λcu eZ=> ?_) (λb6 eU=> ?_);refine af (aDg _ (by(dsimp only)<;>(exact⟨⟨cn.2,cn.1,rfl⟩,bp,db,bp⟩))) λmL q7=> ?_;exact an aY;exact an aY
theorem aht:∀x:U ahs,(True)->aL (Ga x) (λy=>y.1.1=true->x.1.1.1.1=5->0<=x.1.1.2.1.1/\x.1.1.2.1.1<x.1.2.1.1):=by
 intro x aD;unfold Ga;apply ah<;>intro aC<;>simp only[av] at aC;apply ah<;>intro aT<;>simp only[av] at aT;exact an (by(dsimp only)<;>(intro ay cE;(simp only[cc,aI] at ay;omega)));exact an (by(dsimp only)<;>(intro ay cE;exact Bool.noConfusion ay));apply ah<;>intro bJ<;>simp only[av] at bJ;apply ah<;>intro c7<;>simp only[av] at c7;exact an (by(dsimp only)<;>(intro ay cE;(simp only[cc,aI] at ay;omega)));exact an (by(dsimp only)<;>(intro ay cE;exact Bool.noConfusion ay));exact an (by(dsimp only)<;>(intro ay cE;exact Bool.noConfusion ay))
theorem aFe:∀x:U T4,(True)->aL (T3 x) (Sum.elim (λy=>x.1.1.2.2.1.1.length<=6) (λy=>y.1.1=false)):=by
 intro x aD;unfold T3;apply ah<;>intro aC<;>simp only[av] at aC;apply ah<;>intro aT<;>simp only[av] at aT;exact an gI;refine af (lk _ aY) λaB cd=> ?_;dsimp only at cd;apply ah<;>intro bJ<;>simp only[av] at bJ;exact an gI;have qz:=L.b x.1.1.2.2.1;apply ah<;>intro c7<;>simp only[av] at c7;exact an gI;apply ah<;>intro dM<;>simp only[av] at dM;exact an gI;exact an gI;refine af (lk _ aY) λaG cn=> ?_;dsimp only at cn;apply ah<;>intro fH<;>simp only[av] at fH;exact an gI;have qz:=L.b x.1.1.2.2.1;apply ah<;>intro gF<;>simp only[av] at gF;exact an gI;apply ah<;>intro iy<;>simp only[av] at iy;exact an gI;exact an gI
theorem aFh:∀x:U F3,((True)/\((0<=x.1.2.2.1.1)/\(x.1.2.2.1.1<=((x.1.2.1.2.2.1.1.length:Nat):Int))/\(ej (tv x.1.1.1) x.1.2.1.2.2.1.1 x.1.2.2.1.1)))->aL (a_ Nl x) (Sum.elim (λy=>aK (tv x.1.1.1) x.1.2.1.2.2.1.1) (λy=>y.1.1=false)):=by
 rintro x ⟨aq,aj⟩;exact cJ (λz:U F3=>∃c5,z=((x.1.1,x.1.2.1,c5,()),())/\((0<=c5.1)/\(c5.1<=((x.1.2.1.2.2.1.1.length:Nat):Int))/\(ej (tv x.1.1.1) x.1.2.1.2.2.1.1 c5.1))) (λz:U F3=>(((x.1.2.1.2.2.1.1.length:Nat):Int)-z.1.2.2.1.1).toNat) (λz ax=>by
  obtain⟨c5,rfl,aD⟩:=ax;unfold Nl;dsimp only
  obtain⟨bo,cO,bD⟩:=aD;have Qe:=L.b x.1.2.1.2.2.1;apply ah<;>intro aC<;>simp only[av] at aC;refine bk λdh gl=> ?_;refine af (lk _ aY) λbU en=> ?_;dsimp only at en;apply ah<;>intro aT<;>simp only[av] at aT;exact ba iu;apply ah<;>intro bJ<;>simp only[av] at bJ;refine af (eG dA) λdG h_=> ?_;apply ah<;>intro c7<;>simp only[av] at c7;exact ba iu;apply ah<;>intro dM<;>simp only[av] at dM;exact ba iu;apply ah<;>intro fH<;>simp only[av] at fH;exact ba iu;refine af (aht _ aY) λbV dV=> ?_;dsimp only at dV;apply ah<;>intro gF<;>simp only[av] at gF;exact ba iu;exact bG ⟨⟨_,rfl,(by(have aA:=dK c5 bo ab;refine⟨ab,ab, ?_⟩;rw[aA];refine bD.step bo gl ?_;exact⟨ab,ab,dV (by assumption)⟩))⟩,eQ⟩;apply ah<;>intro iy<;>simp only[av] at iy;exact ba iu;apply ah<;>intro kG<;>simp only[av] at kG;exact ba iu;refine af (aht _ aY) λcu eZ=> ?_;dsimp only at eZ;apply ah<;>intro m1<;>simp only[av] at m1;exact ba iu;exact bG ⟨⟨_,rfl,(by(have aA:=dK c5 bo ab;refine⟨ab,ab, ?_⟩;rw[aA];refine bD.step bo gl ?_;exact⟨ab,ab,eZ (by assumption)⟩))⟩,eQ⟩;exact ba (bD.all ab)) x ⟨_,rfl,aj⟩
theorem aFk:∀x:U ahc,(True)->aL (Nk x) (λy=>y.1.1=true->tB x.1.2.1.1 x.1.1):=by
 intro x aD;unfold Nk;apply ah<;>intro aC<;>simp only[av] at aC;apply ah<;>intro aT<;>simp only[av] at aT;exact an (by(dsimp only)<;>(intro ay;(simp only[cc,aI,b5] at ay;have bl:=oW (l:=x.1.1.2.2.1.1) ab;exact⟨ab,by rw[bl];exact aK.nil⟩)));exact an (by(dsimp only)<;>(intro ay;exact Bool.noConfusion ay));refine af (aFe _ aY) λa1 cq=> ?_;dsimp only at cq;refine dZ cq (λa2 c9=> ?_) (λbf cU=> ?_);refine af (aFh _ (by(dsimp only)<;>(exact⟨aY,bp,db,by simp only[aI];exact ej.zero⟩))) λb6 eU=> ?_;dsimp only at eU;refine dZ eU (λcS eV=> ?_) (λcG fm=> ?_);exact an (by(dsimp only)<;>(intro ay;exact⟨c9,eV⟩));exact an (by(dsimp only)<;>(intro ay;(rw[fm] at ay;exact Bool.noConfusion ay)));exact an (by(dsimp only)<;>(intro ay;(rw[cU] at ay;exact Bool.noConfusion ay)))
theorem aC8:∀x:U Fy,((x.1.1.2.1.1.length=x.1.1.2.2.1.1.length)/\((0<=x.1.2.1.1)/\(x.1.2.1.1<=((x.1.1.2.1.1.length:Nat):Int))/\(ej (λr:D [.int .i64]=>0<=r.1.1/\r.1.1<x.1.1.1.1.length) x.1.1.2.2.1.1 x.1.2.1.1)))->aL (a_ MF x) (Sum.elim (λy=>aK (λr:D [.int .i64]=>0<=r.1.1/\r.1.1<x.1.1.1.1.length) x.1.1.2.2.1.1) (λy=>y.1.1=false)):=by
 rintro x ⟨aq,aj⟩;exact cJ (λz:U Fy=>∃cZ,z=((x.1.1,cZ,()),())/\((0<=cZ.1)/\(cZ.1<=((x.1.1.2.1.1.length:Nat):Int))/\(ej (λr:D [.int .i64]=>0<=r.1.1/\r.1.1<x.1.1.1.1.length) x.1.1.2.2.1.1 cZ.1))) (λz:U Fy=>(((x.1.1.2.1.1.length:Nat):Int)-z.1.2.1.1).toNat) (λz ax=>by
  obtain⟨cZ,rfl,aD⟩:=ax;unfold MF;dsimp only
  obtain⟨bo,cO,bD⟩:=aD;have o_:=L.b x.1.1.2.1;apply ah<;>intro aC<;>simp only[av] at aC;apply ah<;>intro aT<;>simp only[av] at aT;refine af (eG (by(simp only[aI]<;>omega))) λaE cL=> ?_;refine bk λaX df=> ?_;apply ah<;>intro bJ<;>simp only[av] at bJ;exact ba iu;refine bk λbL eT=> ?_;apply ah<;>intro c7<;>simp only[av] at c7;exact ba iu;refine bk λcM fA=> ?_;rw[eT] at fA;cases fA;have xJ:=L.b x.1.1.1;apply ah<;>intro dM<;>simp only[av] at dM;exact ba iu;exact bG ⟨⟨_,rfl,(by(have aA:=dK cZ bo ab;refine⟨ab,ab, ?_⟩;rw[aA];exact bD.step bo eT ⟨ab,ab⟩))⟩,eQ⟩;refine bk λdX gj=> ?_;apply ah<;>intro fH<;>simp only[av] at fH;exact ba iu;refine bk λdh gl=> ?_;rw[gj] at gl;cases gl;have xJ:=L.b x.1.1.1;apply ah<;>intro gF<;>simp only[av] at gF;exact ba iu;exact bG ⟨⟨_,rfl,(by(have aA:=dK cZ bo ab;refine⟨ab,ab, ?_⟩;rw[aA];exact bD.step bo gj ⟨ab,ab⟩))⟩,eQ⟩;exact ba (bD.all ab)) x ⟨_,rfl,aj⟩
theorem aC':∀x:U Fz,((True)/\((0<=x.1.2.1.1)/\(x.1.2.1.1<=((x.1.1.1.1.length:Nat):Int))/\(ej (tB x.1.1.1.1.length) x.1.1.1.1 x.1.2.1.1)))->aL (a_ MG x) (Sum.elim (λy=>aK (tB x.1.1.1.1.length) x.1.1.1.1) (λy=>y.1.1=false)):=by
 rintro x ⟨aq,aj⟩;exact cJ (λz:U Fz=>∃v4,z=((x.1.1,v4,()),())/\((0<=v4.1)/\(v4.1<=((x.1.1.1.1.length:Nat):Int))/\(ej (tB x.1.1.1.1.length) x.1.1.1.1 v4.1))) (λz:U Fz=>(((x.1.1.1.1.length:Nat):Int)-z.1.2.1.1).toNat) (λz ax=>by
  obtain⟨v4,rfl,aD⟩:=ax;unfold MG;dsimp only
  obtain⟨bo,cO,bD⟩:=aD;have xJ:=L.b x.1.1.1;apply ah<;>intro aC<;>simp only[av] at aC;refine bk λee lB=> ?_;refine af (aFk _ aY) λb6 eU=> ?_;dsimp only at eU;apply ah<;>intro aT<;>simp only[av] at aT;exact ba iu;exact bG ⟨⟨_,rfl,(by(have aA:=dK v4 bo ab;refine⟨ab,ab, ?_⟩;rw[aA];exact bD.step bo lB (eU aT)))⟩,eQ⟩;exact ba (bD.all ab)) x ⟨_,rfl,aj⟩
theorem TL:∀x:U agv,(True)->aL (AB x) (λy=>y.1.1=true->qO x.1.1):=by
 intro x aD;unfold AB;have xJ:=L.b x.1.1.1;apply ah<;>intro aC<;>simp only[av] at aC;exact an (by(dsimp only)<;>(intro ay;exact Bool.noConfusion ay));have o_:=L.b x.1.1.2.1;have qz:=L.b x.1.1.2.2.1;apply ah<;>intro aT<;>simp only[av] at aT;exact an (by(dsimp only)<;>(intro ay;exact Bool.noConfusion ay));refine af (aC8 _ (by(dsimp only)<;>(exact⟨ab,bp,db,by simp only[aI];exact ej.zero⟩))) λbU en=> ?_;dsimp only at en;refine dZ en (λcD eY=> ?_) (λbV dV=> ?_);refine af (aC' _ (by(dsimp only)<;>(exact⟨ab,bp,db,by simp only[aI];exact ej.zero⟩))) λcS eV=> ?_;dsimp only at eV;refine dZ eV (λcG fm=> ?_) (λev ji=> ?_);exact an (by(dsimp only)<;>(intro ay;exact⟨ab,eY,fm⟩));exact an (by(dsimp only)<;>(intro ay;(rw[ji] at ay;exact Bool.noConfusion ay)));exact an (by(dsimp only)<;>(intro ay;(rw[dV] at ay;exact Bool.noConfusion ay)))
theorem TT:∀x:U agM,(True)->aL (AE x) (λy=>y.1.1.1.1=5->qO x.1.1/\0<=y.1.1.2.1.1/\y.1.1.2.1.1<x.1.1.1.1.length):=by
 intro x aD;unfold AE;apply ah<;>intro aC<;>simp only[av] at aC;refine af (TL _ aY) λaB cd=> ?_;dsimp only at cd;apply ah<;>intro aT<;>simp only[av] at aT;exact an (by(dsimp only)<;>(intro ay;(simp only[aI] at ay<;>omega)));refine af (T6 _ aY) λaG cn=> ?_;dsimp only at cn;exact an (by(dsimp only)<;>(intro ay;(obtain⟨cm,j,cF⟩:=cn ay;have ai:=cd aT;exact⟨ai,ai.rs _ _ cF⟩)));refine af (T6 _ aY) λa1 cq=> ?_;dsimp only at cq;exact an (by(dsimp only)<;>(intro ay;(obtain⟨cm,j,cF⟩:=cq ay;omega)))
theorem aEp:∀x:U FT,((True)/\((0<=x.1.2.2.1.1)/\(x.1.2.2.1.1<=((x.1.2.1.2.2.1.1.length:Nat):Int))/\(ej (λe:D k1=>e.1≠x.1.1) x.1.2.1.2.2.1.1 x.1.2.2.1.1)))->aL (a_ M4 x) (Sum.elim (λy=>aK (λe:D k1=>e.1≠x.1.1) x.1.2.1.2.2.1.1) (λy=>0<=y.1.1.1/\y.1.1.1<x.1.2.1.2.2.1.1.length/\wT x.1.2.1 x.1.1)):=by
 rintro x ⟨aq,aj⟩;exact cJ (λz:U FT=>∃c5,z=((x.1.1,x.1.2.1,c5,()),())/\((0<=c5.1)/\(c5.1<=((x.1.2.1.2.2.1.1.length:Nat):Int))/\(ej (λe:D k1=>e.1≠x.1.1) x.1.2.1.2.2.1.1 c5.1))) (λz:U FT=>(((x.1.2.1.2.2.1.1.length:Nat):Int)-z.1.2.2.1.1).toNat) (λz ax=>by
  obtain⟨c5,rfl,aD⟩:=ax;unfold M4;dsimp only
  obtain⟨bo,cO,bD⟩:=aD;have Qe:=L.b x.1.2.1.2.2.1;apply ah<;>intro aC<;>simp only[av] at aC;refine bk λaE cL=> ?_;apply ah<;>intro aT<;>simp only[av] at aT;exact ba ⟨ab,ab,_,_,cL,aT⟩;exact bG ⟨⟨_,rfl,(by(have aA:=dK c5 bo ab;refine⟨ab,ab, ?_⟩;rw[aA];exact bD.step bo cL aT))⟩,eQ⟩;exact ba (bD.all ab)) x ⟨_,rfl,aj⟩
theorem T1:∀x:U agV,(True)->aL (AG x) (λy=>-1<=y.1.1.1/\y.1.1.1<x.1.1.2.2.1.1.length/\(wT x.1.1 x.1.2.1->0<=y.1.1.1)/\(0<=y.1.1.1->wT x.1.1 x.1.2.1)):=by
 intro x aD;unfold AG;refine af (aEp _ (by(dsimp only)<;>(exact⟨aY,bp,db,by simp only[aI];exact ej.zero⟩))) λaG cn=> ?_;dsimp only at cn;refine dZ cn (λa1 cq=> ?_) (λa2 c9=> ?_);exact an (by(dsimp only)<;>(exact⟨bp,db,λ⟨j,e,cm,cF⟩=>absurd cF (cq _ _ cm),λq=>by simp only[aI] at q<;>omega⟩));exact an (by(dsimp only)<;>(exact⟨ab,c9.2.1,λ_=>c9.1,λ_=>c9.2.2⟩))
theorem aEf:∀x:U TY,(True)->aL (TX x) (λy=>(y.2.1=x.1.1/\y.2.2.1=x.1.2.1)\/(y.2.1=x.2.1/\y.2.2.1=x.2.2.1)):=by
 intro x aD;unfold TX;apply ah<;>intro aC<;>simp only[av] at aC;exact an (.inl ⟨rfl,rfl⟩);exact an (.inr ⟨rfl,rfl⟩)
theorem aEg (n:Int):∀x:U T0,(x.1.2.1.1.length<=1000/\aK (mP n) x.1.2.1.1/\tv n x.1.2.2.1/\tv n x.1.2.2.2.1/\x.1.2.2.1.2.1.1=x.1.2.2.2.1.2.1.1)->aL (TZ x) (λy=>y.1.1.1.length<=x.1.2.1.1.length+1/\aK (mP n) y.1.1.1):=by
 intro x aD;unfold TZ;obtain⟨aa,ae,az,a9,cE⟩:=aD;apply ah<;>intro aC<;>simp only[av] at aC;apply ah<;>intro aT<;>simp only[av] at aT;refine af (dv dA) λu7 B_=> ?_;exact an (by(dsimp only[Sum.elim])<;>(refine⟨by have:=B_.2;simp only[b5] at this;omega, ?_⟩;rw[B_.1];have cm:=az.2.2 aC;have cF:=a9.2.2 (by rw[<-cE];exact aC);exact ae.append (aK.one ⟨cF.1,cF.2,cm.1,cm.2⟩)));exact an (by(dsimp only[Sum.elim])<;>(exact⟨ab,ae⟩));exact an (by(dsimp only[Sum.elim])<;>(exact⟨ab,ae⟩))
theorem aEj (n:Int):∀x:U FR,((tB n x.1.1/\tB n x.1.2.1/\x.2.1.2.2.1.1.length<=6/\x.1.2.2.2.2.1.1.length=0/\x.1.2.2.2.2.2.1.1=0/\((x.2.1=x.1.1/\x.2.2.1=x.1.2.1)\/(x.2.1=x.1.2.1/\x.2.2.1=x.1.1)))/\((0<=x.1.2.2.2.2.2.1.1)/\(x.1.2.2.2.2.2.1.1<=((x.2.1.2.2.1.1.length:Nat):Int))/\(x.1.2.2.2.2.1.1.length<=3*x.1.2.2.2.2.2.1.1/\aK (mP n) x.1.2.2.2.2.1.1)))->aL (a_ M3 x) (Sum.elim (λy=>y.1.1.1.length<=18/\aK (mP n) y.1.1.1) (λy=>True)):=by
 rintro x ⟨aq,aj⟩;exact cJ (λz:U FR=>∃eH,∃kK,z=((x.1.1,x.1.2.1,(),(),eH,kK,()),((x.2.1.1,x.2.1.2.1,x.2.1.2.2.1,()),x.2.2.1,(),()))/\((0<=kK.1)/\(kK.1<=((x.2.1.2.2.1.1.length:Nat):Int))/\(eH.1.length<=3*kK.1/\aK (mP n) eH.1))) (λz:U FR=>(((x.2.1.2.2.1.1.length:Nat):Int)-z.1.2.2.2.2.2.1.1).toNat) (λz ax=>by
  obtain⟨eH,kK,rfl,aD⟩:=ax;unfold M3;dsimp only
  obtain⟨bo,cO,bD,cz⟩:=aD;obtain⟨cN,dq,eJ,iD,lu,my⟩:=aq;have amE:=L.b x.2.1.2.2.1;apply ah<;>intro aC<;>simp only[av] at aC;refine bk λcM fA=> ?_;refine af (T1 _ aY) λbf cU=> ?_;dsimp only at cU;apply ah<;>intro aT<;>simp only[av] at aT;exact ba cw;refine bk λdh gl=> ?_;rw[fA] at gl;cases gl;have fB:=ajJ my ⟨_,_,fA,rfl⟩ (cU.2.2.2 ab);refine af (T1 _ aY) λbU en=> ?_;dsimp only at en;have pj:=en.2.2.1 fB.1;have aKp:=en.2.1;refine bk λdG h_=> ?_;have kP:=cN.2 _ _ h_;refine bk λeK kr=> ?_;rw[fA] at kr;cases kr;refine af (T1 _ aY) λcu eZ=> ?_;dsimp only at eZ;have YV:=eZ.2.2.1 fB.2;have aKo:=eZ.2.1;refine bk λgk mB=> ?_;have vJ:=dq.2 _ _ mB;apply ah<;>intro bJ<;>simp only[av] at bJ;exact ba cw;refine af (aEg (n) _ (by(dsimp only)<;>(exact⟨ab,cz,kP,vJ,bJ⟩))) λcG fm=> ?_;dsimp only at fm;obtain⟨d1,d2⟩:=fm;apply ah<;>intro c7<;>simp only[av] at c7;apply ah<;>intro dM<;>simp only[av] at dM;refine af (dv (by(simp only[b5]<;>omega))) λsZ xH=> ?_;have aor:=xH.2;simp only[b5] at aor;have aqB:aK (mP n) sZ.1:=by rw[xH.1];have cm:=kP.2.2 c7;have cF:=vJ.2.2 (by rw[<-bJ];exact c7);exact d2.append (aK.one ⟨cm.1,cm.2,cF.1,cF.2⟩)
  refine af (dv (by(simp only[b5]<;>omega))) λpn rV=> ?_;have aos:=rV.2;simp only[b5] at aos;have aqC:aK (mP n) pn.1:=by rw[rV.1];exact aqB.append (aK.one ⟨kP.1,kP.2.1,vJ.1,vJ.2.1⟩)
  exact bG ⟨⟨_,_,rfl,(by(exact⟨db,db,by simp only[aI]<;>omega,aqC⟩))⟩,eQ⟩;refine af (dv (by(simp only[b5]<;>omega))) λQL X1=> ?_;have aot:=X1.2;simp only[b5] at aot;have aqD:aK (mP n) QL.1:=by rw[X1.1];exact d2.append (aK.one ⟨kP.1,kP.2.1,vJ.1,vJ.2.1⟩)
  exact bG ⟨⟨_,_,rfl,(by(exact⟨db,db,by simp only[aI]<;>omega,aqD⟩))⟩,eQ⟩;refine af (dv (by(simp only[b5]<;>omega))) λQM X2=> ?_;have aou:=X2.2;simp only[b5] at aou;have aqE:aK (mP n) QM.1:=by rw[X2.1];exact d2.append (aK.one ⟨kP.1,kP.2.1,vJ.1,vJ.2.1⟩)
  exact bG ⟨⟨_,_,rfl,(by(exact⟨db,db,by simp only[aI]<;>omega,aqE⟩))⟩,eQ⟩;exact ba (by(dsimp only[Sum.elim])<;>(exact⟨ab,cz⟩))) x ⟨_,_,rfl,aj⟩
theorem aEm:∀x:U agT,(qO x.1.1/\0<=x.1.2.1.1/\x.1.2.1.1<x.1.1.1.1.length/\0<=x.1.2.2.1.1/\x.1.2.2.1.1<x.1.1.1.1.length)->aL (M1 x) (λy=>y.1.1.1.length<=18/\aK (mP x.1.1.1.1.length) y.1.1.1):=by
 intro x aD;unfold M1;obtain⟨gP,aa,ae,az,a9⟩:=aD;refine bk λaE cL=> ?_;have cR:=gP.Rp _ _ cL;refine bk λaX df=> ?_;have fg:=gP.Rp _ _ df;apply ah<;>intro aC<;>simp only[av] at aC;exact an (by(dsimp only)<;>(exact⟨bp,aK.nil⟩));apply ah<;>intro aT<;>simp only[av] at aT;exact an (by(dsimp only)<;>(exact⟨bp,aK.nil⟩));refine af (aEf _ fW) λa1 cq=> ?_;dsimp only at cq;have lX:a1.2.1.2.2.1.1.length<=6:=by
  rcases cq with⟨q,_⟩|⟨q,_⟩<;>rw[q];exact cR.1;exact fg.1
 refine af (aEj (x.1.1.1.1.length) _ (by(dsimp only)<;>(exact⟨⟨cR,fg,lX,rfl,by simp only[aI]<;>rfl,cq⟩,bp,db,bp,aK.nil⟩))) λe4 kv=> ?_;dsimp only at kv;refine dZ kv (λfI jP=> ?_) (λga kI=> ?_);exact an (by(dsimp only)<;>(exact jP));exact an (by(dsimp only)<;>(exact⟨bp,aK.nil⟩))
theorem aES:∀x:U FY,((True)/\((0<=x.1.2.2.1.1)/\(x.1.2.2.1.1<=((x.1.1.1.length:Nat):Int))/\(ej (λe:D ir=>¬(e.1.1=x.1.2.1.1.1/\e.2.1.1=x.1.2.1.2.1.1)) x.1.1.1 x.1.2.2.1.1)))->aL (a_ Nc x) (Sum.elim (λy=>aK (λe:D ir=>¬(e.1.1=x.1.2.1.1.1/\e.2.1.1=x.1.2.1.2.1.1)) x.1.1.1) (λy=>y.1.1=true)):=by
 rintro x ⟨aq,aj⟩;exact cJ (λz:U FY=>∃c5,z=((x.1.1,x.1.2.1,c5,()),())/\((0<=c5.1)/\(c5.1<=((x.1.1.1.length:Nat):Int))/\(ej (λe:D ir=>¬(e.1.1=x.1.2.1.1.1/\e.2.1.1=x.1.2.1.2.1.1)) x.1.1.1 c5.1))) (λz:U FY=>(((x.1.1.1.length:Nat):Int)-z.1.2.2.1.1).toNat) (λz ax=>by
  obtain⟨c5,rfl,aD⟩:=ax;unfold Nc;dsimp only
  obtain⟨bo,cO,bD⟩:=aD;have jZ:=L.b x.1.1;apply ah<;>intro aC<;>simp only[av] at aC;refine bk λaE cL=> ?_;apply ah<;>intro aT<;>simp only[av] at aT;exact ba iu;exact bG ⟨⟨_,rfl,(by(have aA:=dK c5 bo ab;refine⟨ab,ab, ?_⟩;rw[aA];exact bD.step bo cL (λq=>by simp only[q.1,q.2,decide_true,true_implies,implies_true,not_true_eq_false] at aT<;>simp at aT)))⟩,eQ⟩;exact ba (bD.all ab)) x ⟨_,rfl,aj⟩
theorem aEV:∀x:U ag2,(True)->aL (Nb x) (λy=>y.1.1=false->aK (λe:D ir=>¬(e.1.1=x.1.2.1.1.1/\e.2.1.1=x.1.2.1.2.1.1)) x.1.1.1):=by
 intro x aD;unfold Nb;refine af (aES _ (by(dsimp only)<;>(exact⟨aY,bp,db,by simp only[aI];exact ej.zero⟩))) λaG cn=> ?_;dsimp only at cn;refine dZ cn (λa1 cq=> ?_) (λa2 c9=> ?_);exact an (by(dsimp only)<;>(intro ay;exact cq));exact an (by(dsimp only)<;>(intro ay;(rw[c9] at ay;exact Bool.noConfusion ay)))
theorem aDL (n:Int):∀x:U FJ,((n<=400/\aK (mP n) x.1.2.1.1)/\((0<=x.1.2.2.1.1)/\(x.1.2.2.1.1<=((x.1.2.1.1.length:Nat):Int))/\(aK (mP n) x.1.1.1/\lp vj x.1.1.1)))->aL (a_ MS x) (λy=>aK (mP n) y.1.1.1/\lp vj y.1.1.1):=by
 rintro x ⟨aq,aj⟩;exact cJ (λz:U FJ=>∃dj,∃eH,z=((dj,x.1.2.1,eH,()),((),()))/\((0<=eH.1)/\(eH.1<=((x.1.2.1.1.length:Nat):Int))/\(aK (mP n) dj.1/\lp vj dj.1))) (λz:U FJ=>(((x.1.2.1.1.length:Nat):Int)-z.1.2.2.1.1).toNat) (λz ax=>by
  obtain⟨dj,eH,rfl,aD⟩:=ax;unfold MS;dsimp only
  obtain⟨bo,cO,bD,cz⟩:=aD;have Ce:=adi aq.1 cz bD;have lR:=L.b x.1.2.1;apply ah<;>intro aC<;>simp only[av] at aC;refine bk λdX gj=> ?_;have oV:=aq.2 _ _ gj;refine af (aEV _ aY) λbO dB=> ?_;dsimp only at dB;apply ah<;>intro aT<;>simp only[av] at aT;refine bk λfD jO=> ?_;rw[gj] at jO;cases jO;refine af (dv (by(simp only[b5]<;>omega))) λjA oy=> ?_;have gn:aK (mP n) jA.1:=by rw[oy.1];exact bD.append (aK.one oV)
  have dg:lp vj jA.1:=by
   rw[oy.1];refine cz.add λk e he=> ?_;have cR:=bD _ _ he;have fg:=dB aT _ _ he;have hJ:=aq.1;unfold mP at cR oV;unfold vj;dsimp only at fg⊢;omega
  exact bG ⟨⟨_,_,rfl,(by(exact⟨db,db,gn,dg⟩))⟩,eQ⟩;exact bG ⟨⟨_,_,rfl,(by(exact⟨db,db,bD,cz⟩))⟩,eQ⟩;exact ba ⟨bD,cz⟩) x ⟨_,_,rfl,aj⟩
theorem aDI:∀x:U FI,((qO x.1.1)/\((0<=x.1.2.2.1.1)/\(aK (mP x.1.1.1.1.length) x.1.2.1.1/\lp vj x.1.2.1.1)))->aL (a_ MR x) (Sum.elim (λy=>True) (λy=>y.1.2.1=false)):=by
 rintro x ⟨aq,aj⟩;exact cJ (λz:U FI=>∃dj,∃fx,z=((x.1.1,dj,fx,()),((),()))/\((0<=fx.1)/\(aK (mP x.1.1.1.1.length) dj.1/\lp vj dj.1))) (λz:U FI=>(160000-z.1.2.2.1.1).toNat) (λz ax=>by
  obtain⟨dj,fx,rfl,aD⟩:=ax;unfold MR;dsimp only
  obtain⟨bo,cO,bD⟩:=aD;have aA:=aq.n;have Ce:=adi ab bD cO;have aJI:=L.b dj;apply ah<;>intro aC<;>simp only[av] at aC;refine bk λaX df=> ?_;have dc:=cO _ _ df;refine bk λbL eT=> ?_;rw[df] at eT;cases eT;refine af (aEm _ (by(dsimp only)<;>(exact⟨aq,dc⟩))) λa2 c9=> ?_;dsimp only at c9;apply ah<;>intro aT<;>simp only[av] at aT;exact ba cw;refine af (aDL (x.1.1.1.1.length) _ (by(dsimp only)<;>(exact⟨⟨ab,c9.2⟩,bp,db,cO,bD⟩))) λbV dV=> ?_;dsimp only at dV;exact bG ⟨⟨_,_,rfl,(by(exact⟨db,dV.1,dV.2⟩))⟩,eQ⟩;exact ba cw) x ⟨_,_,rfl,aj⟩
theorem aDO:∀x:U agF,(True)->aL (MQ x) (λy=>y.1.2.1=true->qO x.1.1/\0<=x.1.2.1.1/\x.1.2.1.1<x.1.1.1.1.length/\0<=x.1.2.2.1.1/\x.1.2.2.1.1<x.1.1.1.1.length):=by
 intro x aD;unfold MQ;refine af (TL _ aY) λaB cd=> ?_;dsimp only at cd;apply ah<;>intro aC<;>simp only[av] at aC;exact an (by(dsimp only)<;>(intro ay;exact Bool.noConfusion ay));apply ah<;>intro aT<;>simp only[av] at aT;exact an (by(dsimp only)<;>(intro ay;exact Bool.noConfusion ay));have xJ:=L.b x.1.1.1;apply ah<;>intro bJ<;>simp only[av] at bJ;exact an (by(dsimp only)<;>(intro ay;exact Bool.noConfusion ay));apply ah<;>intro c7<;>simp only[av] at c7;exact an (by(dsimp only)<;>(intro ay;exact Bool.noConfusion ay));apply ah<;>intro dM<;>simp only[av] at dM;exact an (by(dsimp only)<;>(intro ay;exact Bool.noConfusion ay));refine af (aDI _ (by(dsimp only)<;>(exact⟨cd aC,bp,by rw[fT (by simp)];exact aK.one ⟨by dsimp only;omega,by dsimp only;omega,by dsimp only;omega,by dsimp only;omega⟩,by rw[fT (by simp)];exact lp.one _⟩))) λcu eZ=> ?_;dsimp only at eZ;refine dZ eZ (λb6 eU=> ?_) (λcS eV=> ?_);exact an (by(dsimp only)<;>(intro ay;exact⟨cd aC,ab,ab,ab,ab⟩));exact an (by(dsimp only)<;>(intro ay;(rw[eV] at ay;exact Bool.noConfusion ay)))
theorem TW:∀x:U agQ,(True)->aL (AF x) (λy=>y.1.1=true->qO x.1.1/\0<=x.1.2.1.1/\x.1.2.1.1<x.1.1.1.1.length/\0<=x.1.2.2.1.1/\x.1.2.2.1.1<x.1.1.1.1.length):=by
 intro x aD;unfold AF;refine af (aDO _ aY) λaB cd=> ?_;dsimp only at cd;exact an cd
theorem agL:∀x:U agK,(True)->aL (FN x) (λy=>(y.1.2.1=true->qO x.1.1/\0<=y.1.1.1/\y.1.1.1<x.1.1.1.1.length)/\(y.1.2.1=false->y.1.1.1=0)):=by
 intro x aD;unfold FN;refine af (TL _ aY) λaB cd=> ?_;dsimp only at cd;apply ah<;>intro aC<;>simp only[av] at aC;exact an ⟨λq=>Bool.noConfusion q,λ_=>rfl⟩;refine af (ahp _ aY) λaG cn=> ?_;dsimp only at cn;exact an ⟨λay=>by obtain⟨j,cF⟩:=cn.1 ay;have ai:=cd aC;exact⟨ai,ai.rs _ _ cF⟩,cn.2⟩
def sN (k:Int):Bool:=decide (k=0)||decide (k=3)||decide (k=5)||decide (k=6)||decide (k=10)
def s8 (l:List (D mu)):List (D [.int .i64]):=l.map λw=>(w.2.2.1,())
def fF (s:D bz):List (D [.int .i64]):=s8 s.2.2.2.2.2.2.2.2.1.1++(if sN s.1.1 then[] else[(s.2.2.2.2.2.2.2.2.2.1,())])
theorem GU {α:Type} {l:List α} {i:Int} {e:α} (bl:0<=i) (h:l[i.toNat]? =some e):l.take (i+1).toNat=l.take i.toNat++[e]:=by
 have:(i+1).toNat=i.toNat+1:=ab;rw[this,List.take_add_one,h];rfl
theorem GS {α:Type} {l:List α} {i:Int} (h:(l.length:Int)<=i):l.take i.toNat=l:=List.take_of_length_le ab
theorem aq0 (l:List (D mu)):(s8 l).length=l.length:=List.length_map ..
theorem Rq (s:D bz):(fF s).length<=s.2.2.2.2.2.2.2.2.1.1.length+1:=by
 unfold fF;rw[bY,aq0];split<;>simp
theorem DC {α:Type} {o:Option α} {P:α->Prop} (h:aL o P):aL o (λy=>o=some y/\P y):=by
 obtain⟨y,aa,ae⟩:=h;exact⟨y,aa,aa,ae⟩
def oT (st:List (D bz)) (a k:Nat) (j:Int):Prop:=∃s e,st[a]? =some s/\(fF s)[k]? =some e/\e.1.1=j/\(a:Int)<j
structure ko (st:List (D bz)) (Q:Nat->Nat->Prop) (m:Int) (up seen:List (D [.int .i64])):Prop where
  dC:up.length=st.length
  eo:seen.length=st.length
  lt:∀(j:Nat) (v:D [.int .i64]),up[j]? =some v->v.1.1<j
  ue:∀(j:Nat) (v:D [.int .i64]),seen[j]? =some v->0<=v.1.1/\v.1.1<=m
  qg:∀(j:Nat) (v:D [.int .i64]),seen[j]? =some v->v.1.1=0->∀a k,Q a k->¬oT st a k j
  s1:∀(j:Nat) (v:D [.int .i64]),seen[j]? =some v->v.1.1<=1->∀a k cY cj,Q a k->oT st a k j->Q cY cj->oT st cY cj j->a=cY/\k=cj
  UB:∀(j:Nat) (u v:D [.int .i64]),up[j]? =some u->seen[j]? =some v->0<=u.1.1->v.1.1<=1
def ig (a k:Nat) (cY cj:Nat):Prop:=cY<a\/(cY=a/\cj<k)
theorem ko.imp {st Q Vr m m' up seen} (h:ko st Q m up seen) (hm:m<=m') (ay:∀a k (j:Nat),j<st.length->Vr a k->oT st a k j->Q a k):ko st Vr m' up seen:=by
 have bK:∀(j:Nat) (v:D [.int .i64]),seen[j]? =some v->j<st.length:=λj v aM=>by
  have:=(ed.1 aM).1;rw[h.eo] at this;exact this
 refine⟨h.dC,h.eo,h.lt,λj v aM=> ?_,λj v aM bl a k fc aA=>h.qg j v aM bl a k (ay a k j (bK j v aM) fc aA) aA,λj v aM aa a k cY cj fc aA alL sR=>h.s1 j v aM aa a k cY cj (ay a k j (bK j v aM) fc aA) aA (ay cY cj j (bK j v aM) alL sR) sR,h.UB⟩;have:=h.ue j v aM;omega
theorem oT.val {st:List (D bz)} {a k:Nat} {j:Int} (h:oT st a k j) {s e} (aU:st[a]? =some s) (he:(fF s)[k]? =some e):e.1.1=j:=by
 obtain⟨ep,e',aa,ae,az,_⟩:=h;rw[aU] at aa;cases aa;rw[he] at ae;cases ae;exact az
theorem ko.skip {st a k m up seen s e} (h:ko st (ig a k) m up seen) (aU:st[a]? =some s) (he:(fF s)[k]? =some e) (aA:e.1.1<=a\/(st.length:Int)<=e.1.1):ko st (ig a (k+1)) m up seen:=
 h.imp (Int.le_refl _) λcY cj j au fc aV=>by
  rcases fc with q|⟨rfl,q⟩;exact .inl q;by_cases aP:cj<k;exact .inr ⟨rfl,aP⟩;have aP:cj=k:=ab;subst aP;have aM:=aV.val aU he;obtain⟨_,_,_,_,_,bK⟩:=aV;omega
theorem ko.put {st a k m up seen s e} {Oo N':List (D [.int .i64])} {i:Nat} {c:Int} (h:ko st (ig a k) m up seen) (aU:st[a]? =some s) (he:(fF s)[k]? =some e) (aj:e.1.1=i) (bW:a<i)
 (a3:Oo.length=up.length) (k8:N'.length=seen.length) (aq:∀v,seen[i]? =some v->v.1.1=c) (aa:∀j,j≠i->Oo[j]? =up[j]?) (ae:∀j,j≠i->N'[j]? =seen[j]?) (ax:∃v,seen[i]? =some v)
 (hu:∀u,Oo[i]? =some u->u.1.1<i/\(0<=u.1.1->c+1<=1)) (aM:∀v,N'[i]? =some v->v.1.1=c+1):ko st (ig a (k+1)) (m+1) Oo N':=by
 obtain⟨v0,It⟩:=ax;have zz:=h.ue i v0 It;rw[aq v0 It] at zz;have cut:∀cY cj (j:Nat),j≠i->ig a (k+1) cY cj->oT st cY cj j->ig a k cY cj:=λcY cj j au fc aV=>by
  rcases fc with q|⟨rfl,q⟩;exact .inl q;by_cases aP:cj<k;exact .inr ⟨rfl,aP⟩;have aP:cj=k:=ab;subst aP;have:=aV.val aU he;omega
 refine⟨a3.trans h.dC,k8.trans h.eo,λj v au=> ?_,λj v au=> ?_,λj v au bl cY cj fc aV=> ?_,λj v au amk dE bq dc bE HZ tS Xl mD=> ?_,λj u v au lE bl=> ?_⟩;by_cases iE:j=i;subst iE;exact(hu v au).1;rw[aa j iE] at au;exact h.lt j v au;by_cases iE:j=i;subst iE;have:=aM v au;omega;rw[ae j iE] at au;have:=h.ue j v au;omega;by_cases iE:j=i;subst iE;have:=aM v au;omega;rw[ae j iE] at au;exact h.qg j v au bl cY cj (cut cY cj j iE fc aV) aV;by_cases iE:j=i;subst iE;have rY:=aM v au;have ax:=h.qg j v0 It (by rw[aq v0 It];omega);have key:∀cY cj,ig a (k+1) cY cj->oT st cY cj j->cY=a/\cj=k:=λcY cj fc aV=>by
  by_cases ai:ig a k cY cj;exact absurd aV (ax cY cj ai);unfold ig at fc ai;omega
 have cm:=key _ _ HZ tS;have cF:=key _ _ Xl mD;omega;rw[ae j iE] at au;exact h.s1 j v au amk dE bq dc bE (cut _ _ j iE HZ tS) tS (cut _ _ j iE Xl mD) mD;by_cases iE:j=i;subst iE;have:=aM v lE;have:=(hu u au).2 bl;omega;rw[aa j iE] at au;rw[ae j iE] at lE;exact h.UB j u v au lE bl
theorem ko.row {st a k m up seen s} (h:ko st (ig a k) m up seen) (aU:st[a]? =some s) (aP:(fF s).length<=k):ko st (ig (a+1) 0) m up seen:=
 h.imp (Int.le_refl _) λcY cj j au fc aV=>by
  unfold ig at fc⊢;by_cases bW:cY=a;subst bW;refine .inr ⟨rfl, ?_⟩;obtain⟨ep,e',cm,cF,_⟩:=aV;rw[aU] at cm;cases cm;have:=(ed.1 cF).1;omega;omega
structure y4 (st:List (D bz)) (up:List (D [.int .i64])):Prop where
  l:up.length=st.length
  lt:∀(j:Nat) (v:D [.int .i64]),up[j]? =some v->v.1.1<j
  u:∀(j:Nat) (v:D [.int .i64]),up[j]? =some v->0<=v.1.1->∀a k cY cj,oT st a k j->oT st cY cj j->a=cY/\k=cj
theorem ko.done {st a m up seen} (h:ko st (ig a 0) m up seen) (bW:st.length<=a):y4 st up:=by
 refine⟨h.dC,h.lt,λj u au bl dE bq dc bE tS mD=> ?_⟩;have bK:=(ed.1 au).1;have ay:∀cY cj,oT st cY cj j->ig a 0 cY cj:=λcY cj aV=>by
  obtain⟨ep,e',cm,_⟩:=aV;have:=(ed.1 cm).1;exact .inl ab
 have lE:j<seen.length:=by rw[h.eo,<-h.dC];exact bK
 have aU:=e_ lE;exact h.s1 j _ aU (h.UB j _ _ au aU bl) dE bq dc bE (ay _ _ tS) tS (ay _ _ mD) mD
theorem aK.set {α:Type} {P:α->Prop} {l:List α} (h:aK P l) {a:α} (bW:P a) (i:Nat):aK P (l.set i a):=λj e he=>by
 by_cases au:i=j;subst au;have bK:=(ed.1 he).1;rw[List.length_set] at bK;rw[List.getElem?_set_self bK] at he;cases he;exact bW;rw[l9 au] at he;exact h j e he
theorem ko.start {st up seen} (dC:up.length=st.length) (eo:seen.length=st.length) (Qw:∀(j:Nat) (v:D [.int .i64]),up[j]? =some v->v.1.1<j) (ax:aK (λv:D [.int .i64]=>v.1.1=0) seen):ko st (ig 0 0) 0 up seen:=by
 refine⟨dC,eo,Qw,λj v aM=> ?_,λj v aM _ a k fc=> ?_,λj v aM _ a k cY cj fc=> ?_,λj u v _ aM _=> ?_⟩;have:=ax _ _ aM;omega;unfold ig at fc;omega;unfold ig at fc;omega;have:=ax _ _ aM;omega
theorem ko.au5 {st k m s e} {up seen:L (D [.int .i64])} {c:D [.int .i64]} {i:aO .i64} (h:ko st (ig i.1.toNat k) m up.1 seen.1) (rS:0<=i.1) (aU:st[i.1.toNat]? =some s) (he:(fF s)[k]? =some e) (bW:i.1<e.1.1) (a3:e.1.1<up.1.length) (aq:seen.1[e.1.1.toNat]? =some c) (hm:m<=1000000000000)
 (aa:¬1<(bg c.1 (W 1)).1):ko st (ig i.1.toNat (k+1)) (m+1) (ec up e.1.1.toNat (i,())).1 (ec seen e.1.1.toNat (bg c.1 (W 1),())).1:=by
 have ai:=h.ue _ _ aq;have aA:=dK c.1 ai.1 ab;have bK:=(ed.1 aq).1;have Cf:e.1.1.toNat<up.1.length:=ab;refine h.put (i:=e.1.1.toNat) (c:=c.1.1) aU he ab ab (by simp[ec]) (by simp[ec]) (λv aM=>by rw[aq] at aM;cases aM;rfl) (λj au=> ?_) (λj au=> ?_) ⟨_,aq⟩ (λu hu=> ?_) (λv aM=> ?_);exact l9 ab;exact l9 ab;have hu:(up.1.set e.1.1.toNat (i,()))[e.1.1.toNat]? =some u:=hu;rw[List.getElem?_set_self Cf] at hu;cases hu;dsimp only
 omega;have aM:(seen.1.set e.1.1.toNat (bg c.1 (W 1),()))[e.1.1.toNat]? =some v:=aM;rw[List.getElem?_set_self bK] at aM;cases aM;exact aA
theorem ko.au6 {st k m s e} {up seen:L (D [.int .i64])} {c:D [.int .i64]} {i:aO .i64} (h:ko st (ig i.1.toNat k) m up.1 seen.1) (rS:0<=i.1) (aU:st[i.1.toNat]? =some s) (he:(fF s)[k]? =some e) (bW:i.1<e.1.1) (a3:e.1.1<up.1.length) (aq:seen.1[e.1.1.toNat]? =some c) (hm:m<=1000000000000):
 ko st (ig i.1.toNat (k+1)) (m+1) (ec (ec up e.1.1.toNat (i,())) e.1.1.toNat (W (-2),())).1 (ec seen e.1.1.toNat (bg c.1 (W 1),())).1:=by
 have ai:=h.ue _ _ aq;have aA:=dK c.1 ai.1 ab;have bK:=(ed.1 aq).1;have Cf:e.1.1.toNat<(up.1.set e.1.1.toNat (i,())).length:=by rw[List.length_set];omega
 refine h.put (i:=e.1.1.toNat) (c:=c.1.1) aU he ab ab (by simp[ec]) (by simp[ec]) (λv aM=>by rw[aq] at aM;cases aM;rfl) (λj au=> ?_) (λj au=> ?_) ⟨_,aq⟩ (λu hu=> ?_) (λv aM=> ?_);exact(l9 ab).trans (l9 ab);exact l9 ab;have hu:((up.1.set e.1.1.toNat (i,())).set e.1.1.toNat (W (-2),()))[e.1.1.toNat]? =some u:=hu;rw[List.getElem?_set_self Cf] at hu;cases hu;have:(W (-2)).1=-2:=rfl;dsimp only
 omega;have aM:(seen.1.set e.1.1.toNat (bg c.1 (W 1),()))[e.1.1.toNat]? =some v:=aM;rw[List.getElem?_set_self bK] at aM;cases aM;exact aA
theorem nX:∀x:U aek,(True)->aL (mI x) (λy=>y.1.1.1=x.1.1):=by
 intro x aD;unfold mI;exact an rfl
theorem axC:∀x:U Ej,((True)/\((0<=x.1.2.1.1)/\(x.1.2.1.1<=((x.1.1.2.1.1.length:Nat):Int))/\(ej (λr:D dJ=>r.2.2.1.1.size<=25) x.1.1.2.1.1 x.1.2.1.1)))->aL (a_ K8 x) (Sum.elim (λy=>aK (λr:D dJ=>r.2.2.1.1.size<=25) x.1.1.2.1.1) (λy=>y.1.1=false)):=by
 rintro x ⟨aq,aj⟩;exact cJ (λz:U Ej=>∃cZ,z=((x.1.1,cZ,()),())/\((0<=cZ.1)/\(cZ.1<=((x.1.1.2.1.1.length:Nat):Int))/\(ej (λr:D dJ=>r.2.2.1.1.size<=25) x.1.1.2.1.1 cZ.1))) (λz:U Ej=>(((x.1.1.2.1.1.length:Nat):Int)-z.1.2.1.1).toNat) (λz ax=>by
  obtain⟨cZ,rfl,aD⟩:=ax;unfold K8;dsimp only
  obtain⟨bo,cO,bD⟩:=aD;have o_:=L.b x.1.1.2.1;apply ah<;>intro aC<;>simp only[av] at aC;refine bk λaX df=> ?_;refine af (lk _ aY) λa1 cq=> ?_;dsimp only at cq;apply ah<;>intro aT<;>simp only[av] at aT;exact ba iu;refine bk λcM fA=> ?_;rw[df] at fA;cases fA;refine af (agz _ aY) λbf cU=> ?_;dsimp only at cU;apply ah<;>intro bJ<;>simp only[av] at bJ;exact ba iu;exact bG ⟨⟨_,rfl,(by(have aA:=dK cZ bo ab;refine⟨ab,ab, ?_⟩;rw[aA];exact bD.step bo df (cU bJ)))⟩,eQ⟩;exact ba (bD.all ab)) x ⟨_,rfl,aj⟩
theorem axF:∀x:U aeu,(True)->aL (K7 x) (λy=>y.1.1=true->x.1.1.2.1.1.length<=6/\1<=x.1.1.2.2.2.1.1.length/\x.1.1.2.2.2.1.1.length<=80/\x.1.1.2.2.1.1.length<=160/\x.1.1.1.1.size<=12/\aK (λr:D dJ=>r.2.2.1.1.size<=25) x.1.1.2.1.1):=by
 intro x aD;unfold K7;refine af (lk _ aY) λaB cd=> ?_;dsimp only at cd;apply ah<;>intro aC<;>simp only[av] at aC;exact an (by(dsimp only)<;>(intro ay;exact Bool.noConfusion ay));have o_:=L.b x.1.1.2.1;apply ah<;>intro aT<;>simp only[av] at aT;exact an (by(dsimp only)<;>(intro ay;exact Bool.noConfusion ay));have amB:=L.b x.1.1.2.2.2.1;apply ah<;>intro bJ<;>simp only[av] at bJ;exact an (by(dsimp only)<;>(intro ay;exact Bool.noConfusion ay));apply ah<;>intro c7<;>simp only[av] at c7;exact an (by(dsimp only)<;>(intro ay;exact Bool.noConfusion ay));have qz:=L.b x.1.1.2.2.1;apply ah<;>intro dM<;>simp only[av] at dM;exact an (by(dsimp only)<;>(intro ay;exact Bool.noConfusion ay));refine af (axC _ (by(dsimp only)<;>(exact⟨aY,bp,db,by simp only[aI];exact ej.zero⟩))) λbO dB=> ?_;dsimp only at dB;refine dZ dB (λbU en=> ?_) (λcD eY=> ?_);exact an (by(dsimp only)<;>(intro ay;exact⟨ab,ab,ab,ab,(cd aC).2,en⟩));exact an (by(dsimp only)<;>(intro ay;(rw[eY] at ay;exact Bool.noConfusion ay)))
theorem av':∀x:U DW,((True)/\((0<=x.1.2.2.1.1)/\(x.1.2.2.1.1<=((x.1.2.1.2.2.1.1.length:Nat):Int))))->aL (a_ KM x) (Sum.elim (λy=>True) (λy=>0<=y.1.1.1/\y.1.1.1<x.1.2.1.2.2.1.1.length)):=by
 rintro x ⟨aq,aj⟩;exact cJ (λz:U DW=>∃c5,z=((x.1.1,x.1.2.1,c5,()),())/\((0<=c5.1)/\(c5.1<=((x.1.2.1.2.2.1.1.length:Nat):Int)))) (λz:U DW=>(((x.1.2.1.2.2.1.1.length:Nat):Int)-z.1.2.2.1.1).toNat) (λz ax=>by
  obtain⟨c5,rfl,aD⟩:=ax;unfold KM;dsimp only
  have Qe:=L.b x.1.2.1.2.2.1;apply ah<;>intro aC<;>simp only[av] at aC;refine bk λaE cL=> ?_;apply ah<;>intro aT<;>simp only[av] at aT;exact ba gI;exact bG ⟨⟨_,rfl,dA⟩,dR⟩;exact ba cw) x ⟨_,rfl,aj⟩
theorem DY:∀x:U adF,(True)->aL (vl x) (λy=>-1<=y.1.1.1/\y.1.1.1<x.1.1.2.2.1.1.length):=by
 intro x aD;unfold vl;refine af (av' _ (by(dsimp only)<;>(and_intros<;>(intros)<;>first|exact aY|(simp only[aI,b5] at*<;>omega)))) λaG cn=> ?_;dsimp only at cn;refine dZ cn (λa1 cq=> ?_) (λa2 c9=> ?_);exact an dR;exact an fW
theorem azp:∀x:U EH,((x.1.2.1.1<x.1.1.2.1.1.length)/\((0<=x.1.2.2.1.1)/\(x.1.2.2.1.1<=x.1.2.1.1)))->aL (a_ LJ x) (Sum.elim (λy=>True) (λy=>True)):=by
 rintro x ⟨aq,aj⟩;exact cJ (λz:U EH=>∃v4,z=((x.1.1,x.1.2.1,v4,()),())/\((0<=v4.1)/\(v4.1<=x.1.2.1.1))) (λz:U EH=>(x.1.2.1.1-z.1.2.2.1.1).toNat) (λz ax=>by
  obtain⟨v4,rfl,aD⟩:=ax;unfold LJ;dsimp only
  have ai:=L.b x.1.1.2.1;apply ah<;>intro aC<;>simp only[av] at aC;refine bk λaE cL=> ?_;refine bk λaX df=> ?_;apply ah<;>intro aT<;>simp only[av] at aT;exact ba cw;exact bG ⟨⟨_,rfl,dA⟩,dR⟩;exact ba cw) x ⟨_,rfl,aj⟩
theorem azm:∀x:U EG,((True)/\((0<=x.1.2.1.1)/\(x.1.2.1.1<=((x.1.1.2.1.1.length:Nat):Int))))->aL (a_ LI x) (Sum.elim (λy=>True) (λy=>True)):=by
 rintro x ⟨aq,aj⟩;exact cJ (λz:U EG=>∃cZ,z=((x.1.1,cZ,()),())/\((0<=cZ.1)/\(cZ.1<=((x.1.1.2.1.1.length:Nat):Int)))) (λz:U EG=>(((x.1.1.2.1.1.length:Nat):Int)-z.1.2.1.1).toNat) (λz ax=>by
  obtain⟨cZ,rfl,aD⟩:=ax;unfold LI;dsimp only
  have o_:=L.b x.1.1.2.1;apply ah<;>intro aC<;>simp only[av] at aC;refine af (azp _ dR) λa1 cq=> ?_;dsimp only at cq;refine dZ cq (λa2 c9=> ?_) (λbf cU=> ?_);exact bG ⟨⟨_,rfl,dA⟩,dR⟩;exact ba cw;exact ba cw) x ⟨_,rfl,aj⟩
theorem azs:∀x:U aeX,(True)->aL (LH x) (λy=>True):=by
 intro x aD;unfold LH;refine af (azm _ (by(dsimp only)<;>(and_intros<;>(intros)<;>first|exact aY|(simp only[aI,b5] at*<;>omega)))) λbO dB=> ?_;dsimp only at dB;refine dZ dB (λbU en=> ?_) (λcD eY=> ?_);exact an aY;exact an aY
theorem aej:∀x:U aeh,(True)->aL (Ee x) (λy=>y.1.1=sN x.1.1.1):=by
 intro x aD;unfold Ee;apply ah<;>intro aC<;>simp only[av] at aC;apply ah<;>intro aT<;>simp only[av] at aT;exact an (by(dsimp only)<;>(simp[sN, *]<;>omega));exact an (by(dsimp only)<;>(exfalso;omega));apply ah<;>intro bJ<;>simp only[av] at bJ;apply ah<;>intro c7<;>simp only[av] at c7;exact an (by(dsimp only)<;>(simp[sN, *]<;>omega));exact an (by(dsimp only)<;>(exfalso;omega));apply ah<;>intro dM<;>simp only[av] at dM;apply ah<;>intro fH<;>simp only[av] at fH;exact an (by(dsimp only)<;>(simp[sN, *]<;>omega));exact an (by(dsimp only)<;>(exfalso;omega));apply ah<;>intro gF<;>simp only[av] at gF;apply ah<;>intro iy<;>simp only[av] at iy;exact an (by(dsimp only)<;>(simp[sN, *]<;>omega));exact an (by(dsimp only)<;>(exfalso;omega));apply ah<;>intro kG<;>simp only[av] at kG;exact an (by(dsimp only)<;>(simp[sN, *]<;>omega));exact an (by(dsimp only)<;>(simp[sN, *]<;>omega))
theorem awd:∀x:U DZ,((x.1.2.1.1.length+x.1.1.2.2.2.2.2.2.2.2.1.1.length<=1000000/\x.1.2.2.1.1=0)/\((0<=x.1.2.2.1.1)/\(x.1.2.2.1.1<=((x.1.1.2.2.2.2.2.2.2.2.1.1.length:Nat):Int))/\((x.1.2.1.1.length:Int)+x.1.2.2.1.1<=x.1.2.1.1.length+x.1.2.2.1.1)/\(x.1.2.1.1=x.1.2.1.1++s8 (x.1.1.2.2.2.2.2.2.2.2.1.1.take x.1.2.2.1.1.toNat))))->aL (a_ KN x) (λy=>y.1.1.1.length+x.1.2.2.1.1<=x.1.2.1.1.length+x.1.1.2.2.2.2.2.2.2.2.1.1.length/\y.1.1.1=x.1.2.1.1++s8 x.1.1.2.2.2.2.2.2.2.2.1.1):=by
 rintro x ⟨aq,aj⟩;exact cJ (λz:U DZ=>∃cZ,∃v4,z=((x.1.1,cZ,v4,()),((),()))/\((0<=v4.1)/\(v4.1<=((x.1.1.2.2.2.2.2.2.2.2.1.1.length:Nat):Int))/\((cZ.1.length:Int)+x.1.2.2.1.1<=x.1.2.1.1.length+v4.1)/\(cZ.1=x.1.2.1.1++s8 (x.1.1.2.2.2.2.2.2.2.2.1.1.take v4.1.toNat)))) (λz:U DZ=>(((x.1.1.2.2.2.2.2.2.2.2.1.1.length:Nat):Int)-z.1.2.2.1.1).toNat) (λz ax=>by
  obtain⟨cZ,v4,rfl,aD⟩:=ax;unfold KN;dsimp only
  obtain⟨bo,cO,bD,cz⟩:=aD;have Cc:=L.b x.1.1.2.2.2.2.2.2.2.2.1;apply ah<;>intro aC<;>simp only[av] at aC;refine bk λaE cL=> ?_;refine af (dv dA) λeo nm=> ?_;exact bG ⟨⟨_,_,rfl,(by(have aA:=dK v4 bo ab;refine⟨ab,ab,by rw[nm.2];simp only[aI,b5]<;>omega, ?_⟩;rw[aA,GU bo cL,nm.1,cz,fT (by simp)];simp[s8]))⟩,eQ⟩;exact ba (by(dsimp only[Sum.elim])<;>(exact⟨ab,by rw[cz,GS ab]⟩))) x ⟨_,_,rfl,aj⟩
theorem Ak:∀x:U adH,(x.1.1.2.2.2.2.2.2.2.2.1.1.length<=100000)->aL (vm x) (λy=>y.1.1.1=fF x.1.1):=by
 intro x aD;unfold vm;refine af (awd _ (by(dsimp only)<;>(exact⟨⟨by simp only[b5,aI];omega,by simp only[aI]<;>rfl⟩,bp,db,ab,by simp[s8,aI]⟩))) λa1 cq=> ?_;dsimp only at cq;obtain⟨bq,bE⟩:=cq;simp only[aI,b5] at bq;simp only[aI,List.nil_append] at bE;refine af (aej _ aY) λa2 c9=> ?_;dsimp only at c9;apply ah<;>intro aC<;>simp only[av] at aC;refine af (dv (by(simp only[b5]<;>omega))) λgv kU=> ?_;exact an (by(dsimp only)<;>(unfold fF;(rw[kU.1,bE,fT (by simp),<-c9,aC];rfl)));exact an (by(dsimp only)<;>(unfold fF;(rw[bE,<-c9,aC];simp)))
theorem ax':∀x:U Es,((True)/\((0<=x.1.2.1.1)/\(x.2.1.1.length=x.2.1.1.length/\aK (λv:D [.int .i64]=>v.1.1<=0) x.2.1.1)))->aL (a_ Lh x) (λy=>y.2.1.1.length=x.2.1.1.length/\aK (λv:D [.int .i64]=>v.1.1<=0) y.2.1.1):=by
 rintro x ⟨aq,aj⟩;exact cJ (λz:U Es=>∃v4,∃cH,z=(((),v4,()),(cH,()))/\((0<=v4.1)/\(cH.1.length=x.2.1.1.length/\aK (λv:D [.int .i64]=>v.1.1<=0) cH.1))) (λz:U Es=>(x.2.1.1.length-z.1.2.1.1:Int).toNat) (λz ax=>by
  obtain⟨v4,cH,rfl,aD⟩:=ax;unfold Lh;dsimp only
  obtain⟨bo,cO,bD⟩:=aD;have ai:=L.b cH;apply ah<;>intro aC<;>simp only[av] at aC;apply ah<;>intro aT<;>simp only[av] at aT;refine hY λaX df=> ?_;exact bG ⟨⟨_,_,rfl,(by(refine⟨?_, ?_,bD.set (by simp only[aI];decide) _⟩<;>simp only[aI,b5] at*<;>omega))⟩,(by(dsimp only)<;>(simp only[aI] at*<;>omega))⟩;exfalso
  (omega)
  exact ba ⟨cO,bD⟩) x ⟨_,_,rfl,aj⟩
theorem ayf (st:List (D bz)) (s:D bz) (m:Int):∀x:U Eu,((st[x.1.2.2.1.1.toNat]? =some s/\x.1.2.2.2.1.1=fF s/\0<=x.1.2.2.1.1/\m<=100000000000/\x.1.2.2.2.2.1.1=0/\(fF s).length<=100001/\st.length<=80)/\((0<=x.1.2.2.2.2.1.1)/\(x.1.2.2.2.2.1.1<=((x.1.2.2.2.1.1.length:Nat):Int))/\(ko st (ig x.1.2.2.1.1.toNat x.1.2.2.2.2.1.1.toNat) (m+x.1.2.2.2.2.1.1) x.2.1.1 x.2.2.1.1)))->aL (a_ Lj x) (λy=>ko st (ig x.1.2.2.1.1.toNat (fF s).length) (m+100001) y.2.1.1 y.2.2.1.1):=by
 rintro x ⟨aq,aj⟩;exact cJ (λz:U Eu=>∃dj,∃cH,∃cR,z=(((),(),x.1.2.2.1,x.1.2.2.2.1,dj,()),(cH,cR,()))/\((0<=dj.1)/\(dj.1<=((x.1.2.2.2.1.1.length:Nat):Int))/\(ko st (ig x.1.2.2.1.1.toNat dj.1.toNat) (m+dj.1) cH.1 cR.1))) (λz:U Eu=>(((x.1.2.2.2.1.1.length:Nat):Int)-z.1.2.2.2.2.1.1).toNat) (λz ax=>by
  obtain⟨dj,cH,cR,rfl,aD⟩:=ax;unfold Lj;dsimp only
  obtain⟨bo,cO,bD⟩:=aD;obtain⟨cN,dq,eJ,iD,lu,my,rG⟩:=aq;have dC:=bD.dC;have eo:=bD.eo;have ax:(x.1.2.2.2.1.1).length=(fF s).length:=by rw[dq]
  have Ii:=L.b x.1.2.2.2.1;apply ah<;>intro aC<;>simp only[av] at aC;refine bk λdG h_=> ?_;have eS:=h_;rw[dq] at eS;have aA:=dK dj bo ab;have bH:(dj.1+1).toNat=dj.1.toNat+1:=ab;apply ah<;>intro aT<;>simp only[av] at aT;exact bG ⟨⟨_,_,_,rfl,(by(refine⟨ab,ab, ?_⟩;rw[aA,bH,<-Int.add_assoc];exact(bD.skip cN eS (.inl ab)).imp ab (λ_ _ _ _ q _=>q)))⟩,eQ⟩;refine bk λeK kr=> ?_;rw[h_] at kr;cases kr;apply ah<;>intro bJ<;>simp only[av] at bJ;exact bG ⟨⟨_,_,_,rfl,(by(refine⟨ab,ab, ?_⟩;rw[aA,bH,<-Int.add_assoc];exact(bD.skip cN eS (.inr ab)).imp ab (λ_ _ _ _ q _=>q)))⟩,eQ⟩;refine bk λee lB=> ?_;rw[h_] at lB;cases lB;apply ah<;>intro c7<;>simp only[av] at c7;refine hY λgk mB=> ?_;apply ah<;>intro dM<;>simp only[av] at dM;refine hY λjw kT=> ?_;rw[mB] at kT;cases kT;refine bk λj9 ov=> ?_;rw[h_] at ov;cases ov;apply ah<;>intro fH<;>simp only[av] at fH;refine hY λiX mi=> ?_;refine bk λjx ow=> ?_;rw[h_] at ow;cases ow;apply ah<;>intro gF<;>simp only[av] at gF;refine af (ld (by(simp only[b5]<;>omega))) λik jX=> ?_;have bK:=(ed.1 mB).1;have HT:(cR.1.set (dG.1).1.toNat (bg gk.1 (W 1),()))[(dG.1).1.toNat]? =some ik:=jX;rw[List.getElem?_set_self bK] at HT;cases HT;apply ah<;>intro iy<;>simp only[av] at iy;refine bk λkp lC=> ?_;rw[h_] at lC;cases lC;apply ah<;>intro kG<;>simp only[av] at kG;refine af (ld (by(simp only[b5]<;>omega))) λkq o7=> ?_;exact bG ⟨⟨_,_,_,rfl,(by(refine⟨ab,ab, ?_⟩;rw[aA,bH,<-Int.add_assoc];exact bD.au6 eJ cN eS ab ab mB ab))⟩,eQ⟩;exfalso
  (omega)
  exact bG ⟨⟨_,_,_,rfl,(by(refine⟨ab,ab, ?_⟩;rw[aA,bH,<-Int.add_assoc];(exact bD.au5 eJ cN eS ab ab mB ab (by(simp only[aI] at iy⊢;omega)))))⟩,eQ⟩;exfalso
  (omega)
  exfalso
  (omega)
  exfalso
  (omega)
  exfalso
  (omega)
  exact ba (bD.imp ab (λ_ _ _ _ q _=>by unfold ig at q⊢;omega))) x ⟨_,_,_,rfl,aj⟩
theorem ayc:∀x:U Et,((x.1.1.2.2.2.1.1.length<=80/\aK (λs:D bz=>s.2.2.2.2.2.2.2.2.1.1.length<=100000) x.1.1.2.2.2.1.1)/\((0<=x.1.2.2.2.1.1)/\(x.1.2.2.2.1.1<=((x.1.1.2.2.2.1.1.length:Nat):Int))/\(ko x.1.1.2.2.2.1.1 (ig x.1.2.2.2.1.1.toNat 0) (x.1.2.2.2.1.1*100001) x.2.1.1 x.2.2.1.1)))->aL (a_ Li x) (λy=>y4 x.1.1.2.2.2.1.1 y.2.1.1):=by
 rintro x ⟨aq,aj⟩;exact cJ (λz:U Et=>∃v6,∃cH,∃cR,z=((x.1.1,(),(),v6,()),(cH,cR,()))/\((0<=v6.1)/\(v6.1<=((x.1.1.2.2.2.1.1.length:Nat):Int))/\(ko x.1.1.2.2.2.1.1 (ig v6.1.toNat 0) (v6.1*100001) cH.1 cR.1))) (λz:U Et=>(((x.1.1.2.2.2.1.1.length:Nat):Int)-z.1.2.2.2.1.1).toNat) (λz ax=>by
  obtain⟨v6,cH,cR,rfl,aD⟩:=ax;unfold Li;dsimp only
  obtain⟨bo,cO,bD⟩:=aD;obtain⟨cN,dq⟩:=aq;have amB:=L.b x.1.1.2.2.2.1;apply ah<;>intro aC<;>simp only[av] at aC;refine bk λdh gl=> ?_;have sA:=dq _ _ gl;dsimp only at sA;have Rh:=Rq dh;refine af (Ak _ fW) λbU en=> ?_;dsimp only at en;refine af (ayf (x.1.1.2.2.2.1.1) (dh) (v6.1*100001) _ (by(dsimp only)<;>(exact⟨⟨gl,en,bo,ab,by simp only[aI]<;>rfl,ab,cN⟩,bp,db,by simpa[aI] using bD⟩))) λfI jP=> ?_;dsimp only at jP;exact bG ⟨⟨_,_,_,rfl,(by(have aA:=dK v6 bo ab;have bH:(v6.1+1).toNat=v6.1.toNat+1:=ab;refine⟨ab,ab, ?_⟩;rw[aA,bH];exact(jP.row gl (Nat.le_refl _)).imp ab (λ_ _ _ _ q _=>q)))⟩,eQ⟩;exact ba (by(dsimp only[Sum.elim])<;>(exact bD.done ab))) x ⟨_,_,_,rfl,aj⟩
theorem aeF:∀x:U aeD,(1<=x.1.1.2.2.2.1.1.length/\x.1.1.2.2.2.1.1.length<=80/\aK (λs:D bz=>s.2.2.2.2.2.2.2.2.1.1.length<=100000) x.1.1.2.2.2.1.1)->aL (td x) (λy=>y4 x.1.1.2.2.2.1.1 y.1.1.1):=by
 intro x aD;unfold td;obtain⟨aa,ae,az⟩:=aD;refine af (tZ (by(simp only[aI]<;>omega))) λdC kf=> ?_;obtain⟨bq,bE⟩:=kf;simp only[aI] at bE;refine af (ax' _ (by(dsimp only)<;>(exact⟨aY,bp,rfl,by rw[bq];intro j e he;rw[List.getElem?_replicate] at he;split at he<;>cases he;decide⟩))) λa1 cq=> ?_;dsimp only at cq;obtain⟨gn,dg⟩:=cq;apply ah<;>intro aC<;>simp only[av] at aC;refine af (ld (by(simp only[aI]<;>omega))) λcM fA=> ?_;refine af (tZ (by(simp only[aI]<;>omega))) λgv kU=> ?_;obtain⟨kW,p_⟩:=kU;simp only[aI] at p_;have Qw:∀(j:Nat) (v:D [.int .i64]),(ec a1.2.1 ((W (0)).1).toNat ((W (-1)),())).1[j]? =some v->v.1.1<j:=by
  intro j v aM;have aM:(a1.2.1.1.set 0 ((W (-1)),()))[j]? =some v:=aM;by_cases au:j=0;subst au;rw[List.getElem?_set_self ab] at aM;cases aM;decide;rw[l9 ab] at aM;have:=dg _ _ aM;omega
 refine af (ayc _ (by(dsimp only)<;>(exact⟨⟨ae,az⟩,bp,db,ko.start (by simp only[b5];omega) ab Qw (by rw[kW];intro j e he;rw[List.getElem?_replicate] at he;split at he<;>cases he;rfl)⟩))) λga kI=> ?_;dsimp only at kI;exact an (by(dsimp only)<;>(exact kI));exfalso
 (omega)
end cB
end Go.Proofs.YtgmdfchkljaooaaGreat
