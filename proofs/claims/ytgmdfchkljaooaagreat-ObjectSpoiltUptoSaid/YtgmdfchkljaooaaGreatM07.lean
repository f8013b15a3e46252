/- Typed functions. -/
import Derived.Test.YtgmdfchkljaooaaGreatM06
noncomputable section
namespace Go.Proofs.YtgmdfchkljaooaaGreat
namespace cB
open bx (T)
set_option linter.unusedVariables false
set_option maxRecDepth 100000
def afC:aw:=aZ [(0,.leaf (.int .u8))]
def aAU:aw:=aZ [(0,bP)]
noncomputable def E2 (x:U afC):Option (U aAU):=cond (fM (aO.w .u8 97) x.1.1) (some (((fM x.1.1 (aO.w .u8 122)),()),())) (some ((false,()),()))
def afb:aw:=aZ [(0,aN)]
def azW:aw:=aZ [(0,bP)]
def SY:aw:=aZ [(3,aN)]
def ae':bB:=[jB [(4,bP)]]
noncomputable def SX (x:U SY):Option (bA ae'):=cond (cC x.1.1 (S ⟨#[97,110,100]⟩)) (some (((cC x.1.1 (S ⟨#[97,110,100]⟩)),()),())) (cond (cC x.1.1 (S ⟨#[97,115]⟩)) (some (((cC x.1.1 (S ⟨#[97,115]⟩)),()),())) (cond (cC x.1.1 (S ⟨#[97,116]⟩)) (some (((cC x.1.1 (S ⟨#[97,116]⟩)),()),())) (cond (cC x.1.1 (S ⟨#[98,111,111,108]⟩)) (some (((cC x.1.1 (S ⟨#[98,111,111,108]⟩)),()),())) (cond (cC x.1.1 (S ⟨#[99,97,108,108]⟩)) (some (((cC x.1.1 (S ⟨#[99,97,108,108]⟩)),()),())) (cond (cC x.1.1 (S ⟨#[99,104,97,110]⟩)) (some (((cC x.1.1 (S ⟨#[99,104,97,110]⟩)),()),())) (cond (cC x.1.1 (S ⟨#[100,114,111,112]⟩)) (some (((cC x.1.1 (S ⟨#[100,114,111,112]⟩)),()),())) (cond (cC x.1.1 (S ⟨#[101,108,115,101]⟩)) (some (((cC x.1.1 (S ⟨#[101,108,115,101]⟩)),()),())) (cond (cC x.1.1 (S ⟨#[101,109,112,116,121]⟩)) (some (((cC x.1.1 (S ⟨#[101,109,112,116,121]⟩)),()),())) (cond (cC x.1.1 (S ⟨#[101,110,100]⟩)) (some (((cC x.1.1 (S ⟨#[101,110,100]⟩)),()),())) (cond (cC x.1.1 (S ⟨#[102,97,105,108]⟩)) (some (((cC x.1.1 (S ⟨#[102,97,105,108]⟩)),()),())) (cond (cC x.1.1 (S ⟨#[102,97,108,115,101]⟩)) (some (((cC x.1.1 (S ⟨#[102,97,108,115,101]⟩)),()),())) (cond (cC x.1.1 (S ⟨#[102,114,111,109]⟩)) (some (((cC x.1.1 (S ⟨#[102,114,111,109]⟩)),()),())) (cond (cC x.1.1 (S ⟨#[104,101,97,114]⟩)) (some (((cC x.1.1 (S ⟨#[104,101,97,114]⟩)),()),())) (cond (cC x.1.1 (S ⟨#[105,102]⟩)) (some (((cC x.1.1 (S ⟨#[105,102]⟩)),()),())) (cond (cC x.1.1 (S ⟨#[105,110,116]⟩)) (some (((cC x.1.1 (S ⟨#[105,110,116]⟩)),()),())) (cond (cC x.1.1 (S ⟨#[106,111,105,110]⟩)) (some (((cC x.1.1 (S ⟨#[106,111,105,110]⟩)),()),())) (cond (cC x.1.1 (S ⟨#[108,101,110]⟩)) (some (((cC x.1.1 (S ⟨#[108,101,110]⟩)),()),())) (cond (cC x.1.1 (S ⟨#[108,101,116]⟩)) (some (((cC x.1.1 (S ⟨#[108,101,116]⟩)),()),())) (some (((cC x.1.1 (S ⟨#[108,105,115,116]⟩)),()),()))))))))))))))))))))
def S0:aw:=aZ [(3,aN)]
def afa:bB:=[jB [(25,bP)]]
noncomputable def SZ (x:U S0):Option (bA afa):=cond (cC x.1.1 (S ⟨#[108,111,99,97,108]⟩)) (some (((cC x.1.1 (S ⟨#[108,111,99,97,108]⟩)),()),())) (cond (cC x.1.1 (S ⟨#[108,111,115,116]⟩)) (some (((cC x.1.1 (S ⟨#[108,111,115,116]⟩)),()),())) (cond (cC x.1.1 (S ⟨#[109,111,100]⟩)) (some (((cC x.1.1 (S ⟨#[109,111,100]⟩)),()),())) (cond (cC x.1.1 (S ⟨#[110,111,116]⟩)) (some (((cC x.1.1 (S ⟨#[110,111,116]⟩)),()),())) (cond (cC x.1.1 (S ⟨#[111,112,101,110]⟩)) (some (((cC x.1.1 (S ⟨#[111,112,101,110]⟩)),()),())) (cond (cC x.1.1 (S ⟨#[111,114]⟩)) (some (((cC x.1.1 (S ⟨#[111,114]⟩)),()),())) (cond (cC x.1.1 (S ⟨#[112,114,105,110,116]⟩)) (some (((cC x.1.1 (S ⟨#[112,114,105,110,116]⟩)),()),())) (cond (cC x.1.1 (S ⟨#[112,114,111,99]⟩)) (some (((cC x.1.1 (S ⟨#[112,114,111,99]⟩)),()),())) (cond (cC x.1.1 (S ⟨#[112,114,111,116,111,99,111,108]⟩)) (some (((cC x.1.1 (S ⟨#[112,114,111,116,111,99,111,108]⟩)),()),())) (cond (cC x.1.1 (S ⟨#[112,117,115,104]⟩)) (some (((cC x.1.1 (S ⟨#[112,117,115,104]⟩)),()),())) (cond (cC x.1.1 (S ⟨#[114,111,108,101,115]⟩)) (some (((cC x.1.1 (S ⟨#[114,111,108,101,115]⟩)),()),())) (cond (cC x.1.1 (S ⟨#[115,97,121]⟩)) (some (((cC x.1.1 (S ⟨#[115,97,121]⟩)),()),())) (cond (cC x.1.1 (S ⟨#[115,112,97,119,110]⟩)) (some (((cC x.1.1 (S ⟨#[115,112,97,119,110]⟩)),()),())) (cond (cC x.1.1 (S ⟨#[115,116,111,112]⟩)) (some (((cC x.1.1 (S ⟨#[115,116,111,112]⟩)),()),())) (cond (cC x.1.1 (S ⟨#[116,101,120,116]⟩)) (some (((cC x.1.1 (S ⟨#[116,101,120,116]⟩)),()),())) (cond (cC x.1.1 (S ⟨#[116,111]⟩)) (some (((cC x.1.1 (S ⟨#[116,111]⟩)),()),())) (cond (cC x.1.1 (S ⟨#[116,114,117,101]⟩)) (some (((cC x.1.1 (S ⟨#[116,114,117,101]⟩)),()),())) (cond (cC x.1.1 (S ⟨#[117,110,105,116]⟩)) (some (((cC x.1.1 (S ⟨#[117,110,105,116]⟩)),()),())) (some (((cC x.1.1 (S ⟨#[119,105,116,104]⟩)),()),())))))))))))))))))))
noncomputable def LP (x:U afb):Option (U azW):=(SX ((x.1.1,()),())).bind λaB=>cond (aB.1.1) (some ((true,()),())) ((SZ ((x.1.1,()),())).bind λaG=>cond (aG.1.1) (some ((true,()),())) (some ((false,()),())))
def afz:aw:=aZ [(0,.leaf (.int .u8))]
def aAF:aw:=aZ [(0,bP)]
noncomputable def L1 (x:U afz):Option (U aAF):=cond (fM (aO.w .u8 48) x.1.1) (some (((fM x.1.1 (aO.w .u8 57)),()),())) (some ((false,()),()))
def afd:aw:=aZ [(0,aN)]
def az5:aw:=aZ [(0,bP)]
def ET:aw:=aZ [(0,aN),(3,ag)]
def az3:bB:=[((.exit 0),aZ []),gA [(2,bP)]]
noncomputable def LR (x:U ET):Option (U ET⊕bA az3):=cond (bh x.1.2.1 (mF x.1.1)) ((u6 x.1.1 (x.1.2.1).1).bind λv4=>(E2 ((v4,()),())).bind λbf=>cond (!bf.1.1) ((u6 x.1.1 (x.1.2.1).1).bind λv6=>(L1 ((v6,()),())).bind λbU=>cond (!bU.1.1) (some (.inr (.inr ((false,()),())))) (some (.inl ((x.1.1,(bg x.1.2.1 (W 1)),()),())))) (some (.inl ((x.1.1,(bg x.1.2.1 (W 1)),()),())))) (some (.inr (.inl ((),()))))
noncomputable def kz (x:U afd):Option (U az5):=cond (bh (mF x.1.1) (W 1)) (some ((false,()),())) (cond (bh (W 12) (mF x.1.1)) (some ((false,()),())) ((u6 x.1.1 ((W 0)).1).bind λv1=>(E2 ((v1,()),())).bind λaG=>cond (!aG.1.1) (some ((false,()),())) ((LP ((x.1.1,()),())).bind λa1=>cond (a1.1.1) (some ((false,()),())) ((a_ LR ((x.1.1,(W 1),()),())).bind λcD=>Sum.elim (λbV=>some ((true,()),())) (λcu=>some ((cu.1.1,()),())) cD))))
def S1:aw:=aZ [(0,ak bM),(1,aN)]
def aAb:aw:=aZ [(0,ag)]
def EW:aw:=aZ [(0,ak bM),(1,aN),(5,ag)]
def az':bB:=[((.exit 0),aZ []),gA [(4,ag)]]
noncomputable def Aq (x:U EW):Option (U EW⊕bA az'):=cond (bh x.1.2.2.1 (bj x.1.1)) ((a7 x.1.1 (x.1.2.2.1).1).bind λaE=>cond (cC aE.1 x.1.2.1) (some (.inr (.inr ((x.1.2.2.1,()),())))) (some (.inl ((x.1.1,x.1.2.1,(bg x.1.2.2.1 (W 1)),()),())))) (some (.inr (.inl ((),()))))
noncomputable def uo (x:U S1):Option (U aAb):=(a_ Aq ((x.1.1,x.1.2.1,(W 0),()),())).bind λaG=>Sum.elim (λa1=>some (((W (-1)),()),())) (λa2=>some ((a2.1.1,()),())) aG
def SV:aw:=aZ [(0,ak bM),(1,aN)]
def azR:aw:=aZ [(0,bP)]
noncomputable def oK (x:U SV):Option (U azR):=(uo ((x.1.1,x.1.2.1,()),())).bind λaB=>some (((fM (W 0) aB.1.1),()),())
def aff:aw:=aZ [(0,ak bM)]
def az9:aw:=aZ [(0,bP)]
def EV:aw:=aZ [(0,ak bM),(3,ag)]
def az7:bB:=[((.exit 0),aZ []),gA [(2,bP)]]
noncomputable def LS (x:U EV):Option (U EV⊕bA az7):=cond (bh x.1.2.1 (bj x.1.1)) ((nf x.1.1 0 (x.1.2.1).1).bind λv1=>(a7 x.1.1 (x.1.2.1).1).bind λaX=>(oK ((v1,aX.1,()),())).bind λa1=>cond (a1.1.1) (some (.inr (.inr ((false,()),())))) (some (.inl ((x.1.1,(bg x.1.2.1 (W 1)),()),())))) (some (.inr (.inl ((),()))))
noncomputable def EU (x:U aff):Option (U az9):=(a_ LS ((x.1.1,(W 0),()),())).bind λa2=>Sum.elim (λbf=>some ((true,()),())) (λbO=>some ((bO.1.1,()),())) a2
def afM:aw:=aZ [(0,ak bM),(1,aN)]
def aA7:aw:=aZ [(0,ak bM)]
def E5:aw:=aZ [(0,ak bM),(1,aN),(5,ag)]
def aA5:bB:=[((.exit 0),aZ [(5,ag)])]
noncomputable def L4 (x:U E5):Option (U E5⊕bA aA5):=cond (bh x.1.2.2.1 (bj x.1.1)) ((a7 x.1.1 (x.1.2.2.1).1).bind λaE=>cond (nV aE.1 x.1.2.1) (some (.inl ((x.1.1,x.1.2.1,(bg x.1.2.2.1 (W 1)),()),()))) (some (.inr ((x.1.2.2.1,()),())))) (some (.inr ((x.1.2.2.1,()),())))
noncomputable def E4 (x:U afM):Option (U aA7):=(a_ L4 ((x.1.1,x.1.2.1,(W 0),()),())).bind λaG=>cond (bh aG.1.1 (bj x.1.1)) ((a7 x.1.1 (aG.1.1).1).bind λbL=>cond (cC bL.1 x.1.2.1) (some ((x.1.1,()),())) ((nf x.1.1 0 (aG.1.1).1).bind λv4=>(de 16 (L.nil:L (D [.str])) v4).bind λgv=>(de 16 gv (cx [(x.1.2.1,())])).bind λmE=>(nf x.1.1 (aG.1.1).1 x.1.1.1.length).bind λdN=>(de 16 mE dN).bind λjA=>some ((jA,()),()))) ((nf x.1.1 0 (aG.1.1).1).bind λfx=>(de 16 (L.nil:L (D [.str])) fx).bind λoE=>(de 16 oE (cx [(x.1.2.1,())])).bind λq_=>(nf x.1.1 (aG.1.1).1 x.1.1.1.length).bind λeH=>(de 16 q_ eH).bind λm3=>some ((m3,()),()))
def afl:aw:=aZ [(0,ak bM),(1,aN)]
def aAf:aw:=aZ [(0,ak bM)]
def EY:aw:=aZ [(0,ak bM),(5,ak bM),(6,ag)]
def aAd:bB:=[((.exit 0),aZ [(5,ak bM)])]
noncomputable def LV (x:U EY):Option (U EY⊕bA aAd):=cond (bh x.1.2.2.1 (bj x.1.1)) ((a7 x.1.1 (x.1.2.2.1).1).bind λaE=>(E4 ((x.1.2.1,aE.1,()),())).bind λaG=>some (.inl ((x.1.1,aG.1.1,(bg x.1.2.2.1 (W 1)),()),()))) (some (.inr ((x.1.2.1,()),())))
noncomputable def vq (x:U afl):Option (U aAf):=(a_ LV ((x.1.1,(cx [(x.1.2.1,())]),(W 0),()),())).bind λa1=>some ((a1.1.1,()),())
def ae7:aw:=aZ [(0,ag)]
def azP:aw:=aZ [(0,aN)]
def SU:aw:=aZ [(0,ag),(3,zV)]
def ae6:bB:=[jB [(3,zV)]]
noncomputable def SS (x:U SU):Option (bA ae6):=cond (bh x.1.1 (W 0)) (some (((tU x.1.2.1),()),())) (some ((x.1.2.1,()),()))
def ES:aw:=aZ [(3,zV),(4,ak [.int .u8])]
def azN:bB:=[((.exit 0),aZ [(4,ak [.int .u8])])]
noncomputable def LO (x:U ES):Option (U ES⊕bA azN):=cond (bh (aO.w .u64 0) x.1.1) ((tV x.1.1 (aO.w .u64 10)).bind λv2=>(de 1 (cx [((fk .u8 (bg (aO.w .u64 48) v2)),())]) x.1.2.1).bind λcf=>(x3 x.1.1 (aO.w .u64 10)).bind λv4=>some (.inl ((v4,cf,()),()))) (cond (bd (bj x.1.2.1) (W 0)) ((tV x.1.1 (aO.w .u64 10)).bind λc5=>(de 1 (cx [((fk .u8 (bg (aO.w .u64 48) c5)),())]) x.1.2.1).bind λmE=>(x3 x.1.1 (aO.w .u64 10)).bind λdN=>some (.inl ((dN,mE,()),()))) (some (.inr ((x.1.2.1,()),()))))
noncomputable def ER (x:U ae7):Option (U azP):=(SS ((x.1.1,(fk .u64 x.1.1),()),())).bind λaB=>(a_ LO ((aB.1.1,L.nil,()),())).bind λcD=>cond (bh x.1.1 (W 0)) ((mg (S ⟨#[45]⟩) (og cD.1.1)).bind λfx=>some ((fx,()),())) (some (((og cD.1.1),()),()))
def afy:aw:=aZ [(0,ag)]
def aAC:aw:=aZ [(0,ag)]
noncomputable def As (x:U afy):Option (U aAC):=cond (bh x.1.1 (W 0)) (some (((W (-1)),()),())) (cond (bh (W 19) x.1.1) (some (((W (-1)),()),())) (cond (fM x.1.1 (W 5)) (some (((W 0),()),())) (cond (bd x.1.1 (W 15)) (some (((W 1),()),())) (cond (bd x.1.1 (W 16)) (some (((W 1),()),())) (some (((W 2),()),()))))))
def afx:aw:=aZ [(0,.agg ck)]
def aAz:aw:=aZ [(0,bP)]
def S4:aw:=aZ [(1,.cW ck 0),(3,ag)]
def afu:bB:=[jB [],gA [(2,bP)]]
noncomputable def S3 (x:U S4):Option (bA afu):=cond (bh x.1.2.1 (W 0)) (some (.inr ((false,()),()))) (cond (bh x.1.2.1 (W 2)) (cond (!bd x.1.1.2.2.2.2.2.1 (W (-1))) (some (.inr ((false,()),()))) (cond (bh x.1.2.1 (W 1)) (cond (!bd x.1.1.2.2.2.2.1 (W (-1))) (some (.inr ((false,()),()))) (some (.inl ((),())))) (some (.inl ((),()))))) (cond (bh x.1.2.1 (W 1)) (cond (!bd x.1.1.2.2.2.2.1 (W (-1))) (some (.inr ((false,()),()))) (some (.inl ((),())))) (some (.inl ((),())))))
def S6:aw:=aZ [(1,.cW ck 0)]
def afv:bB:=[jB [(4,bP)]]
noncomputable def S5 (x:U S6):Option (bA afv):=cond (bd x.1.1.1 (W 0)) ((kz ((x.1.1.2.1,()),())).bind λbf=>cond (bf.1.1) (some ((true,()),())) (cond (!bd x.1.1.1 (W 0)) (some (((cC x.1.1.2.1 (S ⟨#[]⟩)),()),())) (some ((false,()),())))) (cond (!bd x.1.1.1 (W 0)) (some (((cC x.1.1.2.1 (S ⟨#[]⟩)),()),())) (some ((false,()),())))
def S8:aw:=aZ [(1,.cW ck 0)]
def afw:bB:=[jB [(5,bP)]]
noncomputable def S7 (x:U S8):Option (bA afw):=cond (bd x.1.1.2.2.1 (W 0)) (some ((true,()),())) (cond (bd x.1.1.1 (W 1)) (some ((true,()),())) (cond (bd x.1.1.1 (W 2)) (some (((bd x.1.1.2.2.1 (W 1)),()),())) (some ((false,()),()))))
noncomputable def L0 (x:U afx):Option (U aAz):=(As ((x.1.1.1,()),())).bind λaB=>(S3 ((x.1.1,aB.1.1,()),())).bind λaG=>Sum.elim (λa1=>(S5 ((x.1.1,()),())).bind λbO=>(S7 ((x.1.1,()),())).bind λbU=>cond (cC x.1.1.2.2.2.1 (S ⟨#[]⟩)) (cond (bO.1.1) (cond (bU.1.1) (some ((true,()),())) (some ((false,()),()))) (some ((false,()),()))) (cond (bd x.1.1.1 (W 3)) (cond (bO.1.1) (cond (bU.1.1) (some (((fM (mF x.1.1.2.2.2.1) (W 24)),()),())) (some ((false,()),()))) (some ((false,()),()))) (cond (bO.1.1) (cond (bU.1.1) (some ((false,()),())) (some ((false,()),()))) (some ((false,()),()))))) (λa2=>some ((a2.1.1,()),())) aG
def afR:aw:=aZ [(0,ak ck),(1,ag)]
def aBd:aw:=aZ [(0,ak aW),(1,bP)]
def Tn:aw:=aZ [(0,ak ck),(7,ag),(9,ag),(10,ag)]
def afQ:bB:=[jB [(10,ag)]]
noncomputable def Tm (x:U Tn):Option (bA afQ):=cond (bd x.1.2.2.1 (W 1)) ((a7 x.1.1 (x.1.2.1).1).bind λee=>some ((ee.2.2.2.2.2.1,()),())) (some ((x.1.2.2.2.1,()),()))
def L8:aw:=⟨[(0,ak ck),(6,.arr 0 aW [false]),(7,ag),(8,ag),(9,ag)],[.arr aW [false]]⟩
def aBb:bB:=[((.exit 2),⟨[],[.arr aW [false]]⟩),(.ret,⟨[(4,.cP),(5,bP)],[.arr aW [false]]⟩)]
noncomputable def L7 (x:U L8):Option (U L8⊕bA aBb):=cond (bh x.1.2.2.2.2.1 x.1.2.2.2.1) ((a7 x.1.1 (x.1.2.2.1).1).bind λeK=>(Tm ((x.1.1,x.1.2.2.1,x.1.2.2.2.2.1,eK.2.2.2.2.1,()),())).bind λb6=>cond (bh b6.1.1 (W 0)) (some (.inr (.inr (((),false,()),(x.2.1,()))))) (cond (fM x.1.2.2.1 b6.1.1) (some (.inr (.inr (((),false,()),(x.2.1,()))))) (cond (decide (0<=(b6.1.1).1)&&decide ((b6.1.1).1<(x.2.1.1.length:Nat))) ((e3 x.2.1 ((b6.1.1).1).toNat).bind λjw=>cond (bh (W 0) jw.1) (some (.inr (.inr (((),false,()),(x.2.1,()))))) (cond (decide (0<=(x.1.2.2.1).1)&&decide ((x.1.2.2.1).1<(x.2.1.1.length:Nat))) ((e3 x.2.1 ((x.1.2.2.1).1).toNat).bind λj9=>cond (decide (0<=(b6.1.1).1)&&decide ((b6.1.1).1<(x.2.1.1.length:Nat))) ((e3 x.2.1 ((b6.1.1).1).toNat).bind λiX=>some (.inl ((x.1.1,(),x.1.2.2.1,x.1.2.2.2.1,(bg x.1.2.2.2.2.1 (W 1)),()),((ec x.2.1 ((b6.1.1).1).toNat ((bg j9.1 (W 1)),())),())))) (none)) (none))) (none)))) (some (.inr (.inl ((),(x.2.1,())))))
def L6:aw:=⟨[(0,ak ck),(6,.arr 0 aW [false]),(7,ag)],[.arr aW [false]]⟩
def aA_:bB:=[((.exit 0),⟨[],[.arr aW [false]]⟩),(.ret,⟨[(4,.cP),(5,bP)],[.arr aW [false]]⟩)]
noncomputable def L5 (x:U L6):Option (U L6⊕bA aA_):=cond (fM (W 0) x.1.2.2.1) (cond (decide (0<=(x.1.2.2.1).1)&&decide ((x.1.2.2.1).1<(x.2.1.1.length:Nat))) ((e3 x.2.1 ((x.1.2.2.1).1).toNat).bind λbL=>cond (bd bL.1 (W 0)) (some (.inl ((x.1.1,(),(gf x.1.2.2.1 (W 1)),()),(x.2.1,())))) ((a7 x.1.1 (x.1.2.2.1).1).bind λcM=>(L0 ((cM,()),())).bind λbf=>cond (!bf.1.1) (some (.inr (.inr (((),false,()),(x.2.1,()))))) (cond (decide (0<=(x.1.2.2.1).1)&&decide ((x.1.2.2.1).1<(x.2.1.1.length:Nat))) ((e3 x.2.1 ((x.1.2.2.1).1).toNat).bind λdh=>cond (bh (W 24) dh.1) (some (.inr (.inr (((),false,()),(x.2.1,()))))) ((a7 x.1.1 (x.1.2.2.1).1).bind λfD=>(As ((fD.1,()),())).bind λcD=>(a_ L7 ((x.1.1,(),x.1.2.2.1,cD.1.1,(W 0),()),(x.2.1,()))).bind λdD=>Sum.elim (λeN=>some (.inl ((x.1.1,(),(gf x.1.2.2.1 (W 1)),()),(eN.2.1,())))) (λfo=>some (.inr (.inr (((),fo.1.2.1,()),(fo.2.1,()))))) dD)) (none)))) (none)) (some (.inr (.inl ((),(x.2.1,())))))
noncomputable def E6 (x:U afR):Option (U aBd):=cond (bh (W 160) (bj x.1.1)) (some ((L.nil,false,()),())) (cond (bh x.1.2.1 (W 0)) (some ((L.nil,false,()),())) (cond (fM (bj x.1.1) x.1.2.1) (some ((L.nil,false,()),())) ((qE (α:=D [.int .i64]) 8 (bj x.1.1) ((W 0),())).bind λdC=>cond (decide (0<=(x.1.2.1).1)&&decide ((x.1.2.1).1<(dC.1.length:Nat))) ((e3 dC ((x.1.2.1).1).toNat).bind λaX=>(a_ L5 ((x.1.1,(),x.1.2.1,()),((ec dC ((x.1.2.1).1).toNat ((W 1),())),()))).bind λe4=>Sum.elim (λfI=>some ((fI.2.1,true,()),())) (λga=>some ((L.nil,ga.1.2.1,()),())) e4) (none))))
def afo:aw:=aZ [(0,ak ck),(1,ag)]
def aAn:aw:=aZ [(0,ak [.bool]),(1,bP)]
def E0:aw:=⟨[(0,ak ck),(6,ak aW),(8,.arr 0 [.bool] [false]),(9,ag)],[.arr [.bool] [false]]⟩
def aAl:bB:=[((.exit 0),⟨[],[.arr [.bool] [false]]⟩)]
noncomputable def LX (x:U E0):Option (U E0⊕bA aAl):=cond (bh x.1.2.2.2.1 (bj x.1.1)) ((a7 x.1.2.1 (x.1.2.2.2.1).1).bind λbL=>cond (decide (0<=(x.1.2.2.2.1).1)&&decide ((x.1.2.2.2.1).1<(x.2.1.1.length:Nat))) ((e3 x.2.1 ((x.1.2.2.2.1).1).toNat).bind λcM=>some (.inl ((x.1.1,x.1.2.1,(),(bg x.1.2.2.2.1 (W 1)),()),((ec x.2.1 ((x.1.2.2.2.1).1).toNat ((bh (W 0) bL.1),())),())))) (none)) (some (.inr ((),(x.2.1,()))))
noncomputable def EZ (x:U afo):Option (U aAn):=(E6 ((x.1.1,x.1.2.1,()),())).bind λaB=>cond (!aB.1.2.1) (some ((L.nil,false,()),())) ((qE (α:=D [.bool]) 1 (bj x.1.1) (false,())).bind λeo=>(a_ LX ((x.1.1,aB.1.1,(),(W 0),()),(eo,()))).bind λbf=>some ((bf.2.1,true,()),()))
def afs:aw:=aZ [(0,ak ck),(1,ag)]
def aAs:aw:=aZ [(0,ak bM)]
def E1:aw:=aZ [(0,ak ck),(5,ak [.bool]),(6,bP),(7,ak bM),(8,ag)]
def aAp:bB:=[((.exit 0),aZ [(7,ak bM)])]
noncomputable def LZ (x:U E1):Option (U E1⊕bA aAp):=cond (x.1.2.2.1) (cond (bh x.1.2.2.2.2.1 (bj x.1.1)) ((a7 x.1.2.1 (x.1.2.2.2.2.1).1).bind λaX=>cond (aX.1) ((a7 x.1.1 (x.1.2.2.2.2.1).1).bind λbL=>cond (bd bL.1 (W 0)) ((a7 x.1.1 (x.1.2.2.2.2.1).1).bind λcM=>(E4 ((x.1.2.2.2.1,cM.2.1,()),())).bind λbf=>some (.inl ((x.1.1,x.1.2.1,x.1.2.2.1,bf.1.1,(bg x.1.2.2.2.2.1 (W 1)),()),()))) (some (.inl ((x.1.1,x.1.2.1,x.1.2.2.1,x.1.2.2.2.1,(bg x.1.2.2.2.2.1 (W 1)),()),())))) (some (.inl ((x.1.1,x.1.2.1,x.1.2.2.1,x.1.2.2.2.1,(bg x.1.2.2.2.2.1 (W 1)),()),())))) (some (.inr ((x.1.2.2.2.1,()),())))) (some (.inr ((x.1.2.2.2.1,()),())))
noncomputable def LY (x:U afs):Option (U aAs):=(EZ ((x.1.1,x.1.2.1,()),())).bind λaB=>(a_ LZ ((x.1.1,aB.1.1,aB.1.2.1,L.nil,(W 0),()),())).bind λbO=>some ((bO.1.1,()),())
def afn:aw:=aZ [(0,ak ck),(1,ag)]
def aAi:aw:=aZ [(0,bP)]
noncomputable def LW (x:U afn):Option (U aAi):=(E6 ((x.1.1,x.1.2.1,()),())).bind λaB=>some ((aB.1.2.1,()),())
def afU:aw:=aZ [(0,ak c_),(1,aN)]
def aBi:aw:=aZ [(0,ag),(1,ag)]
def E7:aw:=aZ [(0,ak c_),(1,aN),(6,ag)]
def aBf:bB:=[((.exit 0),aZ []),gA [(4,ag),(5,ag)]]
noncomputable def L_ (x:U E7):Option (U E7⊕bA aBf):=cond (bh x.1.2.2.1 (bj x.1.1)) ((a7 x.1.1 (x.1.2.2.1).1).bind λaE=>cond (cC aE.1 x.1.2.1) ((a7 x.1.1 (x.1.2.2.1).1).bind λaX=>cond (bh aX.2.1 (W 0)) (some (.inr (.inr (((W 0),(W 502),()),())))) ((a7 x.1.1 (x.1.2.2.1).1).bind λbL=>cond (bh (W 5) bL.2.1) (some (.inr (.inr (((W 0),(W 502),()),())))) ((a7 x.1.1 (x.1.2.2.1).1).bind λcM=>some (.inr (.inr ((cM.2.1,(W 0),()),())))))) (some (.inl ((x.1.1,x.1.2.1,(bg x.1.2.2.1 (W 1)),()),())))) (some (.inr (.inl ((),()))))
noncomputable def L9 (x:U afU):Option (U aBi):=(a_ L_ ((x.1.1,x.1.2.1,(W 0),()),())).bind λbf=>Sum.elim (λbO=>some (((W 0),(W 501),()),())) (λbU=>some ((bU.1.1,bU.1.2.1,()),())) bf
def afB:aw:=aZ [(0,.agg ck),(1,ak c_)]
def aAQ:aw:=aZ [(0,ag),(1,ag)]
noncomputable def L3 (x:U afB):Option (U aAQ):=cond (bd x.1.1.1 (W 0)) ((L9 ((x.1.2.1,x.1.1.2.1,()),())).bind λaB=>some ((aB.1.1,aB.1.2.1,()),())) (cond (bd x.1.1.1 (W 1)) (some (((W 1),(W 0),()),())) (cond (bd x.1.1.1 (W 2)) (some (((W 2),(W 0),()),())) (cond (bd x.1.1.1 (W 3)) (some (((W 3),(W 0),()),())) (cond (bd x.1.1.1 (W 4)) (some (((W 4),(W 0),()),())) (some (((W 0),(W 0),()),()))))))
def afK:aw:=aZ [(0,ag),(1,ag),(2,ag)]
def aA3:aw:=aZ [(0,ag),(1,ag)]
def Tb:aw:=aZ [(0,ag),(1,ag),(2,ag)]
def afE:bB:=[jB [(8,bP)]]
noncomputable def Ta (x:U Tb):Option (bA afE):=cond (fM x.1.1 (W 10)) (cond (bd x.1.2.1 (W 1)) (some (((bd x.1.2.2.1 (W 1)),()),())) (some ((false,()),()))) (some ((false,()),()))
def Td:aw:=aZ [(0,ag),(1,ag),(2,ag)]
def afF:bB:=[jB [(19,bP)]]
noncomputable def Tc (x:U Td):Option (bA afF):=cond (bd x.1.1 (W 11)) (cond (bd x.1.2.1 x.1.2.2.1) (cond (!bd x.1.2.1 (W 5)) (some (((!bd x.1.2.1 (W 5)),()),())) (cond (bd x.1.1 (W 12)) (cond (bd x.1.2.1 (W 1)) (some (((bd x.1.2.2.1 (W 1)),()),())) (some ((false,()),()))) (some ((false,()),())))) (cond (bd x.1.1 (W 12)) (cond (bd x.1.2.1 (W 1)) (some (((bd x.1.2.2.1 (W 1)),()),())) (some ((false,()),()))) (some ((false,()),())))) (cond (bd x.1.1 (W 12)) (cond (bd x.1.2.1 (W 1)) (some (((bd x.1.2.2.1 (W 1)),()),())) (some ((false,()),()))) (some ((false,()),())))
def Th:aw:=aZ [(0,ag),(1,ag),(2,ag)]
def afH:bB:=[jB [(41,bP)]]
noncomputable def Tg (x:U Th):Option (bA afH):=cond (bd x.1.1 (W 13)) (cond (bd x.1.2.1 (W 2)) (some (((bd x.1.2.2.1 (W 2)),()),())) (some ((false,()),()))) (cond (bd x.1.1 (W 14)) (cond (bd x.1.2.1 (W 2)) (some (((bd x.1.2.2.1 (W 2)),()),())) (some ((false,()),()))) (some ((false,()),())))
def Tf:aw:=aZ [(0,ag),(1,ag),(2,ag)]
def afG:bB:=[jB [(41,bP)]]
noncomputable def Te (x:U Tf):Option (bA afG):=(Tg ((x.1.1,x.1.2.1,x.1.2.2.1,()),())).bind λa1=>cond (a1.1.1) (some ((a1.1.1,()),())) (cond (bd x.1.1 (W 15)) (some (((bd x.1.2.1 (W 2)),()),())) (some ((false,()),())))
def Tj:aw:=aZ [(0,ag),(1,ag),(2,ag)]
def afI:bB:=[jB [(62,bP)]]
noncomputable def Ti (x:U Tj):Option (bA afI):=cond (bd x.1.1 (W 16)) (cond (bd x.1.2.1 (W 3)) (some ((true,()),())) (cond (bd x.1.2.1 (W 4)) (some (((bd x.1.2.1 (W 4)),()),())) (cond (bd x.1.1 (W 17)) (cond (bd x.1.2.1 (W 4)) (some (((bd x.1.2.2.1 (W 1)),()),())) (some ((false,()),()))) (some ((false,()),()))))) (cond (bd x.1.1 (W 17)) (cond (bd x.1.2.1 (W 4)) (some (((bd x.1.2.2.1 (W 1)),()),())) (some ((false,()),()))) (some ((false,()),())))
def Tl:aw:=aZ [(0,ag),(1,ag),(2,ag)]
def afJ:bB:=[jB [(83,bP)]]
noncomputable def Tk (x:U Tl):Option (bA afJ):=cond (bd x.1.1 (W 18)) (cond (bd x.1.2.1 (W 4)) (some (((bd x.1.2.2.1 (W 1)),()),())) (some ((false,()),()))) (some ((false,()),()))
noncomputable def E3 (x:U afK):Option (U aA3):=(Ta ((x.1.1,x.1.2.1,x.1.2.2.1,()),())).bind λaB=>cond (aB.1.1) (some (((W 1),(W 0),()),())) ((Tc ((x.1.1,x.1.2.1,x.1.2.2.1,()),())).bind λaG=>cond (aG.1.1) (some (((W 2),(W 0),()),())) ((Te ((x.1.1,x.1.2.1,x.1.2.2.1,()),())).bind λa2=>cond (a2.1.1) (some (((W 2),(W 0),()),())) ((Ti ((x.1.1,x.1.2.1,x.1.2.2.1,()),())).bind λbf=>cond (bf.1.1) (some (((W 1),(W 0),()),())) ((Tk ((x.1.1,x.1.2.1,x.1.2.2.1,()),())).bind λbO=>cond (bO.1.1) (some (((W 4),(W 0),()),())) (cond (bd x.1.1 (W 19)) (cond (bd x.1.2.1 (W 3)) (cond (bd x.1.2.2.1 (W 3)) (some (((W 3),(W 0),()),())) (some (((W 0),(W 502),()),()))) (some (((W 0),(W 502),()),()))) (some (((W 0),(W 502),()),())))))))
def uq:aw:=aZ [(0,ak ck),(1,ag),(2,ak c_)]
def Au:aw:=aZ [(0,ag),(1,ag)]
noncomputable def L2 (rec:U uq->Option (U Au)) (x:U uq):Option (U Au):=(a7 x.1.1 (x.1.2.1).1).bind λaE=>(As ((aE.1,()),())).bind λaG=>cond (bd aG.1.1 (W 0)) ((L3 ((aE,x.1.2.2.1,()),())).bind λa1=>some ((a1.1.1,a1.1.2.1,()),())) ((rec ((x.1.1,aE.2.2.2.2.1,x.1.2.2.1,()),())).bind λa2=>cond (!bd a2.1.2.1 (W 0)) (some (((W 0),a2.1.2.1,()),())) (cond (bd aG.1.1 (W 2)) ((rec ((x.1.1,aE.2.2.2.2.2.1,x.1.2.2.1,()),())).bind λbf=>cond (!bd bf.1.2.1 (W 0)) (some (((W 0),bf.1.2.1,()),())) ((E3 ((aE.1,a2.1.1,bf.1.1,()),())).bind λbO=>some ((bO.1.1,bO.1.2.1,()),()))) ((E3 ((aE.1,a2.1.1,(W 0),()),())).bind λbU=>some ((bU.1.1,bU.1.2.1,()),()))))
noncomputable def At:Nat->U uq->Option (U Au)
 |0=>λ_=>none
 |n+1=>L2 (At n)
noncomputable def S':U uq->Option (U Au):=At oP
def afc:aw:=aZ [(0,ak ck),(1,ag),(2,ak c_)]
def az0:aw:=aZ [(0,ag),(1,ag)]
noncomputable def LQ (x:U afc):Option (U az0):=(LW ((x.1.1,x.1.2.1,()),())).bind λaB=>cond (!aB.1.1) (some (((W 0),(W 500),()),())) ((S' ((x.1.1,x.1.2.1,x.1.2.2.1,()),())).bind λaG=>some ((aG.1.1,aG.1.2.1,()),()))
def aAT:bI:=⟨.nil,[]⟩
theorem aAS:bC 195 E2:=bN aAT [] []
def azV:bI:=⟨.nil,[]⟩
theorem azU:bC 196 LP:=bN azV [] [.c 7 SY ae',.c 89 S0 afa]
def aAE:bI:=⟨.nil,[]⟩
theorem aAD:bC 197 L1:=bN aAE [] []
def afe:bI:=⟨.nil,[aR aAS,aR azU,aR aAD]⟩
theorem az2:cl 159 0 LR:=ct afe [] []
theorem sc:bC 159 kz:=bN afe [cr az2] []
def afj:bI:=⟨.nil,[]⟩
theorem az_:cl 104 0 Aq:=ct afj [] []
theorem EX:bC 104 uo:=bN afj [cr az_] []
def azQ:bI:=⟨.nil,[aR EX]⟩
theorem vo:bC 102 oK:=bN azQ [] []
def afh:bI:=⟨.nil,[aR vo]⟩
theorem az6:cl 160 0 LS:=ct afh [] []
theorem afg:bC 160 EU:=bN afh [cr az6] []
def afO:bI:=⟨.nil,[]⟩
theorem aA4:cl 190 0 L4:=ct afO [] []
theorem afN:bC 190 E4:=bN afO [cr aA4] []
def afm:bI:=⟨.nil,[aR afN]⟩
theorem aAc:cl 151 0 LV:=ct afm [] []
theorem S2:bC 151 vq:=bN afm [cr aAc] []
def ae9:bI:=⟨(put .nil 22 .tok),[]⟩
theorem azM:cl 210 0 LO:=ct ae9 [] []
theorem ae8:bC 210 ER:=bN ae9 [cr azM] [.c 5 SU ae6]
def aAB:bI:=⟨.nil,[]⟩
theorem S9:bC 258 As:=bN aAB [] []
def aAy:bI:=⟨(put .nil 1 .bX),[aR sc,aR S9]⟩
theorem aAx:bC 257 L0:=bN aAy [] [.c 5 S4 afu,.c 13 S6 afv,.c 15 S8 afw]
def To:bI:=⟨(put .nil 26 (.arr [false])),[aR aAx,aR S9]⟩
theorem aBa:cl 236 1 L7:=ct To [] [.c 11 Tn afQ]
theorem aA9:cl 236 0 L5:=ct To [cr aBa] []
theorem afS:bC 236 E6:=bN To [cr aA9] []
def afq:bI:=⟨(put .nil 20 (.arr [false])),[aR afS]⟩
theorem aAk:cl 189 0 LX:=ct afq [] []
theorem afp:bC 189 EZ:=bN afq [cr aAk] []
def aft:bI:=⟨.nil,[aR afp,aR afN]⟩
theorem aAo:cl 150 0 LZ:=ct aft [] []
theorem aAr:bC 150 LY:=bN aft [cr aAo] []
def aAh:bI:=⟨.nil,[aR afS]⟩
theorem aAg:bC 266 LW:=bN aAh [] []
def afV:bI:=⟨.nil,[]⟩
theorem aBe:cl 273 0 L_:=ct afV [] []
theorem aBh:bC 273 L9:=bN afV [cr aBe] []
def aAP:bI:=⟨(put .nil 2 .bX),[aR aBh]⟩
theorem aAO:bC 270 L3:=bN aAP [] []
def aA2:bI:=⟨.nil,[]⟩
theorem aA1:bC 271 E3:=bN aA2 [] [.c 5 Tb afE,.c 11 Td afF,.c 21 Tf afG,.c 22 Th afH,.c 31 Tj afI,.c 41 Tl afJ]
abbrev afA:={g:U uq->Option (U Au)//bC 267 g}
def aAM (r:afA):bI:=⟨(put .nil 8 .bX),[aR S9,aR r.2,aR aAO,aR aA1]⟩
theorem aAH:∀r:afA,bC 267 (L2 r.1):=zr aAM (λr=>[]) []
theorem aAJ (n:Nat):bC 267 (At n):=by
 induction n with
 |zero=>exactλx y h=>by cases h
 |succ n b_=>exact aAH ⟨At n,b_⟩
theorem aAL:bC 267 S':=aAJ oP
def azZ:bI:=⟨.nil,[aR aAg,aR aAL]⟩
theorem azY:bC 263 LQ:=bN azZ [] []
def ahE:aw:=aZ [(0,aN)]
def aGh:aw:=aZ [(0,bP)]
def Gj:aw:=aZ [(0,aN),(3,ag)]
def aGe:bB:=[((.exit 0),aZ []),gA [(2,bP)]]
noncomputable def NC (x:U Gj):Option (U Gj⊕bA aGe):=cond (bh x.1.2.1 (mF x.1.1)) ((u6 x.1.1 (x.1.2.1).1).bind λv1=>cond (bd v1 (aO.w .u8 46)) ((oo x.1.1 0 (x.1.2.1).1).bind λv2=>(kz ((v2,()),())).bind λa1=>cond (a1.1.1) ((oo x.1.1 ((bg x.1.2.1 (W 1))).1 x.1.1.1.size).bind λv4=>(kz ((v4,()),())).bind λbf=>some (.inr (.inr ((bf.1.1,()),())))) (some (.inr (.inr ((false,()),()))))) (some (.inl ((x.1.1,(bg x.1.2.1 (W 1)),()),())))) (some (.inr (.inl ((),()))))
noncomputable def NB (x:U ahE):Option (U aGh):=(a_ NC ((x.1.1,(W 0),()),())).bind λbO=>Sum.elim (λbU=>(kz ((x.1.1,()),())).bind λbV=>some ((bV.1.1,()),())) (λcD=>some ((cD.1.1,()),())) bO
def agx:aw:=aZ [(0,.agg jG)]
def aDr:aw:=aZ [(0,bP)]
noncomputable def FF (x:U agx):Option (U aDr):=cond (bd x.1.1.1 (W 5)) ((NB ((x.1.1.2.1,()),())).bind λaB=>some ((aB.1.1,()),())) (cond (fM (W 0) x.1.1.1) (cond (bh x.1.1.1 (W 5)) (some (((cC x.1.1.2.1 (S ⟨#[]⟩)),()),())) (some ((false,()),()))) (some ((false,()),())))
def agt:aw:=aZ [(0,ak eb),(1,ag)]
def aC5:aw:=aZ [(0,bP)]
def Fx:aw:=aZ [(0,ak eb),(5,ag),(6,ag)]
def aC3:bB:=[((.exit 2),aZ []),gA [(4,bP)]]
noncomputable def ME (x:U Fx):Option (U Fx⊕bA aC3):=cond (bh x.1.2.2.1 x.1.2.1) ((a7 x.1.1 (x.1.2.2.1).1).bind λfD=>(a7 x.1.1 (x.1.2.1).1).bind λdG=>cond (cC fD.1 dG.1) (some (.inr (.inr ((false,()),())))) (some (.inl ((x.1.1,x.1.2.1,(bg x.1.2.2.1 (W 1)),()),())))) (some (.inr (.inl ((),()))))
def Fw:aw:=aZ [(0,ak eb),(1,ag),(5,ag)]
def aC0:bB:=[((.exit 0),aZ []),gA [(4,bP)]]
noncomputable def MD (x:U Fw):Option (U Fw⊕bA aC0):=cond (bh x.1.2.2.1 (bj x.1.1)) ((a7 x.1.1 (x.1.2.2.1).1).bind λaE=>(kz ((aE.1,()),())).bind λaG=>cond (!aG.1.1) (some (.inr (.inr ((false,()),())))) ((a7 x.1.1 (x.1.2.2.1).1).bind λbL=>(FF (((bL.2.1,bL.2.2.1,()),()),())).bind λa2=>cond (!a2.1.1) (some (.inr (.inr ((false,()),())))) ((a7 x.1.1 (x.1.2.2.1).1).bind λdX=>cond (bh dX.2.2.2.1 (W 0)) (some (.inr (.inr ((false,()),())))) ((a7 x.1.1 (x.1.2.2.1).1).bind λdh=>cond (fM x.1.2.1 dh.2.2.2.1) (some (.inr (.inr ((false,()),())))) ((a_ ME ((x.1.1,x.1.2.2.1,(W 0),()),())).bind λbV=>Sum.elim (λcu=>some (.inl ((x.1.1,x.1.2.1,(bg x.1.2.2.1 (W 1)),()),()))) (λb6=>some (.inr (.inr ((b6.1.1,()),())))) bV))))) (some (.inr (.inl ((),()))))
noncomputable def AA (x:U agt):Option (U aC5):=(a_ MD ((x.1.1,x.1.2.1,(W 0),()),())).bind λcS=>Sum.elim (λcG=>cond (fM (W 1) (bj x.1.1)) (some (((fM (bj x.1.1) (W 6)),()),())) (some ((false,()),()))) (λev=>some ((ev.1.1,()),())) cS
def agH:aw:=aZ [(0,.agg cV)]
def aDW:aw:=aZ [(0,bP)]
def FK:aw:=aZ [(1,.cW cV 0),(3,ag)]
def aDR:bB:=[((.exit 0),aZ []),gA [(2,bP)]]
noncomputable def MT (x:U FK):Option (U FK⊕bA aDR):=cond (bh x.1.2.1 (bj x.1.1.2.1)) ((a7 x.1.1.2.1 (x.1.2.1).1).bind λbL=>(kz ((bL.1,()),())).bind λa2=>cond (!a2.1.1) (some (.inr (.inr ((false,()),())))) (some (.inl ((x.1.1,(bg x.1.2.1 (W 1)),()),())))) (some (.inr (.inl ((),()))))
def TQ:aw:=aZ [(5,.cW eg 0)]
def agG:bB:=[jB [],((.exit 3),aZ [])]
noncomputable def TP (x:U TQ):Option (bA agG):=cond (cC x.1.1.1 (S ⟨#[]⟩)) (cond (cC x.1.1.2.1 (S ⟨#[]⟩)) (cond (bd (bj x.1.1.2.2.1) (W 0)) (some (.inr ((),()))) (some (.inl ((),())))) (some (.inl ((),())))) (some (.inl ((),())))
def FL:aw:=aZ [(1,.cW cV 0),(4,ag)]
def aDU:bB:=[((.exit 2),aZ []),gA [(2,bP)]]
noncomputable def MU (x:U FL):Option (U FL⊕bA aDU):=cond (bh x.1.2.1 (bj x.1.1.2.2.1)) ((a7 x.1.1.2.2.1 (x.1.2.1).1).bind λdG=>(TP ((dG,()),())).bind λbV=>Sum.elim (λcu=>cond (cC dG.1 dG.2.1) (some (.inr (.inr ((false,()),())))) ((oK ((x.1.1.2.1,dG.1,()),())).bind λcS=>cond (!cS.1.1) (some (.inr (.inr ((false,()),())))) ((oK ((x.1.1.2.1,dG.2.1,()),())).bind λcG=>cond (!cG.1.1) (some (.inr (.inr ((false,()),())))) ((AA ((dG.2.2.1,(bj x.1.1.2.2.1),()),())).bind λev=>cond (!ev.1.1) (some (.inr (.inr ((false,()),())))) (some (.inl (((x.1.1.1,x.1.1.2.1,x.1.1.2.2.1,()),(bg x.1.2.1 (W 1)),()),()))))))) (λb6=>some (.inl (((x.1.1.1,x.1.1.2.1,x.1.1.2.2.1,()),(bg x.1.2.1 (W 1)),()),()))) bV) (some (.inr (.inl ((),()))))
noncomputable def yG (x:U agH):Option (U aDW):=(kz ((x.1.1.1,()),())).bind λaB=>cond (!aB.1.1) (some ((false,()),())) (cond (bh (bj x.1.1.2.1) (W 2)) (some ((false,()),())) (cond (bh (W 5) (bj x.1.1.2.1)) (some ((false,()),())) ((EU ((x.1.1.2.1,()),())).bind λaG=>cond (!aG.1.1) (some ((false,()),())) (cond (bh (bj x.1.1.2.2.1) (W 1)) (some ((false,()),())) (cond (bh (W 24) (bj x.1.1.2.2.1)) (some ((false,()),())) ((a_ MT ((x.1.1,(W 0),()),())).bind λbf=>Sum.elim (λbO=>(a_ MU (((x.1.1.1,x.1.1.2.1,x.1.1.2.2.1,()),(W 0),()),())).bind λdD=>Sum.elim (λeN=>some ((true,()),())) (λfo=>some ((fo.1.1,()),())) dD) (λbU=>some ((bU.1.1,()),())) bf))))))
def ahK:aw:=aZ [(0,.agg eg),(1,aN)]
def aGQ:aw:=aZ [(0,bP)]
noncomputable def Gu (x:U ahK):Option (U aGQ):=cond (cC x.1.1.1 x.1.2.1) (some ((true,()),())) (some (((cC x.1.1.2.1 x.1.2.1),()),()))
def ahx:aw:=aZ [(0,.agg cV),(1,aN),(2,ak aW)]
def aF_:aw:=aZ [(0,ak aW)]
def T8:aw:=⟨[(2,ak aW),(7,.arr 0 [.bool] [false]),(9,ag)],[.arr [.bool] [false]]⟩
def ahw:bB:=[(.normal,⟨[(48,bP)],[.arr [.bool] [false]]⟩)]
noncomputable def T7 (x:U T8):Option (bA ahw):=(a7 x.1.1 (x.1.2.2.1).1).bind λaX=>cond (fM (W 0) aX.1) ((a7 x.1.1 (x.1.2.2.1).1).bind λbL=>cond (bh bL.1 (W (x.2.1.1.length:Nat))) ((a7 x.1.1 (x.1.2.2.1).1).bind λcM=>cond (decide (0<=(cM.1).1)&&decide ((cM.1).1<(x.2.1.1.length:Nat))) ((e3 x.2.1 ((cM.1).1).toNat).bind λdX=>some (((!dX.1),()),(x.2.1,()))) (none)) (some ((false,()),(x.2.1,())))) (some ((false,()),(x.2.1,())))
def Gc:aw:=⟨[(2,ak aW),(7,.arr 0 [.bool] [false]),(8,.tok aW 1 []),(9,ag)],[.arr [.bool] [false],.a6 aW]⟩
def aFZ:bB:=[((.exit 0),⟨[(8,.tok aW 2 [])],[.arr [.bool] [false],.gone,.a6 aW]⟩)]
noncomputable def Nw (x:U Gc):Option (U Gc⊕bA aFZ):=cond (bh x.1.2.2.2.1 (bj x.1.1)) ((T7 ((x.1.1,(),x.1.2.2.2.1,()),(x.2.1,()))).bind λbO=>cond (bO.1.1) ((a7 x.1.1 (x.1.2.2.2.1).1).bind λfD=>cond (decide (0<=(fD.1).1)&&decide ((fD.1).1<(x.2.1.1.length:Nat))) ((e3 bO.2.1 ((fD.1).1).toNat).bind λdG=>(a7 x.1.1 (x.1.2.2.2.1).1).bind λeK=>(de 8 x.1.2.2.1 (cx [eK])).bind λoE=>some (.inl ((x.1.1,(),oE,(bg x.1.2.2.2.1 (W 1)),()),((ec bO.2.1 ((fD.1).1).toNat (true,())),(),())))) (none)) (some (.inl ((x.1.1,(),x.1.2.2.1,(bg x.1.2.2.2.1 (W 1)),()),(bO.2.1,(),()))))) (some (.inr ((x.1.2.2.1,()),(x.2.1,(),(),()))))
def Ge:aw:=⟨[(1,aN),(7,.arr 0 [.bool] [false]),(8,.tok aW 1 []),(11,.cW eg 0),(12,ag)],[.arr [.bool] [false],.a6 aW]⟩
def aF5:bB:=[((.exit 4),⟨[(8,.tok aW 2 [])],[.arr [.bool] [false],.gone,.a6 aW]⟩)]
noncomputable def Ny (x:U Ge):Option (U Ge⊕bA aF5):=cond (bh x.1.2.2.2.2.1 (bj x.1.2.2.2.1.2.2.1)) ((Gu ((x.1.2.2.2.1,x.1.1,()),())).bind λev=>cond (!ev.1.1) ((a7 x.1.2.2.2.1.2.2.1 (x.1.2.2.2.2.1).1).bind λjx=>cond (decide (0<=(jx.2.2.2.1).1)&&decide ((jx.2.2.2.1).1<(x.2.1.1.length:Nat))) ((e3 x.2.1 ((jx.2.2.2.1).1).toNat).bind λik=>cond (!ik.1) ((a7 x.1.2.2.2.1.2.2.1 (x.1.2.2.2.2.1).1).bind λkp=>cond (decide (0<=(kp.2.2.2.1).1)&&decide ((kp.2.2.2.1).1<(x.2.1.1.length:Nat))) ((e3 x.2.1 ((kp.2.2.2.1).1).toNat).bind λkq=>(a7 x.1.2.2.2.1.2.2.1 (x.1.2.2.2.2.1).1).bind λpU=>(de 8 x.1.2.2.1 (cx [(pU.2.2.2.1,())])).bind λx8=>some (.inl ((x.1.1,(),x8,x.1.2.2.2.1,(bg x.1.2.2.2.2.1 (W 1)),()),((ec x.2.1 ((kp.2.2.2.1).1).toNat (true,())),(),())))) (none)) (some (.inl ((x.1.1,(),x.1.2.2.1,x.1.2.2.2.1,(bg x.1.2.2.2.2.1 (W 1)),()),(x.2.1,(),()))))) (none)) (some (.inr ((x.1.2.2.1,()),(x.2.1,(),(),()))))) (some (.inr ((x.1.2.2.1,()),(x.2.1,(),(),()))))
def Gd:aw:=⟨[(1,aN),(3,.cW cV 0),(7,.arr 0 [.bool] [false]),(8,.tok aW 1 []),(10,ag)],[.arr [.bool] [false],.a6 aW]⟩
def aF2:bB:=[((.exit 2),⟨[],[.arr [.bool] [false],.gone]⟩)]
noncomputable def Nx (x:U Gd):Option (U Gd⊕bA aF2):=cond (bh x.1.2.2.2.2.1 (bj x.1.2.2.2.1)) ((a7 x.1.2.2.2.1 (x.1.2.2.2.2.1).1).bind λjw=>(a7 x.1.2.1.2.2.1 (jw.1).1).bind λj9=>(a_ Ny ((x.1.1,(),x.1.2.2.2.1,j9,(W 0),()),(x.2.1,(),()))).bind λjc=>some (.inl ((x.1.1,x.1.2.1,(),jc.1.1,(bg x.1.2.2.2.2.1 (W 1)),()),(jc.2.1,(),())))) (some (.inr ((),(x.2.1,(),()))))
def Gf:aw:=⟨[(7,.arr 0 [.bool] [false]),(13,.tok aW 1 []),(14,ag)],[.arr [.bool] [false],.a6 aW]⟩
def aF8:bB:=[((.exit 6),⟨[(13,.tok aW 2 [])],[.arr [.bool] [false],.gone,.a6 aW]⟩)]
noncomputable def Nz (x:U Gf):Option (U Gf⊕bA aF8):=cond (bh x.1.2.2.1 (W (x.2.1.1.length:Nat))) (cond (decide (0<=(x.1.2.2.1).1)&&decide ((x.1.2.2.1).1<(x.2.1.1.length:Nat))) ((e3 x.2.1 ((x.1.2.2.1).1).toNat).bind λmz=>cond (mz.1) ((de 8 x.1.2.1 (cx [(x.1.2.2.1,())])).bind λtY=>some (.inl (((),tY,(bg x.1.2.2.1 (W 1)),()),(x.2.1,(),())))) (some (.inl (((),x.1.2.1,(bg x.1.2.2.1 (W 1)),()),(x.2.1,(),()))))) (none)) (some (.inr ((x.1.2.1,()),(x.2.1,(),(),()))))
noncomputable def Gb (x:U ahx):Option (U aF_):=(qE (α:=D [.bool]) 1 (bj x.1.1.2.2.1) (false,())).bind λdC=>(a_ Nw ((x.1.2.2.1,(),L.nil,(W 0),()),(dC,(),()))).bind λb6=>(a_ Nx ((x.1.2.1,x.1.1,(),b6.1.1,(W 0),()),(b6.2.1,(),()))).bind λe9=>(a_ Nz (((),L.nil,(W 0),()),(e9.2.1,(),()))).bind λkA=>some ((kA.1.1,()),())
def ag9:aw:=aZ [(0,.agg cV),(1,aN),(2,ak aW)]
def aFd:aw:=aZ [(0,ak aW)]
def F2:aw:=⟨[(1,aN),(2,ak aW),(3,.cW cV 0),(7,.tok aW 0 []),(8,ag)],[.a6 aW]⟩
def aFb:bB:=[((.exit 0),⟨[(7,.tok aW 1 [])],[.gone,.a6 aW]⟩)]
noncomputable def Nj (x:U F2):Option (U F2⊕bA aFb):=cond (bh x.1.2.2.2.2.1 (bj x.1.2.1)) ((a7 x.1.2.1 (x.1.2.2.2.2.1).1).bind λaE=>(a7 x.1.2.2.1.2.2.1 (aE.1).1).bind λaX=>(Gu ((aX,x.1.1,()),())).bind λa1=>cond (a1.1.1) ((a7 x.1.2.1 (x.1.2.2.2.2.1).1).bind λcM=>(de 8 x.1.2.2.2.1 (cx [cM])).bind λgv=>some (.inl ((x.1.1,x.1.2.1,x.1.2.2.1,gv,(bg x.1.2.2.2.2.1 (W 1)),()),((),())))) (some (.inl ((x.1.1,x.1.2.1,x.1.2.2.1,x.1.2.2.2.1,(bg x.1.2.2.2.2.1 (W 1)),()),((),()))))) (some (.inr ((x.1.2.2.2.1,()),((),(),()))))
noncomputable def F1 (x:U ag9):Option (U aFd):=(a_ Nj ((x.1.2.1,x.1.2.2.1,x.1.1,L.nil,(W 0),()),((),()))).bind λbO=>some ((bO.1.1,()),())
def ag4:aw:=aZ [(0,.agg cV),(1,aN),(2,ag)]
def aEY:aw:=aZ [(0,bP)]
noncomputable def Nd (x:U ag4):Option (U aEY):=(Gb ((x.1.1,x.1.2.1,(cx [(x.1.2.2.1,())]),()),())).bind λaB=>(F1 ((x.1.1,x.1.2.1,aB.1.1,()),())).bind λaG=>some (((bd (bj aG.1.1) (W 0)),()),())
def ahq:aw:=aZ [(0,ak aW),(1,ak aW)]
def aFQ:aw:=aZ [(0,bP)]
def F':aw:=aZ [(0,ak aW),(1,ak aW),(5,ag)]
def aFN:bB:=[((.exit 0),aZ []),gA [(4,bP)]]
noncomputable def Nv (x:U F'):Option (U F'⊕bA aFN):=cond (bh x.1.2.2.1 (bj x.1.1)) ((a7 x.1.1 (x.1.2.2.1).1).bind λaE=>(a7 x.1.2.1 (x.1.2.2.1).1).bind λaX=>cond (!bd aE.1 aX.1) (some (.inr (.inr ((false,()),())))) (some (.inl ((x.1.1,x.1.2.1,(bg x.1.2.2.1 (W 1)),()),())))) (some (.inr (.inl ((),()))))
noncomputable def Nu (x:U ahq):Option (U aFQ):=cond (!bd (bj x.1.1) (bj x.1.2.1)) (some ((false,()),())) ((a_ Nv ((x.1.1,x.1.2.1,(W 0),()),())).bind λa1=>Sum.elim (λa2=>some ((true,()),())) (λbf=>some ((bf.1.1,()),())) a1)
def ahT:aw:=⟨[(0,b9),(1,ak aW)],[.box [aN,ak bM,ak eg,aN,.tok [.aH aW] 1 []],.a6 [.aH aW]]⟩
def aHi:aw:=⟨[(0,ag),(1,ag)],[.box [aN,ak bM,ak eg,aN,.tok [.aH aW] 2 []],.gone,.a6 [.aH aW]]⟩
def GC:aw:=⟨[(0,b9),(6,ak aW),(7,ak aW),(8,ag)],[.box [aN,ak bM,ak eg,aN,.tok [.aH aW] 1 []],.a6 [.aH aW]]⟩
def aHd:bB:=[((.exit 0),⟨[],[.box [aN,ak bM,ak eg,aN,.tok [.aH aW] 2 []],.gone,.a6 [.aH aW]]⟩),(.ret,⟨[(4,ag),(5,ag)],[.box [aN,ak bM,ak eg,aN,.tok [.aH aW] 2 []],.gone,.a6 [.aH aW]]⟩)]
noncomputable def NY (x:U GC):Option (U GC⊕bA aHd):=cond (bh x.1.2.2.2.1 (bj x.1.2.1)) (cond (bh (W 0) (bj x.1.2.2.1)) ((a7 x.1.2.1 (x.1.2.2.2.1).1).bind λbL=>(Nd (((x.2.1.1,x.2.1.2.1,x.2.1.2.2.1,()),x.2.1.2.2.2.1,bL.1,()),())).bind λa2=>cond (a2.1.1) (some (.inr (.inr (((W 0),(W 801),()),(x.2.1,(),(),()))))) (some (.inl (((),x.1.2.1,x.1.2.2.1,(bg x.1.2.2.2.1 (W 1)),()),(x.2.1,(),()))))) (some (.inr (.inl ((),(x.2.1,(),(),())))))) (some (.inr (.inl ((),(x.2.1,(),(),())))))
def GD:aw:=⟨[(0,b9),(7,ak aW),(9,ag)],[.box [aN,ak bM,ak eg,aN,.tok [.aH aW] 1 []],.a6 [.aH aW]]⟩
def aHg:bB:=[((.exit 2),⟨[],[.box [aN,ak bM,ak eg,aN,.tok [.aH aW] 2 []],.gone,.a6 [.aH aW]]⟩),(.ret,⟨[(4,ag),(5,ag)],[.box [aN,ak bM,ak eg,aN,.tok [.aH aW] 2 []],.gone,.a6 [.aH aW]]⟩)]
noncomputable def NZ (x:U GD):Option (U GD⊕bA aHg):=cond (bh x.1.2.2.1 (bj x.2.1.2.2.2.2.1)) ((a7 x.2.1.2.2.2.2.1 (x.1.2.2.1).1).bind λdG=>(Nu ((dG.1,x.1.2.1,()),())).bind λbV=>cond (bV.1.1) (some (.inr (.inr ((x.1.2.2.1,(W 0),()),(x.2.1,(),(),()))))) (some (.inl (((),x.1.2.1,(bg x.1.2.2.1 (W 1)),()),(x.2.1,(),()))))) (some (.inr (.inl ((),(x.2.1,(),(),())))))
noncomputable def GB (x:U ahT):Option (U aHi):=(Gb (((x.2.1.1,x.2.1.2.1,x.2.1.2.2.1,()),x.2.1.2.2.2.1,x.1.2.1,()),())).bind λaB=>(F1 (((x.2.1.1,x.2.1.2.1,x.2.1.2.2.1,()),x.2.1.2.2.2.1,aB.1.1,()),())).bind λaG=>(a_ NY (((),aB.1.1,aG.1.1,(W 0),()),(x.2.1,(),()))).bind λbf=>Sum.elim (λbO=>(a_ NZ (((),aG.1.1,(W 0),()),(bO.2.1,(),()))).bind λcu=>Sum.elim (λb6=>cond (bd (bj b6.2.1.2.2.2.2.1) (W 40)) (some (((W 0),(W 805),()),(b6.2.1,(),(),()))) ((de 24 b6.2.1.2.2.2.2.1 (cx [(aG.1.1,())])).bind λm3=>some (((gf (bj m3) (W 1)),(W 0),()),((b6.2.1.1,b6.2.1.2.1,b6.2.1.2.2.1,b6.2.1.2.2.2.1,m3,()),(),(),())))) (λcS=>some ((cS.1.1,cS.1.2.1,()),(cS.2.1,(),(),()))) cu) (λbU=>some ((bU.1.1,bU.1.2.1,()),(bU.2.1,(),(),()))) bf
def ahQ:aw:=⟨[(0,b9),(1,ak aW)],[.box [aN,ak bM,ak eg,aN,.tok [.aH aW] 1 []],.a6 [.aH aW]]⟩
def aG0:aw:=⟨[(0,ag),(1,aN),(2,ag)],[.box [aN,ak bM,ak eg,aN,.tok [.aH aW] 2 []],.gone,.a6 [.aH aW]]⟩
def Gx:aw:=⟨[(0,b9),(1,ak aW),(7,ag),(8,aN),(9,ag)],[.box [aN,ak bM,ak eg,aN,.tok [.aH aW] 1 []],.a6 [.aH aW]]⟩
def aGX:bB:=[((.exit 0),⟨[(7,ag),(8,aN)],[.box [aN,ak bM,ak eg,aN,.tok [.aH aW] 2 []],.gone,.a6 [.aH aW]]⟩),(.ret,⟨[(4,ag),(5,aN),(6,ag)],[.box [aN,ak bM,ak eg,aN,.tok [.aH aW] 2 []],.gone,.a6 [.aH aW]]⟩)]
noncomputable def NS (x:U Gx):Option (U Gx⊕bA aGX):=cond (bh x.1.2.2.2.2.1 (bj x.1.2.1)) ((a7 x.1.2.1 (x.1.2.2.2.2.1).1).bind λaE=>(a7 x.2.1.2.2.1 (aE.1).1).bind λaX=>cond (cC aX.2.1 x.2.1.2.2.2.1) (cond (bh (W 0) x.1.2.2.2.2.1) (cond (!bd (W 2) x.1.2.2.1) (some (.inr (.inr (((W 0),(S ⟨#[]⟩),(W 802),()),(x.2.1,(),(),()))))) (cond (!cC aX.1 x.1.2.2.2.1) (some (.inr (.inr (((W 0),(S ⟨#[]⟩),(W 802),()),(x.2.1,(),(),()))))) (some (.inl (((),x.1.2.1,(W 2),aX.1,(bg x.1.2.2.2.2.1 (W 1)),()),(x.2.1,(),())))))) (some (.inl (((),x.1.2.1,(W 2),aX.1,(bg x.1.2.2.2.2.1 (W 1)),()),(x.2.1,(),()))))) (cond (bh (W 0) x.1.2.2.2.2.1) (cond (!bd (W 1) x.1.2.2.1) (some (.inr (.inr (((W 0),(S ⟨#[]⟩),(W 802),()),(x.2.1,(),(),()))))) (cond (!cC aX.2.1 x.1.2.2.2.1) (some (.inr (.inr (((W 0),(S ⟨#[]⟩),(W 802),()),(x.2.1,(),(),()))))) (some (.inl (((),x.1.2.1,(W 1),aX.2.1,(bg x.1.2.2.2.2.1 (W 1)),()),(x.2.1,(),())))))) (some (.inl (((),x.1.2.1,(W 1),aX.2.1,(bg x.1.2.2.2.2.1 (W 1)),()),(x.2.1,(),())))))) (some (.inr (.inl ((x.1.2.2.1,x.1.2.2.2.1,()),(x.2.1,(),(),())))))
noncomputable def NR (x:U ahQ):Option (U aG0):=(a_ NS (((),x.1.2.1,(W 0),(S ⟨#[]⟩),(W 0),()),(x.2.1,(),()))).bind λa1=>Sum.elim (λa2=>some ((a2.1.1,a2.1.2.1,(W 0),()),(a2.2.1,(),(),()))) (λbf=>some ((bf.1.1,bf.1.2.1,bf.1.2.2.1,()),(bf.2.1,(),(),()))) a1
def ahS:aw:=⟨[(0,b9),(1,ak aW)],[.box [aN,ak bM,ak eg,aN,.tok [.aH aW] 1 []],.a6 [.aH aW]]⟩
def aHa:aw:=⟨[(0,ak bM),(1,bP)],[.box [aN,ak bM,ak eg,aN,.tok [.aH aW] 2 []],.gone,.a6 [.aH aW]]⟩
def Gz:aw:=aZ [(6,ak bM),(8,ak eb),(9,ag)]
def aG6:bB:=[((.exit 2),aZ [(6,ak bM)])]
noncomputable def NV (x:U Gz):Option (U Gz⊕bA aG6):=cond (bh x.1.2.2.1 (bj x.1.2.1)) ((a7 x.1.2.1 (x.1.2.2.1).1).bind λbL=>(vq ((x.1.1,bL.1,()),())).bind λa2=>some (.inl ((a2.1.1,x.1.2.1,(bg x.1.2.2.1 (W 1)),()),()))) (some (.inr ((x.1.1,()),())))
def Gy:aw:=⟨[(0,b9),(1,ak aW),(6,ak bM),(7,ag)],[.box [aN,ak bM,ak eg,aN,.tok [.aH aW] 1 []],.a6 [.aH aW]]⟩
def aG3:bB:=[((.exit 0),⟨[(6,ak bM)],[.box [aN,ak bM,ak eg,aN,.tok [.aH aW] 2 []],.gone,.a6 [.aH aW]]⟩)]
noncomputable def NU (x:U Gy):Option (U Gy⊕bA aG3):=cond (bh x.1.2.2.2.1 (bj x.1.2.1)) ((a7 x.1.2.1 (x.1.2.2.2.1).1).bind λaE=>(a7 x.2.1.2.2.1 (aE.1).1).bind λaX=>(a_ NV ((x.1.2.2.1,aX.2.2.1,(W 0),()),())).bind λbf=>some (.inl (((),x.1.2.1,bf.1.1,(bg x.1.2.2.2.1 (W 1)),()),(x.2.1,(),())))) (some (.inr ((x.1.2.2.1,()),(x.2.1,(),(),()))))
def GA:aw:=⟨[(0,b9),(1,ak aW),(6,ak bM),(10,ag)],[.box [aN,ak bM,ak eg,aN,.tok [.aH aW] 1 []],.a6 [.aH aW]]⟩
def aG9:bB:=[((.exit 4),⟨[],[.box [aN,ak bM,ak eg,aN,.tok [.aH aW] 2 []],.gone,.a6 [.aH aW]]⟩),(.ret,⟨[(4,ak bM),(5,bP)],[.box [aN,ak bM,ak eg,aN,.tok [.aH aW] 2 []],.gone,.a6 [.aH aW]]⟩)]
noncomputable def NW (x:U GA):Option (U GA⊕bA aG9):=cond (bh x.1.2.2.2.1 (bj x.1.2.1)) ((a7 x.1.2.1 (x.1.2.2.2.1).1).bind λfD=>(a7 x.2.1.2.2.1 (fD.1).1).bind λdG=>cond (!bd (bj dG.2.2.1) (bj x.1.2.2.1)) (some (.inr (.inr ((x.1.2.2.1,false,()),(x.2.1,(),(),()))))) (some (.inl (((),x.1.2.1,x.1.2.2.1,(bg x.1.2.2.2.1 (W 1)),()),(x.2.1,(),()))))) (some (.inr (.inl ((),(x.2.1,(),(),())))))
noncomputable def NT (x:U ahS):Option (U aHa):=(a_ NU (((),x.1.2.1,L.nil,(W 0),()),(x.2.1,(),()))).bind λbO=>(a_ NW (((),x.1.2.1,bO.1.1,(W 0),()),(bO.2.1,(),()))).bind λbV=>Sum.elim (λcu=>some ((bO.1.1,true,()),(cu.2.1,(),(),()))) (λb6=>some ((b6.1.1,b6.1.2.1,()),(b6.2.1,(),(),()))) bV
def agY:aw:=aZ [(0,ak eb),(1,aN)]
def aEy:aw:=aZ [(0,ag)]
def FU:aw:=aZ [(0,ak eb),(1,aN),(5,ag)]
def aEv:bB:=[((.exit 0),aZ []),gA [(4,ag)]]
noncomputable def M6 (x:U FU):Option (U FU⊕bA aEv):=cond (bh x.1.2.2.1 (bj x.1.1)) ((a7 x.1.1 (x.1.2.2.1).1).bind λaE=>cond (cC aE.1 x.1.2.1) (some (.inr (.inr ((x.1.2.2.1,()),())))) (some (.inl ((x.1.1,x.1.2.1,(bg x.1.2.2.1 (W 1)),()),())))) (some (.inr (.inl ((),()))))
noncomputable def M5 (x:U agY):Option (U aEy):=(a_ M6 ((x.1.1,x.1.2.1,(W 0),()),())).bind λaG=>Sum.elim (λa1=>some (((W (-1)),()),())) (λa2=>some ((a2.1.1,()),())) aG
def ahN:aw:=⟨[(0,b9),(1,ak aW),(2,aN)],[.box [aN,ak bM,ak eg,aN,.tok [.aH aW] 1 []],.a6 [.aH aW]]⟩
def aGV:aw:=⟨[(0,.agg jG),(1,ak aW),(2,bP)],[.box [aN,ak bM,ak eg,aN,.tok [.aH aW] 2 []],.gone,.a6 [.aH aW]]⟩
def Gw:aw:=⟨[(0,b9),(1,ak aW),(2,aN),(6,.ptr 2 0),(9,.ptr 3 0),(10,.tok aW 4 []),(11,ag)],[.box [aN,ak bM,ak eg,aN,.tok [.aH aW] 1 []],.a6 [.aH aW],.box [ag,aN],.box [ag,aN],.a6 aW]⟩
def aGS:bB:=[((.exit 0),⟨[(10,.tok aW 5 [])],[.box [aN,ak bM,ak eg,aN,.tok [.aH aW] 6 []],.gone,.box [ag,aN],.box [ag,aN],.gone,.a6 aW,.a6 [.aH aW]]⟩),(.ret,⟨[(7,.cP),(8,bP)],[.box [aN,ak bM,ak eg,aN,.tok [.aH aW] 5 []],.gone,.box [ag,aN],.box [ag,aN],.gone,.a6 [.aH aW]]⟩)]
noncomputable def NQ (x:U Gw):Option (U Gw⊕bA aGS):=cond (bh x.1.2.2.2.2.2.2.1 (bj x.1.2.1)) ((a7 x.1.2.1 (x.1.2.2.2.2.2.2.1).1).bind λaE=>(a7 x.2.1.2.2.1 (aE.1).1).bind λaX=>(M5 ((aX.2.2.1,x.1.2.2.1,()),())).bind λa1=>cond (bh a1.1.1 (W 0)) (some (.inl (((),x.1.2.1,x.1.2.2.1,(),(),x.1.2.2.2.2.2.1,(bg x.1.2.2.2.2.2.2.1 (W 1)),()),(x.2.1,(),x.2.2.2.1,x.2.2.2.2.1,(),())))) (cond (bh (W 0) (bj x.1.2.2.2.2.2.1)) ((a7 aX.2.2.1 (a1.1.1).1).bind λcM=>cond (!((bd cM.2.1 x.2.2.2.2.1.1)&&((cC cM.2.2.1 x.2.2.2.2.1.2.1)&&true))) (some (.inr (.inr (((),false,()),(x.2.1,(),x.2.2.2.2.1,x.2.2.2.2.1,(),(),()))))) ((a7 aX.2.2.1 (a1.1.1).1).bind λdX=>(a7 aX.2.2.1 (a1.1.1).1).bind λdh=>(de 8 x.1.2.2.2.2.2.1 (cx [(dh.2.2.2.1,())])).bind λj1=>some (.inl (((),x.1.2.1,x.1.2.2.1,(),(),j1,(bg x.1.2.2.2.2.2.2.1 (W 1)),()),(x.2.1,(),x.2.2.2.1,(dX.2.1,dX.2.2.1,()),(),()))))) ((a7 aX.2.2.1 (a1.1.1).1).bind λdG=>(a7 aX.2.2.1 (a1.1.1).1).bind λeK=>(de 8 x.1.2.2.2.2.2.1 (cx [(eK.2.2.2.1,())])).bind λoE=>some (.inl (((),x.1.2.1,x.1.2.2.1,(),(),oE,(bg x.1.2.2.2.2.2.2.1 (W 1)),()),(x.2.1,(),x.2.2.2.1,(dG.2.1,dG.2.2.1,()),(),())))))) (some (.inr (.inl ((x.1.2.2.2.2.2.1,()),(x.2.1,(),x.2.2.2.1,x.2.2.2.2.1,(),(),(),())))))
noncomputable def Gv (x:U ahN):Option (U aGV):=(a_ NQ (((),x.1.2.1,x.1.2.2.1,(),(),L.nil,(W 0),()),(x.2.1,(),((W 0),(S ⟨#[]⟩),()),((W 0),(S ⟨#[]⟩),()),(),()))).bind λb6=>Sum.elim (λcS=>some (((cS.2.2.2.2.1.1,cS.2.2.2.2.1.2.1,()),cS.1.1,true,()),(cS.2.1,(),(),()))) (λcG=>some (((cG.2.2.2.1.1,cG.2.2.2.1.2.1,()),L.nil,cG.1.2.1,()),(cG.2.1,(),(),()))) b6
def ahX:aw:=⟨[(0,b9),(1,ak aW)],[.box [aN,ak bM,ak eg,aN,.tok [.aH aW] 1 []],.a6 [.aH aW]]⟩
def aHr:aw:=⟨[(0,.agg gz),(1,ag)],[.box [aN,ak bM,ak eg,aN,.tok [.aH aW] 2 []],.gone,.a6 [.aH aW]]⟩
def Ua:aw:=⟨[(4,b9),(6,ag),(10,bP)],[.box [ag,aN,.cP]]⟩
def ahW:bB:=[(.normal,⟨[],[.box [ag,aN,.cP]]⟩),(.ret,⟨[(5,ag)],[.box [ag,aN,.cP]]⟩)]
noncomputable def T' (x:U Ua):Option (bA ahW):=cond (bd x.1.2.1 (W 1)) (cond (!x.1.2.2.1) (some (.inr (((W 803),()),(((W 0),(S ⟨#[]⟩),(),()),())))) (some (.inl ((),(x.2.1,()))))) (some (.inl ((),(x.2.1,()))))
def GF:aw:=⟨[(0,b9),(1,ak aW),(4,.ptr 2 0),(9,ak bM),(11,ag)],[.box [aN,ak bM,ak eg,aN,.tok [.aH aW] 1 []],.a6 [.aH aW],.box [ag,aN,.cP]]⟩
def aHl:bB:=[((.exit 0),⟨[],[.box [aN,ak bM,ak eg,aN,.tok [.aH aW] 3 []],.gone,.box [ag,aN,.cP],.a6 [.aH aW]]⟩),(.ret,⟨[(5,ag)],[.box [aN,ak bM,ak eg,aN,.tok [.aH aW] 3 []],.gone,.box [ag,aN,.cP],.a6 [.aH aW]]⟩)]
noncomputable def N1 (x:U GF):Option (U GF⊕bA aHl):=cond (bh x.1.2.2.2.2.1 (bj x.1.2.2.2.1)) ((a7 x.1.2.2.2.1 (x.1.2.2.2.2.1).1).bind λdh=>(Gv (((),x.1.2.1,dh.1,()),(x.2.1,(),()))).bind λbU=>cond (!bU.1.2.2.1) (some (.inr (.inr (((W 804),()),(bU.2.1,(),((W 0),(S ⟨#[]⟩),(),()),(),()))))) (some (.inl (((),x.1.2.1,(),x.1.2.2.2.1,(bg x.1.2.2.2.2.1 (W 1)),()),(bU.2.1,(),x.2.2.2.1,()))))) (some (.inr (.inl ((),(x.2.1,(),x.2.2.2.1,(),())))))
def GG:aw:=⟨[(0,b9),(1,ak aW),(4,.ptr 2 0),(9,ak bM),(15,.ptr 3 0),(16,ag)],[.box [aN,ak bM,ak eg,aN,.tok [.aH aW] 1 []],.a6 [.aH aW],.box [ag,aN,.cP],.box [ag,aN,.tok eb 4 []],.a6 eb]⟩
def aHo:bB:=[((.exit 2),⟨[],[.box [aN,ak bM,ak eg,aN,.tok [.aH aW] 5 []],.gone,.box [ag,aN,.cP],.box [ag,aN,.tok eb 6 []],.gone,.a6 [.aH aW],.a6 eb]⟩),(.ret,⟨[(5,ag)],[.box [aN,ak bM,ak eg,aN,.tok [.aH aW] 5 []],.gone,.box [ag,aN,.cP],.box [ag,aN,.tok eb 6 []],.gone,.a6 [.aH aW],.a6 eb]⟩)]
noncomputable def N2 (x:U GG):Option (U GG⊕bA aHo):=cond (bh x.1.2.2.2.2.2.1 (bj x.1.2.2.2.1)) ((a7 x.1.2.2.2.1 (x.1.2.2.2.2.2.1).1).bind λgk=>(Gv (((),x.1.2.1,gk.1,()),(x.2.1,(),()))).bind λcS=>(GB (((),cS.1.2.1,()),(cS.2.1,(),()))).bind λcG=>cond (!bd cG.1.2.1 (W 0)) (some (.inr (.inr ((cG.1.2.1,()),(cG.2.1,(),((W 0),(S ⟨#[]⟩),(),()),x.2.2.2.2.1,(),(),(),()))))) ((a7 x.1.2.2.2.1 (x.1.2.2.2.2.2.1).1).bind λiX=>(de 48 x.2.2.2.2.1.2.2.1 (cx [(iX.1,cS.1.1.1,cS.1.1.2.1,cG.1.1,())])).bind λpn=>some (.inl (((),x.1.2.1,(),x.1.2.2.2.1,(),(bg x.1.2.2.2.2.2.1 (W 1)),()),(cG.2.1,(),x.2.2.2.1,(x.2.2.2.2.1.1,x.2.2.2.2.1.2.1,pn,()),(),()))))) (some (.inr (.inl ((),(x.2.1,(),x.2.2.2.1,x.2.2.2.2.1,(),(),(),())))))
noncomputable def N0 (x:U ahX):Option (U aHr):=cond (bd (bj x.1.2.1) (W 0)) (some ((((W 0),(S ⟨#[]⟩),L.nil,()),(W 0),()),(x.2.1,(),(),()))) ((NR (((),x.1.2.1,()),(x.2.1,(),()))).bind λaB=>cond (!bd aB.1.2.2.1 (W 0)) (some ((((W 0),(S ⟨#[]⟩),L.nil,()),aB.1.2.2.1,()),(aB.2.1,(),(),()))) ((NT (((),x.1.2.1,()),(aB.2.1,(),()))).bind λaG=>(T' (((),aB.1.1,aG.1.2.1,()),(((W 0),(S ⟨#[]⟩),(),()),()))).bind λa1=>Sum.elim (λa2=>cond (bh (W 6) (bj aG.1.1)) (some ((((W 0),(S ⟨#[]⟩),L.nil,()),(W 805),()),(aG.2.1,(),(),()))) ((a_ N1 (((),x.1.2.1,(),aG.1.1,(W 0),()),(aG.2.1,(),a2.2.1,()))).bind λcD=>Sum.elim (λbV=>(a_ N2 (((),x.1.2.1,(),aG.1.1,(),(W 0),()),(bV.2.1,(),bV.2.2.2.1,(aB.1.1,aB.1.2.1,L.nil,()),(),()))).bind λeN=>Sum.elim (λfo=>some (((fo.2.2.2.2.1.1,fo.2.2.2.2.1.2.1,fo.2.2.2.2.1.2.2.1,()),(W 0),()),(fo.2.1,(),(),()))) (λe4=>some (((e4.2.2.2.1.1,e4.2.2.2.1.2.1,L.nil,()),e4.1.1,()),(e4.2.1,(),(),()))) eN) (λcu=>some (((cu.2.2.2.1.1,cu.2.2.2.1.2.1,L.nil,()),cu.1.1,()),(cu.2.1,(),(),()))) cD)) (λbf=>some (((bf.2.1.1,bf.2.1.2.1,L.nil,()),bf.1.1,()),(aG.2.1,(),(),()))) a1))
def agI:aw:=aZ [(0,.agg cV),(1,aN)]
def aD1:aw:=aZ [(0,.agg dt),(1,ag)]
def FM:aw:=⟨[(4,b9),(6,.ptr 1 0),(9,.ptr 3 0),(10,ag)],[.box [aN,.cP],.box [aN,ak bM,ak eg,aN,.tok [.aH aW] 2 []],.a6 [.aH aW],.box [aN,.tok gz 4 []],.a6 gz]⟩
def aDY:bB:=[((.exit 0),⟨[],[.box [aN,.cP],.box [aN,ak bM,ak eg,aN,.tok [.aH aW] 5 []],.gone,.box [aN,.tok gz 6 []],.gone,.a6 [.aH aW],.a6 gz]⟩),(.ret,⟨[(5,ag)],[.box [aN,.cP],.box [aN,ak bM,ak eg,aN,.tok [.aH aW] 5 []],.gone,.box [aN,.tok gz 6 []],.gone,.a6 [.aH aW],.a6 gz]⟩)]
noncomputable def MY (x:U FM):Option (U FM⊕bA aDY):=cond (bh x.1.2.2.2.1 (bj x.2.2.1.2.2.2.2.1)) ((a7 x.2.2.1.2.2.2.2.1 (x.1.2.2.2.1).1).bind λdh=>(N0 (((),dh.1,()),(x.2.2.1,(),()))).bind λbU=>cond (!bd bU.1.2.1 (W 0)) (some (.inr (.inr ((bU.1.2.1,()),(((S ⟨#[]⟩),(),()),bU.2.1,(),x.2.2.2.2.1,(),(),(),()))))) ((de 48 x.2.2.2.2.1.2.1 (cx [bU.1.1])).bind λjA=>some (.inl (((),(),(),(bg x.1.2.2.2.1 (W 1)),()),(x.2.1,bU.2.1,(),(x.2.2.2.2.1.1,jA,()),(),()))))) (some (.inr (.inl ((),(x.2.1,x.2.2.1,(),x.2.2.2.2.1,(),(),(),())))))
noncomputable def MX (x:U agI):Option (U aD1):=(yG ((x.1.1,()),())).bind λaB=>cond (!aB.1.1) (some ((((S ⟨#[]⟩),L.nil,()),(W 800),()),())) ((oK ((x.1.1.2.1,x.1.2.1,()),())).bind λaG=>cond (!aG.1.1) (some ((((S ⟨#[]⟩),L.nil,()),(W 800),()),())) ((GB (((),(cx [((W 0),())]),()),((x.1.1.1,x.1.1.2.1,x.1.1.2.2.1,x.1.2.1,L.nil,()),(),()))).bind λa1=>cond (!bd a1.1.2.1 (W 0)) (some ((((S ⟨#[]⟩),L.nil,()),a1.1.2.1,()),())) ((mg x.1.1.1 (S ⟨#[46]⟩)).bind λv4=>(mg v4 x.1.2.1).bind λc5=>(a_ MY (((),(),(),(W 0),()),(((S ⟨#[]⟩),(),()),a1.2.1,(),(c5,L.nil,()),(),()))).bind λbV=>Sum.elim (λcu=>some (((cu.2.2.2.2.1.1,cu.2.2.2.2.1.2.1,()),(W 0),()),())) (λb6=>some (((b6.2.1.1,L.nil,()),b6.1.1,()),())) bV)))
def agr:aw:=aZ [(0,.agg cV)]
def aCY:aw:=aZ [(0,ak dt),(1,ag),(2,ag)]
def Fv:aw:=⟨[(1,.cW cV 0),(5,.tok dt 0 []),(6,ag)],[.a6 dt]⟩
def aCW:bB:=[((.exit 0),⟨[(5,.tok dt 1 [])],[.gone,.a6 dt]⟩),(.ret,⟨[(2,.cP),(3,ag),(4,ag)],[.gone]⟩)]
noncomputable def MC (x:U Fv):Option (U Fv⊕bA aCW):=cond (bh x.1.2.2.1 (bj x.1.1.2.1)) ((a7 x.1.1.2.1 (x.1.2.2.1).1).bind λaX=>(MX ((x.1.1,aX.1,()),())).bind λa1=>cond (!bd a1.1.2.1 (W 0)) (some (.inr (.inr (((),x.1.2.2.1,a1.1.2.1,()),((),()))))) ((de 40 x.1.2.1 (cx [a1.1.1])).bind λkx=>some (.inl ((x.1.1,kx,(bg x.1.2.2.1 (W 1)),()),((),()))))) (some (.inr (.inl ((x.1.2.1,()),((),(),())))))
noncomputable def Az (x:U agr):Option (U aCY):=(yG ((x.1.1,()),())).bind λaB=>cond (!aB.1.1) (some ((L.nil,(W 0),(W 800),()),())) ((a_ MC ((x.1.1,L.nil,(W 0),()),((),()))).bind λbf=>Sum.elim (λbO=>some ((bO.1.1,(W 0),(W 0),()),())) (λbU=>some ((L.nil,bU.1.2.1,bU.1.2.2.1,()),())) bf)
def agA:aw:=aZ [(0,.agg dt)]
def aDv:aw:=aZ [(0,bP)]
def FG:aw:=aZ [(1,.cW dt 0),(3,ag)]
def aDt:bB:=[((.exit 0),aZ []),gA [(2,bP)]]
noncomputable def MM (x:U FG):Option (U FG⊕bA aDt):=cond (bh x.1.2.1 (bj x.1.1.2.1)) ((a7 x.1.1.2.1 (x.1.2.1).1).bind λaE=>cond (bd aE.1 (W 0)) (cond (!cC aE.2.1 (S ⟨#[]⟩)) (some (.inr (.inr ((false,()),())))) (cond (bh (W 0) (bj aE.2.2.1)) (some (.inr (.inr ((false,()),())))) (some (.inl ((x.1.1,(bg x.1.2.1 (W 1)),()),()))))) (cond (bd aE.1 (W 1)) (cond (bd aE.1 (W 1)) ((kz ((aE.2.1,()),())).bind λaG=>cond (!aG.1.1) (some (.inr (.inr ((false,()),())))) ((AA ((aE.2.2.1,(bj x.1.1.2.1),()),())).bind λa1=>cond (!a1.1.1) (some (.inr (.inr ((false,()),())))) (some (.inl ((x.1.1,(bg x.1.2.1 (W 1)),()),()))))) (some (.inr (.inr ((false,()),()))))) (cond (bd aE.1 (W 2)) ((kz ((aE.2.1,()),())).bind λa2=>cond (!a2.1.1) (some (.inr (.inr ((false,()),())))) ((AA ((aE.2.2.1,(bj x.1.1.2.1),()),())).bind λbf=>cond (!bf.1.1) (some (.inr (.inr ((false,()),())))) (some (.inl ((x.1.1,(bg x.1.2.1 (W 1)),()),()))))) (some (.inr (.inr ((false,()),()))))))) (some (.inr (.inl ((),()))))
noncomputable def AD (x:U agA):Option (U aDv):=cond (bh (bj x.1.1.2.1) (W 1)) (some ((false,()),())) (cond (bh (W 40) (bj x.1.1.2.1)) (some ((false,()),())) ((a_ MM ((x.1.1,(W 0),()),())).bind λbO=>Sum.elim (λbU=>some ((true,()),())) (λcD=>some ((cD.1.1,()),())) bO))
def agX:aw:=aZ [(0,ag),(1,ag),(2,ag)]
def aEt:aw:=aZ [(0,.agg sx)]
noncomputable def rn (x:U agX):Option (U aEt):=some (((x.1.1,x.1.2.1,x.1.2.2.1,()),()),())
def ag0:aw:=aZ [(0,ak cV),(1,ak dt)]
def aEK:aw:=aZ [(0,.agg sx)]
def FV:aw:=⟨[(0,ak cV),(4,b9),(5,.tok bM 1 []),(6,ag)],[.box [ag,ag,ag],.a6 bM]⟩
def aEB:bB:=[((.exit 0),⟨[(5,.tok bM 2 [])],[.box [ag,ag,ag],.gone,.a6 bM]⟩),(.ret,⟨[],[.box [ag,ag,ag],.gone]⟩)]
noncomputable def M8 (x:U FV):Option (U FV⊕bA aEB):=cond (bh x.1.2.2.2.1 (bj x.1.1)) ((a7 x.1.1 (x.1.2.2.2.1).1).bind λbL=>(yG ((bL,()),())).bind λa2=>cond (!a2.1.1) ((rn (((W 900),x.1.2.2.2.1,(W (-1)),()),())).bind λbf=>some (.inr (.inr ((),((bf.1.1.1,bf.1.1.2.1,bf.1.1.2.2.1,()),(),()))))) ((a7 x.1.1 (x.1.2.2.2.1).1).bind λdh=>(de 16 x.1.2.2.1 (cx [(dh.1,())])).bind λj1=>some (.inl ((x.1.1,(),j1,(bg x.1.2.2.2.1 (W 1)),()),(x.2.1,(),()))))) (some (.inr (.inl ((x.1.2.2.1,()),(x.2.1,(),(),())))))
def FW:aw:=⟨[(0,ak cV),(1,ak dt),(4,b9),(5,.tok bM 1 []),(7,ag)],[.box [ag,ag,ag],.a6 bM]⟩
def aEE:bB:=[((.exit 2),⟨[(5,.tok bM 2 [])],[.box [ag,ag,ag],.gone,.a6 bM]⟩),(.ret,⟨[],[.box [ag,ag,ag],.gone]⟩)]
noncomputable def M9 (x:U FW):Option (U FW⊕bA aEE):=cond (bh x.1.2.2.2.2.1 (bj x.1.2.1)) ((a7 x.1.2.1 (x.1.2.2.2.2.1).1).bind λgk=>(AD ((gk,()),())).bind λcS=>cond (!cS.1.1) ((rn (((W 900),(bg (bj x.1.1) x.1.2.2.2.2.1),(W (-1)),()),())).bind λdD=>some (.inr (.inr ((),((dD.1.1.1,dD.1.1.2.1,dD.1.1.2.2.1,()),(),()))))) ((a7 x.1.2.1 (x.1.2.2.2.2.1).1).bind λj9=>(kz ((j9.1,()),())).bind λev=>cond (!ev.1.1) ((rn (((W 900),(bg (bj x.1.1) x.1.2.2.2.2.1),(W (-1)),()),())).bind λeN=>some (.inr (.inr ((),((eN.1.1.1,eN.1.1.2.1,eN.1.1.2.2.1,()),(),()))))) ((a7 x.1.2.1 (x.1.2.2.2.2.1).1).bind λkp=>(de 16 x.1.2.2.2.1 (cx [(kp.1,())])).bind λY4=>some (.inl ((x.1.1,x.1.2.1,(),Y4,(bg x.1.2.2.2.2.1 (W 1)),()),(x.2.1,(),())))))) (some (.inr (.inl ((x.1.2.2.2.1,()),(x.2.1,(),(),())))))
def FX:aw:=⟨[(4,b9),(5,ak bM),(8,ag)],[.box [ag,ag,ag]]⟩
def aEH:bB:=[((.exit 4),⟨[],[.box [ag,ag,ag]]⟩),(.ret,⟨[],[.box [ag,ag,ag]]⟩)]
noncomputable def M_ (x:U FX):Option (U FX⊕bA aEH):=cond (bh x.1.2.2.1 (bj x.1.2.1)) ((nf x.1.2.1 0 (x.1.2.2.1).1).bind λaiO=>(a7 x.1.2.1 (x.1.2.2.1).1).bind λmz=>(oK ((aiO,mz.1,()),())).bind λmL=>cond (mL.1.1) ((rn (((W 901),x.1.2.2.1,(W (-1)),()),())).bind λkA=>some (.inr (.inr ((),((kA.1.1.1,kA.1.1.2.1,kA.1.1.2.2.1,()),()))))) (some (.inl (((),x.1.2.1,(bg x.1.2.2.1 (W 1)),()),(x.2.1,()))))) (some (.inr (.inl ((),(x.2.1,())))))
noncomputable def M7 (x:U ag0):Option (U aEK):=cond (bh (W 6) (bj x.1.1)) ((rn (((W 900),(W (-1)),(W (-1)),()),())).bind λaB=>some ((aB.1.1,()),())) (cond (bh (W 12) (bj x.1.2.1)) ((rn (((W 900),(W (-1)),(W (-1)),()),())).bind λaG=>some ((aG.1.1,()),())) ((a_ M8 ((x.1.1,(),L.nil,(W 0),()),(((W 0),(W 0),(W 0),()),(),()))).bind λcD=>Sum.elim (λbV=>(a_ M9 ((x.1.1,x.1.2.1,(),bV.1.1,(W 0),()),(bV.2.1,(),()))).bind λfI=>Sum.elim (λga=>(a_ M_ (((),ga.1.1,(W 0),()),(ga.2.1,()))).bind λnZ=>Sum.elim (λAU=>some ((((W 0),(W 0),(W 0),()),()),())) (λyN=>some (((yN.2.1.1,yN.2.1.2.1,yN.2.1.2.2.1,()),()),())) nZ) (λjc=>some (((jc.2.1.1,jc.2.1.2.1,jc.2.1.2.2.1,()),()),())) fI) (λcu=>some (((cu.2.1.1,cu.2.1.2.1,cu.2.1.2.2.1,()),()),())) cD))
def ahG:aw:=aZ [(0,ak cV),(1,ak dt)]
def aGt:aw:=aZ [(0,ak bM)]
def Gl:aw:=⟨[(0,ak cV),(5,.tok bM 0 []),(6,ag),(7,ag)],[.a6 bM]⟩
def aGn:bB:=[((.exit 2),⟨[(5,.tok bM 1 [])],[.gone,.a6 bM]⟩)]
noncomputable def NG (x:U Gl):Option (U Gl⊕bA aGn):=(a7 x.1.1 (x.1.2.2.1).1).bind λaE=>cond (bh x.1.2.2.2.1 (bj aE.2.1)) ((a7 x.1.1 (x.1.2.2.1).1).bind λaX=>(mg aX.1 (S ⟨#[46]⟩)).bind λcZ=>(a7 x.1.1 (x.1.2.2.1).1).bind λcM=>(a7 cM.2.1 (x.1.2.2.2.1).1).bind λdX=>(mg cZ dX.1).bind λv6=>(de 16 x.1.2.1 (cx [(v6,())])).bind λj1=>some (.inl ((x.1.1,j1,x.1.2.2.1,(bg x.1.2.2.2.1 (W 1)),()),((),())))) (some (.inr ((x.1.2.1,()),((),(),()))))
def Gk:aw:=⟨[(0,ak cV),(5,.tok bM 0 []),(6,ag)],[.a6 bM]⟩
def aGk:bB:=[((.exit 0),⟨[(5,.tok bM 1 [])],[.gone,.a6 bM]⟩)]
noncomputable def NF (x:U Gk):Option (U Gk⊕bA aGk):=cond (bh x.1.2.2.1 (bj x.1.1)) ((a_ NG ((x.1.1,x.1.2.1,x.1.2.2.1,(W 0),()),((),()))).bind λcD=>some (.inl ((x.1.1,cD.1.1,(bg x.1.2.2.1 (W 1)),()),((),())))) (some (.inr ((x.1.2.1,()),((),(),()))))
def Gm:aw:=⟨[(1,ak dt),(5,.tok bM 0 []),(8,ag)],[.a6 bM]⟩
def aGq:bB:=[((.exit 4),⟨[(5,.tok bM 1 [])],[.gone,.a6 bM]⟩)]
noncomputable def NH (x:U Gm):Option (U Gm⊕bA aGq):=cond (bh x.1.2.2.1 (bj x.1.1)) ((a7 x.1.1 (x.1.2.2.1).1).bind λee=>(de 16 x.1.2.1 (cx [(ee.1,())])).bind λq_=>some (.inl ((x.1.1,q_,(bg x.1.2.2.1 (W 1)),()),((),())))) (some (.inr ((x.1.2.1,()),((),(),()))))
noncomputable def ND (x:U ahG):Option (U aGt):=(a_ NF ((x.1.1,L.nil,(W 0),()),((),()))).bind λbV=>(a_ NH ((x.1.2.1,bV.1.1,(W 0),()),((),()))).bind λcS=>some ((cS.1.1,()),())
def ahk:aw:=aZ [(0,.agg cV)]
def aFz:aw:=aZ [(0,ak [.aH eb])]
def F7:aw:=⟨[(1,.cW cV 0),(3,.tok [.aH eb] 0 []),(4,ag)],[.a6 [.aH eb]]⟩
def aFw:bB:=[((.exit 0),⟨[(3,.tok [.aH eb] 1 [])],[.gone,.a6 [.aH eb]]⟩)]
noncomputable def Nq (x:U F7):Option (U F7⊕bA aFw):=cond (bh x.1.2.2.1 (bj x.1.1.2.2.1)) ((a7 x.1.1.2.2.1 (x.1.2.2.1).1).bind λaE=>(de 24 x.1.2.1 (cx [(aE.2.2.1,())])).bind λeo=>some (.inl ((x.1.1,eo,(bg x.1.2.2.1 (W 1)),()),((),())))) (some (.inr ((x.1.2.1,()),((),(),()))))
noncomputable def Np (x:U ahk):Option (U aFz):=(a_ Nq ((x.1.1,L.nil,(W 0),()),((),()))).bind λa1=>some ((a1.1.1,()),())
def ahI:aw:=aZ [(0,ak [.aH eb]),(1,ak bM)]
def aGO:aw:=aZ [(0,ag)]
def Gt:aw:=aZ [(0,ak [.aH eb]),(1,ak bM),(5,ag),(6,ag)]
def aGL:bB:=[((.exit 2),aZ []),gA [(4,ag)]]
noncomputable def NP (x:U Gt):Option (U Gt⊕bA aGL):=(a7 x.1.1 (x.1.2.2.1).1).bind λaE=>cond (bh x.1.2.2.2.1 (bj aE.1)) ((a7 x.1.1 (x.1.2.2.1).1).bind λaX=>(a7 aX.1 (x.1.2.2.2.1).1).bind λbL=>cond (bd bL.2.1 (W 5)) ((oK ((x.1.2.1,bL.2.2.1,()),())).bind λa2=>cond (!a2.1.1) (some (.inr (.inr ((x.1.2.2.1,()),())))) (some (.inl ((x.1.1,x.1.2.1,x.1.2.2.1,(bg x.1.2.2.2.1 (W 1)),()),())))) (some (.inl ((x.1.1,x.1.2.1,x.1.2.2.1,(bg x.1.2.2.2.1 (W 1)),()),())))) (some (.inr (.inl ((),()))))
def Gs:aw:=aZ [(0,ak [.aH eb]),(1,ak bM),(5,ag)]
def aGI:bB:=[((.exit 0),aZ []),gA [(4,ag)]]
noncomputable def NO (x:U Gs):Option (U Gs⊕bA aGI):=cond (bh x.1.2.2.1 (bj x.1.1)) ((a_ NP ((x.1.1,x.1.2.1,x.1.2.2.1,(W 0),()),())).bind λbf=>Sum.elim (λbO=>some (.inl ((x.1.1,x.1.2.1,(bg x.1.2.2.1 (W 1)),()),()))) (λbU=>some (.inr (.inr ((bU.1.1,()),())))) bf) (some (.inr (.inl ((),()))))
noncomputable def Gr (x:U ahI):Option (U aGO):=(a_ NO ((x.1.1,x.1.2.1,(W 0),()),())).bind λcD=>Sum.elim (λbV=>some (((W (-1)),()),())) (λcu=>some ((cu.1.1,()),())) cD
def ahA:aw:=aZ [(0,.agg dt)]
def aGc:aw:=aZ [(0,ak [.aH eb])]
def Gi:aw:=⟨[(1,.cW dt 0),(3,.tok [.aH eb] 0 []),(4,ag)],[.a6 [.aH eb]]⟩
def aGa:bB:=[((.exit 0),⟨[(3,.tok [.aH eb] 1 [])],[.gone,.a6 [.aH eb]]⟩)]
noncomputable def NA (x:U Gi):Option (U Gi⊕bA aGa):=cond (bh x.1.2.2.1 (bj x.1.1.2.1)) ((a7 x.1.1.2.1 (x.1.2.2.1).1).bind λaE=>(de 24 x.1.2.1 (cx [(aE.2.2.1,())])).bind λeo=>some (.inl ((x.1.1,eo,(bg x.1.2.2.1 (W 1)),()),((),())))) (some (.inr ((x.1.2.1,()),((),(),()))))
noncomputable def Gh (x:U ahA):Option (U aGc):=(a_ NA ((x.1.1,L.nil,(W 0),()),((),()))).bind λa1=>some ((a1.1.1,()),())
def agN:aw:=aZ [(0,ak eb)]
def aEc:aw:=⟨[(0,.arr 0 eb [false,false,false,false])],[.arr eb [false,false,false,false]]⟩
def FQ:aw:=⟨[(0,ak eb),(3,.arr 0 eb [false,false,false,false]),(4,ag),(5,ag)],[.arr eb [false,false,false,false]]⟩
def aEa:bB:=[((.exit 2),⟨[(5,ag)],[.arr eb [false,false,false,false]]⟩)]
noncomputable def M0 (x:U FQ):Option (U FQ⊕bA aEa):=
 cond (bh (W 0) x.1.2.2.2.1)
  (cond (decide (0<=((gf x.1.2.2.2.1 (W 1))).1)&&decide (((gf x.1.2.2.2.1 (W 1))).1<(x.2.1.1.length:Nat)))
   ((e3 x.2.1 (((gf x.1.2.2.2.1 (W 1))).1).toNat).bind λaE=>
    (a7 x.1.1 (x.1.2.2.1).1).bind λaX=>
    cond (!(nV aE.1 aX.1||cC aE.1 aX.1))
     (some (.inl ((x.1.1,(),x.1.2.2.1,(gf x.1.2.2.2.1 (W 1)),()),(x.2.1,()))))
     (some (.inr ((x.1.2.2.2.1,()),(x.2.1,())))))
   (none))
  (some (.inr ((x.1.2.2.2.1,()),(x.2.1,()))))
def FP:aw:=⟨[(0,ak eb),(3,.arr 0 eb [false,false,false,false]),(4,ag)],[.arr eb [false,false,false,false]]⟩
def aD9:bB:=[((.exit 0),⟨[(3,.arr 1 eb [false,false,false,false])],[.gone,.arr eb [false,false,false,false]]⟩)]
noncomputable def MZ (x:U FP):Option (U FP⊕bA aD9):=cond (bh x.1.2.2.1 (bj x.1.1)) ((a_ M0 ((x.1.1,(),x.1.2.2.1,(W (x.2.1.1.length:Nat)),()),(x.2.1,()))).bind λa1=>cond (decide (0<=(0:Int))&&decide ((0:Int)<=(a1.1.1).1)&&decide ((a1.1.1).1<=(x.2.1.1.length:Nat))) ((de 48 (L.nil:L (D [.str,.int .i64,.str,.int .i64])) (nY a1.2.1 ((0:Int)).toNat ((a1.1.1).1-(0:Int)).toNat)).bind λgv=>(a7 x.1.1 (x.1.2.2.1).1).bind λdh=>(de 48 gv (cx [dh])).bind λj1=>cond (decide (0<=(a1.1.1).1)&&decide ((a1.1.1).1<=((x.2.1.1.length:Nat):Int))&&decide (((x.2.1.1.length:Nat):Int)<=(x.2.1.1.length:Nat))) ((de 48 j1 (nY a1.2.1 ((a1.1.1).1).toNat (((x.2.1.1.length:Nat):Int)-(a1.1.1).1).toNat)).bind λnU=>some (.inl ((x.1.1,(),(bg x.1.2.2.1 (W 1)),()),(nU,())))) (none)) (none)) (some (.inr (((),()),((),x.2.1,()))))
noncomputable def FO (x:U agN):Option (U aEc):=(a_ MZ ((x.1.1,(),(W 0),()),(L.nil,()))).bind λcu=>some (((),()),(cu.2.2.1,()))
def ahg:aw:=aZ [(0,ak aW),(1,ag)]
def aFu:aw:=aZ [(0,ag)]
def F6:aw:=aZ [(0,ak aW),(1,ag),(5,ag)]
def aFs:bB:=[((.exit 0),aZ []),gA [(4,ag)]]
noncomputable def No (x:U F6):Option (U F6⊕bA aFs):=cond (bh x.1.2.2.1 (bj x.1.1)) ((a7 x.1.1 (x.1.2.2.1).1).bind λaE=>cond (bd aE.1 x.1.2.1) (some (.inr (.inr ((x.1.2.2.1,()),())))) (some (.inl ((x.1.1,x.1.2.1,(bg x.1.2.2.1 (W 1)),()),())))) (some (.inr (.inl ((),()))))
noncomputable def F5 (x:U ahg):Option (U aFu):=(a_ No ((x.1.1,x.1.2.1,(W 0),()),())).bind λaG=>Sum.elim (λa1=>some (((W (-1)),()),())) (λa2=>some ((a2.1.1,()),())) aG
def ag1:aw:=aZ [(0,ak aW),(1,ag)]
def aEO:aw:=aZ [(0,bP)]
noncomputable def Na (x:U ag1):Option (U aEO):=(F5 ((x.1.1,x.1.2.1,()),())).bind λaB=>some (((fM (W 0) aB.1.1),()),())
def ahm:aw:=aZ [(0,ak [.aH eb])]
def aFI:aw:=aZ [(0,ak aW)]
def F9:aw:=⟨[(3,.tok aW 0 []),(5,.arr 1 eb [false,false,false,false]),(6,ag)],[.a6 aW,.arr eb [false,false,false,false]]⟩
def aFF:bB:=[((.exit 2),⟨[(3,.tok aW 2 [])],[.gone,.arr eb [false,false,false,false],.a6 aW]⟩)]
noncomputable def Nt (x:U F9):Option (U F9⊕bA aFF):=cond (bh x.1.2.2.1 (W (x.2.2.1.1.length:Nat))) (cond (decide (0<=(x.1.2.2.1).1)&&decide ((x.1.2.2.1).1<(x.2.2.1.1.length:Nat))) ((e3 x.2.2.1 ((x.1.2.2.1).1).toNat).bind λcM=>(Na ((x.1.1,cM.2.2.2.1,()),())).bind λbf=>cond (!bf.1.1) (cond (decide (0<=(x.1.2.2.1).1)&&decide ((x.1.2.2.1).1<(x.2.2.1.1.length:Nat))) ((e3 x.2.2.1 ((x.1.2.2.1).1).toNat).bind λdh=>(de 8 x.1.1 (cx [(dh.2.2.2.1,())])).bind λj1=>some (.inl ((j1,(),(bg x.1.2.2.1 (W 1)),()),((),x.2.2.1,())))) (none)) (some (.inl ((x.1.1,(),(bg x.1.2.2.1 (W 1)),()),((),x.2.2.1,()))))) (none)) (some (.inr ((x.1.1,()),((),x.2.2.1,(),()))))
def F8:aw:=⟨[(0,ak [.aH eb]),(3,.tok aW 0 []),(4,ag)],[.a6 aW]⟩
def aFC:bB:=[((.exit 0),⟨[(3,.tok aW 1 [])],[.gone,.a6 aW]⟩)]
noncomputable def Ns (x:U F8):Option (U F8⊕bA aFC):=cond (bh x.1.2.2.1 (bj x.1.2.1)) ((a7 x.1.2.1 (x.1.2.2.1).1).bind λaE=>(a7 x.1.1 (aE.1).1).bind λaX=>(FO ((aX.1,()),())).bind λa1=>(a_ Nt ((x.1.2.1,(),(W 0),()),((),a1.2.1,()))).bind λcD=>some (.inl ((x.1.1,cD.1.1,(bg x.1.2.2.1 (W 1)),()),((),())))) (some (.inr ((x.1.2.1,()),((),(),()))))
noncomputable def Nr (x:U ahm):Option (U aFI):=(a_ Ns ((x.1.1,(cx [((W 0),())]),(W 0),()),((),()))).bind λbV=>some ((bV.1.1,()),())
def agC:aw:=aZ [(0,.agg dt)]
def aDy:aw:=aZ [(0,ak aW)]
noncomputable def MN (x:U agC):Option (U aDy):=(AD ((x.1.1,()),())).bind λaB=>cond (!aB.1.1) (some ((L.nil,()),())) ((Gh ((x.1.1,()),())).bind λaG=>(Nr ((aG.1.1,()),())).bind λa1=>some ((a1.1.1,()),()))
def ag5:aw:=aZ [(0,ak eb),(1,ak aW)]
def aE4:aw:=aZ [(0,ak eb)]
def FZ:aw:=⟨[(1,ak aW),(5,.arr 0 eb [false,false,false,false]),(6,ag)],[.arr eb [false,false,false,false]]⟩
def aE1:bB:=[((.exit 0),⟨[],[.arr eb [false,false,false,false]]⟩)]
noncomputable def Ng (x:U FZ):Option (U FZ⊕bA aE1):=cond (bh x.1.2.2.1 (W (x.2.1.1.length:Nat))) (cond (decide (0<=(x.1.2.2.1).1)&&decide ((x.1.2.2.1).1<(x.2.1.1.length:Nat))) ((e3 x.2.1 ((x.1.2.2.1).1).toNat).bind λaX=>(F5 ((x.1.1,aX.2.2.2.1,()),())).bind λa1=>cond (decide (0<=(x.1.2.2.1).1)&&decide ((x.1.2.2.1).1<(x.2.1.1.length:Nat))) ((e3 x.2.1 ((x.1.2.2.1).1).toNat).bind λcM=>some (.inl ((x.1.1,(),(bg x.1.2.2.1 (W 1)),()),((ec x.2.1 ((x.1.2.2.1).1).toNat (cM.1,cM.2.1,cM.2.2.1,a1.1.1,())),())))) (none)) (none)) (some (.inr ((),(x.2.1,()))))
noncomputable def Nf (x:U ag5):Option (U aE4):=(FO ((x.1.1,()),())).bind λaB=>(a_ Ng ((x.1.2.1,(),(W 0),()),(aB.2.1,()))).bind λbf=>some ((bf.2.1,()),())
def agD:aw:=aZ [(0,.agg dt)]
def aDE:aw:=aZ [(0,.agg dt)]
def FH:aw:=⟨[(1,.cW dt 0),(3,ak aW),(4,b9),(5,ag)],[.box [aN,.tok gz 1 []],.a6 gz]⟩
def aDB:bB:=[((.exit 0),⟨[],[.box [aN,.tok gz 2 []],.gone,.a6 gz]⟩)]
noncomputable def MP (x:U FH):Option (U FH⊕bA aDB):=cond (bh x.1.2.2.2.1 (bj x.1.2.1)) ((a7 x.1.2.1 (x.1.2.2.2.1).1).bind λaX=>(a7 x.1.1.2.1 (aX.1).1).bind λbL=>(Nf ((bL.2.2.1,x.1.2.1,()),())).bind λa2=>(de 48 x.2.1.2.1 (cx [(bL.1,bL.2.1,a2.1.1,())])).bind λgv=>some (.inl ((x.1.1,x.1.2.1,(),(bg x.1.2.2.2.1 (W 1)),()),((x.2.1.1,gv,()),(),())))) (some (.inr ((),(x.2.1,(),(),()))))
noncomputable def MO (x:U agD):Option (U aDE):=(MN ((x.1.1,()),())).bind λaB=>cond (bd (bj aB.1.1) (W 0)) (some ((((S ⟨#[]⟩),L.nil,()),()),())) ((a_ MP ((x.1.1,aB.1.1,(),(W 0),()),((x.1.1.1,L.nil,()),(),()))).bind λbO=>some (((bO.2.1.1,bO.2.1.2.1,()),()),()))
def ahH:aw:=aZ [(0,ak cV),(1,ak dt)]
def aGF:aw:=aZ [(0,ak dt),(1,.agg sx)]
def Gn:aw:=⟨[(0,ak cV),(5,b9),(6,.tok dt 1 []),(7,ag)],[.box [ag,ag,ag],.a6 dt]⟩
def aGw:bB:=[((.exit 0),⟨[(6,.tok dt 2 [])],[.box [ag,ag,ag],.gone,.a6 dt]⟩),(.ret,⟨[(4,.cP)],[.box [ag,ag,ag],.gone]⟩)]
noncomputable def NK (x:U Gn):Option (U Gn⊕bA aGw):=cond (bh x.1.2.2.2.1 (bj x.1.1)) ((a7 x.1.1 (x.1.2.2.2.1).1).bind λaE=>(Az ((aE,()),())).bind λaG=>cond (!bd aG.1.2.2.1 (W 0)) ((rn (((W 902),x.1.2.2.2.1,aG.1.2.1,()),())).bind λa1=>some (.inr (.inr (((),()),((a1.1.1.1,a1.1.1.2.1,a1.1.1.2.2.1,()),(),()))))) ((de 40 x.1.2.2.1 aG.1.1).bind λkx=>some (.inl ((x.1.1,(),kx,(bg x.1.2.2.2.1 (W 1)),()),(x.2.1,(),()))))) (some (.inr (.inl ((x.1.2.2.1,()),(x.2.1,(),(),())))))
def Gp:aw:=⟨[(0,ak cV),(5,b9),(11,ak bM),(12,ag)],[.box [ag,ag,ag]]⟩
def aGz:bB:=[((.exit 2),⟨[],[.box [ag,ag,ag]]⟩),(.ret,⟨[(4,.cP)],[.box [ag,ag,ag]]⟩)]
noncomputable def NL (x:U Gp):Option (U Gp⊕bA aGz):=cond (bh x.1.2.2.2.1 (bj x.1.1)) ((a7 x.1.1 (x.1.2.2.2.1).1).bind λeK=>(Np ((eK,()),())).bind λcu=>(Gr ((cu.1.1,x.1.2.2.1,()),())).bind λb6=>cond (fM (W 0) b6.1.1) ((rn (((W 903),x.1.2.2.2.1,b6.1.1,()),())).bind λcS=>some (.inr (.inr (((),()),((cS.1.1.1,cS.1.1.2.1,cS.1.1.2.2.1,()),()))))) (some (.inl ((x.1.1,(),x.1.2.2.1,(bg x.1.2.2.2.1 (W 1)),()),(x.2.1,()))))) (some (.inr (.inl ((),(x.2.1,())))))
def Gq:aw:=⟨[(0,ak cV),(1,ak dt),(5,b9),(6,.tok dt 1 []),(11,ak bM),(14,ag)],[.box [ag,ag,ag],.a6 dt]⟩
def aGC:bB:=[((.exit 4),⟨[(6,.tok dt 2 [])],[.box [ag,ag,ag],.gone,.a6 dt]⟩),(.ret,⟨[(4,.cP)],[.box [ag,ag,ag],.gone]⟩)]
noncomputable def NM (x:U Gq):Option (U Gq⊕bA aGC):=cond (bh x.1.2.2.2.2.2.1 (bj x.1.2.1)) ((a7 x.1.2.1 (x.1.2.2.2.2.2.1).1).bind λik=>(Gh ((ik,()),())).bind λfo=>(Gr ((fo.1.1,x.1.2.2.2.2.1,()),())).bind λe4=>cond (fM (W 0) e4.1.1) ((rn (((W 903),(bg (bj x.1.1) x.1.2.2.2.2.2.1),e4.1.1,()),())).bind λfI=>some (.inr (.inr (((),()),((fI.1.1.1,fI.1.1.2.1,fI.1.1.2.2.1,()),(),()))))) ((a7 x.1.2.1 (x.1.2.2.2.2.2.1).1).bind λpV=>(MO ((pV,()),())).bind λjc=>(de 40 x.1.2.2.2.1 (cx [jc.1.1])).bind λY6=>some (.inl ((x.1.1,x.1.2.1,(),Y6,x.1.2.2.2.2.1,(bg x.1.2.2.2.2.2.1 (W 1)),()),(x.2.1,(),()))))) (some (.inr (.inl ((x.1.2.2.2.1,()),(x.2.1,(),(),())))))
noncomputable def NJ (x:U ahH):Option (U aGF):=(a_ NK ((x.1.1,(),L.nil,(W 0),()),(((W 0),(W 0),(W 0),()),(),()))).bind λbf=>Sum.elim (λbO=>(ND ((x.1.1,x.1.2.1,()),())).bind λcD=>(a_ NL ((x.1.1,(),cD.1.1,(W 0),()),(bO.2.1,()))).bind λcG=>Sum.elim (λev=>(a_ NM ((x.1.1,x.1.2.1,(),bO.1.1,cD.1.1,(W 0),()),(ev.2.1,(),()))).bind λmn=>Sum.elim (λmL=>some ((mL.1.1,((W 0),(W 0),(W 0),()),()),())) (λkA=>some ((L.nil,(kA.2.1.1,kA.2.1.2.1,kA.2.1.2.2.1,()),()),())) mn) (λdD=>some ((L.nil,(dD.2.1.1,dD.2.1.2.1,dD.2.1.2.2.1,()),()),())) cG) (λbU=>some ((L.nil,(bU.2.1.1,bU.2.1.2.1,bU.2.1.2.2.1,()),()),())) bf
def ahe:aw:=aZ [(0,ak cV),(1,ag)]
def aFp:aw:=aZ [(0,ag)]
def F4:aw:=aZ [(0,ak cV),(1,ag),(5,ag)]
def aFm:bB:=[((.exit 0),aZ [(1,ag)]),gA [(4,ag)]]
noncomputable def Nn (x:U F4):Option (U F4⊕bA aFm):=cond (bh x.1.2.2.1 (bj x.1.1)) ((a7 x.1.1 (x.1.2.2.1).1).bind λaE=>cond (bh x.1.2.1 (bj aE.2.1)) (some (.inr (.inr ((x.1.2.2.1,()),())))) ((a7 x.1.1 (x.1.2.2.1).1).bind λaX=>some (.inl ((x.1.1,(gf x.1.2.1 (bj aX.2.1)),(bg x.1.2.2.1 (W 1)),()),())))) (some (.inr (.inl ((x.1.2.1,()),()))))
noncomputable def Nm (x:U ahe):Option (U aFp):=(a_ Nn ((x.1.1,x.1.2.1,(W 0),()),())).bind λa1=>Sum.elim (λa2=>some (((bg (bj x.1.1) a2.1.1),()),())) (λbf=>some ((bf.1.1,()),())) a1
def ag7:aw:=aZ [(0,.r8 hG [true,false,false]),(1,aN),(2,ag)]
def aE_:aw:=aZ [(0,.r8 hG [true,false,false])]
def F0:aw:=⟨[(1,aN),(3,b9),(7,ag)],[.box [.cP,ak bM,ak aW]]⟩
def aE7:bB:=[((.exit 0),⟨[(7,ag)],[.box [.cP,ak bM,ak aW]]⟩)]
noncomputable def Ni (x:U F0):Option (U F0⊕bA aE7):=
 cond (bh (W 0) x.1.2.2.1)
  ((a7 x.2.1.2.1 ((gf x.1.2.2.1 (W 1))).1).bind λaE=>
   cond (!(nV aE.1 x.1.1||cC aE.1 x.1.1))
    (some (.inl ((x.1.1,(),(gf x.1.2.2.1 (W 1)),()),(x.2.1,()))))
    (some (.inr ((x.1.2.2.1,()),(x.2.1,())))))
  (some (.inr ((x.1.2.2.1,()),(x.2.1,()))))
noncomputable def Nh (x:U ag7):Option (U aE_):=(a_ Ni ((x.1.2.1,(),(bj x.1.1.2.1),()),(((),x.1.1.2.1,x.1.1.2.2.1,()),()))).bind λaG=>(nf aG.2.1.2.1 0 (aG.1.1).1).bind λcZ=>(de 16 (L.nil:L (D [.str])) cZ).bind λkx=>(de 16 kx (cx [(x.1.2.1,())])).bind λgv=>(nf aG.2.1.2.2.1 0 (aG.1.1).1).bind λv6=>(de 8 (L.nil:L (D [.int .i64])) v6).bind λj1=>(de 8 j1 (cx [(x.1.2.2.1,())])).bind λjA=>(nf aG.2.1.2.1 (aG.1.1).1 aG.2.1.2.1.1.length).bind λfx=>(de 16 gv fx).bind λoE=>(nf aG.2.1.2.2.1 (aG.1.1).1 aG.2.1.2.2.1.1.length).bind λv11=>(de 8 jA v11).bind λu7=>some (((L.nil,oE,u7,()),()),())
def ahn:aw:=aZ [(0,.agg hG),(1,aN)]
def aFL:aw:=aZ [(0,ag),(1,bP)]
noncomputable def F_ (x:U ahn):Option (U aFL):=(uo ((x.1.1.2.1,x.1.2.1,()),())).bind λaB=>cond (bh aB.1.1 (W 0)) (some (((W 0),false,()),())) (cond (fM (bj x.1.1.2.2.1) aB.1.1) (some (((W 0),false,()),())) ((a7 x.1.1.2.2.1 (aB.1.1).1).bind λaX=>some ((aX.1,true,()),())))
def ahu:aw:=aZ [(0,.agg hG),(1,.agg jG)]
def aFW:aw:=aZ [(0,.agg ir),(1,bP)]
noncomputable def AH (x:U ahu):Option (U aFW):=cond (bd x.1.2.1.1 (W 5)) ((F_ ((x.1.1,x.1.2.1.2.1,()),())).bind λaB=>cond (!aB.1.2.1) (some ((((W 0),(W 0),()),false,()),())) (some ((((W 5),aB.1.1,()),true,()),()))) (cond (bh x.1.2.1.1 (W 0)) (some ((((W 0),(W 0),()),false,()),())) (cond (bh (W 5) x.1.2.1.1) (some ((((W 0),(W 0),()),false,()),())) (cond (!cC x.1.2.1.2.1 (S ⟨#[]⟩)) (some ((((W 0),(W 0),()),false,()),())) (some (((x.1.2.1.1,(W 0),()),true,()),())))))
def agw:aw:=aZ [(0,ak cV),(1,ak dt)]
def aDo:aw:=aZ [(0,.agg hG),(1,.agg sx)]
def FA:aw:=⟨[(0,ak cV),(4,b9),(5,.ptr 1 0),(7,ak dt),(9,.ptr 2 0),(10,ag),(11,ag)],[.box [.cP,.cP,.cP],.box [ag,ag,ag],.box [.cP,ak bM,ak aW]]⟩
def aDc:bB:=[((.exit 0),⟨[],[.box [.cP,.cP,.cP],.box [ag,ag,ag],.box [.cP,ak bM,ak aW]]⟩),(.ret,⟨[],[.box [.cP,.cP,.cP],.box [ag,ag,ag],.box [.cP,ak bM,ak aW]]⟩)]
noncomputable def MI (x:U FA):Option (U FA⊕bA aDc):=cond (bh x.1.2.2.2.2.2.2.1 (bj x.1.2.2.2.1)) ((a7 x.1.2.2.2.1 (x.1.2.2.2.2.2.2.1).1).bind λbL=>cond (bh (W 400) (bg x.1.2.2.2.2.2.1 (bj bL.2.1))) ((Nm ((x.1.1,x.1.2.2.2.2.2.2.1,()),())).bind λa2=>(rn (((W 904),a2.1.1,(W (-1)),()),())).bind λbf=>some (.inr (.inr ((),(((),(),(),()),(bf.1.1.1,bf.1.1.2.1,bf.1.1.2.2.1,()),x.2.2.2.1,()))))) ((a7 x.1.2.2.2.1 (x.1.2.2.2.2.2.2.1).1).bind λdh=>(Nh (((L.nil,x.2.2.2.1.2.1,x.2.2.2.1.2.2.1,()),dh.1,x.1.2.2.2.2.2.1,()),())).bind λbU=>(a7 x.1.2.2.2.1 (x.1.2.2.2.2.2.2.1).1).bind λdG=>some (.inl ((x.1.1,(),(),x.1.2.2.2.1,(),(bg x.1.2.2.2.2.2.1 (bj dG.2.1)),(bg x.1.2.2.2.2.2.2.1 (W 1)),()),(((),(),(),()),x.2.2.1,((),bU.1.1.2.1,bU.1.1.2.2.1,()),()))))) (some (.inr (.inl ((),(((),(),(),()),x.2.2.1,x.2.2.2.1,())))))
def FD:aw:=⟨[(9,b9),(10,ag),(14,.cW gz 0),(15,.ptr 2 0),(16,ag)],[.box [.tok jt 1 [],ak bM,ak aW],.a6 jt,.box [ag,aN,.tok k1 3 []],.a6 k1]⟩
def aDl:bB:=[((.exit 6),⟨[],[.box [.tok jt 4 [],ak bM,ak aW],.gone,.box [ag,aN,.tok k1 5 []],.gone,.a6 jt,.a6 k1]⟩)]
noncomputable def ML (x:U FD):Option (U FD⊕bA aDl):=cond (bh x.1.2.2.2.2.1 (bj x.1.2.2.1.2.2.1)) ((a7 x.1.2.2.1.2.2.1 (x.1.2.2.2.2.1).1).bind λjx=>(AH (((x.2.1.1,x.2.1.2.1,x.2.1.2.2.1,()),(jx.2.1,jx.2.2.1,()),()),())).bind λeN=>(a7 x.1.2.2.1.2.2.1 (x.1.2.2.2.2.1).1).bind λkp=>(a7 x.1.2.2.1.2.2.1 (x.1.2.2.2.2.1).1).bind λkq=>(de 40 x.2.2.2.1.2.2.1 (cx [(kp.1,eN.1.1.1,eN.1.1.2.1,(bg x.1.2.1 kq.2.2.2.1),())])).bind λY5=>some (.inl (((),x.1.2.1,x.1.2.2.1,(),(bg x.1.2.2.2.2.1 (W 1)),()),(x.2.1,(),(x.2.2.2.1.1,x.2.2.2.1.2.1,Y5,()),(),())))) (some (.inr ((),(x.2.1,(),x.2.2.2.1,(),(),(),()))))
def FC:aw:=⟨[(7,ak dt),(9,b9),(10,ag),(12,ag),(13,ag)],[.box [.tok jt 1 [],ak bM,ak aW],.a6 jt]⟩
def aDi:bB:=[((.exit 4),⟨[],[.box [.tok jt 2 [],ak bM,ak aW],.gone,.a6 jt]⟩)]
noncomputable def MK (x:U FC):Option (U FC⊕bA aDi):=(a7 x.1.1 (x.1.2.2.2.1).1).bind λjw=>cond (bh x.1.2.2.2.2.1 (bj jw.2.1)) ((a7 x.1.1 (x.1.2.2.2.1).1).bind λj9=>(a7 j9.2.1 (x.1.2.2.2.2.1).1).bind λiX=>(a_ ML (((),x.1.2.2.1,iX,(),(W 0),()),(x.2.1,(),(iX.1,iX.2.1,L.nil,()),(),()))).bind λga=>(de 48 ga.2.1.1 (cx [(ga.2.2.2.1.1,ga.2.2.2.1.2.1,ga.2.2.2.1.2.2.1,())])).bind λwk=>some (.inl ((x.1.1,(),x.1.2.2.1,x.1.2.2.2.1,(bg x.1.2.2.2.2.1 (W 1)),()),((wk,ga.2.1.2.1,ga.2.1.2.2.1,()),(),())))) (some (.inr ((),(x.2.1,(),(),()))))
def FB:aw:=⟨[(7,ak dt),(9,b9),(10,ag),(12,ag)],[.box [.tok jt 1 [],ak bM,ak aW],.a6 jt]⟩
def aDf:bB:=[((.exit 2),⟨[],[.box [.tok jt 2 [],ak bM,ak aW],.gone,.a6 jt]⟩)]
noncomputable def MJ (x:U FB):Option (U FB⊕bA aDf):=cond (bh x.1.2.2.2.1 (bj x.1.1)) ((a_ MK ((x.1.1,(),x.1.2.2.1,x.1.2.2.2.1,(W 0),()),(x.2.1,(),()))).bind λe9=>(a7 x.1.1 (x.1.2.2.2.1).1).bind λmz=>some (.inl ((x.1.1,(),(bg x.1.2.2.1 (bj mz.2.1)),(bg x.1.2.2.2.1 (W 1)),()),(e9.2.1,(),())))) (some (.inr ((),(x.2.1,(),(),()))))
noncomputable def MH (x:U agw):Option (U aDo):=(M7 ((x.1.1,x.1.2.1,()),())).bind λaB=>cond (!bd aB.1.1.1 (W 0)) (some (((L.nil,L.nil,L.nil,()),aB.1.1,()),())) ((NJ ((x.1.1,x.1.2.1,()),())).bind λaG=>cond (!bd aG.1.2.1.1 (W 0)) (some (((L.nil,L.nil,L.nil,()),aG.1.2.1,()),())) ((a_ MI ((x.1.1,(),(),aG.1.1,(),(W 0),(W 0),()),(((),(),(),()),((W 0),(W 0),(W 0),()),((),L.nil,L.nil,()),()))).bind λbV=>Sum.elim (λcu=>(a_ MJ ((aG.1.1,(),(W 0),(W 0),()),((L.nil,cu.2.2.2.1.2.1,cu.2.2.2.1.2.2.1,()),(),()))).bind λmL=>some (((mL.2.1.1,mL.2.1.2.1,mL.2.1.2.2.1,()),((W 0),(W 0),(W 0),()),()),())) (λb6=>some (((L.nil,L.nil,L.nil,()),(b6.2.2.1.1,b6.2.2.1.2.1,b6.2.2.1.2.2.1,()),()),())) bV))
def ahs:aw:=aZ [(0,.agg ir),(1,ag)]
def aFU:aw:=aZ [(0,bP)]
noncomputable def Ga (x:U ahs):Option (U aFU):=cond (bd x.1.1.1 (W 5)) (cond (fM (W 0) x.1.1.2.1) (some (((bh x.1.1.2.1 x.1.2.1),()),())) (some ((false,()),()))) (cond (fM (W 0) x.1.1.1) (cond (bh x.1.1.1 (W 5)) (some (((bd x.1.1.2.1 (W 0)),()),())) (some ((false,()),()))) (some ((false,()),())))
def ahc:aw:=aZ [(0,.agg jt),(1,ag)]
def aFj:aw:=aZ [(0,bP)]
def T4:aw:=aZ [(2,.cW jt 0)]
def ahb:bB:=[jB [],gA [(4,bP)]]
noncomputable def T3 (x:U T4):Option (bA ahb):=cond (!bd x.1.1.1 (W 1)) (cond (!bd x.1.1.1 (W 2)) (some (.inr ((false,()),()))) ((kz ((x.1.1.2.1,()),())).bind λaB=>cond (!aB.1.1) (some (.inr ((false,()),()))) (cond (bh (bj x.1.1.2.2.1) (W 1)) (some (.inr ((false,()),()))) (cond (bh (W 6) (bj x.1.1.2.2.1)) (some (.inr ((false,()),()))) (some (.inl ((),()))))))) ((kz ((x.1.1.2.1,()),())).bind λaG=>cond (!aG.1.1) (some (.inr ((false,()),()))) (cond (bh (bj x.1.1.2.2.1) (W 1)) (some (.inr ((false,()),()))) (cond (bh (W 6) (bj x.1.1.2.2.1)) (some (.inr ((false,()),()))) (some (.inl ((),()))))))
def F3:aw:=aZ [(1,ag),(2,.cW jt 0),(5,ag)]
def aFg:bB:=[((.exit 0),aZ []),gA [(4,bP)]]
noncomputable def Nl (x:U F3):Option (U F3⊕bA aFg):=cond (bh x.1.2.2.1 (bj x.1.2.1.2.2.1)) ((a7 x.1.2.1.2.2.1 (x.1.2.2.1).1).bind λdh=>(kz ((dh.1,()),())).bind λbU=>cond (!bU.1.1) (some (.inr (.inr ((false,()),())))) (cond (bh (W 0) x.1.2.2.1) ((a7 x.1.2.1.2.2.1 ((gf x.1.2.2.1 (W 1))).1).bind λdG=>cond (!nV dG.1 dh.1) (some (.inr (.inr ((false,()),())))) (cond (bh dh.2.2.2.1 (W 0)) (some (.inr (.inr ((false,()),())))) (cond (fM x.1.1 dh.2.2.2.1) (some (.inr (.inr ((false,()),())))) ((Ga (((dh.2.1,dh.2.2.1,()),x.1.1,()),())).bind λbV=>cond (!bV.1.1) (some (.inr (.inr ((false,()),())))) (some (.inl ((x.1.1,x.1.2.1,(bg x.1.2.2.1 (W 1)),()),()))))))) (cond (bh dh.2.2.2.1 (W 0)) (some (.inr (.inr ((false,()),())))) (cond (fM x.1.1 dh.2.2.2.1) (some (.inr (.inr ((false,()),())))) ((Ga (((dh.2.1,dh.2.2.1,()),x.1.1,()),())).bind λcu=>cond (!cu.1.1) (some (.inr (.inr ((false,()),())))) (some (.inl ((x.1.1,x.1.2.1,(bg x.1.2.2.1 (W 1)),()),())))))))) (some (.inr (.inl ((),()))))
noncomputable def Nk (x:U ahc):Option (U aFj):=cond (bd x.1.1.1 (W 0)) (cond (cC x.1.1.2.1 (S ⟨#[]⟩)) (some (((bd (bj x.1.1.2.2.1) (W 0)),()),())) (some ((false,()),()))) ((T3 ((x.1.1,()),())).bind λa1=>Sum.elim (λa2=>(a_ Nl ((x.1.2.1,x.1.1,(W 0),()),())).bind λb6=>Sum.elim (λcS=>some ((true,()),())) (λcG=>some ((cG.1.1,()),())) b6) (λbf=>some ((bf.1.1,()),())) a1)
def agv:aw:=aZ [(0,.agg hG)]
def aDa:aw:=aZ [(0,bP)]
def Fy:aw:=aZ [(1,.cW hG 0),(3,ag)]
def aC7:bB:=[((.exit 0),aZ []),gA [(2,bP)]]
noncomputable def MF (x:U Fy):Option (U Fy⊕bA aC7):=cond (bh x.1.2.1 (bj x.1.1.2.1)) (cond (bh (W 0) x.1.2.1) ((a7 x.1.1.2.1 ((gf x.1.2.1 (W 1))).1).bind λaE=>(a7 x.1.1.2.1 (x.1.2.1).1).bind λaX=>cond (!nV aE.1 aX.1) (some (.inr (.inr ((false,()),())))) ((a7 x.1.1.2.2.1 (x.1.2.1).1).bind λbL=>cond (bh bL.1 (W 0)) (some (.inr (.inr ((false,()),())))) ((a7 x.1.1.2.2.1 (x.1.2.1).1).bind λcM=>cond (fM (bj x.1.1.1) cM.1) (some (.inr (.inr ((false,()),())))) (some (.inl ((x.1.1,(bg x.1.2.1 (W 1)),()),())))))) ((a7 x.1.1.2.2.1 (x.1.2.1).1).bind λdX=>cond (bh dX.1 (W 0)) (some (.inr (.inr ((false,()),())))) ((a7 x.1.1.2.2.1 (x.1.2.1).1).bind λdh=>cond (fM (bj x.1.1.1) dh.1) (some (.inr (.inr ((false,()),())))) (some (.inl ((x.1.1,(bg x.1.2.1 (W 1)),()),())))))) (some (.inr (.inl ((),()))))
def Fz:aw:=aZ [(1,.cW hG 0),(4,ag)]
def aC_:bB:=[((.exit 2),aZ []),gA [(2,bP)]]
noncomputable def MG (x:U Fz):Option (U Fz⊕bA aC_):=cond (bh x.1.2.1 (bj x.1.1.1)) ((a7 x.1.1.1 (x.1.2.1).1).bind λee=>(Nk ((ee,(bj x.1.1.1),()),())).bind λb6=>cond (!b6.1.1) (some (.inr (.inr ((false,()),())))) (some (.inl ((x.1.1,(bg x.1.2.1 (W 1)),()),())))) (some (.inr (.inl ((),()))))
noncomputable def AB (x:U agv):Option (U aDa):=cond (bh (W 400) (bj x.1.1.1)) (some ((false,()),())) (cond (!bd (bj x.1.1.2.1) (bj x.1.1.2.2.1)) (some ((false,()),())) ((a_ MF ((x.1.1,(W 0),()),())).bind λbU=>Sum.elim (λcD=>(a_ MG ((x.1.1,(W 0),()),())).bind λcS=>Sum.elim (λcG=>some ((true,()),())) (λev=>some ((ev.1.1,()),())) cS) (λbV=>some ((bV.1.1,()),())) bU))
def agM:aw:=aZ [(0,.agg hG),(1,.agg jG)]
def aD7:aw:=aZ [(0,.agg ir),(1,bP)]
noncomputable def AE (x:U agM):Option (U aD7):=cond (bd x.1.2.1.1 (W 5)) ((AB ((x.1.1,()),())).bind λaB=>cond (!aB.1.1) (some ((((W 0),(W 0),()),false,()),())) ((AH ((x.1.1,x.1.2.1,()),())).bind λaG=>some ((aG.1.1,aG.1.2.1,()),()))) ((AH ((x.1.1,x.1.2.1,()),())).bind λa1=>some ((a1.1.1,a1.1.2.1,()),()))
def agV:aw:=aZ [(0,.agg jt),(1,aN)]
def aEr:aw:=aZ [(0,ag)]
def FT:aw:=aZ [(1,aN),(2,.cW jt 0),(5,ag)]
def aEo:bB:=[((.exit 0),aZ []),gA [(4,ag)]]
noncomputable def M4 (x:U FT):Option (U FT⊕bA aEo):=cond (bh x.1.2.2.1 (bj x.1.2.1.2.2.1)) ((a7 x.1.2.1.2.2.1 (x.1.2.2.1).1).bind λaE=>cond (cC aE.1 x.1.1) (some (.inr (.inr ((x.1.2.2.1,()),())))) (some (.inl ((x.1.1,x.1.2.1,(bg x.1.2.2.1 (W 1)),()),())))) (some (.inr (.inl ((),()))))
noncomputable def AG (x:U agV):Option (U aEr):=(a_ M4 ((x.1.2.1,x.1.1,(W 0),()),())).bind λaG=>Sum.elim (λa1=>some (((W (-1)),()),())) (λa2=>some ((a2.1.1,()),())) aG
def agT:aw:=aZ [(0,.agg hG),(1,ag),(2,ag)]
def aEl:aw:=aZ [(0,ak ir),(1,bP)]
def TY:aw:=⟨[(8,.cW jt 0),(9,.cW jt 0),(10,b9),(11,.ptr 1 0)],[.box [ag,aN,ak k1],.box [ag,aN,ak k1]]⟩
def agR:bB:=[(.normal,⟨[],[.box [ag,aN,ak k1],.box [ag,aN,ak k1]]⟩)]
noncomputable def TX (x:U TY):Option (bA agR):=cond (bd x.1.1.1 (W 2)) (some ((),((x.1.1.1,x.1.1.2.1,x.1.1.2.2.1,()),(x.1.2.1.1,x.1.2.1.2.1,x.1.2.1.2.2.1,()),()))) (some ((),(x.2.1,x.2.2.1,())))
def T0:aw:=⟨[(8,.cW jt 0),(12,.tok ir 0 []),(14,.cW k1 0),(15,.cW k1 0)],[.a6 ir]⟩
def agS:bB:=[(.normal,⟨[(12,.tok ir 1 [])],[.gone,.a6 ir]⟩)]
noncomputable def TZ (x:U T0):Option (bA agS):=cond (bd x.1.2.2.1.2.1 (W 5)) (cond (bd x.1.1.1 (W 1)) ((de 16 x.1.2.1 (cx [(x.1.2.2.2.1.2.2.1,x.1.2.2.1.2.2.1,())])).bind λu7=>some ((u7,()),((),(),()))) (some ((x.1.2.1,()),((),(),())))) (some ((x.1.2.1,()),((),(),())))
def FR:aw:=⟨[(8,.cW jt 0),(9,.cW jt 0),(10,b9),(11,.ptr 1 0),(12,.tok ir 2 []),(13,ag)],[.box [ag,aN,ak k1],.box [ag,aN,ak k1],.a6 ir]⟩
def aEi:bB:=[((.exit 0),⟨[(12,.tok ir 3 [])],[.box [ag,aN,ak k1],.box [ag,aN,ak k1],.gone,.a6 ir]⟩),(.ret,⟨[(6,.cP),(7,bP)],[.box [ag,aN,ak k1],.box [ag,aN,ak k1],.gone]⟩)]
noncomputable def M3 (x:U FR):Option (U FR⊕bA aEi):=cond (bh x.1.2.2.2.2.2.1 (bj x.2.1.2.2.1)) ((a7 x.2.1.2.2.1 (x.1.2.2.2.2.2.1).1).bind λcM=>(AG (((x.2.2.1.1,x.2.2.1.2.1,x.2.2.1.2.2.1,()),cM.1,()),())).bind λbf=>cond (bh bf.1.1 (W 0)) (some (.inr (.inr (((),false,()),((x.2.1.1,x.2.1.2.1,x.2.1.2.2.1,()),x.2.2.1,(),()))))) ((a7 x.2.1.2.2.1 (x.1.2.2.2.2.2.1).1).bind λdh=>(AG ((x.1.1,dh.1,()),())).bind λbU=>(a7 x.1.1.2.2.1 (bU.1.1).1).bind λdG=>(a7 x.2.1.2.2.1 (x.1.2.2.2.2.2.1).1).bind λeK=>(AG ((x.1.2.1,eK.1,()),())).bind λcu=>(a7 x.1.2.1.2.2.1 (cu.1.1).1).bind λgk=>cond (!bd dG.2.1 gk.2.1) (some (.inr (.inr (((),false,()),((x.2.1.1,x.2.1.2.1,x.2.1.2.2.1,()),x.2.2.1,(),()))))) ((TZ ((x.1.1,x.1.2.2.2.2.1,dG,gk,()),((),()))).bind λcG=>cond (bd dG.2.1 (W 5)) (cond (bd x.1.1.1 (W 2)) ((de 16 cG.1.1 (cx [(dG.2.2.1,gk.2.2.1,())])).bind λsZ=>(de 16 sZ (cx [(dG.2.2.2.1,gk.2.2.2.1,())])).bind λpn=>some (.inl ((x.1.1,x.1.2.1,(),(),pn,(bg x.1.2.2.2.2.2.1 (W 1)),()),((x.2.1.1,x.2.1.2.1,x.2.1.2.2.1,()),x.2.2.1,(),())))) ((de 16 cG.1.1 (cx [(dG.2.2.2.1,gk.2.2.2.1,())])).bind λQL=>some (.inl ((x.1.1,x.1.2.1,(),(),QL,(bg x.1.2.2.2.2.2.1 (W 1)),()),((x.2.1.1,x.2.1.2.1,x.2.1.2.2.1,()),x.2.2.1,(),()))))) ((de 16 cG.1.1 (cx [(dG.2.2.2.1,gk.2.2.2.1,())])).bind λQM=>some (.inl ((x.1.1,x.1.2.1,(),(),QM,(bg x.1.2.2.2.2.2.1 (W 1)),()),((x.2.1.1,x.2.1.2.1,x.2.1.2.2.1,()),x.2.2.1,(),()))))))) (some (.inr (.inl ((x.1.2.2.2.2.1,()),((x.2.1.1,x.2.1.2.1,x.2.1.2.2.1,()),x.2.2.1,(),(),())))))
noncomputable def M1 (x:U agT):Option (U aEl):=(a7 x.1.1.1 (x.1.2.1).1).bind λaE=>(a7 x.1.1.1 (x.1.2.2.1).1).bind λaX=>cond (!bd aE.1 aX.1) (some ((L.nil,false,()),())) (cond (!cC aE.2.1 aX.2.1) (some ((L.nil,false,()),())) ((TX ((aE,aX,(),(),()),((aX.1,aX.2.1,aX.2.2.1,()),(aE.1,aE.2.1,aE.2.2.1,()),()))).bind λa1=>(a_ M3 ((aE,aX,(),(),L.nil,(W 0),()),(a1.2.1,a1.2.2.1,(),()))).bind λe4=>Sum.elim (λfI=>some ((fI.1.1,true,()),())) (λga=>some ((L.nil,ga.1.2.1,()),())) e4))
def ag2:aw:=aZ [(0,ak ir),(1,.agg ir)]
def aEU:aw:=aZ [(0,bP)]
def FY:aw:=aZ [(0,ak ir),(3,.cW ir 0),(5,ag)]
def aER:bB:=[((.exit 0),aZ []),gA [(4,bP)]]
noncomputable def Nc (x:U FY):Option (U FY⊕bA aER):=cond (bh x.1.2.2.1 (bj x.1.1)) ((a7 x.1.1 (x.1.2.2.1).1).bind λaE=>cond ((bd aE.1 x.1.2.1.1)&&((bd aE.2.1 x.1.2.1.2.1)&&true)) (some (.inr (.inr ((true,()),())))) (some (.inl ((x.1.1,x.1.2.1,(bg x.1.2.2.1 (W 1)),()),())))) (some (.inr (.inl ((),()))))
noncomputable def Nb (x:U ag2):Option (U aEU):=(a_ Nc ((x.1.1,x.1.2.1,(W 0),()),())).bind λaG=>Sum.elim (λa1=>some ((false,()),())) (λa2=>some ((a2.1.1,()),())) aG
def agF:aw:=aZ [(0,.agg hG),(1,ag),(2,ag)]
def aDN:aw:=aZ [(0,ak ir),(1,bP)]
def FJ:aw:=⟨[(8,.tok ir 0 []),(10,ak ir),(12,ag)],[.a6 ir]⟩
def aDK:bB:=[((.exit 2),⟨[(8,.tok ir 1 [])],[.gone,.a6 ir]⟩)]
noncomputable def MS (x:U FJ):Option (U FJ⊕bA aDK):=cond (bh x.1.2.2.1 (bj x.1.2.1)) ((a7 x.1.2.1 (x.1.2.2.1).1).bind λdX=>(Nb ((x.1.1,dX,()),())).bind λbO=>cond (!bO.1.1) ((a7 x.1.2.1 (x.1.2.2.1).1).bind λfD=>(de 16 x.1.1 (cx [fD])).bind λjA=>some (.inl ((jA,x.1.2.1,(bg x.1.2.2.1 (W 1)),()),((),())))) (some (.inl ((x.1.1,x.1.2.1,(bg x.1.2.2.1 (W 1)),()),((),()))))) (some (.inr ((x.1.1,()),((),(),()))))
def FI:aw:=⟨[(3,.cW hG 0),(8,.tok ir 0 []),(9,ag)],[.a6 ir]⟩
def aDH:bB:=[((.exit 0),⟨[(8,.tok ir 1 [])],[.gone,.a6 ir]⟩),(.ret,⟨[(6,.cP),(7,bP)],[.gone]⟩)]
noncomputable def MR (x:U FI):Option (U FI⊕bA aDH):=cond (bh x.1.2.2.1 (bj x.1.2.1)) ((a7 x.1.2.1 (x.1.2.2.1).1).bind λaX=>(a7 x.1.2.1 (x.1.2.2.1).1).bind λbL=>(M1 ((x.1.1,aX.1,bL.2.1,()),())).bind λa2=>cond (!a2.1.2.1) (some (.inr (.inr (((),false,()),((),()))))) ((a_ MS ((x.1.2.1,a2.1.1,(W 0),()),((),()))).bind λbV=>some (.inl ((x.1.1,bV.1.1,(bg x.1.2.2.1 (W 1)),()),((),()))))) (some (.inr (.inl ((x.1.2.1,()),((),(),())))))
noncomputable def MQ (x:U agF):Option (U aDN):=(AB ((x.1.1,()),())).bind λaB=>cond (!aB.1.1) (some ((L.nil,false,()),())) (cond (bh x.1.2.1 (W 0)) (some ((L.nil,false,()),())) (cond (fM (bj x.1.1.1) x.1.2.1) (some ((L.nil,false,()),())) (cond (bh x.1.2.2.1 (W 0)) (some ((L.nil,false,()),())) (cond (fM (bj x.1.1.1) x.1.2.2.1) (some ((L.nil,false,()),())) ((a_ MR ((x.1.1,(cx [(x.1.2.1,x.1.2.2.1,())]),(W 0),()),((),()))).bind λcu=>Sum.elim (λb6=>some ((b6.1.1,true,()),())) (λcS=>some ((L.nil,cS.1.2.1,()),())) cu)))))
def agQ:aw:=aZ [(0,.agg hG),(1,ag),(2,ag)]
def aEe:aw:=aZ [(0,bP)]
noncomputable def AF (x:U agQ):Option (U aEe):=(MQ ((x.1.1,x.1.2.1,x.1.2.2.1,()),())).bind λaB=>some ((aB.1.2.1,()),())
def agK:aw:=aZ [(0,.agg hG),(1,aN)]
def aD5:aw:=aZ [(0,ag),(1,bP)]
noncomputable def FN (x:U agK):Option (U aD5):=(AB ((x.1.1,()),())).bind λaB=>cond (!aB.1.1) (some (((W 0),false,()),())) ((F_ ((x.1.1,x.1.2.1,()),())).bind λaG=>some ((aG.1.1,aG.1.2.1,()),()))
def ahF:bI:=⟨.nil,[aR sc]⟩
theorem aGd:cl 239 0 NC:=ct ahF [] []
theorem aGg:bC 239 NB:=bN ahF [cr aGd] []
def aDq:bI:=⟨(put .nil 1 .bX),[aR aGg]⟩
theorem agy:bC 198 FF:=bN aDq [] []
def TH:bI:=⟨.nil,[aR sc,aR agy]⟩
theorem aC2:cl 161 1 ME:=ct TH [] []
theorem aCZ:cl 161 0 MD:=ct TH [cr aC2] []
theorem agu:bC 161 AA:=bN TH [cr aCZ] []
def TR:bI:=⟨(put (put .nil 1 .bX) 5 .bX),[aR vo,aR sc,aR afg,aR agu]⟩
theorem aDQ:cl 110 0 MT:=ct TR [] []
theorem aDT:cl 110 1 MU:=ct TR [] [.c 11 TQ agG]
theorem MV:bC 110 yG:=bN TR [cr aDQ,cr aDT] []
def aGP:bI:=⟨(put .nil 2 .bX),[]⟩
theorem ahL:bC 240 Gu:=bN aGP [] []
def Gg:bI:=⟨(put (put (put .nil 3 .bX) 11 .bX) 18 (.arr [false])),[aR ahL]⟩
theorem aFY:cl 199 0 Nw:=ct Gg [] [.c 9 T8 ahw]
theorem aF4:cl 199 2 Ny:=ct Gg [] []
theorem aF1:cl 199 1 Nx:=ct Gg [cr aF4] []
theorem aF7:cl 199 3 Nz:=ct Gg [] []
theorem ahy:bC 199 Gb:=bN Gg [cr aFY,cr aF1,cr aF7] []
def ag':bI:=⟨(put .nil 3 .bX),[aR ahL]⟩
theorem aFa:cl 200 0 Nj:=ct ag' [] []
theorem ag_:bC 200 F1:=bN ag' [cr aFa] []
def aEX:bI:=⟨(put .nil 3 .bX),[aR ahy,aR ag_]⟩
theorem aEW:bC 201 Nd:=bN aEX [] []
def ahr:bI:=⟨.nil,[]⟩
theorem aFM:cl 202 0 Nv:=ct ahr [] []
theorem aFP:bC 202 Nu:=bN ahr [cr aFM] []
def T_:bI:=⟨.nil,[aR ahy,aR ag_,aR aEW,aR aFP]⟩
theorem aHc:cl 162 0 NY:=ct T_ [] []
theorem aHf:cl 162 1 NZ:=ct T_ [] []
theorem ahU:bC 162 GB:=bN T_ [cr aHc,cr aHf] []
def ahR:bI:=⟨(put .nil 10 .bX),[]⟩
theorem aGW:cl 203 0 NS:=ct ahR [] []
theorem aGZ:bC 203 NR:=bN ahR [cr aGW] []
def NX:bI:=⟨.nil,[aR S2]⟩
theorem aG5:cl 204 1 NV:=ct NX [] []
theorem aG2:cl 204 0 NU:=ct NX [cr aG5] []
theorem aG8:cl 204 2 NW:=ct NX [] []
theorem aG':bC 204 NT:=bN NX [cr aG2,cr aG8] []
def agZ:bI:=⟨.nil,[]⟩
theorem aEu:cl 241 0 M6:=ct agZ [] []
theorem aEx:bC 241 M5:=bN agZ [cr aEu] []
def ahO:bI:=⟨.nil,[aR aEx]⟩
theorem aGR:cl 205 0 NQ:=ct ahO [] []
theorem aGU:bC 205 Gv:=bN ahO [cr aGR] []
def Ub:bI:=⟨(put (put .nil 12 .bX) 17 .bX),[aR ahU,aR aGZ,aR aG',aR aGU]⟩
theorem aHk:cl 163 0 N1:=ct Ub [] []
theorem aHn:cl 163 1 N2:=ct Ub [] []
theorem aHq:bC 163 N0:=bN Ub [cr aHk,cr aHn] [.c 23 Ua ahW]
def agJ:bI:=⟨(put (put .nil 2 .bX) 11 .bX),[aR vo,aR MV,aR ahU,aR aHq]⟩
theorem aDX:cl 111 0 MY:=ct agJ [] []
theorem aD0:bC 111 MX:=bN agJ [cr aDX] []
def ags:bI:=⟨(put (put .nil 1 .bX) 7 .bX),[aR MV,aR aD0]⟩
theorem aCV:cl 54 0 MC:=ct ags [] []
theorem TF:bC 54 Az:=bN ags [cr aCV] []
def agB:bI:=⟨(put (put .nil 1 .bX) 4 .bX),[aR sc,aR agu]⟩
theorem aDs:cl 175 0 MM:=ct agB [] []
theorem TM:bC 175 AD:=bN agB [cr aDs] []
def aEs:bI:=⟨.nil,[]⟩
theorem T2:bC 182 rn:=bN aEs [] []
def M':bI:=⟨.nil,[aR vo,aR MV,aR sc,aR TM,aR T2]⟩
theorem aEA:cl 180 0 M8:=ct M' [] []
theorem aED:cl 180 1 M9:=ct M' [] []
theorem aEG:cl 180 2 M_:=ct M' [] []
theorem aEJ:bC 180 M7:=bN M' [cr aEA,cr aED,cr aEG] []
def NI:bI:=⟨.nil,[]⟩
theorem aGm:cl 221 1 NG:=ct NI [] []
theorem aGj:cl 221 0 NF:=ct NI [cr aGm] []
theorem aGp:cl 221 2 NH:=ct NI [] []
theorem aGs:bC 221 ND:=bN NI [cr aGj,cr aGp] []
def ahl:bI:=⟨(put .nil 1 .bX),[]⟩
theorem aFv:cl 223 0 Nq:=ct ahl [] []
theorem aFy:bC 223 Np:=bN ahl [cr aFv] []
def T9:bI:=⟨(put .nil 7 .bX),[aR vo]⟩
theorem aGK:cl 222 1 NP:=ct T9 [] []
theorem aGH:cl 222 0 NO:=ct T9 [cr aGK] []
theorem aGN:bC 222 Gr:=bN T9 [cr aGH] []
def ahC:bI:=⟨(put .nil 1 .bX),[]⟩
theorem aF':cl 224 0 NA:=ct ahC [] []
theorem ahB:bC 224 Gh:=bN ahC [cr aF'] []
def TU:bI:=⟨(put (put (put .nil 36 (.arr [false,false,false,false])) 43 (.arr [false,false,false,false])) 48 (.arr [false,false,false,false])),[]⟩
theorem aD':cl 260 1 M0:=ct TU [] []
theorem aD8:cl 260 0 MZ:=ct TU [cr aD'] []
theorem agO:bC 260 FO:=bN TU [cr aD8] []
def ahi:bI:=⟨.nil,[]⟩
theorem aFr:cl 261 0 No:=ct ahi [] []
theorem ahh:bC 261 F5:=bN ahi [cr aFr] []
def aEN:bI:=⟨.nil,[aR ahh]⟩
theorem aEM:bC 265 Na:=bN aEN [] []
def T5:bI:=⟨(put .nil 7 .tok),[aR agO,aR aEM]⟩
theorem aFE:cl 259 1 Nt:=ct T5 [] []
theorem aFB:cl 259 0 Ns:=ct T5 [cr aFE] []
theorem aFH:bC 259 Nr:=bN T5 [cr aFB] []
def aDx:bI:=⟨(put .nil 1 .bX),[aR TM,aR ahB,aR aFH]⟩
theorem aDw:bC 246 MN:=bN aDx [] []
def ag6:bI:=⟨.nil,[aR agO,aR ahh]⟩
theorem aE0:cl 247 0 Ng:=ct ag6 [] []
theorem aE3:bC 247 Nf:=bN ag6 [cr aE0] []
def agE:bI:=⟨(put (put .nil 1 .bX) 6 .bX),[aR aDw,aR aE3]⟩
theorem aDA:cl 225 0 MP:=ct agE [] []
theorem aDD:bC 225 MO:=bN agE [cr aDA] []
def NN:bI:=⟨.nil,[aR TF,aR T2,aR aGs,aR aGN,aR aFy,aR ahB,aR aDD]⟩
theorem aGv:cl 181 0 NK:=ct NN [] []
theorem aGy:cl 181 1 NL:=ct NN [] []
theorem aGB:cl 181 2 NM:=ct NN [] []
theorem aGE:bC 181 NJ:=bN NN [cr aGv,cr aGy,cr aGB] []
def ahf:bI:=⟨.nil,[]⟩
theorem aFl:cl 183 0 Nn:=ct ahf [] []
theorem aFo:bC 183 Nm:=bN ahf [cr aFl] []
def ag8:bI:=⟨.nil,[]⟩
theorem aE6:cl 184 0 Ni:=ct ag8 [] []
theorem aE9:bC 184 Nh:=bN ag8 [cr aE6] []
def aFK:bI:=⟨(put .nil 2 .bX),[aR EX]⟩
theorem aho:bC 226 F_:=bN aFK [] []
def aFV:bI:=⟨(put (put .nil 2 .bX) 3 .bX),[aR aho]⟩
theorem ahv:bC 185 AH:=bN aFV [] []
def FE:bI:=⟨(put (put (put (put .nil 6 .bX) 8 .bX) 14 .bX) 17 .bX),[aR aEJ,aR aGE,aR T2,aR aFo,aR aE9,aR ahv]⟩
theorem aDb:cl 145 0 MI:=ct FE [] []
theorem aDk:cl 145 3 ML:=ct FE [] []
theorem aDh:cl 145 2 MK:=ct FE [cr aDk] []
theorem aDe:cl 145 1 MJ:=ct FE [cr aDh] []
theorem aDn:bC 145 MH:=bN FE [cr aDb,cr aDe] []
def aFT:bI:=⟨(put .nil 2 .bX),[]⟩
theorem aFS:bC 262 Ga:=bN aFT [] []
def ahd:bI:=⟨(put (put .nil 2 .bX) 6 .bX),[aR sc,aR aFS]⟩
theorem aFf:cl 248 0 Nl:=ct ahd [] []
theorem aFi:bC 248 Nk:=bN ahd [cr aFf] [.c 11 T4 ahb]
def TK:bI:=⟨(put .nil 1 .bX),[aR aFi]⟩
theorem aC6:cl 227 0 MF:=ct TK [] []
theorem aC9:cl 227 1 MG:=ct TK [] []
theorem TJ:bC 227 AB:=bN TK [cr aC6,cr aC9] []
def aD6:bI:=⟨(put (put .nil 2 .bX) 3 .bX),[aR ahv,aR TJ]⟩
theorem TS:bC 186 AE:=bN aD6 [] []
def agW:bI:=⟨(put .nil 2 .bX),[]⟩
theorem aEn:cl 272 0 M4:=ct agW [] []
theorem aEq:bC 272 AG:=bN agW [cr aEn] []
def agU:bI:=⟨(put (put (put (put (put .nil 3 .bX) 8 .bX) 9 .bX) 14 .bX) 15 .bX),[aR aEq]⟩
theorem aEh:cl 268 0 M3:=ct agU [] [.c 27 T0 agS]
theorem aEk:bC 268 M1:=bN agU [cr aEh] [.c 15 TY agR]
def ag3:bI:=⟨(put .nil 3 .bX),[]⟩
theorem aEQ:cl 269 0 Nc:=ct ag3 [] []
theorem aET:bC 269 Nb:=bN ag3 [cr aEQ] []
def TO:bI:=⟨(put (put .nil 3 .bX) 41 .tok),[aR TJ,aR aEk,aR aET]⟩
theorem aDJ:cl 264 1 MS:=ct TO [] []
theorem aDG:cl 264 0 MR:=ct TO [cr aDJ] []
theorem aDM:bC 264 MQ:=bN TO [cr aDG] []
def aEd:bI:=⟨(put .nil 3 .bX),[aR aDM]⟩
theorem TV:bC 254 AF:=bN aEd [] []
def aD4:bI:=⟨(put .nil 2 .bX),[aR aho,aR TJ]⟩
theorem aD3:bC 255 FN:=bN aD4 [] []
end cB
end Go.Proofs.YtgmdfchkljaooaaGreat
