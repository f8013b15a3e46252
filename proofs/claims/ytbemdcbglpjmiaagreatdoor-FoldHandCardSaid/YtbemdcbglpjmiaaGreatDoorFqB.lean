/- The fold laws' first: the tables. The fold laws' first: the evaluator runs this program. -/
import Derived.Test.YtbemdcbglpjmiaaGreatDoorKvY
import Derived.KernelRfl
import Derived.Lib.Bytealg
namespace Go.Proofs.YtbemdcbglpjmiaaGreatDoor
open Go.RowKit
namespace Kv
open Ev
def ip (n : Nat) : C := .int .i64 (.ofNat n)
def im (n : Nat) : C := .int .i64 (.negSucc n)
noncomputable def tt : T TypeInfo := ofList Tryz.prog.types.toList
noncomputable def ff : T Func := ofList Tryz.prog.funcs.toList
def leaf (n : Nat) : List TypeDesc := List.replicate n (.int .i64)
/-- Structs and arrays that are compared. -/
noncomputable def fl : T (List TypeDesc) := put (put .nil 83 (some [.int .i64, .int .i64, .int .i64])) 51 (some [.int .i64, .string, .int .i64, .string, .int .i64, .int .i64])
def ixIn (s : List Nat) (n : Nat) : Int := match s.findIdx? (fun (x : Nat) => Nat.beq x n) with
  | some i => .ofNat i
  | none => .negSucc 0
/-- internal/bytealg.IndexByteString. -/
def ixByte (_ : CallT) (l : List V) (σ : St) : Option (V × St) := match l with
  | [.p (.c (.str s)), .p (.c (.int .u8 (.ofNat n)))] => match Nat.ble n 255 with
    | true => some (.p (.c (.int .i64 (ixIn s n))), σ)
    | false => none
  | _ => none
def isOrc (f : Nat) : List Orc → Bool
  | [] => false
  | o :: l => match Nat.beq f o.f with
    | true => true
    | false => isOrc f l
noncomputable def prim (l : List Orc) (f : Nat) : Option Fun := match Nat.beq f 312 with
  | true => some ⟨ixByte⟩
  | false => match isOrc f l with
    | true => some ⟨fun _ args σ => tryAll f args σ l⟩
    | false => none
noncomputable def ev (l : List Orc) : CallT := eval tt fl ff (prim l) 200
/-- first. -/
noncomputable def firstFact : Bool := match ev [] 6 [] (lst 64 []) with
  | some x => vSame x.1 (.p (.c (.bool true)))
  | none => false
end Kv
end Go.Proofs.YtbemdcbglpjmiaaGreatDoor
namespace Go.Proofs.YtbemdcbglpjmiaaGreatDoor
open Go.RowKit
namespace Kv
open Ev
set_option maxRecDepth 1000000
theorem tabT : Tab Tryz.prog tt := ⟨fun t i h => by
  unfold tt at h
  rw [ofList_eq, T.get_ofList] at h
  rw [Array.getElem?_toList] at h
  have hlt : t < Tryz.prog.types.size := (Array.getElem?_eq_some_iff.1 h).1
  show (if t < Tryz.prog.types.size then Tryz.prog.types[t]? else _) = some i
  rw [if_pos hlt]; exact h⟩
noncomputable def codesOk (l : List Func) : Bool := l.all fun fn => match fn.body with
  | some c => codeOk tt fl c
  | none => true
theorem codes_ok : codesOk Tryz.prog.funcs.toList = true := by kernel_rfl
theorem names_ok : (Tryz.prog.funcs.toList.all fun fn => !(fn.name == "runtime.NumGoroutine")) = true := by kernel_rfl
theorem mixed : Tryz.prog.follows .mixedOrders = true := by kernel_rfl
theorem funcs_ok (f : Nat) (fn : Func) (h : get ff f = some fn) : Tryz.prog.funcs[f]? = some fn ∧ (fn.name == "runtime.NumGoroutine") = false ∧ ∀ c, fn.body = some c → codeOk tt fl c = true := by
  unfold ff at h
  rw [get_eq, ofList_eq, T.get_ofList] at h
  have hm := List.mem_of_getElem? h
  refine ⟨by rw [← Array.getElem?_toList]; exact h, ?_, fun c hc => ?_⟩
  · have := List.all_eq_true.1 names_ok fn hm
    simpa using this
  · have := List.all_eq_true.1 codes_ok fn hm
    rw [hc] at this
    exact this
theorem flatF : FlatOk Tryz.prog 83 [.int .i64, .int .i64, .int .i64] :=
  flat_struct Tryz.underlying83 (by kernel_rfl) (by kernel_rfl) ⟨by decide, rfl, by kernel_rfl, by decide, rfl, by kernel_rfl, by decide, rfl, by kernel_rfl, trivial⟩
theorem flatT : FlatOk Tryz.prog 51 [.int .i64, .string, .int .i64, .string, .int .i64, .int .i64] :=
  flat_struct Tryz.underlying51 (by kernel_rfl) (by kernel_rfl) ⟨by decide, rfl, by kernel_rfl, by decide, rfl, by kernel_rfl, by decide, rfl, by kernel_rfl, by decide, rfl, by kernel_rfl, by decide, rfl, by kernel_rfl, by decide, rfl, by kernel_rfl, trivial⟩
theorem flats (t : Nat) (ds : List TypeDesc) (h : get fl t = some ds) : FlatOk Tryz.prog t ds := by
  unfold fl at h
  rw [get_eq, put_eq, put_eq, T.get_put] at h
  split at h
  · rename_i he; subst he; cases h; exact flatT
  · rw [T.get_put] at h
    split at h
    · rename_i he; subst he; cases h; exact flatF
    · rw [T.get_nil] at h; cases h
/-! ### The entries -/
theorem ixIn_cons (x : Nat) (l : List Nat) (n : Nat) : ixIn (x :: l) n = if Nat.beq x n = true then 0 else if ixIn l n = -1 then -1 else ixIn l n + 1 := by
  unfold ixIn
  rw [List.findIdx?_cons]
  cases hb : Nat.beq x n with
  | true => rfl
  | false =>
    simp only [Bool.false_eq_true, if_false]
    cases h : l.findIdx? (fun x => Nat.beq x n) with
    | none => rfl
    | some i =>
      have : ¬ (Int.ofNat i = -1) := by simp only [Int.ofNat_eq_natCast]; omega
      simp only [Option.map_some, if_neg this]
      rfl
theorem ixIn_eq (c : UInt8) : ∀ (l : List UInt8), ixIn (l.map UInt8.toNat) c.toNat = Lib.indexByte l c
  | [] => rfl
  | x :: l => by
    rw [List.map_cons, ixIn_cons, ixIn_eq c l, Lib.indexByte]
    have : Nat.beq x.toNat c.toNat = (x == c) := by
      rw [Bool.eq_iff_iff, Nat.beq_eq, beq_iff_eq, UInt8.toNat_inj]
    rw [this]
    simp only [beq_iff_eq]
theorem ixByte_ok {w0 : World} (call : CallT) : CallOk Tryz.prog w0 fun f args σ => match Nat.beq f 312 with | true => ixByte call args σ | false => none := by
  intro f args σ v σ' m w vs h hH hv
  simp only at h
  split at h
  · rename_i hfe
    have hfe := Nat.eq_of_beq_eq_true hfe
    subst hfe
    unfold ixByte at h
    split at h
    · rename_i s n
      split at h
      · rename_i hn
        have hn := Nat.le_of_ble_eq_true hn
        cases h
        match hvl : vs.toList, hv with
        | [u, u'], ⟨h1, h2, _⟩ =>
          obtain ⟨t, rfl, rfl⟩ := h1
          have h2 : u' = .int .u8 (n : Nat) := h2
          subst h2
          have hvs : vs = #[.string t, .int .u8 (n : Nat)] := Array.toList_inj.1 hvl
          subst hvs
          refine .inl ⟨m, .int .i64 (Lib.indexByte t.data.toList ((n : Int)).toNat.toUInt8), w, Gr.refl hH, ?_, hH, ?_⟩
          · rw [run_callFunc_extern Tryz.func312 (by kernel_rfl) (by kernel_rfl) (by kernel_rfl) (e := Extern.BytealgIndexByte.indexByte) (by kernel_rfl), Lib.run_indexByteString]
            rfl
          · have hc : (((n : Int)).toNat.toUInt8).toNat = n := by simp; omega
            rw [← ixIn_eq, hc]; rfl
      · cases h
    · cases h
  · cases h
theorem isOrc_mem {f : Nat} : ∀ {l : List Orc}, isOrc f l = true → ∃ o ∈ l, o.f = f
  | [], h => by cases h
  | o :: l, h => by
    rw [isOrc] at h
    split at h
    · rename_i he
      exact ⟨o, by simp, (Nat.eq_of_beq_eq_true he).symm⟩
    · obtain ⟨o', h1, h2⟩ := isOrc_mem h
      exact ⟨o', by simp [h1], h2⟩
/-- What is asked of a list of known calls. -/
def OrcsOk (w0 : World) (l : List Orc) : Prop := ∀ o ∈ l, CallOk Tryz.prog w0 fun f args σ => match Nat.beq f o.f with | true => tryO o args σ | false => none
theorem ev_ok {w0 : World} {l : List Orc} (hl : OrcsOk w0 l) : CallOk Tryz.prog w0 (ev l) := by
  refine eval_ok tabT mixed (act_ok tabT flats) funcs_ok (fun call _ => ?_) 200
  intro f args σ v σ' m w vs h hH hv
  simp only [prim] at h
  cases h1 : Nat.beq f 312 with
  | true =>
    rw [h1] at h
    exact ixByte_ok call f args σ v σ' m w vs (by simp only [h1]; exact h) hH hv
  | false =>
    rw [h1] at h
    simp only at h
    cases h3 : isOrc f l with
    | false => rw [h3] at h; cases h
    | true =>
      rw [h3] at h
      exact tryAll_ok hl f args σ v σ' m w vs h hH hv
theorem orc_ok {w0 : World} {l : List Orc} (hl : OrcsOk w0 l) {o : Orc} (h : orcFact (ev l) o = true) : CallOk Tryz.prog w0 fun f args σ => match Nat.beq f o.f with | true => tryO o args σ | false => none :=
  tryO_ok (ev_ok hl) h
end Kv
end Go.Proofs.YtbemdcbglpjmiaaGreatDoor
