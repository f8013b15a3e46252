/- Contracts: reparteeref36.noteFields, has. Contracts: reparteeref36.letterMay, none. Contract: reparteeref36.NoteMay at any note. The plain law: the reference's NoteMay answers as packet's. -/
import Derived.Test.YtfaophiaiflecaaNtName
import Derived.Test.YtfaophiaiflecaaNtSame
import Derived.Test.YtfaophiaiflecaaNtSame3
import Derived.Test.YtfaophiaiflecaaHeld
import Derived.Deep.DeepCutAuto
import Derived.Test.YtfaophiaiflecaaNtMay3
namespace Go.Proofs.Ytfaophiaiflecaa
open Go.RowKit

/-- The letters of a kind's fields. -/
def fieldsF (k : Int) : ByteArray :=
  if k = 1 then ⟨#[65, 83, 69, 80, 76]⟩ else if k = 2 then ⟨#[65, 83, 69, 80]⟩ else if k = 3 ∨ k = 5 then ⟨#[65]⟩ else if k = 4 then ⟨#[65, 76]⟩
  else if k = 6 ∨ k = 7 then ⟨#[83, 69]⟩ else if k = 8 then ⟨#[65, 82, 86]⟩ else ⟨#[]⟩
set_option maxHeartbeats 1600000 in
theorem noteFields_any (k : Int) (w : World) : Calls Try.prog 39 #[.int .i64 k] w fun e w' => e = .returned (.string (fieldsF k)) ∧ w = w' := by
  have HF := Lib.hid (rfl : fieldsF k = fieldsF k)
  unfold fieldsF at HF
  by_cases h1 : k = 1
  · subst h1
    go_enter Try.func39, Try.ntmps39
    go_wp2
    go_ret
    exact ⟨rfl, rfl⟩
  by_cases h2 : k = 2
  · subst h2
    go_enter Try.func39, Try.ntmps39
    go_wp2
    go_ret
    exact ⟨rfl, rfl⟩
  by_cases h3 : k = 3
  · subst h3
    go_enter Try.func39, Try.ntmps39
    go_wp2
    go_ret
    exact ⟨rfl, rfl⟩
  by_cases h5 : k = 5
  · subst h5
    go_enter Try.func39, Try.ntmps39
    go_wp2
    go_ret
    exact ⟨rfl, rfl⟩
  by_cases h4 : k = 4
  · subst h4
    go_enter Try.func39, Try.ntmps39
    go_wp2
    go_ret
    exact ⟨rfl, rfl⟩
  by_cases h6 : k = 6
  · subst h6
    go_enter Try.func39, Try.ntmps39
    go_wp2
    go_ret
    exact ⟨rfl, rfl⟩
  by_cases h7 : k = 7
  · subst h7
    go_enter Try.func39, Try.ntmps39
    go_wp2
    go_ret
    exact ⟨rfl, rfl⟩
  by_cases h8 : k = 8
  · subst h8
    go_enter Try.func39, Try.ntmps39
    go_wp2
    go_ret
    exact ⟨rfl, rfl⟩
  have e : fieldsF k = ⟨#[]⟩ := by simp [fieldsF, h1, h2, h3, h4, h5, h6, h7, h8]
  have q1 : (k == 1) = false := by simp; exact h1
  have q2 : (k == 2) = false := by simp; exact h2
  have q3 : (k == 3) = false := by simp; exact h3
  have q4 : (k == 4) = false := by simp; exact h4
  have q5 : (k == 5) = false := by simp; exact h5
  have q6 : (k == 6) = false := by simp; exact h6
  have q7 : (k == 7) = false := by simp; exact h7
  have q8 : (k == 8) = false := by simp; exact h8
  rw [e]
  clear e HF
  go_enter Try.func39, Try.ntmps39
  go_wp2
  go_ret
  exact ⟨rfl, rfl⟩
/-- Is the byte in the text? -/
def hasF (s : ByteArray) (c : Int) : Bool := s.data.toList.any fun b => (b.toNat : Int) == c
theorem ba_get (s : ByteArray) (k : Nat) (h : k < s.size) : s.data.toList[k]? = some s[k] := by
  have e : s.data.toList.length = s.size := rfl
  rw [List.getElem?_eq_getElem (by omega)]; rfl
theorem hasF_false {s : ByteArray} {c : Int} (h : ∀ (j : Nat) b, s.data.toList[j]? = some b → ((b.toNat : Int) == c) = false) : hasF s c = false := by
  unfold hasF
  rw [List.any_eq_false]
  intro b hb
  obtain ⟨j, hj⟩ := List.getElem?_of_mem hb
  rw [h j b hj]; simp
theorem hasF_true {s : ByteArray} {c : Int} {k : Nat} {b : UInt8} (h : s.data.toList[k]? = some b) (e : ((b.toNat : Int) == c) = true) : hasF s c = true := by
  unfold hasF
  rw [List.any_eq_true]
  exact ⟨b, List.mem_of_getElem? h, e⟩
set_option maxHeartbeats 3200000 in
theorem has_any (s : ByteArray) (c : Int) (w : World) (hs : s.size ≤ 1000000000) : Calls Try.prog 40 #[.string s, .int .u8 c] w fun e w' => e = .returned (.bool (hasF s c)) ∧ w = w' := by
  go_enter Try.func40, Try.ntmps40
  go_wp2
  go_loop [5] (fun i => ∃ k : Nat, k ≤ s.size ∧ i = .int .i64 k ∧ Hid (∀ (j : Nat) b, j < k → s.data.toList[j]? = some b → ((b.toNat : Int) == c) = false)) (fun i => s.size - (intOf i).toNat)
  case atStart => exact ⟨0, by omega, rfl, Lib.hid (fun j b h => by omega)⟩
  case round =>
    obtain ⟨k, hk, rfl, hall⟩ := hrel
    by_cases hlt : k < s.size
    · have HAT := Lib.hid (ba_get s k hlt)
      rcases he : ((s[k].toNat : Int) == c) with _ | _
      · have HNX := Lib.hid (show ∀ (j : Nat) b, j < k + 1 → s.data.toList[j]? = some b → ((b.toNat : Int) == c) = false from fun j b hj hb => by
          by_cases e : j = k
          · subst e
            rw [HAT.out] at hb
            obtain rfl := Option.some.inj hb
            exact he
          · exact hall.out j b (by omega) hb)
        clear hall
        go_wp2_with fail
        go_round
        case rel => exact ⟨k + 1, by omega, by go_num, HNX⟩
        case measure => simp [intOf]; omega
      · have HR := Lib.hid (hasF_true HAT.out he)
        clear hall
        go_wp2_with fail
        go_ret
        exact ⟨ret_bool HR.out.symm, rfl⟩
    · have HR := Lib.hid (hasF_false (s := s) (c := c) (fun j b hb => hall.out j b (by
        have h1 := (List.getElem?_eq_some_iff.1 hb).1
        have e : s.data.toList.length = s.size := rfl
        omega) hb))
      clear hall
      go_wp2_with fail
      go_ret
      exact ⟨ret_bool HR.out.symm, rfl⟩
end Go.Proofs.Ytfaophiaiflecaa
namespace Go.Proofs.Ytfaophiaiflecaa
open Go.RowKit

set_option maxRecDepth 100000 in
set_option maxHeartbeats 3200000 in
theorem letterMay_any (la : ByteArray) (v : Vl) (A : Option Addr) (c : Nat) (w : World) :
    Calls Try.prog 42 #[.agg #[.string la, .int .i64 v.kind, .int .i64 v.n, .string v.s, .slice A v.l.length c]] w fun e w' => e = .returned (.bool (nameF la && dataF v.kind v.n v.s v.l.length)) ∧ Below w.heap.size w w' := by
  have CN := Lib.hid (fun W => rname_any la W)
  have CD := Lib.hid (fun W => rdataMay_any v.kind v.n v.s A v.l.length c W)
  have BF := Lib.hid (below_allocS (Below.refl _ _) (.cells #[.string la, .int .i64 v.kind, .int .i64 v.n, .string v.s, .slice A v.l.length c] 38) : Below w.heap.size w _)
  go_enter Try.func42, Try.ntmps42
  go_wp2_with fail
  refine (CN.out _).mono ?_
  rintro e w' ⟨rfl, rfl⟩
  clear CN
  rcases hn : nameF la with _ | _
  · have HN := Lib.hid hn
    clear hn
    go_wp2_with fail
    go_ret
    exact ⟨ret_bool (by simp [HN.out]), BF.out⟩
  · have HN := Lib.hid hn
    clear hn
    go_wp2_with fail
    refine (CD.out _).mono ?_
    rintro e wf ⟨rfl, hbf⟩
    have HB := Lib.hid (below_next BF.out hbf)
    clear hbf
    go_wp2_with fail
    go_ret
    exact ⟨ret_bool (by simp [HN.out]), HB.out⟩
set_option maxRecDepth 100000 in
set_option maxHeartbeats 3200000 in
theorem none_any (la : ByteArray) (v : Vl) (A : Option Addr) (c : Nat) (w : World) (hv : Ints w A v.l) (hl : v.l.length ≤ 1000000000) :
    Calls Try.prog 43 #[.agg #[.string la, .int .i64 v.kind, .int .i64 v.n, .string v.s, .slice A v.l.length c]] w fun e w' => e = .returned (.bool ((la.toList == []) && decide (v = ⟨0, 0, ⟨#[]⟩, []⟩))) ∧ Below w.heap.size w w' := by
  have CS := Lib.hid (fun W (hb : Below w.heap.size w W) => sameValue_any v ⟨0, 0, ⟨#[]⟩, []⟩ A .none c 0 W (Rd.below hv hb) Rd.nil hl)
  have BF := Lib.hid (below_allocS (Below.refl _ _) (.cells #[.string la, .int .i64 v.kind, .int .i64 v.n, .string v.s, .slice A v.l.length c] 38) : Below w.heap.size w _)
  clear hv
  rcases hb : (la.toList == []) with _ | _
  · go_enter Try.func43, Try.ntmps43
    go_wp2_with fail
    go_ret
    exact ⟨rfl, BF.out⟩
  · go_enter Try.func43, Try.ntmps43
    go_wp2_with fail
    refine (CS.out _ BF.out).mono ?_
    rintro e wf ⟨rfl, hbf⟩
    have HB := Lib.hid (below_next BF.out hbf)
    clear hbf
    go_wp2_with fail
    go_ret
    exact ⟨ret_bool (by simp), HB.out⟩
end Go.Proofs.Ytfaophiaiflecaa
namespace Go.Proofs.Ytfaophiaiflecaa
open Go.RowKit
set_option linter.unusedSimpArgs false

def r4F (f ag se : ByteArray) : Bool := (hasF f 65 == (ag.toList == [])) || (hasF f 83 == (se.toList == []))
def r6F (f : ByteArray) (st pr : Int) : Bool := decide (st < 0) || decide (5 ≤ st) || (!hasF f 69 && !(st == 0)) || decide (pr < 0) || decide (24 ≤ pr) || (!hasF f 82 && !(pr == 0))
def r8F (f pe : ByteArray) : Bool := (hasF f 80 && !nameF pe) || (!hasF f 80 && !(pe.toList == []))
def r10F (f la : ByteArray) (v : Vl) : Bool := (hasF f 76 && !(nameF la && dataF v.kind v.n v.s v.l.length)) || (!hasF f 76 && !((la.toList == []) && decide (v = ⟨0, 0, ⟨#[]⟩, []⟩)))
def r12F (f : ByteArray) (en : List Bd) : Bool := (hasF f 86 && envF en) || en.length == 0
def refF (x : Nt) : Bool := !((fieldsF x.kind).toList == []) && !r4F (fieldsF x.kind) x.agent x.session && !r6F (fieldsF x.kind) x.seat x.proc && !r8F (fieldsF x.kind) x.peer && !r10F (fieldsF x.kind) x.label x.v && r12F (fieldsF x.kind) x.env
theorem fieldsF_size (k : Int) : (fieldsF k).size ≤ 1000000000 := by
  unfold fieldsF
  split
  · decide
  split
  · decide
  split
  · decide
  split
  · decide
  split
  · decide
  split <;> decide
set_option maxRecDepth 100000 in
set_option maxHeartbeats 16000000 in
theorem rnoteMay_any (x : Nt) (A E : Option Addr) (c d : Nat) (w : World) (hx : NtAt w x A E) :
    Calls Try.prog 17 #[.agg (x.cells A c E d)] w fun e w' => e = .returned (.bool (refF x)) ∧ Below w.heap.size w w' := by
  obtain ⟨k, ag, se, st, pe, la, v, pr, en⟩ := x
  have HX := Lib.hid hx
  have HRF := Lib.hid (show refF ⟨k, ag, se, st, pe, la, v, pr, en⟩ = (!((fieldsF k).toList == []) && !r4F (fieldsF k) ag se && !r6F (fieldsF k) st pr && !r8F (fieldsF k) pe && !r10F (fieldsF k) la v && r12F (fieldsF k) en) from rfl)
  generalize refF ⟨k, ag, se, st, pe, la, v, pr, en⟩ = res at *
  have HSZ := Lib.hid (fieldsF_size k)
  have CF := Lib.hid (fun W => noteFields_any k W)
  generalize fieldsF k = f at *
  have CH := Lib.hid (fun c W => has_any f c W HSZ.out)
  have CN := Lib.hid (fun W => rname_any pe W)
  have CL := Lib.hid (fun W => letterMay_any la v A c W)
  have CO := Lib.hid (fun W (hb : Below w.heap.size w W) => none_any la v A c W (Rd.below HX.out.a hb) HX.out.la)
  have CE := Lib.hid (fun W (hb : Below w.heap.size w W) => renv_any E en d W (HX.out.e.below hb) HX.out.le)
  have HB := Lib.hid (below_allocS (Below.refl _ _) (.cells #[.int .i64 k, .string ag, .string se, .int .i64 st, .string pe, .string la, .int .i64 v.kind, .int .i64 v.n, .string v.s, .slice A v.l.length c, .int .i64 pr, .slice E en.length d] 41) : Below w.heap.size w _)
  have H1 := Lib.hid (Blk.new w #[.int .i64 k, .string ag, .string se, .int .i64 st, .string pe, .string la, .int .i64 v.kind, .int .i64 v.n, .string v.s, .slice A v.l.length c, .int .i64 pr, .slice E en.length d] 41)
  clear hx HX
  simp only [Nt.cells]
  go_enter Try.func17, Try.ntmps17
  go_wp2_with fail
  refine (CF.out _).mono ?_
  rintro e w' ⟨rfl, rfl⟩
  rcases h0 : (f.toList == []) with _ | _
  rotate_left
  · have HZ := Lib.hid (show res = false by rw [HRF.out, h0]; rfl)
    go_wp2_with fail
    go_ret
    exact ⟨ret_bool HZ.out.symm, HB.out⟩
  rw [h0] at HRF
  have H0 := Lib.hid h0
  go_upto_region 4 with fail
  obtain ⟨W0, hW0⟩ : ∃ W0, W0 = w.alloc (.cells #[.int .i64 k, .string ag, .string se, .int .i64 st, .string pe, .string la, .int .i64 v.kind, .int .i64 v.n, .string v.s, .slice A v.l.length c, .int .i64 pr, .slice E en.length d] 41) := ⟨_, rfl⟩
  rw [← hW0] at HB H1 ⊢
  clear hW0 h0
  have x1 : W0.cell? ⟨w.heap.size, 1, none⟩ = some (.string ag) := H1.out.cell 1
  have x2 : W0.cell? ⟨w.heap.size, 2, none⟩ = some (.string se) := H1.out.cell 2
  go_cut [22] (fun s22 wx => s22 = .bool (r4F f ag se) ∧ Hid (Below w.heap.size w wx) ∧ Hid (Blk wx w.heap.size #[.int .i64 k, .string ag, .string se, .int .i64 st, .string pe, .string la, .int .i64 v.kind, .int .i64 v.n, .string v.s, .slice A v.l.length c, .int .i64 pr, .slice E en.length d] 41))
  case first =>
    rcases h65 : hasF f 65 with _ | _
    · rcases hag : (ag.toList == []) with _ | _
      · have HR := Lib.hid (show true = r4F f ag se by unfold r4F; rw [h65, hag]; rfl)
        have CH65 := Lib.hid (fun W => h65 ▸ CH.out 65 W)
        have CA := CH
        refine wp_region_noPanic ?_
        refine wp_region_held_drew (S := fun W => W.cell? ⟨w.heap.size, 1, none⟩ = some (.string ag) ∧ W.cell? ⟨w.heap.size, 2, none⟩ = some (.string se)) (by kernel_rfl) (⟨x1, x2⟩) (fun hHeld => ?_)
        refine held_take (v := ?v1) 0 rfl (by kernel_rfl) (by kernel_rfl) (by kernel_rfl) (fun _ _ _ h => h) (by rfl) ?hy1 (by assumption) ?rest1
        case hy1 => (intro w hSw; (try dsimp only at hSw); go_simp; try with_reducible rfl)
        simp only [Act.put, List.setIfInBounds_toArray, List.set_cons_zero, List.set_cons_succ]
        refine held_take (v := ?v2) 2 rfl (by kernel_rfl) (by kernel_rfl) (by kernel_rfl) (fun _ _ _ h => h) (by rfl) ?hy2 (by assumption) ?rest2
        case hy2 => (intro w hSw; (try dsimp only at hSw); go_simp; try with_reducible rfl)
        simp only [Act.put, List.setIfInBounds_toArray, List.set_cons_zero, List.set_cons_succ]
        refine held_take (v := ?v3) 3 rfl (by kernel_rfl) (by kernel_rfl) (by kernel_rfl) (fun _ _ _ h => h) (by rfl) ?hy3 (by assumption) ?rest3
        case hy3 => (intro w hSw; (try dsimp only at hSw); go_simp; try with_reducible rfl)
        simp only [Act.put, List.setIfInBounds_toArray, List.set_cons_zero, List.set_cons_succ]
        refine held_take (v := ?v4) 4 rfl (by kernel_rfl) (by kernel_rfl) (by kernel_rfl) (fun _ _ _ h => h) (by rfl) ?hy4 (by assumption) ?rest4
        case hy4 => (intro w hSw; (try dsimp only at hSw); go_simp; try with_reducible rfl)
        simp only [Act.put, List.setIfInBounds_toArray, List.set_cons_zero, List.set_cons_succ]
        refine held_call 1 rfl (by kernel_rfl) (by rfl) (fun K hK => ?_)
        go_simp
        go_at_call 40
        refine (CH65.out _).mono ?_
        rintro e w' ⟨rfl, rfl⟩
        go_simp
        refine hK _ _ (by assumption) ?_
        clear hK K
        try simp only [Act.put, List.setIfInBounds_toArray, List.set_cons_zero, List.set_cons_succ]
        refine held_take (v := ?v6) 5 rfl (by kernel_rfl) (by kernel_rfl) (by kernel_rfl) (fun _ _ _ h => h) (by rfl) ?hy6 (by assumption) ?rest6
        case hy6 => (intro w hSw; (try dsimp only at hSw); go_simp; try with_reducible rfl)
        simp only [Act.put, List.setIfInBounds_toArray, List.set_cons_zero, List.set_cons_succ]
        refine held_take (v := ?v7) 6 rfl (by kernel_rfl) (by kernel_rfl) (by kernel_rfl) (fun _ _ _ h => h) (by rfl) ?hy7 (by assumption) ?rest7
        case hy7 => (intro w hSw; (try dsimp only at hSw); go_simp; try with_reducible rfl)
        simp only [Act.put, List.setIfInBounds_toArray, List.set_cons_zero, List.set_cons_succ]
        refine held_skip 7 rfl (by kernel_rfl) (by kernel_rfl) (by kernel_rfl) (fun _ _ _ h => h) (by rfl) (by assumption) ?_
        simp only [Act.put, List.setIfInBounds_toArray, List.set_cons_zero, List.set_cons_succ]
        refine held_skip 9 rfl (by kernel_rfl) (by kernel_rfl) (by kernel_rfl) (fun _ _ _ h => h) (by rfl) (by assumption) ?_
        simp only [Act.put, List.setIfInBounds_toArray, List.set_cons_zero, List.set_cons_succ]
        refine held_skip 10 rfl (by kernel_rfl) (by kernel_rfl) (by kernel_rfl) (fun _ _ _ h => h) (by rfl) (by assumption) ?_
        simp only [Act.put, List.setIfInBounds_toArray, List.set_cons_zero, List.set_cons_succ]
        refine held_skip 11 rfl (by kernel_rfl) (by kernel_rfl) (by kernel_rfl) (fun _ _ _ h => h) (by rfl) (by assumption) ?_
        simp only [Act.put, List.setIfInBounds_toArray, List.set_cons_zero, List.set_cons_succ]
        refine held_skip 8 rfl (by kernel_rfl) (by kernel_rfl) (by kernel_rfl) (fun _ _ _ h => h) (by rfl) (by assumption) ?_
        simp only [Act.put, List.setIfInBounds_toArray, List.set_cons_zero, List.set_cons_succ]
        refine held_skip 12 rfl (by kernel_rfl) (by kernel_rfl) (by kernel_rfl) (fun _ _ _ h => h) (by rfl) (by assumption) ?_
        simp only [Act.put, List.setIfInBounds_toArray, List.set_cons_zero, List.set_cons_succ]
        refine held_take (v := ?v14) 13 rfl (by kernel_rfl) (by kernel_rfl) (by kernel_rfl) (fun _ _ _ h => h) (by rfl) ?hy14 (by assumption) ?rest14
        case hy14 => (intro w hSw; (try dsimp only at hSw); go_simp; try with_reducible rfl)
        simp only [Act.put, List.setIfInBounds_toArray, List.set_cons_zero, List.set_cons_succ]
        refine wpAnyH_done (by kernel_rfl) ?_ _
        refine NoPanic.normal ?_
        go_wp2_with fail
        go_meet
        exact ⟨congrArg Value.bool (HR.out), Lib.hid HB.out.drew, Lib.hid H1.out.drew⟩
      · have CH65 := Lib.hid (fun W => h65 ▸ CH.out 65 W)
        rcases h83 : hasF f 83 with _ | _
        · rcases hse : (se.toList == []) with _ | _
          · have HR := Lib.hid (show true = r4F f ag se by unfold r4F; rw [h65, hag, h83, hse]; rfl)
            have CH83 := Lib.hid (fun W => h83 ▸ CH.out 83 W)
            refine wp_region_noPanic ?_
            refine wp_region_held_drew (S := fun W => W.cell? ⟨w.heap.size, 1, none⟩ = some (.string ag) ∧ W.cell? ⟨w.heap.size, 2, none⟩ = some (.string se)) (by kernel_rfl) (⟨x1, x2⟩) (fun hHeld => ?_)
            refine held_take (v := ?v15) 0 rfl (by kernel_rfl) (by kernel_rfl) (by kernel_rfl) (fun _ _ _ h => h) (by rfl) ?hy15 (by assumption) ?rest15
            case hy15 => (intro w hSw; (try dsimp only at hSw); go_simp; try with_reducible rfl)
            simp only [Act.put, List.setIfInBounds_toArray, List.set_cons_zero, List.set_cons_succ]
            refine held_take (v := ?v16) 2 rfl (by kernel_rfl) (by kernel_rfl) (by kernel_rfl) (fun _ _ _ h => h) (by rfl) ?hy16 (by assumption) ?rest16
            case hy16 => (intro w hSw; (try dsimp only at hSw); go_simp; try with_reducible rfl)
            simp only [Act.put, List.setIfInBounds_toArray, List.set_cons_zero, List.set_cons_succ]
            refine held_take (v := ?v17) 3 rfl (by kernel_rfl) (by kernel_rfl) (by kernel_rfl) (fun _ _ _ h => h) (by rfl) ?hy17 (by assumption) ?rest17
            case hy17 => (intro w hSw; (try dsimp only at hSw); go_simp; try with_reducible rfl)
            simp only [Act.put, List.setIfInBounds_toArray, List.set_cons_zero, List.set_cons_succ]
            refine held_take (v := ?v18) 4 rfl (by kernel_rfl) (by kernel_rfl) (by kernel_rfl) (fun _ _ _ h => h) (by rfl) ?hy18 (by assumption) ?rest18
            case hy18 => (intro w hSw; (try dsimp only at hSw); go_simp; try with_reducible rfl)
            simp only [Act.put, List.setIfInBounds_toArray, List.set_cons_zero, List.set_cons_succ]
            refine held_call 1 rfl (by kernel_rfl) (by rfl) (fun K hK => ?_)
            go_simp
            go_at_call 40
            refine (CH65.out _).mono ?_
            rintro e w' ⟨rfl, rfl⟩
            go_simp
            refine hK _ _ (by assumption) ?_
            clear hK K
            try simp only [Act.put, List.setIfInBounds_toArray, List.set_cons_zero, List.set_cons_succ]
            refine held_take (v := ?v20) 5 rfl (by kernel_rfl) (by kernel_rfl) (by kernel_rfl) (fun _ _ _ h => h) (by rfl) ?hy20 (by assumption) ?rest20
            case hy20 => (intro w hSw; (try dsimp only at hSw); go_simp; try with_reducible rfl)
            simp only [Act.put, List.setIfInBounds_toArray, List.set_cons_zero, List.set_cons_succ]
            refine held_take (v := ?v21) 6 rfl (by kernel_rfl) (by kernel_rfl) (by kernel_rfl) (fun _ _ _ h => h) (by rfl) ?hy21 (by assumption) ?rest21
            case hy21 => (intro w hSw; (try dsimp only at hSw); go_simp; try with_reducible rfl)
            simp only [Act.put, List.setIfInBounds_toArray, List.set_cons_zero, List.set_cons_succ]
            refine held_take (v := ?v22) 7 rfl (by kernel_rfl) (by kernel_rfl) (by kernel_rfl) (fun _ _ _ h => h) (by rfl) ?hy22 (by assumption) ?rest22
            case hy22 => (intro w hSw; (try dsimp only at hSw); go_simp; try with_reducible rfl)
            simp only [Act.put, List.setIfInBounds_toArray, List.set_cons_zero, List.set_cons_succ]
            refine held_take (v := ?v23) 9 rfl (by kernel_rfl) (by kernel_rfl) (by kernel_rfl) (fun _ _ _ h => h) (by rfl) ?hy23 (by assumption) ?rest23
            case hy23 => (intro w hSw; (try dsimp only at hSw); go_simp; try with_reducible rfl)
            simp only [Act.put, List.setIfInBounds_toArray, List.set_cons_zero, List.set_cons_succ]
            refine held_take (v := ?v24) 10 rfl (by kernel_rfl) (by kernel_rfl) (by kernel_rfl) (fun _ _ _ h => h) (by rfl) ?hy24 (by assumption) ?rest24
            case hy24 => (intro w hSw; (try dsimp only at hSw); go_simp; try with_reducible rfl)
            simp only [Act.put, List.setIfInBounds_toArray, List.set_cons_zero, List.set_cons_succ]
            refine held_take (v := ?v25) 11 rfl (by kernel_rfl) (by kernel_rfl) (by kernel_rfl) (fun _ _ _ h => h) (by rfl) ?hy25 (by assumption) ?rest25
            case hy25 => (intro w hSw; (try dsimp only at hSw); go_simp; try with_reducible rfl)
            simp only [Act.put, List.setIfInBounds_toArray, List.set_cons_zero, List.set_cons_succ]
            refine held_call 8 rfl (by kernel_rfl) (by rfl) (fun K hK => ?_)
            go_simp
            go_at_call 40
            refine (CH83.out _).mono ?_
            rintro e w' ⟨rfl, rfl⟩
            go_simp
            refine hK _ _ (by assumption) ?_
            clear hK K
            try simp only [Act.put, List.setIfInBounds_toArray, List.set_cons_zero, List.set_cons_succ]
            refine held_take (v := ?v27) 12 rfl (by kernel_rfl) (by kernel_rfl) (by kernel_rfl) (fun _ _ _ h => h) (by rfl) ?hy27 (by assumption) ?rest27
            case hy27 => (intro w hSw; (try dsimp only at hSw); go_simp; try with_reducible rfl)
            simp only [Act.put, List.setIfInBounds_toArray, List.set_cons_zero, List.set_cons_succ]
            refine held_take (v := ?v28) 13 rfl (by kernel_rfl) (by kernel_rfl) (by kernel_rfl) (fun _ _ _ h => h) (by rfl) ?hy28 (by assumption) ?rest28
            case hy28 => (intro w hSw; (try dsimp only at hSw); go_simp; try with_reducible rfl)
            simp only [Act.put, List.setIfInBounds_toArray, List.set_cons_zero, List.set_cons_succ]
            refine wpAnyH_done (by kernel_rfl) ?_ _
            refine NoPanic.normal ?_
            go_wp2_with fail
            go_meet
            exact ⟨congrArg Value.bool (HR.out), Lib.hid HB.out.drew, Lib.hid H1.out.drew⟩
          · have HR := Lib.hid (show false = r4F f ag se by unfold r4F; rw [h65, hag, h83, hse]; rfl)
            have CH83 := Lib.hid (fun W => h83 ▸ CH.out 83 W)
            refine wp_region_noPanic ?_
            refine wp_region_held_drew (S := fun W => W.cell? ⟨w.heap.size, 1, none⟩ = some (.string ag) ∧ W.cell? ⟨w.heap.size, 2, none⟩ = some (.string se)) (by kernel_rfl) (⟨x1, x2⟩) (fun hHeld => ?_)
            refine held_take (v := ?v29) 0 rfl (by kernel_rfl) (by kernel_rfl) (by kernel_rfl) (fun _ _ _ h => h) (by rfl) ?hy29 (by assumption) ?rest29
            case hy29 => (intro w hSw; (try dsimp only at hSw); go_simp; try with_reducible rfl)
            simp only [Act.put, List.setIfInBounds_toArray, List.set_cons_zero, List.set_cons_succ]
            refine held_take (v := ?v30) 2 rfl (by kernel_rfl) (by kernel_rfl) (by kernel_rfl) (fun _ _ _ h => h) (by rfl) ?hy30 (by assumption) ?rest30
            case hy30 => (intro w hSw; (try dsimp only at hSw); go_simp; try with_reducible rfl)
            simp only [Act.put, List.setIfInBounds_toArray, List.set_cons_zero, List.set_cons_succ]
            refine held_take (v := ?v31) 3 rfl (by kernel_rfl) (by kernel_rfl) (by kernel_rfl) (fun _ _ _ h => h) (by rfl) ?hy31 (by assumption) ?rest31
            case hy31 => (intro w hSw; (try dsimp only at hSw); go_simp; try with_reducible rfl)
            simp only [Act.put, List.setIfInBounds_toArray, List.set_cons_zero, List.set_cons_succ]
            refine held_take (v := ?v32) 4 rfl (by kernel_rfl) (by kernel_rfl) (by kernel_rfl) (fun _ _ _ h => h) (by rfl) ?hy32 (by assumption) ?rest32
            case hy32 => (intro w hSw; (try dsimp only at hSw); go_simp; try with_reducible rfl)
            simp only [Act.put, List.setIfInBounds_toArray, List.set_cons_zero, List.set_cons_succ]
            refine held_call 1 rfl (by kernel_rfl) (by rfl) (fun K hK => ?_)
            go_simp
            go_at_call 40
            refine (CH65.out _).mono ?_
            rintro e w' ⟨rfl, rfl⟩
            go_simp
            refine hK _ _ (by assumption) ?_
            clear hK K
            try simp only [Act.put, List.setIfInBounds_toArray, List.set_cons_zero, List.set_cons_succ]
            refine held_take (v := ?v34) 5 rfl (by kernel_rfl) (by kernel_rfl) (by kernel_rfl) (fun _ _ _ h => h) (by rfl) ?hy34 (by assumption) ?rest34
            case hy34 => (intro w hSw; (try dsimp only at hSw); go_simp; try with_reducible rfl)
            simp only [Act.put, List.setIfInBounds_toArray, List.set_cons_zero, List.set_cons_succ]
            refine held_take (v := ?v35) 6 rfl (by kernel_rfl) (by kernel_rfl) (by kernel_rfl) (fun _ _ _ h => h) (by rfl) ?hy35 (by assumption) ?rest35
            case hy35 => (intro w hSw; (try dsimp only at hSw); go_simp; try with_reducible rfl)
            simp only [Act.put, List.setIfInBounds_toArray, List.set_cons_zero, List.set_cons_succ]
            refine held_take (v := ?v36) 7 rfl (by kernel_rfl) (by kernel_rfl) (by kernel_rfl) (fun _ _ _ h => h) (by rfl) ?hy36 (by assumption) ?rest36
            case hy36 => (intro w hSw; (try dsimp only at hSw); go_simp; try with_reducible rfl)
            simp only [Act.put, List.setIfInBounds_toArray, List.set_cons_zero, List.set_cons_succ]
            refine held_take (v := ?v37) 9 rfl (by kernel_rfl) (by kernel_rfl) (by kernel_rfl) (fun _ _ _ h => h) (by rfl) ?hy37 (by assumption) ?rest37
            case hy37 => (intro w hSw; (try dsimp only at hSw); go_simp; try with_reducible rfl)
            simp only [Act.put, List.setIfInBounds_toArray, List.set_cons_zero, List.set_cons_succ]
            refine held_take (v := ?v38) 10 rfl (by kernel_rfl) (by kernel_rfl) (by kernel_rfl) (fun _ _ _ h => h) (by rfl) ?hy38 (by assumption) ?rest38
            case hy38 => (intro w hSw; (try dsimp only at hSw); go_simp; try with_reducible rfl)
            simp only [Act.put, List.setIfInBounds_toArray, List.set_cons_zero, List.set_cons_succ]
            refine held_take (v := ?v39) 11 rfl (by kernel_rfl) (by kernel_rfl) (by kernel_rfl) (fun _ _ _ h => h) (by rfl) ?hy39 (by assumption) ?rest39
            case hy39 => (intro w hSw; (try dsimp only at hSw); go_simp; try with_reducible rfl)
            simp only [Act.put, List.setIfInBounds_toArray, List.set_cons_zero, List.set_cons_succ]
            refine held_call 8 rfl (by kernel_rfl) (by rfl) (fun K hK => ?_)
            go_simp
            go_at_call 40
            refine (CH83.out _).mono ?_
            rintro e w' ⟨rfl, rfl⟩
            go_simp
            refine hK _ _ (by assumption) ?_
            clear hK K
            try simp only [Act.put, List.setIfInBounds_toArray, List.set_cons_zero, List.set_cons_succ]
            refine held_take (v := ?v41) 12 rfl (by kernel_rfl) (by kernel_rfl) (by kernel_rfl) (fun _ _ _ h => h) (by rfl) ?hy41 (by assumption) ?rest41
            case hy41 => (intro w hSw; (try dsimp only at hSw); go_simp; try with_reducible rfl)
            simp only [Act.put, List.setIfInBounds_toArray, List.set_cons_zero, List.set_cons_succ]
            refine held_take (v := ?v42) 13 rfl (by kernel_rfl) (by kernel_rfl) (by kernel_rfl) (fun _ _ _ h => h) (by rfl) ?hy42 (by assumption) ?rest42
            case hy42 => (intro w hSw; (try dsimp only at hSw); go_simp; try with_reducible rfl)
            simp only [Act.put, List.setIfInBounds_toArray, List.set_cons_zero, List.set_cons_succ]
            refine wpAnyH_done (by kernel_rfl) ?_ _
            refine NoPanic.normal ?_
            go_wp2_with fail
            go_meet
            exact ⟨congrArg Value.bool (HR.out), Lib.hid HB.out.drew, Lib.hid H1.out.drew⟩
        · rcases hse : (se.toList == []) with _ | _
          · have HR := Lib.hid (show false = r4F f ag se by unfold r4F; rw [h65, hag, h83, hse]; rfl)
            have CH83 := Lib.hid (fun W => h83 ▸ CH.out 83 W)
            refine wp_region_noPanic ?_
            refine wp_region_held_drew (S := fun W => W.cell? ⟨w.heap.size, 1, none⟩ = some (.string ag) ∧ W.cell? ⟨w.heap.size, 2, none⟩ = some (.string se)) (by kernel_rfl) (⟨x1, x2⟩) (fun hHeld => ?_)
            refine held_take (v := ?v43) 0 rfl (by kernel_rfl) (by kernel_rfl) (by kernel_rfl) (fun _ _ _ h => h) (by rfl) ?hy43 (by assumption) ?rest43
            case hy43 => (intro w hSw; (try dsimp only at hSw); go_simp; try with_reducible rfl)
            simp only [Act.put, List.setIfInBounds_toArray, List.set_cons_zero, List.set_cons_succ]
            refine held_take (v := ?v44) 2 rfl (by kernel_rfl) (by kernel_rfl) (by kernel_rfl) (fun _ _ _ h => h) (by rfl) ?hy44 (by assumption) ?rest44
            case hy44 => (intro w hSw; (try dsimp only at hSw); go_simp; try with_reducible rfl)
            simp only [Act.put, List.setIfInBounds_toArray, List.set_cons_zero, List.set_cons_succ]
            refine held_take (v := ?v45) 3 rfl (by kernel_rfl) (by kernel_rfl) (by kernel_rfl) (fun _ _ _ h => h) (by rfl) ?hy45 (by assumption) ?rest45
            case hy45 => (intro w hSw; (try dsimp only at hSw); go_simp; try with_reducible rfl)
            simp only [Act.put, List.setIfInBounds_toArray, List.set_cons_zero, List.set_cons_succ]
            refine held_take (v := ?v46) 4 rfl (by kernel_rfl) (by kernel_rfl) (by kernel_rfl) (fun _ _ _ h => h) (by rfl) ?hy46 (by assumption) ?rest46
            case hy46 => (intro w hSw; (try dsimp only at hSw); go_simp; try with_reducible rfl)
            simp only [Act.put, List.setIfInBounds_toArray, List.set_cons_zero, List.set_cons_succ]
            refine held_call 1 rfl (by kernel_rfl) (by rfl) (fun K hK => ?_)
            go_simp
            go_at_call 40
            refine (CH65.out _).mono ?_
            rintro e w' ⟨rfl, rfl⟩
            go_simp
            refine hK _ _ (by assumption) ?_
            clear hK K
            try simp only [Act.put, List.setIfInBounds_toArray, List.set_cons_zero, List.set_cons_succ]
            refine held_take (v := ?v48) 5 rfl (by kernel_rfl) (by kernel_rfl) (by kernel_rfl) (fun _ _ _ h => h) (by rfl) ?hy48 (by assumption) ?rest48
            case hy48 => (intro w hSw; (try dsimp only at hSw); go_simp; try with_reducible rfl)
            simp only [Act.put, List.setIfInBounds_toArray, List.set_cons_zero, List.set_cons_succ]
            refine held_take (v := ?v49) 6 rfl (by kernel_rfl) (by kernel_rfl) (by kernel_rfl) (fun _ _ _ h => h) (by rfl) ?hy49 (by assumption) ?rest49
            case hy49 => (intro w hSw; (try dsimp only at hSw); go_simp; try with_reducible rfl)
            simp only [Act.put, List.setIfInBounds_toArray, List.set_cons_zero, List.set_cons_succ]
            refine held_take (v := ?v50) 7 rfl (by kernel_rfl) (by kernel_rfl) (by kernel_rfl) (fun _ _ _ h => h) (by rfl) ?hy50 (by assumption) ?rest50
            case hy50 => (intro w hSw; (try dsimp only at hSw); go_simp; try with_reducible rfl)
            simp only [Act.put, List.setIfInBounds_toArray, List.set_cons_zero, List.set_cons_succ]
            refine held_take (v := ?v51) 9 rfl (by kernel_rfl) (by kernel_rfl) (by kernel_rfl) (fun _ _ _ h => h) (by rfl) ?hy51 (by assumption) ?rest51
            case hy51 => (intro w hSw; (try dsimp only at hSw); go_simp; try with_reducible rfl)
            simp only [Act.put, List.setIfInBounds_toArray, List.set_cons_zero, List.set_cons_succ]
            refine held_take (v := ?v52) 10 rfl (by kernel_rfl) (by kernel_rfl) (by kernel_rfl) (fun _ _ _ h => h) (by rfl) ?hy52 (by assumption) ?rest52
            case hy52 => (intro w hSw; (try dsimp only at hSw); go_simp; try with_reducible rfl)
            simp only [Act.put, List.setIfInBounds_toArray, List.set_cons_zero, List.set_cons_succ]
            refine held_take (v := ?v53) 11 rfl (by kernel_rfl) (by kernel_rfl) (by kernel_rfl) (fun _ _ _ h => h) (by rfl) ?hy53 (by assumption) ?rest53
            case hy53 => (intro w hSw; (try dsimp only at hSw); go_simp; try with_reducible rfl)
            simp only [Act.put, List.setIfInBounds_toArray, List.set_cons_zero, List.set_cons_succ]
            refine held_call 8 rfl (by kernel_rfl) (by rfl) (fun K hK => ?_)
            go_simp
            go_at_call 40
            refine (CH83.out _).mono ?_
            rintro e w' ⟨rfl, rfl⟩
            go_simp
            refine hK _ _ (by assumption) ?_
            clear hK K
            try simp only [Act.put, List.setIfInBounds_toArray, List.set_cons_zero, List.set_cons_succ]
            refine held_take (v := ?v55) 12 rfl (by kernel_rfl) (by kernel_rfl) (by kernel_rfl) (fun _ _ _ h => h) (by rfl) ?hy55 (by assumption) ?rest55
            case hy55 => (intro w hSw; (try dsimp only at hSw); go_simp; try with_reducible rfl)
            simp only [Act.put, List.setIfInBounds_toArray, List.set_cons_zero, List.set_cons_succ]
            refine held_take (v := ?v56) 13 rfl (by kernel_rfl) (by kernel_rfl) (by kernel_rfl) (fun _ _ _ h => h) (by rfl) ?hy56 (by assumption) ?rest56
            case hy56 => (intro w hSw; (try dsimp only at hSw); go_simp; try with_reducible rfl)
            simp only [Act.put, List.setIfInBounds_toArray, List.set_cons_zero, List.set_cons_succ]
            refine wpAnyH_done (by kernel_rfl) ?_ _
            refine NoPanic.normal ?_
            go_wp2_with fail
            go_meet
            exact ⟨congrArg Value.bool (HR.out), Lib.hid HB.out.drew, Lib.hid H1.out.drew⟩
          · have HR := Lib.hid (show true = r4F f ag se by unfold r4F; rw [h65, hag, h83, hse]; rfl)
            have CH83 := Lib.hid (fun W => h83 ▸ CH.out 83 W)
            refine wp_region_noPanic ?_
            refine wp_region_held_drew (S := fun W => W.cell? ⟨w.heap.size, 1, none⟩ = some (.string ag) ∧ W.cell? ⟨w.heap.size, 2, none⟩ = some (.string se)) (by kernel_rfl) (⟨x1, x2⟩) (fun hHeld => ?_)
            refine held_take (v := ?v57) 0 rfl (by kernel_rfl) (by kernel_rfl) (by kernel_rfl) (fun _ _ _ h => h) (by rfl) ?hy57 (by assumption) ?rest57
            case hy57 => (intro w hSw; (try dsimp only at hSw); go_simp; try with_reducible rfl)
            simp only [Act.put, List.setIfInBounds_toArray, List.set_cons_zero, List.set_cons_succ]
            refine held_take (v := ?v58) 2 rfl (by kernel_rfl) (by kernel_rfl) (by kernel_rfl) (fun _ _ _ h => h) (by rfl) ?hy58 (by assumption) ?rest58
            case hy58 => (intro w hSw; (try dsimp only at hSw); go_simp; try with_reducible rfl)
            simp only [Act.put, List.setIfInBounds_toArray, List.set_cons_zero, List.set_cons_succ]
            refine held_take (v := ?v59) 3 rfl (by kernel_rfl) (by kernel_rfl) (by kernel_rfl) (fun _ _ _ h => h) (by rfl) ?hy59 (by assumption) ?rest59
            case hy59 => (intro w hSw; (try dsimp only at hSw); go_simp; try with_reducible rfl)
            simp only [Act.put, List.setIfInBounds_toArray, List.set_cons_zero, List.set_cons_succ]
            refine held_take (v := ?v60) 4 rfl (by kernel_rfl) (by kernel_rfl) (by kernel_rfl) (fun _ _ _ h => h) (by rfl) ?hy60 (by assumption) ?rest60
            case hy60 => (intro w hSw; (try dsimp only at hSw); go_simp; try with_reducible rfl)
            simp only [Act.put, List.setIfInBounds_toArray, List.set_cons_zero, List.set_cons_succ]
            refine held_call 1 rfl (by kernel_rfl) (by rfl) (fun K hK => ?_)
            go_simp
            go_at_call 40
            refine (CH65.out _).mono ?_
            rintro e w' ⟨rfl, rfl⟩
            go_simp
            refine hK _ _ (by assumption) ?_
            clear hK K
            try simp only [Act.put, List.setIfInBounds_toArray, List.set_cons_zero, List.set_cons_succ]
            refine held_take (v := ?v62) 5 rfl (by kernel_rfl) (by kernel_rfl) (by kernel_rfl) (fun _ _ _ h => h) (by rfl) ?hy62 (by assumption) ?rest62
            case hy62 => (intro w hSw; (try dsimp only at hSw); go_simp; try with_reducible rfl)
            simp only [Act.put, List.setIfInBounds_toArray, List.set_cons_zero, List.set_cons_succ]
            refine held_take (v := ?v63) 6 rfl (by kernel_rfl) (by kernel_rfl) (by kernel_rfl) (fun _ _ _ h => h) (by rfl) ?hy63 (by assumption) ?rest63
            case hy63 => (intro w hSw; (try dsimp only at hSw); go_simp; try with_reducible rfl)
            simp only [Act.put, List.setIfInBounds_toArray, List.set_cons_zero, List.set_cons_succ]
            refine held_take (v := ?v64) 7 rfl (by kernel_rfl) (by kernel_rfl) (by kernel_rfl) (fun _ _ _ h => h) (by rfl) ?hy64 (by assumption) ?rest64
            case hy64 => (intro w hSw; (try dsimp only at hSw); go_simp; try with_reducible rfl)
            simp only [Act.put, List.setIfInBounds_toArray, List.set_cons_zero, List.set_cons_succ]
            refine held_take (v := ?v65) 9 rfl (by kernel_rfl) (by kernel_rfl) (by kernel_rfl) (fun _ _ _ h => h) (by rfl) ?hy65 (by assumption) ?rest65
            case hy65 => (intro w hSw; (try dsimp only at hSw); go_simp; try with_reducible rfl)
            simp only [Act.put, List.setIfInBounds_toArray, List.set_cons_zero, List.set_cons_succ]
            refine held_take (v := ?v66) 10 rfl (by kernel_rfl) (by kernel_rfl) (by kernel_rfl) (fun _ _ _ h => h) (by rfl) ?hy66 (by assumption) ?rest66
            case hy66 => (intro w hSw; (try dsimp only at hSw); go_simp; try with_reducible rfl)
            simp only [Act.put, List.setIfInBounds_toArray, List.set_cons_zero, List.set_cons_succ]
            refine held_take (v := ?v67) 11 rfl (by kernel_rfl) (by kernel_rfl) (by kernel_rfl) (fun _ _ _ h => h) (by rfl) ?hy67 (by assumption) ?rest67
            case hy67 => (intro w hSw; (try dsimp only at hSw); go_simp; try with_reducible rfl)
            simp only [Act.put, List.setIfInBounds_toArray, List.set_cons_zero, List.set_cons_succ]
            refine held_call 8 rfl (by kernel_rfl) (by rfl) (fun K hK => ?_)
            go_simp
            go_at_call 40
            refine (CH83.out _).mono ?_
            rintro e w' ⟨rfl, rfl⟩
            go_simp
            refine hK _ _ (by assumption) ?_
            clear hK K
            try simp only [Act.put, List.setIfInBounds_toArray, List.set_cons_zero, List.set_cons_succ]
            refine held_take (v := ?v69) 12 rfl (by kernel_rfl) (by kernel_rfl) (by kernel_rfl) (fun _ _ _ h => h) (by rfl) ?hy69 (by assumption) ?rest69
            case hy69 => (intro w hSw; (try dsimp only at hSw); go_simp; try with_reducible rfl)
            simp only [Act.put, List.setIfInBounds_toArray, List.set_cons_zero, List.set_cons_succ]
            refine held_take (v := ?v70) 13 rfl (by kernel_rfl) (by kernel_rfl) (by kernel_rfl) (fun _ _ _ h => h) (by rfl) ?hy70 (by assumption) ?rest70
            case hy70 => (intro w hSw; (try dsimp only at hSw); go_simp; try with_reducible rfl)
            simp only [Act.put, List.setIfInBounds_toArray, List.set_cons_zero, List.set_cons_succ]
            refine wpAnyH_done (by kernel_rfl) ?_ _
            refine NoPanic.normal ?_
            go_wp2_with fail
            go_meet
            exact ⟨congrArg Value.bool (HR.out), Lib.hid HB.out.drew, Lib.hid H1.out.drew⟩
    · rcases hag : (ag.toList == []) with _ | _
      · have CH65 := Lib.hid (fun W => h65 ▸ CH.out 65 W)
        rcases h83 : hasF f 83 with _ | _
        · rcases hse : (se.toList == []) with _ | _
          · have HR := Lib.hid (show true = r4F f ag se by unfold r4F; rw [h65, hag, h83, hse]; rfl)
            have CH83 := Lib.hid (fun W => h83 ▸ CH.out 83 W)
            refine wp_region_noPanic ?_
            refine wp_region_held_drew (S := fun W => W.cell? ⟨w.heap.size, 1, none⟩ = some (.string ag) ∧ W.cell? ⟨w.heap.size, 2, none⟩ = some (.string se)) (by kernel_rfl) (⟨x1, x2⟩) (fun hHeld => ?_)
            refine held_take (v := ?v71) 0 rfl (by kernel_rfl) (by kernel_rfl) (by kernel_rfl) (fun _ _ _ h => h) (by rfl) ?hy71 (by assumption) ?rest71
            case hy71 => (intro w hSw; (try dsimp only at hSw); go_simp; try with_reducible rfl)
            simp only [Act.put, List.setIfInBounds_toArray, List.set_cons_zero, List.set_cons_succ]
            refine held_take (v := ?v72) 2 rfl (by kernel_rfl) (by kernel_rfl) (by kernel_rfl) (fun _ _ _ h => h) (by rfl) ?hy72 (by assumption) ?rest72
            case hy72 => (intro w hSw; (try dsimp only at hSw); go_simp; try with_reducible rfl)
            simp only [Act.put, List.setIfInBounds_toArray, List.set_cons_zero, List.set_cons_succ]
            refine held_take (v := ?v73) 3 rfl (by kernel_rfl) (by kernel_rfl) (by kernel_rfl) (fun _ _ _ h => h) (by rfl) ?hy73 (by assumption) ?rest73
            case hy73 => (intro w hSw; (try dsimp only at hSw); go_simp; try with_reducible rfl)
            simp only [Act.put, List.setIfInBounds_toArray, List.set_cons_zero, List.set_cons_succ]
            refine held_take (v := ?v74) 4 rfl (by kernel_rfl) (by kernel_rfl) (by kernel_rfl) (fun _ _ _ h => h) (by rfl) ?hy74 (by assumption) ?rest74
            case hy74 => (intro w hSw; (try dsimp only at hSw); go_simp; try with_reducible rfl)
            simp only [Act.put, List.setIfInBounds_toArray, List.set_cons_zero, List.set_cons_succ]
            refine held_call 1 rfl (by kernel_rfl) (by rfl) (fun K hK => ?_)
            go_simp
            go_at_call 40
            refine (CH65.out _).mono ?_
            rintro e w' ⟨rfl, rfl⟩
            go_simp
            refine hK _ _ (by assumption) ?_
            clear hK K
            try simp only [Act.put, List.setIfInBounds_toArray, List.set_cons_zero, List.set_cons_succ]
            refine held_take (v := ?v76) 5 rfl (by kernel_rfl) (by kernel_rfl) (by kernel_rfl) (fun _ _ _ h => h) (by rfl) ?hy76 (by assumption) ?rest76
            case hy76 => (intro w hSw; (try dsimp only at hSw); go_simp; try with_reducible rfl)
            simp only [Act.put, List.setIfInBounds_toArray, List.set_cons_zero, List.set_cons_succ]
            refine held_take (v := ?v77) 6 rfl (by kernel_rfl) (by kernel_rfl) (by kernel_rfl) (fun _ _ _ h => h) (by rfl) ?hy77 (by assumption) ?rest77
            case hy77 => (intro w hSw; (try dsimp only at hSw); go_simp; try with_reducible rfl)
            simp only [Act.put, List.setIfInBounds_toArray, List.set_cons_zero, List.set_cons_succ]
            refine held_take (v := ?v78) 7 rfl (by kernel_rfl) (by kernel_rfl) (by kernel_rfl) (fun _ _ _ h => h) (by rfl) ?hy78 (by assumption) ?rest78
            case hy78 => (intro w hSw; (try dsimp only at hSw); go_simp; try with_reducible rfl)
            simp only [Act.put, List.setIfInBounds_toArray, List.set_cons_zero, List.set_cons_succ]
            refine held_take (v := ?v79) 9 rfl (by kernel_rfl) (by kernel_rfl) (by kernel_rfl) (fun _ _ _ h => h) (by rfl) ?hy79 (by assumption) ?rest79
            case hy79 => (intro w hSw; (try dsimp only at hSw); go_simp; try with_reducible rfl)
            simp only [Act.put, List.setIfInBounds_toArray, List.set_cons_zero, List.set_cons_succ]
            refine held_take (v := ?v80) 10 rfl (by kernel_rfl) (by kernel_rfl) (by kernel_rfl) (fun _ _ _ h => h) (by rfl) ?hy80 (by assumption) ?rest80
            case hy80 => (intro w hSw; (try dsimp only at hSw); go_simp; try with_reducible rfl)
            simp only [Act.put, List.setIfInBounds_toArray, List.set_cons_zero, List.set_cons_succ]
            refine held_take (v := ?v81) 11 rfl (by kernel_rfl) (by kernel_rfl) (by kernel_rfl) (fun _ _ _ h => h) (by rfl) ?hy81 (by assumption) ?rest81
            case hy81 => (intro w hSw; (try dsimp only at hSw); go_simp; try with_reducible rfl)
            simp only [Act.put, List.setIfInBounds_toArray, List.set_cons_zero, List.set_cons_succ]
            refine held_call 8 rfl (by kernel_rfl) (by rfl) (fun K hK => ?_)
            go_simp
            go_at_call 40
            refine (CH83.out _).mono ?_
            rintro e w' ⟨rfl, rfl⟩
            go_simp
            refine hK _ _ (by assumption) ?_
            clear hK K
            try simp only [Act.put, List.setIfInBounds_toArray, List.set_cons_zero, List.set_cons_succ]
            refine held_take (v := ?v83) 12 rfl (by kernel_rfl) (by kernel_rfl) (by kernel_rfl) (fun _ _ _ h => h) (by rfl) ?hy83 (by assumption) ?rest83
            case hy83 => (intro w hSw; (try dsimp only at hSw); go_simp; try with_reducible rfl)
            simp only [Act.put, List.setIfInBounds_toArray, List.set_cons_zero, List.set_cons_succ]
            refine held_take (v := ?v84) 13 rfl (by kernel_rfl) (by kernel_rfl) (by kernel_rfl) (fun _ _ _ h => h) (by rfl) ?hy84 (by assumption) ?rest84
            case hy84 => (intro w hSw; (try dsimp only at hSw); go_simp; try with_reducible rfl)
            simp only [Act.put, List.setIfInBounds_toArray, List.set_cons_zero, List.set_cons_succ]
            refine wpAnyH_done (by kernel_rfl) ?_ _
            refine NoPanic.normal ?_
            go_wp2_with fail
            go_meet
            exact ⟨congrArg Value.bool (HR.out), Lib.hid HB.out.drew, Lib.hid H1.out.drew⟩
          · have HR := Lib.hid (show false = r4F f ag se by unfold r4F; rw [h65, hag, h83, hse]; rfl)
            have CH83 := Lib.hid (fun W => h83 ▸ CH.out 83 W)
            refine wp_region_noPanic ?_
            refine wp_region_held_drew (S := fun W => W.cell? ⟨w.heap.size, 1, none⟩ = some (.string ag) ∧ W.cell? ⟨w.heap.size, 2, none⟩ = some (.string se)) (by kernel_rfl) (⟨x1, x2⟩) (fun hHeld => ?_)
            refine held_take (v := ?v85) 0 rfl (by kernel_rfl) (by kernel_rfl) (by kernel_rfl) (fun _ _ _ h => h) (by rfl) ?hy85 (by assumption) ?rest85
            case hy85 => (intro w hSw; (try dsimp only at hSw); go_simp; try with_reducible rfl)
            simp only [Act.put, List.setIfInBounds_toArray, List.set_cons_zero, List.set_cons_succ]
            refine held_take (v := ?v86) 2 rfl (by kernel_rfl) (by kernel_rfl) (by kernel_rfl) (fun _ _ _ h => h) (by rfl) ?hy86 (by assumption) ?rest86
            case hy86 => (intro w hSw; (try dsimp only at hSw); go_simp; try with_reducible rfl)
            simp only [Act.put, List.setIfInBounds_toArray, List.set_cons_zero, List.set_cons_succ]
            refine held_take (v := ?v87) 3 rfl (by kernel_rfl) (by kernel_rfl) (by kernel_rfl) (fun _ _ _ h => h) (by rfl) ?hy87 (by assumption) ?rest87
            case hy87 => (intro w hSw; (try dsimp only at hSw); go_simp; try with_reducible rfl)
            simp only [Act.put, List.setIfInBounds_toArray, List.set_cons_zero, List.set_cons_succ]
            refine held_take (v := ?v88) 4 rfl (by kernel_rfl) (by kernel_rfl) (by kernel_rfl) (fun _ _ _ h => h) (by rfl) ?hy88 (by assumption) ?rest88
            case hy88 => (intro w hSw; (try dsimp only at hSw); go_simp; try with_reducible rfl)
            simp only [Act.put, List.setIfInBounds_toArray, List.set_cons_zero, List.set_cons_succ]
            refine held_call 1 rfl (by kernel_rfl) (by rfl) (fun K hK => ?_)
            go_simp
            go_at_call 40
            refine (CH65.out _).mono ?_
            rintro e w' ⟨rfl, rfl⟩
            go_simp
            refine hK _ _ (by assumption) ?_
            clear hK K
            try simp only [Act.put, List.setIfInBounds_toArray, List.set_cons_zero, List.set_cons_succ]
            refine held_take (v := ?v90) 5 rfl (by kernel_rfl) (by kernel_rfl) (by kernel_rfl) (fun _ _ _ h => h) (by rfl) ?hy90 (by assumption) ?rest90
            case hy90 => (intro w hSw; (try dsimp only at hSw); go_simp; try with_reducible rfl)
            simp only [Act.put, List.setIfInBounds_toArray, List.set_cons_zero, List.set_cons_succ]
            refine held_take (v := ?v91) 6 rfl (by kernel_rfl) (by kernel_rfl) (by kernel_rfl) (fun _ _ _ h => h) (by rfl) ?hy91 (by assumption) ?rest91
            case hy91 => (intro w hSw; (try dsimp only at hSw); go_simp; try with_reducible rfl)
            simp only [Act.put, List.setIfInBounds_toArray, List.set_cons_zero, List.set_cons_succ]
            refine held_take (v := ?v92) 7 rfl (by kernel_rfl) (by kernel_rfl) (by kernel_rfl) (fun _ _ _ h => h) (by rfl) ?hy92 (by assumption) ?rest92
            case hy92 => (intro w hSw; (try dsimp only at hSw); go_simp; try with_reducible rfl)
            simp only [Act.put, List.setIfInBounds_toArray, List.set_cons_zero, List.set_cons_succ]
            refine held_take (v := ?v93) 9 rfl (by kernel_rfl) (by kernel_rfl) (by kernel_rfl) (fun _ _ _ h => h) (by rfl) ?hy93 (by assumption) ?rest93
            case hy93 => (intro w hSw; (try dsimp only at hSw); go_simp; try with_reducible rfl)
            simp only [Act.put, List.setIfInBounds_toArray, List.set_cons_zero, List.set_cons_succ]
            refine held_take (v := ?v94) 10 rfl (by kernel_rfl) (by kernel_rfl) (by kernel_rfl) (fun _ _ _ h => h) (by rfl) ?hy94 (by assumption) ?rest94
            case hy94 => (intro w hSw; (try dsimp only at hSw); go_simp; try with_reducible rfl)
            simp only [Act.put, List.setIfInBounds_toArray, List.set_cons_zero, List.set_cons_succ]
            refine held_take (v := ?v95) 11 rfl (by kernel_rfl) (by kernel_rfl) (by kernel_rfl) (fun _ _ _ h => h) (by rfl) ?hy95 (by assumption) ?rest95
            case hy95 => (intro w hSw; (try dsimp only at hSw); go_simp; try with_reducible rfl)
            simp only [Act.put, List.setIfInBounds_toArray, List.set_cons_zero, List.set_cons_succ]
            refine held_call 8 rfl (by kernel_rfl) (by rfl) (fun K hK => ?_)
            go_simp
            go_at_call 40
            refine (CH83.out _).mono ?_
            rintro e w' ⟨rfl, rfl⟩
            go_simp
            refine hK _ _ (by assumption) ?_
            clear hK K
            try simp only [Act.put, List.setIfInBounds_toArray, List.set_cons_zero, List.set_cons_succ]
            refine held_take (v := ?v97) 12 rfl (by kernel_rfl) (by kernel_rfl) (by kernel_rfl) (fun _ _ _ h => h) (by rfl) ?hy97 (by assumption) ?rest97
            case hy97 => (intro w hSw; (try dsimp only at hSw); go_simp; try with_reducible rfl)
            simp only [Act.put, List.setIfInBounds_toArray, List.set_cons_zero, List.set_cons_succ]
            refine held_take (v := ?v98) 13 rfl (by kernel_rfl) (by kernel_rfl) (by kernel_rfl) (fun _ _ _ h => h) (by rfl) ?hy98 (by assumption) ?rest98
            case hy98 => (intro w hSw; (try dsimp only at hSw); go_simp; try with_reducible rfl)
            simp only [Act.put, List.setIfInBounds_toArray, List.set_cons_zero, List.set_cons_succ]
            refine wpAnyH_done (by kernel_rfl) ?_ _
            refine NoPanic.normal ?_
            go_wp2_with fail
            go_meet
            exact ⟨congrArg Value.bool (HR.out), Lib.hid HB.out.drew, Lib.hid H1.out.drew⟩
        · rcases hse : (se.toList == []) with _ | _
          · have HR := Lib.hid (show false = r4F f ag se by unfold r4F; rw [h65, hag, h83, hse]; rfl)
            have CH83 := Lib.hid (fun W => h83 ▸ CH.out 83 W)
            refine wp_region_noPanic ?_
            refine wp_region_held_drew (S := fun W => W.cell? ⟨w.heap.size, 1, none⟩ = some (.string ag) ∧ W.cell? ⟨w.heap.size, 2, none⟩ = some (.string se)) (by kernel_rfl) (⟨x1, x2⟩) (fun hHeld => ?_)
            refine held_take (v := ?v99) 0 rfl (by kernel_rfl) (by kernel_rfl) (by kernel_rfl) (fun _ _ _ h => h) (by rfl) ?hy99 (by assumption) ?rest99
            case hy99 => (intro w hSw; (try dsimp only at hSw); go_simp; try with_reducible rfl)
            simp only [Act.put, List.setIfInBounds_toArray, List.set_cons_zero, List.set_cons_succ]
            refine held_take (v := ?v100) 2 rfl (by kernel_rfl) (by kernel_rfl) (by kernel_rfl) (fun _ _ _ h => h) (by rfl) ?hy100 (by assumption) ?rest100
            case hy100 => (intro w hSw; (try dsimp only at hSw); go_simp; try with_reducible rfl)
            simp only [Act.put, List.setIfInBounds_toArray, List.set_cons_zero, List.set_cons_succ]
            refine held_take (v := ?v101) 3 rfl (by kernel_rfl) (by kernel_rfl) (by kernel_rfl) (fun _ _ _ h => h) (by rfl) ?hy101 (by assumption) ?rest101
            case hy101 => (intro w hSw; (try dsimp only at hSw); go_simp; try with_reducible rfl)
            simp only [Act.put, List.setIfInBounds_toArray, List.set_cons_zero, List.set_cons_succ]
            refine held_take (v := ?v102) 4 rfl (by kernel_rfl) (by kernel_rfl) (by kernel_rfl) (fun _ _ _ h => h) (by rfl) ?hy102 (by assumption) ?rest102
            case hy102 => (intro w hSw; (try dsimp only at hSw); go_simp; try with_reducible rfl)
            simp only [Act.put, List.setIfInBounds_toArray, List.set_cons_zero, List.set_cons_succ]
            refine held_call 1 rfl (by kernel_rfl) (by rfl) (fun K hK => ?_)
            go_simp
            go_at_call 40
            refine (CH65.out _).mono ?_
            rintro e w' ⟨rfl, rfl⟩
            go_simp
            refine hK _ _ (by assumption) ?_
            clear hK K
            try simp only [Act.put, List.setIfInBounds_toArray, List.set_cons_zero, List.set_cons_succ]
            refine held_take (v := ?v104) 5 rfl (by kernel_rfl) (by kernel_rfl) (by kernel_rfl) (fun _ _ _ h => h) (by rfl) ?hy104 (by assumption) ?rest104
            case hy104 => (intro w hSw; (try dsimp only at hSw); go_simp; try with_reducible rfl)
            simp only [Act.put, List.setIfInBounds_toArray, List.set_cons_zero, List.set_cons_succ]
            refine held_take (v := ?v105) 6 rfl (by kernel_rfl) (by kernel_rfl) (by kernel_rfl) (fun _ _ _ h => h) (by rfl) ?hy105 (by assumption) ?rest105
            case hy105 => (intro w hSw; (try dsimp only at hSw); go_simp; try with_reducible rfl)
            simp only [Act.put, List.setIfInBounds_toArray, List.set_cons_zero, List.set_cons_succ]
            refine held_take (v := ?v106) 7 rfl (by kernel_rfl) (by kernel_rfl) (by kernel_rfl) (fun _ _ _ h => h) (by rfl) ?hy106 (by assumption) ?rest106
            case hy106 => (intro w hSw; (try dsimp only at hSw); go_simp; try with_reducible rfl)
            simp only [Act.put, List.setIfInBounds_toArray, List.set_cons_zero, List.set_cons_succ]
            refine held_take (v := ?v107) 9 rfl (by kernel_rfl) (by kernel_rfl) (by kernel_rfl) (fun _ _ _ h => h) (by rfl) ?hy107 (by assumption) ?rest107
            case hy107 => (intro w hSw; (try dsimp only at hSw); go_simp; try with_reducible rfl)
            simp only [Act.put, List.setIfInBounds_toArray, List.set_cons_zero, List.set_cons_succ]
            refine held_take (v := ?v108) 10 rfl (by kernel_rfl) (by kernel_rfl) (by kernel_rfl) (fun _ _ _ h => h) (by rfl) ?hy108 (by assumption) ?rest108
            case hy108 => (intro w hSw; (try dsimp only at hSw); go_simp; try with_reducible rfl)
            simp only [Act.put, List.setIfInBounds_toArray, List.set_cons_zero, List.set_cons_succ]
            refine held_take (v := ?v109) 11 rfl (by kernel_rfl) (by kernel_rfl) (by kernel_rfl) (fun _ _ _ h => h) (by rfl) ?hy109 (by assumption) ?rest109
            case hy109 => (intro w hSw; (try dsimp only at hSw); go_simp; try with_reducible rfl)
            simp only [Act.put, List.setIfInBounds_toArray, List.set_cons_zero, List.set_cons_succ]
            refine held_call 8 rfl (by kernel_rfl) (by rfl) (fun K hK => ?_)
            go_simp
            go_at_call 40
            refine (CH83.out _).mono ?_
            rintro e w' ⟨rfl, rfl⟩
            go_simp
            refine hK _ _ (by assumption) ?_
            clear hK K
            try simp only [Act.put, List.setIfInBounds_toArray, List.set_cons_zero, List.set_cons_succ]
            refine held_take (v := ?v111) 12 rfl (by kernel_rfl) (by kernel_rfl) (by kernel_rfl) (fun _ _ _ h => h) (by rfl) ?hy111 (by assumption) ?rest111
            case hy111 => (intro w hSw; (try dsimp only at hSw); go_simp; try with_reducible rfl)
            simp only [Act.put, List.setIfInBounds_toArray, List.set_cons_zero, List.set_cons_succ]
            refine held_take (v := ?v112) 13 rfl (by kernel_rfl) (by kernel_rfl) (by kernel_rfl) (fun _ _ _ h => h) (by rfl) ?hy112 (by assumption) ?rest112
            case hy112 => (intro w hSw; (try dsimp only at hSw); go_simp; try with_reducible rfl)
            simp only [Act.put, List.setIfInBounds_toArray, List.set_cons_zero, List.set_cons_succ]
            refine wpAnyH_done (by kernel_rfl) ?_ _
            refine NoPanic.normal ?_
            go_wp2_with fail
            go_meet
            exact ⟨congrArg Value.bool (HR.out), Lib.hid HB.out.drew, Lib.hid H1.out.drew⟩
          · have HR := Lib.hid (show true = r4F f ag se by unfold r4F; rw [h65, hag, h83, hse]; rfl)
            have CH83 := Lib.hid (fun W => h83 ▸ CH.out 83 W)
            refine wp_region_noPanic ?_
            refine wp_region_held_drew (S := fun W => W.cell? ⟨w.heap.size, 1, none⟩ = some (.string ag) ∧ W.cell? ⟨w.heap.size, 2, none⟩ = some (.string se)) (by kernel_rfl) (⟨x1, x2⟩) (fun hHeld => ?_)
            refine held_take (v := ?v113) 0 rfl (by kernel_rfl) (by kernel_rfl) (by kernel_rfl) (fun _ _ _ h => h) (by rfl) ?hy113 (by assumption) ?rest113
            case hy113 => (intro w hSw; (try dsimp only at hSw); go_simp; try with_reducible rfl)
            simp only [Act.put, List.setIfInBounds_toArray, List.set_cons_zero, List.set_cons_succ]
            refine held_take (v := ?v114) 2 rfl (by kernel_rfl) (by kernel_rfl) (by kernel_rfl) (fun _ _ _ h => h) (by rfl) ?hy114 (by assumption) ?rest114
            case hy114 => (intro w hSw; (try dsimp only at hSw); go_simp; try with_reducible rfl)
            simp only [Act.put, List.setIfInBounds_toArray, List.set_cons_zero, List.set_cons_succ]
            refine held_take (v := ?v115) 3 rfl (by kernel_rfl) (by kernel_rfl) (by kernel_rfl) (fun _ _ _ h => h) (by rfl) ?hy115 (by assumption) ?rest115
            case hy115 => (intro w hSw; (try dsimp only at hSw); go_simp; try with_reducible rfl)
            simp only [Act.put, List.setIfInBounds_toArray, List.set_cons_zero, List.set_cons_succ]
            refine held_take (v := ?v116) 4 rfl (by kernel_rfl) (by kernel_rfl) (by kernel_rfl) (fun _ _ _ h => h) (by rfl) ?hy116 (by assumption) ?rest116
            case hy116 => (intro w hSw; (try dsimp only at hSw); go_simp; try with_reducible rfl)
            simp only [Act.put, List.setIfInBounds_toArray, List.set_cons_zero, List.set_cons_succ]
            refine held_call 1 rfl (by kernel_rfl) (by rfl) (fun K hK => ?_)
            go_simp
            go_at_call 40
            refine (CH65.out _).mono ?_
            rintro e w' ⟨rfl, rfl⟩
            go_simp
            refine hK _ _ (by assumption) ?_
            clear hK K
            try simp only [Act.put, List.setIfInBounds_toArray, List.set_cons_zero, List.set_cons_succ]
            refine held_take (v := ?v118) 5 rfl (by kernel_rfl) (by kernel_rfl) (by kernel_rfl) (fun _ _ _ h => h) (by rfl) ?hy118 (by assumption) ?rest118
            case hy118 => (intro w hSw; (try dsimp only at hSw); go_simp; try with_reducible rfl)
            simp only [Act.put, List.setIfInBounds_toArray, List.set_cons_zero, List.set_cons_succ]
            refine held_take (v := ?v119) 6 rfl (by kernel_rfl) (by kernel_rfl) (by kernel_rfl) (fun _ _ _ h => h) (by rfl) ?hy119 (by assumption) ?rest119
            case hy119 => (intro w hSw; (try dsimp only at hSw); go_simp; try with_reducible rfl)
            simp only [Act.put, List.setIfInBounds_toArray, List.set_cons_zero, List.set_cons_succ]
            refine held_take (v := ?v120) 7 rfl (by kernel_rfl) (by kernel_rfl) (by kernel_rfl) (fun _ _ _ h => h) (by rfl) ?hy120 (by assumption) ?rest120
            case hy120 => (intro w hSw; (try dsimp only at hSw); go_simp; try with_reducible rfl)
            simp only [Act.put, List.setIfInBounds_toArray, List.set_cons_zero, List.set_cons_succ]
            refine held_take (v := ?v121) 9 rfl (by kernel_rfl) (by kernel_rfl) (by kernel_rfl) (fun _ _ _ h => h) (by rfl) ?hy121 (by assumption) ?rest121
            case hy121 => (intro w hSw; (try dsimp only at hSw); go_simp; try with_reducible rfl)
            simp only [Act.put, List.setIfInBounds_toArray, List.set_cons_zero, List.set_cons_succ]
            refine held_take (v := ?v122) 10 rfl (by kernel_rfl) (by kernel_rfl) (by kernel_rfl) (fun _ _ _ h => h) (by rfl) ?hy122 (by assumption) ?rest122
            case hy122 => (intro w hSw; (try dsimp only at hSw); go_simp; try with_reducible rfl)
            simp only [Act.put, List.setIfInBounds_toArray, List.set_cons_zero, List.set_cons_succ]
            refine held_take (v := ?v123) 11 rfl (by kernel_rfl) (by kernel_rfl) (by kernel_rfl) (fun _ _ _ h => h) (by rfl) ?hy123 (by assumption) ?rest123
            case hy123 => (intro w hSw; (try dsimp only at hSw); go_simp; try with_reducible rfl)
            simp only [Act.put, List.setIfInBounds_toArray, List.set_cons_zero, List.set_cons_succ]
            refine held_call 8 rfl (by kernel_rfl) (by rfl) (fun K hK => ?_)
            go_simp
            go_at_call 40
            refine (CH83.out _).mono ?_
            rintro e w' ⟨rfl, rfl⟩
            go_simp
            refine hK _ _ (by assumption) ?_
            clear hK K
            try simp only [Act.put, List.setIfInBounds_toArray, List.set_cons_zero, List.set_cons_succ]
            refine held_take (v := ?v125) 12 rfl (by kernel_rfl) (by kernel_rfl) (by kernel_rfl) (fun _ _ _ h => h) (by rfl) ?hy125 (by assumption) ?rest125
            case hy125 => (intro w hSw; (try dsimp only at hSw); go_simp; try with_reducible rfl)
            simp only [Act.put, List.setIfInBounds_toArray, List.set_cons_zero, List.set_cons_succ]
            refine held_take (v := ?v126) 13 rfl (by kernel_rfl) (by kernel_rfl) (by kernel_rfl) (fun _ _ _ h => h) (by rfl) ?hy126 (by assumption) ?rest126
            case hy126 => (intro w hSw; (try dsimp only at hSw); go_simp; try with_reducible rfl)
            simp only [Act.put, List.setIfInBounds_toArray, List.set_cons_zero, List.set_cons_succ]
            refine wpAnyH_done (by kernel_rfl) ?_ _
            refine NoPanic.normal ?_
            go_wp2_with fail
            go_meet
            exact ⟨congrArg Value.bool (HR.out), Lib.hid HB.out.drew, Lib.hid H1.out.drew⟩
      · have HR := Lib.hid (show true = r4F f ag se by unfold r4F; rw [h65, hag]; rfl)
        have CH65 := Lib.hid (fun W => h65 ▸ CH.out 65 W)
        have CA := CH
        refine wp_region_noPanic ?_
        refine wp_region_held_drew (S := fun W => W.cell? ⟨w.heap.size, 1, none⟩ = some (.string ag) ∧ W.cell? ⟨w.heap.size, 2, none⟩ = some (.string se)) (by kernel_rfl) (⟨x1, x2⟩) (fun hHeld => ?_)
        refine held_take (v := ?v127) 0 rfl (by kernel_rfl) (by kernel_rfl) (by kernel_rfl) (fun _ _ _ h => h) (by rfl) ?hy127 (by assumption) ?rest127
        case hy127 => (intro w hSw; (try dsimp only at hSw); go_simp; try with_reducible rfl)
        simp only [Act.put, List.setIfInBounds_toArray, List.set_cons_zero, List.set_cons_succ]
        refine held_take (v := ?v128) 2 rfl (by kernel_rfl) (by kernel_rfl) (by kernel_rfl) (fun _ _ _ h => h) (by rfl) ?hy128 (by assumption) ?rest128
        case hy128 => (intro w hSw; (try dsimp only at hSw); go_simp; try with_reducible rfl)
        simp only [Act.put, List.setIfInBounds_toArray, List.set_cons_zero, List.set_cons_succ]
        refine held_take (v := ?v129) 3 rfl (by kernel_rfl) (by kernel_rfl) (by kernel_rfl) (fun _ _ _ h => h) (by rfl) ?hy129 (by assumption) ?rest129
        case hy129 => (intro w hSw; (try dsimp only at hSw); go_simp; try with_reducible rfl)
        simp only [Act.put, List.setIfInBounds_toArray, List.set_cons_zero, List.set_cons_succ]
        refine held_take (v := ?v130) 4 rfl (by kernel_rfl) (by kernel_rfl) (by kernel_rfl) (fun _ _ _ h => h) (by rfl) ?hy130 (by assumption) ?rest130
        case hy130 => (intro w hSw; (try dsimp only at hSw); go_simp; try with_reducible rfl)
        simp only [Act.put, List.setIfInBounds_toArray, List.set_cons_zero, List.set_cons_succ]
        refine held_call 1 rfl (by kernel_rfl) (by rfl) (fun K hK => ?_)
        go_simp
        go_at_call 40
        refine (CH65.out _).mono ?_
        rintro e w' ⟨rfl, rfl⟩
        go_simp
        refine hK _ _ (by assumption) ?_
        clear hK K
        try simp only [Act.put, List.setIfInBounds_toArray, List.set_cons_zero, List.set_cons_succ]
        refine held_take (v := ?v132) 5 rfl (by kernel_rfl) (by kernel_rfl) (by kernel_rfl) (fun _ _ _ h => h) (by rfl) ?hy132 (by assumption) ?rest132
        case hy132 => (intro w hSw; (try dsimp only at hSw); go_simp; try with_reducible rfl)
        simp only [Act.put, List.setIfInBounds_toArray, List.set_cons_zero, List.set_cons_succ]
        refine held_take (v := ?v133) 6 rfl (by kernel_rfl) (by kernel_rfl) (by kernel_rfl) (fun _ _ _ h => h) (by rfl) ?hy133 (by assumption) ?rest133
        case hy133 => (intro w hSw; (try dsimp only at hSw); go_simp; try with_reducible rfl)
        simp only [Act.put, List.setIfInBounds_toArray, List.set_cons_zero, List.set_cons_succ]
        refine held_skip 7 rfl (by kernel_rfl) (by kernel_rfl) (by kernel_rfl) (fun _ _ _ h => h) (by rfl) (by assumption) ?_
        simp only [Act.put, List.setIfInBounds_toArray, List.set_cons_zero, List.set_cons_succ]
        refine held_skip 9 rfl (by kernel_rfl) (by kernel_rfl) (by kernel_rfl) (fun _ _ _ h => h) (by rfl) (by assumption) ?_
        simp only [Act.put, List.setIfInBounds_toArray, List.set_cons_zero, List.set_cons_succ]
        refine held_skip 10 rfl (by kernel_rfl) (by kernel_rfl) (by kernel_rfl) (fun _ _ _ h => h) (by rfl) (by assumption) ?_
        simp only [Act.put, List.setIfInBounds_toArray, List.set_cons_zero, List.set_cons_succ]
        refine held_skip 11 rfl (by kernel_rfl) (by kernel_rfl) (by kernel_rfl) (fun _ _ _ h => h) (by rfl) (by assumption) ?_
        simp only [Act.put, List.setIfInBounds_toArray, List.set_cons_zero, List.set_cons_succ]
        refine held_skip 8 rfl (by kernel_rfl) (by kernel_rfl) (by kernel_rfl) (fun _ _ _ h => h) (by rfl) (by assumption) ?_
        simp only [Act.put, List.setIfInBounds_toArray, List.set_cons_zero, List.set_cons_succ]
        refine held_skip 12 rfl (by kernel_rfl) (by kernel_rfl) (by kernel_rfl) (fun _ _ _ h => h) (by rfl) (by assumption) ?_
        simp only [Act.put, List.setIfInBounds_toArray, List.set_cons_zero, List.set_cons_succ]
        refine held_take (v := ?v140) 13 rfl (by kernel_rfl) (by kernel_rfl) (by kernel_rfl) (fun _ _ _ h => h) (by rfl) ?hy140 (by assumption) ?rest140
        case hy140 => (intro w hSw; (try dsimp only at hSw); go_simp; try with_reducible rfl)
        simp only [Act.put, List.setIfInBounds_toArray, List.set_cons_zero, List.set_cons_succ]
        refine wpAnyH_done (by kernel_rfl) ?_ _
        refine NoPanic.normal ?_
        go_wp2_with fail
        go_meet
        exact ⟨congrArg Value.bool (HR.out), Lib.hid HB.out.drew, Lib.hid H1.out.drew⟩
  case rest =>
  obtain ⟨rfl, HB, H1⟩ := hcut
  clear x1 x2
  rcases h4 : r4F f ag se with _ | _
  rotate_left
  · have HZ := Lib.hid (show res = false by rw [HRF.out, h4]; simp)
    go_wp2_with fail
    go_ret
    exact ⟨ret_bool HZ.out.symm, HB.out⟩
  rw [h4] at HRF
  clear h4
  generalize wc = W4 at *
  have x3 : W4.cell? ⟨w.heap.size, 3, none⟩ = some (.int .i64 st) := H1.out.cell 3
  have x10 : W4.cell? ⟨w.heap.size, 10, none⟩ = some (.int .i64 pr) := H1.out.cell 10
  go_upto_region 6 with fail
  go_cut [60] (fun s60 wx => s60 = .bool (r6F f st pr) ∧ Hid (Below w.heap.size w wx) ∧ Hid (Blk wx w.heap.size #[.int .i64 k, .string ag, .string se, .int .i64 st, .string pe, .string la, .int .i64 v.kind, .int .i64 v.n, .string v.s, .slice A v.l.length c, .int .i64 pr, .slice E en.length d] 41))
  case first =>
    by_cases s1 : st < 0
    · have d1 : decide (st < 0) = true := decide_eq_true s1
      have HR := Lib.hid (show true = r6F f st pr by unfold r6F; simp [s1])
      go_wp2_with fail
      go_meet
      exact ⟨congrArg Value.bool (HR.out), HB, H1⟩
    have d1 : decide (st < 0) = false := decide_eq_false s1
    by_cases s2 : 5 ≤ st
    · have d2 : decide (5 ≤ st) = true := decide_eq_true s2
      have HR := Lib.hid (show true = r6F f st pr by unfold r6F; simp [s1, s2])
      go_wp2_with fail
      go_meet
      exact ⟨congrArg Value.bool (HR.out), HB, H1⟩
    have d2 : decide (5 ≤ st) = false := decide_eq_false s2
    go_wp2_with fail
    refine (CH.out 69 _).mono ?_
    rintro e w1 ⟨rfl, rfl⟩
    rcases h69 : hasF f 69 with _ | _
    · by_cases s3 : st = 0
      · subst s3
        by_cases p1 : pr < 0
        · have d1 : decide (pr < 0) = true := decide_eq_true p1
          have HR := Lib.hid (show true = r6F f 0 pr by unfold r6F; simp [h69, d1, p1])
          go_wp2_with fail
          go_meet
          exact ⟨congrArg Value.bool (HR.out), HB, H1⟩
        have d1 : decide (pr < 0) = false := decide_eq_false p1
        by_cases p2 : 24 ≤ pr
        · have d2 : decide (24 ≤ pr) = true := decide_eq_true p2
          have HR := Lib.hid (show true = r6F f 0 pr by unfold r6F; simp [h69, d1, p1, d2, p2])
          go_wp2_with fail
          go_meet
          exact ⟨congrArg Value.bool (HR.out), HB, H1⟩
        have d2 : decide (24 ≤ pr) = false := decide_eq_false p2
        go_wp2_with fail
        refine (CH.out 82 _).mono ?_
        rintro e w1 ⟨rfl, rfl⟩
        rcases h82 : hasF f 82 with _ | _
        · by_cases p3 : pr = 0
          · subst p3
            have HR := Lib.hid (show false = r6F f 0 0 by unfold r6F; simp [h69, h82])
            go_wp2_with fail
            go_meet
            exact ⟨congrArg Value.bool (HR.out), HB, H1⟩
          · have d4 : (pr == 0) = false := by simp; exact p3
            have d5 : (pr != 0) = true := by simp; exact p3
            clear p3
            have HR := Lib.hid (show true = r6F f 0 pr by unfold r6F; simp [h69, p1, p2, h82, d4])
            go_wp2_with fail
            go_meet
            exact ⟨congrArg Value.bool (HR.out), HB, H1⟩
        · skip
          have HR := Lib.hid (show false = r6F f 0 pr by unfold r6F; simp [h69, p1, p2, h82])
          go_wp2_with fail
          go_meet
          exact ⟨congrArg Value.bool (HR.out), HB, H1⟩
      · have d3 : (st == 0) = false := by simp; exact s3
        have d6 : (st != 0) = true := by simp; exact s3
        clear s3
        have HR := Lib.hid (show true = r6F f st pr by unfold r6F; simp [s1, s2, h69, d3])
        go_wp2_with fail
        go_meet
        exact ⟨congrArg Value.bool (HR.out), HB, H1⟩
    · skip
      by_cases p1 : pr < 0
      · have d1 : decide (pr < 0) = true := decide_eq_true p1
        have HR := Lib.hid (show true = r6F f st pr by unfold r6F; simp [s1, s2, h69, d1, p1])
        go_wp2_with fail
        go_meet
        exact ⟨congrArg Value.bool (HR.out), HB, H1⟩
      have d1 : decide (pr < 0) = false := decide_eq_false p1
      by_cases p2 : 24 ≤ pr
      · have d2 : decide (24 ≤ pr) = true := decide_eq_true p2
        have HR := Lib.hid (show true = r6F f st pr by unfold r6F; simp [s1, s2, h69, d1, p1, d2, p2])
        go_wp2_with fail
        go_meet
        exact ⟨congrArg Value.bool (HR.out), HB, H1⟩
      have d2 : decide (24 ≤ pr) = false := decide_eq_false p2
      go_wp2_with fail
      refine (CH.out 82 _).mono ?_
      rintro e w1 ⟨rfl, rfl⟩
      rcases h82 : hasF f 82 with _ | _
      · by_cases p3 : pr = 0
        · subst p3
          have HR := Lib.hid (show false = r6F f st 0 by unfold r6F; simp [s1, s2, h69, h82])
          go_wp2_with fail
          go_meet
          exact ⟨congrArg Value.bool (HR.out), HB, H1⟩
        · have d4 : (pr == 0) = false := by simp; exact p3
          have d5 : (pr != 0) = true := by simp; exact p3
          clear p3
          have HR := Lib.hid (show true = r6F f st pr by unfold r6F; simp [s1, s2, h69, p1, p2, h82, d4])
          go_wp2_with fail
          go_meet
          exact ⟨congrArg Value.bool (HR.out), HB, H1⟩
      · skip
        have HR := Lib.hid (show false = r6F f st pr by unfold r6F; simp [s1, s2, h69, p1, p2, h82])
        go_wp2_with fail
        go_meet
        exact ⟨congrArg Value.bool (HR.out), HB, H1⟩
  case rest =>
  obtain ⟨rfl, HB, H1⟩ := hcut
  clear x3 x10
  rcases h6 : r6F f st pr with _ | _
  rotate_left
  · have HZ := Lib.hid (show res = false by rw [HRF.out, h6]; simp)
    go_wp2_with fail
    go_ret
    exact ⟨ret_bool HZ.out.symm, HB.out⟩
  rw [h6] at HRF
  clear h6
  generalize wc = W6 at *
  have x4 : W6.cell? ⟨w.heap.size, 4, none⟩ = some (.string pe) := H1.out.cell 4
  go_upto_region 8 with fail
  go_cut [78] (fun s78 wx => s78 = .bool (r8F f pe) ∧ Hid (Below w.heap.size w wx) ∧ Hid (Blk wx w.heap.size #[.int .i64 k, .string ag, .string se, .int .i64 st, .string pe, .string la, .int .i64 v.kind, .int .i64 v.n, .string v.s, .slice A v.l.length c, .int .i64 pr, .slice E en.length d] 41))
  case first =>
    go_wp2_with fail
    refine (CH.out 80 _).mono ?_
    rintro e w1 ⟨rfl, rfl⟩
    rcases h80 : hasF f 80 with _ | _
    · have CH80 := Lib.hid (fun W => h80 ▸ CH.out 80 W)
      go_wp2_with fail
      refine (CH80.out _).mono ?_
      rintro e w1 ⟨rfl, rfl⟩
      rcases hpe : (pe.toList == []) with _ | _
      · skip
        have HR := Lib.hid (show true = r8F f pe by unfold r8F; simp [h80, hpe])
        go_wp2_with fail
        go_meet
        exact ⟨congrArg Value.bool (HR.out), HB, H1⟩
      · skip
        have HR := Lib.hid (show false = r8F f pe by unfold r8F; simp [h80, hpe])
        go_wp2_with fail
        go_meet
        exact ⟨congrArg Value.bool (HR.out), HB, H1⟩
    · skip
      go_wp2_with fail
      refine (CN.out _).mono ?_
      rintro e w1 ⟨rfl, rfl⟩
      rcases hn : nameF pe with _ | _
      · skip
        have HR := Lib.hid (show true = r8F f pe by unfold r8F; simp [h80, hn])
        go_wp2_with fail
        go_meet
        exact ⟨congrArg Value.bool (HR.out), HB, H1⟩
      · have CH80 := Lib.hid (fun W => h80 ▸ CH.out 80 W)
        go_wp2_with fail
        refine (CH80.out _).mono ?_
        rintro e w1 ⟨rfl, rfl⟩
        have HR := Lib.hid (show false = r8F f pe by unfold r8F; simp [h80, hn])
        go_wp2_with fail
        go_meet
        exact ⟨congrArg Value.bool (HR.out), HB, H1⟩
  case rest =>
  obtain ⟨rfl, HB, H1⟩ := hcut
  clear x4
  rcases h8 : r8F f pe with _ | _
  rotate_left
  · have HZ := Lib.hid (show res = false by rw [HRF.out, h8]; simp)
    go_wp2_with fail
    go_ret
    exact ⟨ret_bool HZ.out.symm, HB.out⟩
  rw [h8] at HRF
  clear h8
  generalize wc = W8 at *
  have x5 : W8.cell? ⟨w.heap.size, 5, none⟩ = some (.string la) := H1.out.cell 5
  have x6 : W8.cell? ⟨w.heap.size, 6, none⟩ = some (.int .i64 v.kind) := H1.out.cell 6
  have x7 : W8.cell? ⟨w.heap.size, 7, none⟩ = some (.int .i64 v.n) := H1.out.cell 7
  have x8 : W8.cell? ⟨w.heap.size, 8, none⟩ = some (.string v.s) := H1.out.cell 8
  have x9 : W8.cell? ⟨w.heap.size, 9, none⟩ = some (.slice A v.l.length c) := H1.out.cell 9
  go_upto_region 10 with fail
  go_cut [97] (fun s97 wx => s97 = .bool (r10F f la v) ∧ Hid (Below w.heap.size w wx) ∧ Hid (Blk wx w.heap.size #[.int .i64 k, .string ag, .string se, .int .i64 st, .string pe, .string la, .int .i64 v.kind, .int .i64 v.n, .string v.s, .slice A v.l.length c, .int .i64 pr, .slice E en.length d] 41))
  case first =>
    go_wp2_with fail
    refine (CH.out 76 _).mono ?_
    rintro e w1 ⟨rfl, rfl⟩
    rcases h76 : hasF f 76 with _ | _
    · have CH76 := Lib.hid (fun W => h76 ▸ CH.out 76 W)
      go_wp2_with fail
      refine (CH76.out _).mono ?_
      rintro e w1 ⟨rfl, rfl⟩
      go_wp2_with fail
      refine (CO.out _ HB.out).mono ?_
      rintro e w2 ⟨rfl, hb2⟩
      have HB2 := Lib.hid hb2
      clear hb2
      rcases hno : ((la.toList == []) && decide (v = ⟨0, 0, ⟨#[]⟩, []⟩)) with _ | _
      · have HR := Lib.hid (show true = r10F f la v by unfold r10F; rw [h76, hno]; rfl)
        clear hno
        go_wp2_with fail
        go_meet
        exact ⟨congrArg Value.bool (HR.out), Lib.hid (below_next HB.out HB2.out), Lib.hid (H1.out.belowS HB2.out)⟩
      · have HR := Lib.hid (show false = r10F f la v by unfold r10F; rw [h76, hno]; rfl)
        clear hno
        go_wp2_with fail
        go_meet
        exact ⟨congrArg Value.bool (HR.out), Lib.hid (below_next HB.out HB2.out), Lib.hid (H1.out.belowS HB2.out)⟩
    · skip
      go_wp2_with fail
      refine (CL.out _).mono ?_
      rintro e w2 ⟨rfl, hb2⟩
      have HB2 := Lib.hid hb2
      clear hb2
      rcases hno : (nameF la && dataF v.kind v.n v.s v.l.length) with _ | _
      · have HR := Lib.hid (show true = r10F f la v by unfold r10F; rw [h76, hno]; rfl)
        clear hno
        go_wp2_with fail
        go_meet
        exact ⟨congrArg Value.bool (HR.out), Lib.hid (below_next HB.out HB2.out), Lib.hid (H1.out.belowS HB2.out)⟩
      · have HR := Lib.hid (show false = r10F f la v by unfold r10F; rw [h76, hno]; rfl)
        clear hno
        have CH76 := Lib.hid (fun W => h76 ▸ CH.out 76 W)
        go_wp2_with fail
        refine (CH76.out _).mono ?_
        rintro e w1 ⟨rfl, rfl⟩
        go_wp2_with fail
        go_meet
        exact ⟨congrArg Value.bool (HR.out), Lib.hid (below_next HB.out HB2.out), Lib.hid (H1.out.belowS HB2.out)⟩
  case rest =>
  obtain ⟨rfl, HB, H1⟩ := hcut
  clear x5 x6 x7 x8 x9
  rcases h10 : r10F f la v with _ | _
  rotate_left
  · have HZ := Lib.hid (show res = false by rw [HRF.out, h10]; simp)
    go_wp2_with fail
    go_ret
    exact ⟨ret_bool HZ.out.symm, HB.out⟩
  rw [h10] at HRF
  clear h10
  generalize wc = W10 at *
  have HRF := Lib.hid (show res = r12F f en by rw [HRF.out]; simp)
  have x11 : W10.cell? ⟨w.heap.size, 11, none⟩ = some (.slice E en.length d) := H1.out.cell 11
  go_wp2_with fail
  refine (CH.out 86 _).mono ?_
  rintro e w1 ⟨rfl, rfl⟩
  have q0 : ((en.length : Int) == 0) = (en.length == 0) := by rw [Bool.eq_iff_iff]; simp
  rcases h86 : hasF f 86 with _ | _
  · have HH := Lib.hid h86
    go_wp2_with fail
    go_ret
    exact ⟨ret_bool (by rw [HRF.out]; unfold r12F; simp [HH.out]), HB.out⟩
  · have HH := Lib.hid h86
    clear h86
    go_wp2_with fail
    refine (CE.out _ HB.out).mono ?_
    rintro e w2 ⟨rfl, hb2⟩
    have HB2 := Lib.hid (below_next HB.out hb2)
    have x11 : w2.cell? ⟨w.heap.size, 11, none⟩ = some (.slice E en.length d) := (H1.out.belowS hb2).cell 11
    clear hb2 CE
    rcases hen : envF en with _ | _
    · have HEN := Lib.hid hen
      clear hen
      go_wp2_with fail
      go_ret
      exact ⟨ret_bool (by rw [HRF.out]; unfold r12F; simp [HH.out, HEN.out]), HB2.out⟩
    · have HEN := Lib.hid hen
      clear hen
      go_wp2_with fail
      go_ret
      exact ⟨ret_bool (by rw [HRF.out]; unfold r12F; simp [HH.out, HEN.out]), HB2.out⟩
end Go.Proofs.Ytfaophiaiflecaa
namespace Go.Proofs.Ytfaophiaiflecaa
open Go.RowKit
set_option linter.unusedSimpArgs false

theorem toList_nil_eS (s : ByteArray) : (s.toList == []) = decide (s = eS) := by
  rw [Bool.eq_iff_iff]
  simp only [ByteArray.toList_eq, decide_eq_true_eq, beq_iff_eq]
  constructor
  · intro h; cases s; simp at h; rw [h]
  · intro h; rw [h]
theorem refF_any (x : Nt) (hk : x.kind ≠ 1) (h2 : x.kind ≠ 2) (h3 : x.kind ≠ 3) (h4 : x.kind ≠ 4) (h5 : x.kind ≠ 5) (h6 : x.kind ≠ 6) (h7 : x.kind ≠ 7) (h8 : x.kind ≠ 8) : refF x = false := by
  have e : fieldsF x.kind = ⟨#[]⟩ := by simp [fieldsF, hk, h2, h3, h4, h5, h6, h7, h8]
  unfold refF
  rw [e]
  simp
theorem mayF_any (x : Nt) (hk : x.kind ≠ 1) (h2 : x.kind ≠ 2) (h3 : x.kind ≠ 3) (h4 : x.kind ≠ 4) (h5 : x.kind ≠ 5) (h6 : x.kind ≠ 6) (h7 : x.kind ≠ 7) (h8 : x.kind ≠ 8) : mayF x = false := by
  simp [mayF, okF, hk, h2, h3, h4, h5, h6, h7, h8]
set_option maxHeartbeats 4000000 in
theorem refF_1 (ag se : ByteArray) (st : Int) (pe la : ByteArray) (v : Vl) (pr : Int) (en : List Bd) : refF ⟨1, ag, se, st, pe, la, v, pr, en⟩ = mayF ⟨1, ag, se, st, pe, la, v, pr, en⟩ := by
  have e1 : fieldsF 1 = ⟨#[65, 83, 69, 80, 76]⟩ := rfl
  have q0 : ((⟨#[65, 83, 69, 80, 76]⟩ : ByteArray).toList == []) = false := by rw [ByteArray.toList_eq]; rfl
  have q65 : hasF ⟨#[65, 83, 69, 80, 76]⟩ 65 = true := by decide
  have q83 : hasF ⟨#[65, 83, 69, 80, 76]⟩ 83 = true := by decide
  have q69 : hasF ⟨#[65, 83, 69, 80, 76]⟩ 69 = true := by decide
  have q80 : hasF ⟨#[65, 83, 69, 80, 76]⟩ 80 = true := by decide
  have q76 : hasF ⟨#[65, 83, 69, 80, 76]⟩ 76 = true := by decide
  have q82 : hasF ⟨#[65, 83, 69, 80, 76]⟩ 82 = false := by decide
  have q86 : hasF ⟨#[65, 83, 69, 80, 76]⟩ 86 = false := by decide
  unfold refF mayF okF onlyF r4F r6F r8F r10F r12F prB leB peB seB agB
  dsimp only
  rw [e1]
  simp only [q0, q65, q83, q69, q80, q76, q82, q86, toList_nil_eS]
  rw [Bool.eq_iff_iff]
  simp
  have hE : en = [] → envF en = true := by rintro rfl; rfl
  generalize envF en = E at *
  first
  | done
  | grind
set_option maxHeartbeats 4000000 in
theorem refF_2 (ag se : ByteArray) (st : Int) (pe la : ByteArray) (v : Vl) (pr : Int) (en : List Bd) : refF ⟨2, ag, se, st, pe, la, v, pr, en⟩ = mayF ⟨2, ag, se, st, pe, la, v, pr, en⟩ := by
  have e1 : fieldsF 2 = ⟨#[65, 83, 69, 80]⟩ := rfl
  have q0 : ((⟨#[65, 83, 69, 80]⟩ : ByteArray).toList == []) = false := by rw [ByteArray.toList_eq]; rfl
  have q65 : hasF ⟨#[65, 83, 69, 80]⟩ 65 = true := by decide
  have q83 : hasF ⟨#[65, 83, 69, 80]⟩ 83 = true := by decide
  have q69 : hasF ⟨#[65, 83, 69, 80]⟩ 69 = true := by decide
  have q80 : hasF ⟨#[65, 83, 69, 80]⟩ 80 = true := by decide
  have q76 : hasF ⟨#[65, 83, 69, 80]⟩ 76 = false := by decide
  have q82 : hasF ⟨#[65, 83, 69, 80]⟩ 82 = false := by decide
  have q86 : hasF ⟨#[65, 83, 69, 80]⟩ 86 = false := by decide
  unfold refF mayF okF onlyF r4F r6F r8F r10F r12F prB leB peB seB agB
  dsimp only
  rw [e1]
  simp only [q0, q65, q83, q69, q80, q76, q82, q86, toList_nil_eS]
  rw [Bool.eq_iff_iff]
  simp
  have hE : en = [] → envF en = true := by rintro rfl; rfl
  generalize envF en = E at *
  first
  | done
  | grind
set_option maxHeartbeats 4000000 in
theorem refF_3 (ag se : ByteArray) (st : Int) (pe la : ByteArray) (v : Vl) (pr : Int) (en : List Bd) : refF ⟨3, ag, se, st, pe, la, v, pr, en⟩ = mayF ⟨3, ag, se, st, pe, la, v, pr, en⟩ := by
  have e1 : fieldsF 3 = ⟨#[65]⟩ := rfl
  have q0 : ((⟨#[65]⟩ : ByteArray).toList == []) = false := by rw [ByteArray.toList_eq]; rfl
  have q65 : hasF ⟨#[65]⟩ 65 = true := by decide
  have q83 : hasF ⟨#[65]⟩ 83 = false := by decide
  have q69 : hasF ⟨#[65]⟩ 69 = false := by decide
  have q80 : hasF ⟨#[65]⟩ 80 = false := by decide
  have q76 : hasF ⟨#[65]⟩ 76 = false := by decide
  have q82 : hasF ⟨#[65]⟩ 82 = false := by decide
  have q86 : hasF ⟨#[65]⟩ 86 = false := by decide
  unfold refF mayF okF onlyF r4F r6F r8F r10F r12F prB leB peB seB agB
  dsimp only
  rw [e1]
  simp only [q0, q65, q83, q69, q80, q76, q82, q86, toList_nil_eS]
  rw [Bool.eq_iff_iff]
  simp
  have hE : en = [] → envF en = true := by rintro rfl; rfl
  generalize envF en = E at *
  first
  | done
  | grind
set_option maxHeartbeats 4000000 in
theorem refF_4 (ag se : ByteArray) (st : Int) (pe la : ByteArray) (v : Vl) (pr : Int) (en : List Bd) : refF ⟨4, ag, se, st, pe, la, v, pr, en⟩ = mayF ⟨4, ag, se, st, pe, la, v, pr, en⟩ := by
  have e1 : fieldsF 4 = ⟨#[65, 76]⟩ := rfl
  have q0 : ((⟨#[65, 76]⟩ : ByteArray).toList == []) = false := by rw [ByteArray.toList_eq]; rfl
  have q65 : hasF ⟨#[65, 76]⟩ 65 = true := by decide
  have q83 : hasF ⟨#[65, 76]⟩ 83 = false := by decide
  have q69 : hasF ⟨#[65, 76]⟩ 69 = false := by decide
  have q80 : hasF ⟨#[65, 76]⟩ 80 = false := by decide
  have q76 : hasF ⟨#[65, 76]⟩ 76 = true := by decide
  have q82 : hasF ⟨#[65, 76]⟩ 82 = false := by decide
  have q86 : hasF ⟨#[65, 76]⟩ 86 = false := by decide
  unfold refF mayF okF onlyF r4F r6F r8F r10F r12F prB leB peB seB agB
  dsimp only
  rw [e1]
  simp only [q0, q65, q83, q69, q80, q76, q82, q86, toList_nil_eS]
  rw [Bool.eq_iff_iff]
  simp
  have hE : en = [] → envF en = true := by rintro rfl; rfl
  generalize envF en = E at *
  first
  | done
  | grind
set_option maxHeartbeats 4000000 in
theorem refF_5 (ag se : ByteArray) (st : Int) (pe la : ByteArray) (v : Vl) (pr : Int) (en : List Bd) : refF ⟨5, ag, se, st, pe, la, v, pr, en⟩ = mayF ⟨5, ag, se, st, pe, la, v, pr, en⟩ := by
  have e1 : fieldsF 5 = ⟨#[65]⟩ := rfl
  have q0 : ((⟨#[65]⟩ : ByteArray).toList == []) = false := by rw [ByteArray.toList_eq]; rfl
  have q65 : hasF ⟨#[65]⟩ 65 = true := by decide
  have q83 : hasF ⟨#[65]⟩ 83 = false := by decide
  have q69 : hasF ⟨#[65]⟩ 69 = false := by decide
  have q80 : hasF ⟨#[65]⟩ 80 = false := by decide
  have q76 : hasF ⟨#[65]⟩ 76 = false := by decide
  have q82 : hasF ⟨#[65]⟩ 82 = false := by decide
  have q86 : hasF ⟨#[65]⟩ 86 = false := by decide
  unfold refF mayF okF onlyF r4F r6F r8F r10F r12F prB leB peB seB agB
  dsimp only
  rw [e1]
  simp only [q0, q65, q83, q69, q80, q76, q82, q86, toList_nil_eS]
  rw [Bool.eq_iff_iff]
  simp
  have hE : en = [] → envF en = true := by rintro rfl; rfl
  generalize envF en = E at *
  first
  | done
  | grind
set_option maxHeartbeats 4000000 in
theorem refF_6 (ag se : ByteArray) (st : Int) (pe la : ByteArray) (v : Vl) (pr : Int) (en : List Bd) : refF ⟨6, ag, se, st, pe, la, v, pr, en⟩ = mayF ⟨6, ag, se, st, pe, la, v, pr, en⟩ := by
  have e1 : fieldsF 6 = ⟨#[83, 69]⟩ := rfl
  have q0 : ((⟨#[83, 69]⟩ : ByteArray).toList == []) = false := by rw [ByteArray.toList_eq]; rfl
  have q65 : hasF ⟨#[83, 69]⟩ 65 = false := by decide
  have q83 : hasF ⟨#[83, 69]⟩ 83 = true := by decide
  have q69 : hasF ⟨#[83, 69]⟩ 69 = true := by decide
  have q80 : hasF ⟨#[83, 69]⟩ 80 = false := by decide
  have q76 : hasF ⟨#[83, 69]⟩ 76 = false := by decide
  have q82 : hasF ⟨#[83, 69]⟩ 82 = false := by decide
  have q86 : hasF ⟨#[83, 69]⟩ 86 = false := by decide
  unfold refF mayF okF onlyF r4F r6F r8F r10F r12F prB leB peB seB agB
  dsimp only
  rw [e1]
  simp only [q0, q65, q83, q69, q80, q76, q82, q86, toList_nil_eS]
  rw [Bool.eq_iff_iff]
  simp
  have hE : en = [] → envF en = true := by rintro rfl; rfl
  generalize envF en = E at *
  first
  | done
  | grind
set_option maxHeartbeats 4000000 in
theorem refF_7 (ag se : ByteArray) (st : Int) (pe la : ByteArray) (v : Vl) (pr : Int) (en : List Bd) : refF ⟨7, ag, se, st, pe, la, v, pr, en⟩ = mayF ⟨7, ag, se, st, pe, la, v, pr, en⟩ := by
  have e1 : fieldsF 7 = ⟨#[83, 69]⟩ := rfl
  have q0 : ((⟨#[83, 69]⟩ : ByteArray).toList == []) = false := by rw [ByteArray.toList_eq]; rfl
  have q65 : hasF ⟨#[83, 69]⟩ 65 = false := by decide
  have q83 : hasF ⟨#[83, 69]⟩ 83 = true := by decide
  have q69 : hasF ⟨#[83, 69]⟩ 69 = true := by decide
  have q80 : hasF ⟨#[83, 69]⟩ 80 = false := by decide
  have q76 : hasF ⟨#[83, 69]⟩ 76 = false := by decide
  have q82 : hasF ⟨#[83, 69]⟩ 82 = false := by decide
  have q86 : hasF ⟨#[83, 69]⟩ 86 = false := by decide
  unfold refF mayF okF onlyF r4F r6F r8F r10F r12F prB leB peB seB agB
  dsimp only
  rw [e1]
  simp only [q0, q65, q83, q69, q80, q76, q82, q86, toList_nil_eS]
  rw [Bool.eq_iff_iff]
  simp
  have hE : en = [] → envF en = true := by rintro rfl; rfl
  generalize envF en = E at *
  first
  | done
  | grind
set_option maxHeartbeats 4000000 in
theorem refF_8 (ag se : ByteArray) (st : Int) (pe la : ByteArray) (v : Vl) (pr : Int) (en : List Bd) : refF ⟨8, ag, se, st, pe, la, v, pr, en⟩ = mayF ⟨8, ag, se, st, pe, la, v, pr, en⟩ := by
  have e1 : fieldsF 8 = ⟨#[65, 82, 86]⟩ := rfl
  have q0 : ((⟨#[65, 82, 86]⟩ : ByteArray).toList == []) = false := by rw [ByteArray.toList_eq]; rfl
  have q65 : hasF ⟨#[65, 82, 86]⟩ 65 = true := by decide
  have q83 : hasF ⟨#[65, 82, 86]⟩ 83 = false := by decide
  have q69 : hasF ⟨#[65, 82, 86]⟩ 69 = false := by decide
  have q80 : hasF ⟨#[65, 82, 86]⟩ 80 = false := by decide
  have q76 : hasF ⟨#[65, 82, 86]⟩ 76 = false := by decide
  have q82 : hasF ⟨#[65, 82, 86]⟩ 82 = true := by decide
  have q86 : hasF ⟨#[65, 82, 86]⟩ 86 = true := by decide
  unfold refF mayF okF onlyF r4F r6F r8F r10F r12F prB leB peB seB agB
  dsimp only
  rw [e1]
  simp only [q0, q65, q83, q69, q80, q76, q82, q86, toList_nil_eS]
  rw [Bool.eq_iff_iff]
  simp
  have hE : en = [] → envF en = true := by rintro rfl; rfl
  generalize envF en = E at *
  first
  | done
  | grind
theorem refF_eq (x : Nt) : refF x = mayF x := by
  obtain ⟨k, ag, se, st, pe, la, v, pr, en⟩ := x
  by_cases h1 : k = 1
  · subst h1; exact refF_1 ag se st pe la v pr en
  by_cases h2 : k = 2
  · subst h2; exact refF_2 ag se st pe la v pr en
  by_cases h3 : k = 3
  · subst h3; exact refF_3 ag se st pe la v pr en
  by_cases h4 : k = 4
  · subst h4; exact refF_4 ag se st pe la v pr en
  by_cases h5 : k = 5
  · subst h5; exact refF_5 ag se st pe la v pr en
  by_cases h6 : k = 6
  · subst h6; exact refF_6 ag se st pe la v pr en
  by_cases h7 : k = 7
  · subst h7; exact refF_7 ag se st pe la v pr en
  by_cases h8 : k = 8
  · subst h8; exact refF_8 ag se st pe la v pr en
  rw [refF_any _ h1 h2 h3 h4 h5 h6 h7 h8, mayF_any _ h1 h2 h3 h4 h5 h6 h7 h8]
end Go.Proofs.Ytfaophiaiflecaa
