/- Contract: reparteeref30.ReadNumber. Contracts: (*reparteeref30.Reader).Long, Int, Text, Count. -/
import Derived.Test.YtfaophiaiflecaaNtLaw2
import Derived.Test.YtfaophiaiflecaaPkRef
import Derived.Deep.RegionHeld3
import Derived.Deep.DeepCutAuto
import Derived.Test.YtfaophiaiflecaaNtD2
namespace Go.Proofs.Ytfaophiaiflecaa
open Go.RowKit

def nx (i u : Nat) (c : UInt8) : Nat := u + c.toNat % 128 % 2 ^ (64 - 7 * i) * 2 ^ (7 * i)
/-- Gathering without any check. -/
def readG (i u : Nat) : List UInt8 → Option (Nat × Nat)
  | [] => none
  | c :: r => if 10 ≤ i then none else if c.toNat < 128 then some (nx i u c, i + 1) else readG (i + 1) (nx i u c) r
theorem readG_of : ∀ (l : List UInt8) (i u v k : Nat), readFrom i u l = some (v, k) → readG i u l = some (v, k) := by
  intro l
  induction l with
  | nil => intro i u v k h; cases h
  | cons c r ih =>
    intro i u v k h
    unfold readFrom at h
    unfold readG
    have hc := c.toNat_lt
    split at h
    · cases h
    rename_i hi
    rw [if_neg hi]
    split at h
    · cases h
    rename_i h9
    have e : nx i u c = u + c.toNat % 128 * 2 ^ (7 * i) := by
      unfold nx
      congr 2
      by_cases hi9 : i = 9
      · subst hi9
        have : c.toNat ≤ 1 := by omega
        exact Nat.mod_eq_of_lt (by omega)
      · have : 2 ^ 7 ≤ 2 ^ (64 - 7 * i) := Nat.pow_le_pow_right (by omega) (by omega)
        exact Nat.mod_eq_of_lt (by omega)
    split at h
    · rename_i hlt
      rw [if_pos hlt, e]
      split at h
      · cases h
      · exact h
    · rename_i hlt
      rw [if_neg hlt, e]
      exact ih _ _ _ _ h
theorem readG_lt : ∀ (l : List UInt8) (i u v k : Nat), u < 2 ^ (7 * i) → readG i u l = some (v, k) → v < 18446744073709551616 ∧ k ≤ i + l.length ∧ i < k := by
  intro l
  induction l with
  | nil => intro i u v k _ h; cases h
  | cons c r ih =>
    intro i u v k hu h
    unfold readG at h
    split at h
    · cases h
    rename_i hi
    have hx : nx i u c < 2 ^ 64 := by
      unfold nx
      have h1 : c.toNat % 128 % 2 ^ (64 - 7 * i) < 2 ^ (64 - 7 * i) := Nat.mod_lt _ (Nat.two_pow_pos _)
      have h2 : 2 ^ 64 = 2 ^ (64 - 7 * i) * 2 ^ (7 * i) := by rw [← Nat.pow_add]; congr 1; omega
      have h3 := Nat.mul_le_mul_right (2 ^ (7 * i)) (show c.toNat % 128 % 2 ^ (64 - 7 * i) + 1 ≤ 2 ^ (64 - 7 * i) from h1)
      rw [Nat.add_mul] at h3
      omega
    split at h
    · injection h with h
      injection h with h1 h2
      subst h1 h2
      refine ⟨by have e : (2 : Nat) ^ 64 = 18446744073709551616 := rfl; omega, by simp, by omega⟩
    · by_cases h9 : i = 9
      · subst h9
        cases r with
        | nil => cases h
        | cons d t => unfold readG at h; cases h
      · have hx2 : nx i u c < 2 ^ (7 * (i + 1)) := by
          unfold nx
          have h1 : c.toNat % 128 % 2 ^ (64 - 7 * i) ≤ c.toNat % 128 := Nat.mod_le _ _
          have h3 := Nat.mul_le_mul_right (2 ^ (7 * i)) (show c.toNat % 128 % 2 ^ (64 - 7 * i) ≤ 127 by omega)
          rw [show 7 * (i + 1) = 7 * i + 7 by omega, Nat.pow_add]
          omega
        have := ih _ _ _ _ hx2 h
        simp
        omega
/-- What the reference answers. -/
def readR (l : List UInt8) : Int × Nat × Bool := match readG 0 0 l with
  | some (v, k) => if numB (uzz v) = l.take k then (uzz v, k, true) else (0, 0, false)
  | none => (0, 0, false)
theorem readR_eq (l : List UInt8) : readR l = readF l := by
  unfold readR
  rcases hf : readF l with ⟨n, k, ok⟩
  cases ok with
  | true =>
    obtain ⟨h1, h2, h3⟩ := readF_back hf
    unfold readF at hf
    split at hf
    · rename_i u k' he
      injection hf with e1 hf
      injection hf with e2 _
      subst e1 e2
      rw [readG_of _ _ _ _ _ he]
      dsimp only
      rw [if_pos]
      conv => rhs; rw [h1]
      rw [h2, List.take_left]
    · injection hf with _ hf
      injection hf with _ hf
      cases hf
  | false =>
    have hnk : n = 0 ∧ k = 0 := by
      unfold readF at hf
      split at hf
      · injection hf with _ hf; injection hf with _ hf; cases hf
      · injection hf with e1 hf; injection hf with e2 _; exact ⟨e1.symm, e2.symm⟩
    obtain ⟨rfl, rfl⟩ := hnk
    rcases hg : readG 0 0 l with _ | ⟨v, k⟩
    · rfl
    dsimp only
    rw [if_neg]
    intro he
    have hv := (readG_lt l 0 0 v k (by simp) hg).1
    have h64 := uzz_64 v hv
    have hl : l = numB (uzz v) ++ l.drop k := by rw [he, List.take_append_drop]
    have := readF_num (uzz v) (l.drop k) h64.1 h64.2
    rw [← hl, hf] at this
    injection this with _ this
    injection this with _ this
    cases this
theorem odd_uzz (v : Nat) (h : v < 18446744073709551616) (ho : ((v : Int) % 2 == 1) = true) : bits BinOp.xor IntKind.i64 (if IntKind.i64.signed = true then -1 else 9223372036854775807) ((v : Int) / 2) = uzz v := by
  have ho' : v % 2 = 1 := by have := beq_iff_eq.1 ho; omega
  have hq : v / 2 < 9223372036854775808 := by omega
  have e0 : (v : Int) / 2 = ((v / 2 : Nat) : Int) := by omega
  have e1 : uzz v = -((v / 2 : Nat) : Int) - 1 := by unfold uzz; rw [if_neg (by omega)]
  rw [e0, e1]
  generalize v / 2 = q at hq
  have hofq : BitVec.ofInt 64 (q : Int) = BitVec.ofNat 64 q := BitVec.ofInt_natCast 64 q
  show IntKind.i64.wrap ((BitVec.ofInt 64 (-1) ^^^ BitVec.ofInt 64 (q : Int)).toNat : Int) = _
  rw [hofq, show BitVec.ofInt 64 (-1) = BitVec.allOnes 64 from rfl, BitVec.xor_comm, BitVec.xor_allOnes, BitVec.toNat_not, BitVec.toNat_ofNat, Nat.mod_eq_of_lt (by omega), IntKind.wrap_i64]
  omega
theorem even_uzz (v : Nat) (ho : ((v : Int) % 2 == 1) = false) : (v : Int) / 2 = uzz v := by
  have ho' : v % 2 = 0 := by have := beq_eq_false_iff_ne.1 ho; omega
  unfold uzz
  rw [if_pos ho']
  omega
theorem mk_toList (l : List UInt8) : (⟨l.toArray⟩ : ByteArray).toList = l := by rw [ByteArray.toList_eq]
theorem gather2 (u m x : Nat) (P : Int) (hP : P = ((2 ^ m : Nat) : Int)) (hu : u < 2 ^ m) (hm : m ≤ 64) (hu64 : u < 18446744073709551616) :
    bits BinOp.or IntKind.u64 (u : Int) (IntKind.u64.wrap ((x : Int) * P)) = ((u + x % 2 ^ (64 - m) * 2 ^ m : Nat) : Int) := by
  have e64 : (18446744073709551616 : Nat) = 2 ^ (64 - m) * 2 ^ m := by rw [← Nat.pow_add, show 64 - m + m = 64 by omega]
  have e1 : IntKind.u64.wrap ((x : Int) * P) = ((x % 2 ^ (64 - m) * 2 ^ m : Nat) : Int) := by
    rw [hP, ← Int.natCast_mul, IntKind.wrap_u64, ← Nat.mul_mod_mul_right, ← e64]
    omega
  have h1 : x % 2 ^ (64 - m) < 2 ^ (64 - m) := Nat.mod_lt _ (Nat.two_pow_pos _)
  have h3 := Nat.mul_le_mul_right (2 ^ m) (show x % 2 ^ (64 - m) + 1 ≤ 2 ^ (64 - m) from h1)
  rw [Nat.add_mul] at h3
  have hlt : x % 2 ^ (64 - m) * 2 ^ m < 18446744073709551616 := by
    have := Nat.two_pow_pos m
    omega
  have hor : u ||| (x % 2 ^ (64 - m) * 2 ^ m) = u + x % 2 ^ (64 - m) * 2 ^ m := by
    rw [Nat.mul_comm, Nat.or_comm, ← Nat.two_pow_add_eq_or_of_lt hu, Nat.add_comm]
  rw [e1, u64_or_nat _ _ hu64 hlt, hor]
def OutRd (r : Int × Nat × Bool) (w : World) (e : Ending) (w' : World) : Prop := e = .returned (.tuple #[.int .i64 r.1, .int .i64 r.2.1, .bool r.2.2]) ∧ Below w.heap.size w w'
set_option maxRecDepth 100000 in
set_option maxHeartbeats 1600000 in
theorem rreadNumber_any (s : ByteArray) (w : World) (hs : s.size ≤ 9223372036854775807) :
    Calls Try.prog 93 #[.string s] w (OutRd (readF s.data.toList) w) := by
  have HSZ := Lib.hid hs
  have HRR := Lib.hid (readR_eq s.data.toList)
  go_enter Try.func93, Try.ntmps93
  go_wp2
  go_loop [5, 6] (fun x i => ∃ (k u : Nat), k ≤ s.size ∧ k ≤ 10 ∧ i = .int .i64 k ∧ x = .int .u64 u ∧ Hid (k ≤ 9 → u < 2 ^ (7 * k)) ∧ u < 18446744073709551616 ∧ Hid (readG 0 0 s.data.toList = readG k u (s.data.toList.drop k))) (fun _ i => 10 - (intOf i).toNat)
  case atStart => exact ⟨0, 0, by omega, by omega, rfl, rfl, Lib.hid (by simp), by omega, Lib.hid rfl⟩
  case round =>
    obtain ⟨k, u, hk, hk10, rfl, rfl, hu, hu64, hrd⟩ := hrel
    by_cases hin : k < s.size ∧ k < 10
    · obtain ⟨h1, h2⟩ := hin
      have hdr := drop_cons s k h1
      have hr := hrd.out
      rw [hdr] at hr
      generalize hcv : s[k] = c at *
      have hc256 : c.toNat < 256 := c.toNat_lt
      have q1 : IntKind.u64.wrap (k : Int) = (k : Int) := IntWalk.u64_in _ (by omega)
      have q2 : IntKind.u64.wrap (7 * (k : Int)) = 7 * (k : Int) := IntWalk.u64_in _ (by omega)
      have hkl := hu.out (by omega)
      have eG := gather2 u (7 * k) (c.toNat % 128) (2 ^ (7 * k)) (Int.natCast_pow 2 (7 * k)).symm hkl (by omega) hu64
      rw [show ((c.toNat % 128 : Nat) : Int) = (c.toNat : Int) % 128 from by omega] at eG
      obtain ⟨v, hv⟩ : ∃ v, v = nx k u c := ⟨_, rfl⟩
      rw [show u + c.toNat % 128 % 2 ^ (64 - 7 * k) * 2 ^ (7 * k) = v from hv.symm] at eG
      have hv2 : k + 1 ≤ 9 → v < 2 ^ (7 * (k + 1)) := by
        intro hk9
        rw [hv]
        unfold nx
        have h1 : c.toNat % 128 % 2 ^ (64 - 7 * k) ≤ c.toNat % 128 := Nat.mod_le _ _
        have h3 := Nat.mul_le_mul_right (2 ^ (7 * k)) (show c.toNat % 128 % 2 ^ (64 - 7 * k) ≤ 127 by omega)
        rw [show 7 * (k + 1) = 7 * k + 7 by omega, Nat.pow_add]
        omega
      have hv64 : v < 18446744073709551616 := by
        rw [hv]
        unfold nx
        have h1 : c.toNat % 128 % 2 ^ (64 - 7 * k) < 2 ^ (64 - 7 * k) := Nat.mod_lt _ (Nat.two_pow_pos _)
        have h2 : 18446744073709551616 = 2 ^ (64 - 7 * k) * 2 ^ (7 * k) := by rw [← Nat.pow_add, show 64 - 7 * k + 7 * k = 64 by omega]
        have h3 := Nat.mul_le_mul_right (2 ^ (7 * k)) (show c.toNat % 128 % 2 ^ (64 - 7 * k) + 1 ≤ 2 ^ (64 - 7 * k) from h1)
        rw [Nat.add_mul] at h3
        omega
      have hr2 : readG 0 0 s.data.toList = if c.toNat < 128 then some (v, k + 1) else readG (k + 1) v (s.data.toList.drop (k + 1)) := by
        rw [hr]
        conv => lhs; unfold readG
        rw [if_neg (by omega), ← hv]
      have HR := Lib.hid hr2
      have HV2 := Lib.hid hv2
      clear hr hr2 hv hv2 hkl hdr hrd hu
      by_cases hc : c.toNat < 128
      · have CN := Lib.hid (fun n W h1 h2 => refnum_any n W h1 h2)
        have HV := Lib.hid hv64
        have HF := Lib.hid HRR.out
        unfold readR at HF
        rw [HR.out, if_pos hc] at HF
        dsimp only at HF
        have hux := uzz_64 v hv64
        have q3 : IntKind.i64.wrap ((k : Int) + 1) = (k : Int) + 1 := IntWalk.i64_in _ (by omega)
        have q5 : (0 : Int) ≤ (k : Int) + 1 := by omega
        have q7 : ((k : Int) + 1).toNat = k + 1 := by omega
        have q9 : (k : Int) + 1 ≤ (s.size : Int) := by omega
        have HE : (s.extract 0 (k + 1)).toList = s.data.toList.take (k + 1) := by rw [ByteArray.toList_eq]; simp
        rcases ho : ((v : Int) % 2 == 1) with _ | _
        all_goals
          go_upto_region 10 with fail
          first | rw [odd_uzz v HV.out ho] | rw [even_uzz v ho]
          clear ho
          obtain ⟨hu1, hu2⟩ := hux
          clear HR HRR
          have CN1 := Lib.hid (fun W => refnum_any (uzz v) W hu1 hu2)
          by_cases hq : numB (uzz v) = s.data.toList.take (k + 1)
          · have hcmp : (!((⟨(numB (uzz v)).toArray⟩ : ByteArray).toList == (s.extract 0 (k + 1)).toList)) = false := by rw [HE, hq, mk_toList]; simp
            rw [if_pos hq] at HF
            generalize hFF : numB (uzz v) = F at *
            generalize uzz v = n at *
            rw [mk_toList] at hcmp
            clear HE hq eG hFF hu1 hu2
            go_cut [47] (fun s47 wx => s47 = .bool false ∧ Hid (Below w.heap.size w wx))
            case first =>
              go_region_held3 (fun _ => True) (trivial) ((go_at_call 81; refine (CN1.out _).mono ?_; rintro e w2 ⟨rfl, hb2⟩))
              all_goals
                go_wp2_with fail
                go_meet
                exact ⟨rfl, Lib.hid (below_of_drew hb2)⟩
            case rest =>
              obtain ⟨rfl, B2⟩ := hcut
              go_wp2_with fail
              go_ret3
              rw [← HF]
              exact ⟨rfl, B2.out⟩
          · have hcmp : (!((⟨(numB (uzz v)).toArray⟩ : ByteArray).toList == (s.extract 0 (k + 1)).toList)) = true := by rw [HE, mk_toList]; simpa using hq
            rw [if_neg hq] at HF
            generalize hFF : numB (uzz v) = F at *
            generalize uzz v = n at *
            rw [mk_toList] at hcmp
            clear HE hq eG hFF hu1 hu2
            go_cut [47] (fun s47 wx => s47 = .bool true ∧ Hid (Below w.heap.size w wx))
            case first =>
              go_region_held3 (fun _ => True) (trivial) ((go_at_call 81; refine (CN1.out _).mono ?_; rintro e w2 ⟨rfl, hb2⟩))
              all_goals
                go_wp2_with fail
                go_meet
                exact ⟨rfl, Lib.hid (below_of_drew hb2)⟩
            case rest =>
              obtain ⟨rfl, B2⟩ := hcut
              go_wp2_with fail
              go_ret3
              rw [← HF]
              exact ⟨rfl, B2.out⟩
      · go_wp2_with fail
        go_round
        case rel => exact ⟨k + 1, v, by omega, by omega, by go_num, rfl, HV2, hv64, Lib.hid (by rw [HR.out, if_neg hc])⟩
        case measure => simp [intOf]; omega
    · have hnone : readF s.data.toList = (0, 0, false) := by
        rw [← HRR.out]
        unfold readR
        rw [hrd.out]
        by_cases h10 : k < 10
        · rw [List.drop_of_length_le (by rw [Array.length_toList]; show s.size ≤ k; omega)]
          rfl
        · cases hd : s.data.toList.drop k with
          | nil => rfl
          | cons c r =>
            unfold readG
            rw [if_pos (by omega)]
      have HN := Lib.hid hnone
      clear hnone
      by_cases hks : k < s.size
      all_goals
        go_wp2_with fail
        go_ret3
        rw [HN.out]
        exact ⟨rfl, Below.refl _ _⟩
end Go.Proofs.Ytfaophiaiflecaa
namespace Go.Proofs.Ytfaophiaiflecaa
open Go.RowKit
set_option linter.unusedVariables false

/-- One step of reading: from (s, b) to (s', b'); once bad, bad. -/
structure Stp {α : Type} (f : List UInt8 → Option (α × List UInt8)) (s : ByteArray) (b : Bool) (x : α) (s' : ByteArray) (b' : Bool) : Prop where
  ok : b' = false → b = false ∧ f s.data.toList = some (x, s'.data.toList)
  no : b' = true → b = true ∨ f s.data.toList = none
  le : s'.size ≤ s.size
/-- The reader's block, and that nothing else was changed. -/
structure RdB (g : Nat) (s : ByteArray) (b : Bool) (w w' : World) : Prop where
  blk : Blk w' g #[.string s, .bool b] 79
  gr : w.grownBy w' (some g)
def RdN (g : Nat) (f : List UInt8 → Option (Int × List UInt8)) (s : ByteArray) (b : Bool) (w : World) (e : Ending) (w' : World) : Prop := ∃ n s' b', e = .returned (.int .i64 n) ∧ Stp f s b n s' b' ∧ I64 n ∧ RdB g s' b' w w'
def RdT (g : Nat) (s : ByteArray) (b : Bool) (w : World) (e : Ending) (w' : World) : Prop := ∃ t s' b', e = .returned (.string t) ∧ Stp oneT s b t s' b' ∧ t.size ≤ s.size ∧ RdB g s' b' w w'
/-- How many there are. -/
def oneC (s : List UInt8) : Option (Int × List UInt8) := match oneN s with
  | none => none
  | some (n, r) => if n < 0 ∨ (r.length : Int) < n then none else some (n, r)
theorem blk2' {w : World} {g : Nat} {t : TypeId} {a b : Value} (h : Blk w g #[a, b] t) : w.cell? ⟨g, 0, none⟩ = some a ∧ w.cell? ⟨g, 1, none⟩ = some b ∧ w.frozen? ⟨g, 0, none⟩ = false ∧ w.frozen? ⟨g, 1, none⟩ = false :=
  ⟨h.cell 0, h.cell 1, h.frozen 0, h.frozen 1⟩
theorem rdb_set {g : Nat} {s : ByteArray} {b : Bool} {w w1 : World} (hb : Blk w g #[.string s, .bool b] 79) (h1 : Below w.heap.size w w1) : RdB g s b w w1 ∧ RdB g s true w (w1.setCell ⟨g, 1, none⟩ (.bool true)) ∧ ∀ s2, RdB g s2 b w (w1.setCell ⟨g, 0, none⟩ (.string s2)) := by
  have k := hb.belowS h1
  have e := grown_of_below h1 (some g)
  exact ⟨⟨k, e⟩, ⟨k.set_ 1 _, grown_trans e (grown_setCell _ ⟨g, 1, none⟩ _)⟩, fun s2 => ⟨k.set_ 0 _, grown_trans e (grown_setCell _ ⟨g, 0, none⟩ _)⟩⟩
theorem RdB.bad {g : Nat} {s : ByteArray} {b : Bool} {w w1 : World} (h : RdB g s b w w1) : RdB g s true w (w1.setCell ⟨g, 1, none⟩ (.bool true)) := ⟨h.blk.set_ 1 _, grown_trans h.gr (grown_setCell _ ⟨g, 1, none⟩ _)⟩
theorem RdB.in_ {g : Nat} {s : ByteArray} {b : Bool} {w w1 : World} (h : RdB g s b w w1) (s2 : ByteArray) : RdB g s2 b w (w1.setCell ⟨g, 0, none⟩ (.string s2)) := ⟨h.blk.set_ 0 _, grown_trans h.gr (grown_setCell _ ⟨g, 0, none⟩ _)⟩
theorem RdB.trans {g : Nat} {s s2 : ByteArray} {b b2 : Bool} {w w1 w2 : World} (h : RdB g s b w w1) (k : RdB g s2 b2 w1 w2) : RdB g s2 b2 w w2 := ⟨k.blk, grown_trans h.gr k.gr⟩
set_option maxRecDepth 100000 in
set_option maxHeartbeats 800000 in
theorem rlong_any (g : Nat) (s : ByteArray) (b : Bool) (w : World) (hb : Blk w g #[.string s, .bool b] 79) (hs : s.size ≤ 1000000000) :
    Calls Try.prog 88 #[.pointer (some ⟨g, 0, none⟩)] w (RdN g oneN s b w) := by
  have CR := Lib.hid (fun W => rreadNumber_any s W (by omega))
  obtain ⟨x0, x1, f0, f1⟩ := blk2' hb
  have HB := Lib.hid hb
  have hl := hb.lt
  rcases hr : readF s.data.toList with ⟨n, k, ok⟩
  rw [hr] at CR
  have HON := Lib.hid (show oneN s.data.toList = match readF s.data.toList with
    | (n, k, true) => some (n, s.data.toList.drop k)
    | (_, _, false) => none from rfl)
  rw [hr] at HON
  clear hb
  cases b with
  | true =>
    clear hr
    go_enter Try.func88, Try.ntmps88
    go_wp2_with fail
    refine (CR.out _).mono ?_
    rintro e w1 ⟨rfl, hb1⟩
    have HR := Lib.hid (rdb_set HB.out hb1)
    obtain ⟨x0, x1, f0, f1⟩ := blk2' HR.out.1.blk
    clear hb1
    go_wp2_with fail
    go_ret
    exact ⟨0, s, true, rfl, ⟨by simp, fun _ => .inl rfl, Nat.le_refl _⟩, ⟨by omega, by omega⟩, HR.out.2.1⟩
  | false =>
    cases ok with
    | false =>
      clear hr
      go_enter Try.func88, Try.ntmps88
      go_wp2_with fail
      refine (CR.out _).mono ?_
      rintro e w1 ⟨rfl, hb1⟩
      have HR := Lib.hid (rdb_set HB.out hb1)
      obtain ⟨x0, x1, f0, f1⟩ := blk2' HR.out.1.blk
      clear hb1
      go_wp2_with fail
      go_ret
      exact ⟨0, s, true, rfl, ⟨by simp, fun _ => .inr (by rw [HON.out]), Nat.le_refl _⟩, ⟨by omega, by omega⟩, HR.out.2.1⟩
    | true =>
      obtain ⟨k0, k1⟩ := readF_le hr
      have k2 : k ≤ s.size := by rw [ba_size]; exact k1
      have HI := Lib.hid (readF_back hr).2.2
      clear k0 k1 hr
      go_enter Try.func88, Try.ntmps88
      go_wp2_with fail
      refine (CR.out _).mono ?_
      rintro e w1 ⟨rfl, hb1⟩
      have HR := Lib.hid (rdb_set HB.out hb1)
      obtain ⟨x0, x1, f0, f1⟩ := blk2' HR.out.1.blk
      clear hb1
      go_wp2_with fail
      go_ret
      exact ⟨n, s.extract k s.size, false, rfl, ⟨fun _ => ⟨rfl, by rw [HON.out, ba_drop]⟩, by simp, by rw [ByteArray.size_extract]; omega⟩, HI.out, HR.out.2.2 _⟩
set_option maxRecDepth 100000 in
set_option maxHeartbeats 800000 in
theorem rint_any (g : Nat) (s : ByteArray) (b : Bool) (w : World) (hb : Blk w g #[.string s, .bool b] 79) (hs : s.size ≤ 1000000000) :
    Calls Try.prog 71 #[.pointer (some ⟨g, 0, none⟩)] w (RdN g oneN s b w) := by
  have CR := Lib.hid (rlong_any g s b w hb hs)
  clear hb hs
  go_enter Try.func71, Try.ntmps71
  go_wp2_with fail
  refine CR.out.mono ?_
  rintro e w1 ⟨n, s', b', rfl, hst, hi, hrb⟩
  have H1 := Lib.hid hst
  have H2 := Lib.hid hi
  have H3 := Lib.hid hrb
  clear hst hi hrb
  go_wp2_with fail
  go_ret
  exact ⟨n, s', b', rfl, H1.out, H2.out, H3.out⟩
/-- A text's reading out of its length's. -/
theorem oneT_of (s : ByteArray) : oneT s.data.toList = match oneN s.data.toList with
  | none => none
  | some (n, r) => if n < 0 ∨ (r.length : Int) < n then none else some (⟨(r.take n.toNat).toArray⟩, r.drop n.toNat) := by
  unfold oneT oneN cutT
  rcases hr : readF s.data.toList with ⟨n, k, ok⟩
  cases ok with
  | false => rfl
  | true =>
    have := readF_le hr
    dsimp only
    rw [show ((s.data.toList.drop k).length : Int) = (s.data.toList.length : Int) - (k : Int) from by rw [List.length_drop]; omega]
    by_cases hc : n < 0 ∨ (s.data.toList.length : Int) - (k : Int) < n
    · rw [if_pos hc, if_pos hc]
    · rw [if_neg hc, if_neg hc]
      simp [List.drop_drop]
theorem ba_take0 (s : ByteArray) (a : Nat) : (s.extract 0 a) = ⟨(s.data.toList.take a).toArray⟩ := ba_cut s 0 a _ (by simp)
set_option maxRecDepth 100000 in
set_option maxHeartbeats 1600000 in
theorem rtext_any (g : Nat) (s : ByteArray) (b : Bool) (w : World) (hb : Blk w g #[.string s, .bool b] 79) (hs : s.size ≤ 1000000000) :
    Calls Try.prog 72 #[.pointer (some ⟨g, 0, none⟩)] w (RdT g s b w) := by
  have CR := Lib.hid (rint_any g s b w hb hs)
  have HT := Lib.hid (oneT_of s)
  clear hb
  go_enter Try.func72, Try.ntmps72
  go_wp2_with fail
  refine CR.out.mono ?_
  rintro e w1 ⟨n, s', b', rfl, hst, hi, hrb⟩
  obtain ⟨x0, x1, f0, f1⟩ := blk2' hrb.blk
  have hl := hrb.blk.lt
  have hle := hst.le
  obtain ⟨hi1, hi2⟩ := hi
  have H1 := Lib.hid hst
  have H3 := Lib.hid hrb
  clear hst hrb
  cases b' with
  | true =>
    go_wp2_with fail
    go_ret
    exact ⟨⟨#[]⟩, s', true, rfl, ⟨by simp, fun _ => (H1.out.no rfl).imp id (fun h => by rw [HT.out, h]), hle⟩, Nat.zero_le _, H3.out.bad⟩
  | false =>
    have HN := Lib.hid (H1.out.ok rfl)
    have hsz := ba_size s'
    have HSZ := Lib.hid hsz
    clear hsz
    by_cases hn : n < 0
    · have hd : decide (n < 0) = true := by simp; exact hn
      go_wp2_with fail
      go_ret
      exact ⟨⟨#[]⟩, s', true, rfl, ⟨by simp, fun _ => .inr (by rw [HT.out, HN.out.2]; dsimp only; rw [if_pos (.inl hn)]), hle⟩, Nat.zero_le _, H3.out.bad⟩
    · obtain ⟨m, rfl⟩ : ∃ m : Nat, n = m := ⟨n.toNat, by omega⟩
      have hd : decide ((m : Int) < 0) = false := by simp
      by_cases hlt : s'.size < m
      · have hd2 : decide ((s'.size : Int) < (m : Int)) = true := by simp; omega
        have hd3 : decide (s'.size < m) = true := by simp; omega
        go_wp2_with fail
        go_ret
        exact ⟨⟨#[]⟩, s', true, rfl, ⟨by simp, fun _ => .inr (by rw [HT.out, HN.out.2]; dsimp only; rw [if_pos (.inr (by rw [← HSZ.out]; omega))]), hle⟩, Nat.zero_le _, H3.out.bad⟩
      · have hd2 : decide ((s'.size : Int) < (m : Int)) = false := by simp; omega
        have hd3 : decide (s'.size < m) = false := by simp; omega
        have hms : m ≤ s'.size := by omega
        go_wp2_with fail
        go_ret
        refine ⟨s'.extract 0 m, s'.extract m s'.size, false, rfl, ⟨fun _ => ⟨HN.out.1, ?_⟩, by simp, by rw [ByteArray.size_extract]; omega⟩, by rw [ByteArray.size_extract]; omega, H3.out.in_ _⟩
        rw [HT.out, HN.out.2]
        dsimp only
        rw [if_neg (by rw [← HSZ.out]; omega), ba_take0, ba_drop]
        rfl
set_option maxRecDepth 100000 in
set_option maxHeartbeats 1600000 in
theorem rcount_any (g : Nat) (s : ByteArray) (b : Bool) (w : World) (hb : Blk w g #[.string s, .bool b] 79) (hs : s.size ≤ 1000000000) :
    Calls Try.prog 74 #[.pointer (some ⟨g, 0, none⟩)] w (fun e w' => ∃ n : Nat, RdN g oneC s b w e w' ∧ e = .returned (.int .i64 n) ∧ n ≤ s.size) := by
  have CR := Lib.hid (rint_any g s b w hb hs)
  have HT := Lib.hid (show oneC s.data.toList = match oneN s.data.toList with
    | none => none
    | some (n, r) => if n < 0 ∨ (r.length : Int) < n then none else some (n, r) from rfl)
  clear hb
  go_enter Try.func74, Try.ntmps74
  go_wp2_with fail
  refine CR.out.mono ?_
  rintro e w1 ⟨n, s', b', rfl, hst, hi, hrb⟩
  obtain ⟨x0, x1, f0, f1⟩ := blk2' hrb.blk
  have hl := hrb.blk.lt
  have hle := hst.le
  obtain ⟨hi1, hi2⟩ := hi
  have H1 := Lib.hid hst
  have H3 := Lib.hid hrb
  clear hst hrb
  cases b' with
  | true =>
    go_wp2_with fail
    go_ret
    exact ⟨0, ⟨0, s', true, rfl, ⟨by simp, fun _ => (H1.out.no rfl).imp id (fun h => by rw [HT.out, h]), hle⟩, ⟨by omega, by omega⟩, H3.out.bad⟩, rfl, Nat.zero_le _⟩
  | false =>
    have HN := Lib.hid (H1.out.ok rfl)
    have hsz := ba_size s'
    have HSZ := Lib.hid hsz
    clear hsz
    by_cases hn : n < 0
    · have hd : decide (n < 0) = true := by simp; exact hn
      go_wp2_with fail
      go_ret
      exact ⟨0, ⟨0, s', true, rfl, ⟨by simp, fun _ => .inr (by rw [HT.out, HN.out.2]; dsimp only; rw [if_pos (.inl hn)]), hle⟩, ⟨by omega, by omega⟩, H3.out.bad⟩, rfl, Nat.zero_le _⟩
    · obtain ⟨m, rfl⟩ : ∃ m : Nat, n = m := ⟨n.toNat, by omega⟩
      have hd : decide ((m : Int) < 0) = false := by simp
      by_cases hlt : s'.size < m
      · have hd2 : decide ((s'.size : Int) < (m : Int)) = true := by simp; omega
        have hd3 : decide (s'.size < m) = true := by simp; omega
        go_wp2_with fail
        go_ret
        exact ⟨0, ⟨0, s', true, rfl, ⟨by simp, fun _ => .inr (by rw [HT.out, HN.out.2]; dsimp only; rw [if_pos (.inr (by rw [← HSZ.out]; omega))]), hle⟩, ⟨by omega, by omega⟩, H3.out.bad⟩, rfl, Nat.zero_le _⟩
      · have hd2 : decide ((s'.size : Int) < (m : Int)) = false := by simp; omega
        have hd3 : decide (s'.size < m) = false := by simp; omega
        go_wp2_with fail
        go_ret
        refine ⟨m, ⟨m, s', false, rfl, ⟨fun _ => ⟨HN.out.1, ?_⟩, by simp, hle⟩, ⟨by omega, by omega⟩, H3.out⟩, rfl, by omega⟩
        rw [HT.out, HN.out.2]
        dsimp only
        rw [if_neg (by rw [← HSZ.out]; omega)]
end Go.Proofs.Ytfaophiaiflecaa
