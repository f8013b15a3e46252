/- Contracts: object.Number, object.ReadNumber. -/
import Derived.Test.YtfaophiaiflecaaNumF
import Derived.Laws.IdiomStrings
import Derived.Laws.BytesArg
namespace Go.Proofs.Ytfaophiaiflecaa
open Go.RowKit

theorem infoByte : (Try.prog.info? 5).map (fun i => (i.zero, i.size, i.bytes)) = some (some (.int .u8 0), 1, 1) := by kernel_rfl
def bytesV (l : List UInt8) : List Value := l.map fun b => Value.int .u8 (b.toNat : Int)

theorem zz_core (n : Int) (h1 : -9223372036854775808 ≤ n) (h2 : n ≤ 9223372036854775807) :
    bits BinOp.xor IntKind.u64 (IntKind.u64.wrap (IntKind.u64.wrap n * 2)) (IntKind.u64.wrap (n / 9223372036854775808)) = (zz n : Int) := by
  by_cases h0 : 0 ≤ n
  · have e1 : IntKind.u64.wrap (IntKind.u64.wrap n * 2) = ((zz n : Nat) : Int) := by
      unfold zz
      rw [if_pos h0, IntKind.wrap_u64, IntKind.wrap_u64]
      omega
    have e2 : IntKind.u64.wrap (n / 9223372036854775808) = ((0 : Nat) : Int) := by rw [IntKind.wrap_u64]; omega
    rw [e1, e2, u64_xor_nat _ _ (zz_lt n h1 h2) (by omega), Nat.xor_zero]
  · have e1 : IntKind.u64.wrap (IntKind.u64.wrap n * 2) = ((18446744073709551615 - zz n : Nat) : Int) := by
      unfold zz
      rw [if_neg h0, IntKind.wrap_u64, IntKind.wrap_u64]
      omega
    have e2 : IntKind.u64.wrap (n / 9223372036854775808) = ((18446744073709551615 : Nat) : Int) := by rw [IntKind.wrap_u64]; omega
    have hz := zz_lt n h1 h2
    rw [e1, e2, u64_xor_nat _ _ (by omega) (by omega)]
    have hx : ∀ a : Nat, a < 18446744073709551616 → a ^^^ 18446744073709551615 = 18446744073709551615 - a := by
      intro a ha
      have hb : (BitVec.ofNat 64 a ^^^ BitVec.allOnes 64).toNat = 18446744073709551615 - a := by
        rw [BitVec.xor_allOnes, BitVec.toNat_not, BitVec.toNat_ofNat, Nat.mod_eq_of_lt ha]
      rw [BitVec.toNat_xor, BitVec.toNat_allOnes, BitVec.toNat_ofNat, Nat.mod_eq_of_lt ha] at hb
      exact hb
    rw [hx _ (by omega)]
    omega
theorem or_128 (x : Nat) (h : x < 256) : x ||| 128 = x % 128 + 128 := by
  have : ∀ x : Fin 256, x.val ||| 128 = x.val % 128 + 128 := by decide +kernel
  exact this ⟨x, h⟩
theorem or_core (q : Nat) : bits BinOp.or IntKind.u8 (IntKind.u8.wrap (q : Int)) 128 = ((UInt8.ofNat (q % 128 + 128)).toNat : Int) := by
  have h1 : IntKind.u8.wrap (q : Int) = ((q % 256 : Nat) : Int) := by rw [IntKind.wrap_u8]; omega
  have h2 := u8_or_nat (q % 256) 128 (by omega) (by omega)
  rw [h1]
  rw [show ((128 : Nat) : Int) = 128 from rfl] at h2
  have h3 : (q % 128 + 128) % 2 ^ 8 = q % 128 + 128 := Nat.mod_eq_of_lt (by omega)
  rw [h2, or_128 _ (Nat.mod_lt _ (by omega)), UInt8.toNat_ofNat', h3]
  omega
/-- 'string(b)': the bytes that lie there. -/
theorem rd_string {P : Program} {W : World} {A : Option Addr} {L : List UInt8} {n c : Nat} {src e dst : TypeId} (hs : P.underlying src = some (.slice e)) (he : P.underlying e = some (.int .u8)) (hd : P.underlying dst = some .string)
    (h : Rd W A (bytesV L)) (hn : n = L.length) : (convert src dst (.slice A n c)).run P W = .ok (.string ⟨L.toArray⟩) W := by
  subst hn
  cases A with
  | none =>
    have : L = [] := by
      by_cases hL : L = []
      · exact hL
      · obtain ⟨b, off, h1, _⟩ := h (by unfold bytesV; simpa using hL)
        cases h1
    subst this
    exact run_convert_bytes_nil W src e hs he 0 c dst hd
  | some a =>
    refine run_convert_bytes_back W src dst e a c L hs he hd fun j hj => ?_
    obtain ⟨b, off, h1, _, hc⟩ := h.at_ (i := j) (by simpa [bytesV] using hj)
    injection h1 with h1
    subst h1
    have ha : (⟨b, off, none⟩ : Addr).add j = ⟨b, off + j, none⟩ := by unfold Addr.add; split <;> simp_all
    rw [ha]
    exact hc j _ (by simp [bytesV, hj])
set_option maxRecDepth 100000 in
set_option maxHeartbeats 800000 in
theorem number_any (n : Int) (w : World) (h1 : -9223372036854775808 ≤ n) (h2 : n ≤ 9223372036854775807) :
    Calls Try.prog 76 #[.int .i64 n] w fun e w' => e = .returned (.string ⟨(numB n).toArray⟩) ∧ Below w.heap.size w w' := by
  obtain ⟨i0, hi0, hz0, hz1, hz2⟩ := info_parts infoByte
  go_enter Try.func76, Try.ntmps76
  go_wp2
  rw [zz_core n h1 h2]
  generalize IntKind.u64.wrap (IntKind.u64.wrap n * 2) = z7
  generalize IntKind.u64.wrap (n / 9223372036854775808) = z10
  generalize n / 9223372036854775808 = z9
  generalize IntKind.u64.wrap n = z6
  have H1 := Lib.hid h1
  have H2 := Lib.hid h2
  clear h1 h2
  go_loopw [3, 4] (fun u v wr => ∃ (k : Nat) (q : Nat) (A' : Option Addr) (c' : Nat) (L : List UInt8), u = .int .u64 q ∧ v = .slice A' L.length c' ∧ k ≤ 9 ∧ q < 2 ^ (64 - 7 * k) ∧ Hid (numB n = L ++ vb (10 - k) q) ∧ L.length ≤ c' ∧ L.length = k ∧
      wr.ownsRow w.heap.size 5 1 (.slice A' L.length c') L.length (bytesV L) ∧ Below w.heap.size w wr) (fun u _ _ => (intOf u).toNat)
  case atStart => exact ⟨0, zz n, none, 0, [], rfl, rfl, by omega, by have := zz_lt n H1.out H2.out; simpa using this, Lib.hid rfl, Nat.le_refl _, rfl, World.ownsRow_nil _ _ _ _, Below.refl _ _⟩
  case round =>
    obtain ⟨k, q, A', c', L, rfl, rfl, hk, hq, hL, hle, hLk, hown, hb⟩ := hrel
    have hl9 : L.length ≤ 9 := by omega
    have HQ := Lib.hid hq
    have HLk := Lib.hid hLk
    clear hq hLk
    have hbs := hb.size
    have B := Lib.hid hb
    have O := Lib.hid hown
    clear hb hown
    by_cases hlt : q < 128
    · have hx : (q : Int) = ((UInt8.ofNat q).toNat : Int) := by rw [UInt8.toNat_ofNat', Nat.mod_eq_of_lt (by omega)]
      have HX := Lib.hid hx
      clear hx
      go_wp2_with (at_builtin; refine wpList_app _ rfl _ _ _ rfl w.heap.size 5 i0 _ 1 1 Try.underlying32 hi0 hz0 hz1 hz2 rfl (by omega) (.slice A' L.length c') L.length (bytesV L) rfl (O.out.alloc _) (some ⟨wr.heap.size, 0, none⟩) 1 1 [.int .u8 q] rfl (Rd.new wr #[.int .u8 q] 5) rfl (by simp [Value.oneCell']) (by omega) (by unfold maxLen; omega) (by simp; omega) ?_; intro A2 c2 w2 hle2 hown2 hg2 _; have hconv := rd_string (P := Try.prog) (L := L ++ [UInt8.ofNat q]) (n := L.length + 1) (c := c2) Try.underlying32 Try.underlying5 Try.underlying9 (by have := own_rd hown2; rw [HX.out] at this; simpa [bytesV] using this) (by simp))
      go_ret
      refine ⟨?_, (B.out.alloc hbs _).grown hg2 (by simp; omega) (fun g hg => (O.out.lt g hg).1)⟩
      rw [hL.out]
      have hv : vb (10 - k) q = [UInt8.ofNat q] := by
        rw [show 10 - k = (9 - k) + 1 by omega]
        unfold vb
        rw [if_pos hlt]
      rw [hv]
      rfl
    · have hx := or_core q
      have HX := Lib.hid hx
      clear hx
      go_wp2_with (at_builtin; refine wpList_app _ rfl _ _ _ rfl w.heap.size 5 i0 _ 1 1 Try.underlying32 hi0 hz0 hz1 hz2 rfl (by omega) (.slice A' L.length c') L.length (bytesV L) rfl (O.out.alloc _) (some ⟨wr.heap.size, 0, none⟩) 1 1 [.int .u8 (bits BinOp.or IntKind.u8 (IntKind.u8.wrap q) 128)] rfl (Rd.new wr #[.int .u8 (bits BinOp.or IntKind.u8 (IntKind.u8.wrap q) 128)] 5) rfl (by simp [Value.oneCell']) (by omega) (by unfold maxLen; omega) (by simp; omega) ?_; intro A2 c2 w2 hle2 hown2 hg2 _)
      go_roundw
      case rel =>
        have hk8 : k < 9 := by
          rcases Nat.lt_or_ge k 9 with h | h
          · exact h
          · have : k = 9 := by omega
            subst this
            have := HQ.out
            simp at this
            omega
        have hp : 2 ^ (64 - 7 * k) = 2 ^ (64 - 7 * (k + 1)) * 128 := by
          rw [show (128 : Nat) = 2 ^ 7 from rfl, ← Nat.pow_add]
          congr 1
          omega
        have hv : vb (10 - k) q = UInt8.ofNat (q % 128 + 128) :: vb (10 - (k + 1)) (q / 128) := by
          rw [show 10 - k = (10 - (k + 1)) + 1 by omega]
          conv => lhs; unfold vb
          rw [if_neg hlt]
        refine ⟨k + 1, q / 128, A2, c2, L ++ [UInt8.ofNat (q % 128 + 128)], by go_num, by simp, by omega, ?_, Lib.hid (by rw [hL.out, hv]; simp), by simpa using hle2, by simp; exact HLk.out, ?_, (B.out.alloc hbs _).grown hg2 (by simp; omega) (fun g hg => (O.out.lt g hg).1)⟩
        · have := HQ.out
          rw [hp] at this
          exact Nat.div_lt_of_lt_mul (by rw [Nat.mul_comm]; exact this)
        · rw [HX.out] at hown2
          simpa [bytesV] using hown2
      case measure => simp [intOf]; omega
end Go.Proofs.Ytfaophiaiflecaa
