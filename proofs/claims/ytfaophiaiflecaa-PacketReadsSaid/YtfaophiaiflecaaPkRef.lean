/- Contracts: reparteeref30.Number, Sum, SumText, TextBytes, IntBytes. -/
import Derived.Test.YtfaophiaiflecaaPkF
namespace Go.Proofs.Ytfaophiaiflecaa
open Go.RowKit

theorem byte_add (q : Nat) : (q : Int) % 128 + 128 = ((UInt8.ofNat (q % 128 + 128)).toNat : Int) := by
  rw [UInt8.toNat_ofNat', Nat.mod_eq_of_lt (by omega)]
  omega
theorem ref_zz (n : Int) (h : n < 0) (h1 : -9223372036854775808 ≤ n) : bits BinOp.xor IntKind.u64 IntKind.u64.max (IntKind.u64.wrap (IntKind.u64.wrap n * 2)) = ((zz n : Nat) : Int) := by
  have hz := zz_lt n h1 (by omega)
  have e1 : IntKind.u64.wrap (IntKind.u64.wrap n * 2) = ((18446744073709551615 - zz n : Nat) : Int) := by
    unfold zz
    rw [if_neg (by omega), IntKind.wrap_u64, IntKind.wrap_u64]
    omega
  have e2 : IntKind.u64.max = ((18446744073709551615 : Nat) : Int) := rfl
  rw [e1, e2, u64_xor_nat _ _ (by omega) (by omega)]
  have hx : ∀ a : Nat, a < 18446744073709551616 → 18446744073709551615 ^^^ a = 18446744073709551615 - a := by
    intro a ha
    have hb : (BitVec.allOnes 64 ^^^ BitVec.ofNat 64 a).toNat = 18446744073709551615 - a := by
      rw [BitVec.xor_comm, BitVec.xor_allOnes, BitVec.toNat_not, BitVec.toNat_ofNat, Nat.mod_eq_of_lt ha]
    rw [BitVec.toNat_xor, BitVec.toNat_allOnes, BitVec.toNat_ofNat, Nat.mod_eq_of_lt ha] at hb
    exact hb
  rw [hx _ (by omega)]
  omega
set_option maxRecDepth 100000 in
set_option maxHeartbeats 800000 in
theorem refnum_any (n : Int) (w : World) (h1 : -9223372036854775808 ≤ n) (h2 : n ≤ 9223372036854775807) :
    Calls Try.prog 81 #[.int .i64 n] w fun e w' => e = .returned (.string ⟨(numB n).toArray⟩) ∧ Below w.heap.size w w' := by
  obtain ⟨i0, hi0, hz0, hz1, hz2⟩ := info_parts infoByte
  have H1 := Lib.hid h1
  have H2 := Lib.hid h2
  by_cases h0 : n < 0
  · have hz := ref_zz n h0 h1
    have HZ := Lib.hid hz
    clear hz
    go_enter Try.func81, Try.ntmps81
    go_wp2
    rw [HZ.out]
    generalize IntKind.u64.wrap (IntKind.u64.wrap n * 2) = z7
    generalize IntKind.u64.wrap n = z6
    clear h1 h2
    go_loopw [3, 4] (fun u v wr => ∃ (k : Nat) (q : Nat) (A' : Option Addr) (c' : Nat) (L : List UInt8), u = .int .u64 q ∧ v = .slice A' L.length c' ∧ k ≤ 9 ∧ q < 2 ^ (64 - 7 * k) ∧ Hid (numB n = L ++ vb (10 - k) q) ∧ L.length ≤ c' ∧ L.length = k ∧
        wr.ownsRow w.heap.size 5 1 (.slice A' L.length c') L.length (bytesV L) ∧ Below w.heap.size w wr) (fun u _ _ => (intOf u).toNat)
    case atStart => exact ⟨0, zz n, none, 0, [], rfl, rfl, by omega, by have := zz_lt n H1.out H2.out; simpa using this, Lib.hid rfl, Nat.le_refl _, rfl, World.ownsRow_nil _ _ _ _, Below.refl _ _⟩
    case round =>
      obtain ⟨k, q, A', c', L, rfl, rfl, hk, hq, hL, hle, hLk, hown, hb⟩ := hrel
      have hl9 : L.length ≤ 9 := by omega
      have hq64 : IntKind.u64.wrap ((q : Int) / 128) = (q : Int) / 128 := by
        have : q < 2 ^ 64 := Nat.lt_of_lt_of_le hq (Nat.pow_le_pow_right (by omega) (by omega))
        have e : (2 : Nat) ^ 64 = 18446744073709551616 := rfl
        exact IntWalk.u64_in _ (by omega)
      have HQ := Lib.hid hq
      have HLk := Lib.hid hLk
      clear hq hLk
      have hbs := hb.size
      have B := Lib.hid hb
      have O := Lib.hid hown
      clear hb hown
      by_cases hlt : q < 128
      · have hx : (q : Int) = ((UInt8.ofNat q).toNat : Int) := by rw [UInt8.toNat_ofNat', Nat.mod_eq_of_lt (by omega)]
        have HX := Lib.hid hx
        clear hx
        go_wp2_with (at_builtin; refine wpList_app _ rfl _ _ _ rfl w.heap.size 5 i0 _ 1 1 Try.underlying32 hi0 hz0 hz1 hz2 rfl (by omega) (.slice A' L.length c') L.length (bytesV L) rfl (O.out.alloc _) (some ⟨wr.heap.size, 0, none⟩) 1 1 [.int .u8 q] rfl (Rd.new wr #[.int .u8 q] 5) rfl (by simp [Value.oneCell']) (by omega) (by unfold maxLen; omega) (by simp; omega) ?_; intro A2 c2 w2 hle2 hown2 hg2 _; have hconv := rd_string (P := Try.prog) (L := L ++ [UInt8.ofNat q]) (n := L.length + 1) (c := c2) Try.underlying32 Try.underlying5 Try.underlying9 (by have := own_rd hown2; rw [HX.out] at this; simpa [bytesV] using this) (by simp))
        go_ret
        refine ⟨?_, (B.out.alloc hbs _).grown hg2 (by simp; omega) (fun g hg => (O.out.lt g hg).1)⟩
        rw [hL.out]
        have hv : vb (10 - k) q = [UInt8.ofNat q] := by
          rw [show 10 - k = (9 - k) + 1 by omega]
          unfold vb
          rw [if_pos hlt]
        rw [hv]
        rfl
      · have hx := byte_add q
        have HX := Lib.hid hx
        clear hx
        go_wp2_with (at_builtin; refine wpList_app _ rfl _ _ _ rfl w.heap.size 5 i0 _ 1 1 Try.underlying32 hi0 hz0 hz1 hz2 rfl (by omega) (.slice A' L.length c') L.length (bytesV L) rfl (O.out.alloc _) (some ⟨wr.heap.size, 0, none⟩) 1 1 [.int .u8 ((q : Int) % 128 + 128)] rfl (Rd.new wr #[.int .u8 ((q : Int) % 128 + 128)] 5) rfl (by simp [Value.oneCell']) (by omega) (by unfold maxLen; omega) (by simp; omega) ?_; intro A2 c2 w2 hle2 hown2 hg2 _)
        go_roundw
        case rel =>
          have hk8 : k < 9 := by
            rcases Nat.lt_or_ge k 9 with h | h
            · exact h
            · have : k = 9 := by omega
              subst this
              have := HQ.out
              simp at this
              omega
          have hp : 2 ^ (64 - 7 * k) = 2 ^ (64 - 7 * (k + 1)) * 128 := by
            rw [show (128 : Nat) = 2 ^ 7 from rfl, ← Nat.pow_add]
            congr 1
            omega
          have hv : vb (10 - k) q = UInt8.ofNat (q % 128 + 128) :: vb (10 - (k + 1)) (q / 128) := by
            rw [show 10 - k = (10 - (k + 1)) + 1 by omega]
            conv => lhs; unfold vb
            rw [if_neg hlt]
          refine ⟨k + 1, q / 128, A2, c2, L ++ [UInt8.ofNat (q % 128 + 128)], by go_num, by simp, by omega, ?_, Lib.hid (by rw [hL.out, hv]; simp), by simpa using hle2, by simp; exact HLk.out, ?_, (B.out.alloc hbs _).grown hg2 (by simp; omega) (fun g hg => (O.out.lt g hg).1)⟩
          · have := HQ.out
            rw [hp] at this
            exact Nat.div_lt_of_lt_mul (by rw [Nat.mul_comm]; exact this)
          · rw [HX.out] at hown2
            simpa [bytesV] using hown2
        case measure => simp [intOf]; omega
  · have hz : n * 2 = ((zz n : Nat) : Int) := by unfold zz; rw [if_pos (by omega)]; omega
    have HZ := Lib.hid hz
    clear hz
    have h00 : 0 ≤ n := by omega
    go_enter Try.func81, Try.ntmps81
    go_wp2
    rw [HZ.out]
    clear h1 h2
    go_loopw [3, 4] (fun u v wr => ∃ (k : Nat) (q : Nat) (A' : Option Addr) (c' : Nat) (L : List UInt8), u = .int .u64 q ∧ v = .slice A' L.length c' ∧ k ≤ 9 ∧ q < 2 ^ (64 - 7 * k) ∧ Hid (numB n = L ++ vb (10 - k) q) ∧ L.length ≤ c' ∧ L.length = k ∧
        wr.ownsRow w.heap.size 5 1 (.slice A' L.length c') L.length (bytesV L) ∧ Below w.heap.size w wr) (fun u _ _ => (intOf u).toNat)
    case atStart => exact ⟨0, zz n, none, 0, [], rfl, rfl, by omega, by have := zz_lt n H1.out H2.out; simpa using this, Lib.hid rfl, Nat.le_refl _, rfl, World.ownsRow_nil _ _ _ _, Below.refl _ _⟩
    case round =>
      obtain ⟨k, q, A', c', L, rfl, rfl, hk, hq, hL, hle, hLk, hown, hb⟩ := hrel
      have hl9 : L.length ≤ 9 := by omega
      have hq64 : IntKind.u64.wrap ((q : Int) / 128) = (q : Int) / 128 := by
        have : q < 2 ^ 64 := Nat.lt_of_lt_of_le hq (Nat.pow_le_pow_right (by omega) (by omega))
        have e : (2 : Nat) ^ 64 = 18446744073709551616 := rfl
        exact IntWalk.u64_in _ (by omega)
      have HQ := Lib.hid hq
      have HLk := Lib.hid hLk
      clear hq hLk
      have hbs := hb.size
      have B := Lib.hid hb
      have O := Lib.hid hown
      clear hb hown
      by_cases hlt : q < 128
      · have hx : (q : Int) = ((UInt8.ofNat q).toNat : Int) := by rw [UInt8.toNat_ofNat', Nat.mod_eq_of_lt (by omega)]
        have HX := Lib.hid hx
        clear hx
        go_wp2_with (at_builtin; refine wpList_app _ rfl _ _ _ rfl w.heap.size 5 i0 _ 1 1 Try.underlying32 hi0 hz0 hz1 hz2 rfl (by omega) (.slice A' L.length c') L.length (bytesV L) rfl (O.out.alloc _) (some ⟨wr.heap.size, 0, none⟩) 1 1 [.int .u8 q] rfl (Rd.new wr #[.int .u8 q] 5) rfl (by simp [Value.oneCell']) (by omega) (by unfold maxLen; omega) (by simp; omega) ?_; intro A2 c2 w2 hle2 hown2 hg2 _; have hconv := rd_string (P := Try.prog) (L := L ++ [UInt8.ofNat q]) (n := L.length + 1) (c := c2) Try.underlying32 Try.underlying5 Try.underlying9 (by have := own_rd hown2; rw [HX.out] at this; simpa [bytesV] using this) (by simp))
        go_ret
        refine ⟨?_, (B.out.alloc hbs _).grown hg2 (by simp; omega) (fun g hg => (O.out.lt g hg).1)⟩
        rw [hL.out]
        have hv : vb (10 - k) q = [UInt8.ofNat q] := by
          rw [show 10 - k = (9 - k) + 1 by omega]
          unfold vb
          rw [if_pos hlt]
        rw [hv]
        rfl
      · have hx := byte_add q
        have HX := Lib.hid hx
        clear hx
        go_wp2_with (at_builtin; refine wpList_app _ rfl _ _ _ rfl w.heap.size 5 i0 _ 1 1 Try.underlying32 hi0 hz0 hz1 hz2 rfl (by omega) (.slice A' L.length c') L.length (bytesV L) rfl (O.out.alloc _) (some ⟨wr.heap.size, 0, none⟩) 1 1 [.int .u8 ((q : Int) % 128 + 128)] rfl (Rd.new wr #[.int .u8 ((q : Int) % 128 + 128)] 5) rfl (by simp [Value.oneCell']) (by omega) (by unfold maxLen; omega) (by simp; omega) ?_; intro A2 c2 w2 hle2 hown2 hg2 _)
        go_roundw
        case rel =>
          have hk8 : k < 9 := by
            rcases Nat.lt_or_ge k 9 with h | h
            · exact h
            · have : k = 9 := by omega
              subst this
              have := HQ.out
              simp at this
              omega
          have hp : 2 ^ (64 - 7 * k) = 2 ^ (64 - 7 * (k + 1)) * 128 := by
            rw [show (128 : Nat) = 2 ^ 7 from rfl, ← Nat.pow_add]
            congr 1
            omega
          have hv : vb (10 - k) q = UInt8.ofNat (q % 128 + 128) :: vb (10 - (k + 1)) (q / 128) := by
            rw [show 10 - k = (10 - (k + 1)) + 1 by omega]
            conv => lhs; unfold vb
            rw [if_neg hlt]
          refine ⟨k + 1, q / 128, A2, c2, L ++ [UInt8.ofNat (q % 128 + 128)], by go_num, by simp, by omega, ?_, Lib.hid (by rw [hL.out, hv]; simp), by simpa using hle2, by simp; exact HLk.out, ?_, (B.out.alloc hbs _).grown hg2 (by simp; omega) (fun g hg => (O.out.lt g hg).1)⟩
          · have := HQ.out
            rw [hp] at this
            exact Nat.div_lt_of_lt_mul (by rw [Nat.mul_comm]; exact this)
          · rw [HX.out] at hown2
            simpa [bytesV] using hown2
        case measure => simp [intOf]; omega
set_option maxHeartbeats 400000 in
theorem refsum_any (s : ByteArray) (w : World) (hs : s.size ≤ maxLen) :
    Calls Try.prog 47 #[.string s] w fun e w' => e = .returned (.int .u32 (fnv s.data.toList)) ∧ w = w' := by
  unfold maxLen at hs
  go_enter Try.func47, Try.ntmps47
  go_wp2
  go_loop [3, 4] (fun h i => ∃ k : Nat, k ≤ s.size ∧ i = .int .i64 k ∧ h = .int .u32 (fnv (s.data.toList.take k))) (fun _ i => s.size - (intOf i).toNat)
  case atStart => exact ⟨0, Nat.zero_le _, rfl, rfl⟩
  case round =>
    obtain ⟨k, hk, rfl, rfl⟩ := hrel
    by_cases hlt : k < s.size
    · have hts := take_snoc' s k hlt
      have hf := fnv_append (s.data.toList.take k) s[k]
      have hl := fnv_lt (s.data.toList.take k)
      have hc := fstep_core _ s[k] hl
      rw [← hf, ← hts] at hc
      have HC := Lib.hid hc
      clear hts hf hc
      generalize fnv (s.data.toList.take k) = q at *
      go_wp2
      go_round
      case rel => exact ⟨k + 1, by omega, by go_num, by rw [HC.out]⟩
      case measure => simp [intOf]; omega
    · go_wp2
      go_ret
      have hk2 : s.data.toList.take k = s.data.toList := List.take_of_length_le (by simp; show s.size ≤ k; omega)
      rw [hk2]
      exact ⟨rfl, rfl⟩
set_option maxRecDepth 100000 in
set_option maxHeartbeats 800000 in
theorem sumtext_any (s : ByteArray) (w : World) (hs : s.size ≤ maxLen) :
    Calls Try.prog 20 #[.string s] w fun e w' => e = .returned (.string ⟨(fourB (fnv s.data.toList)).toArray⟩) ∧ Below w.heap.size w w' := by
  have hh := fnv_lt s.data.toList
  have HS := Lib.hid (refsum_any s w hs)
  generalize fnv s.data.toList = h at *
  have hrd := Rd.new w #[.int .u8 ((h : Int) / 16777216), .int .u8 ((h : Int) / 65536 % 256), .int .u8 ((h : Int) / 256 % 256), .int .u8 ((h : Int) % 256)] 5
  rw [four_cells h hh] at hrd
  have hconv := rd_string (P := Try.prog) (n := 4) (c := 4) Try.underlying32 Try.underlying5 Try.underlying9 hrd rfl
  clear hrd
  go_enter Try.func20, Try.ntmps20
  go_wp2_with fail
  refine HS.out.mono ?_
  rintro e w1 ⟨rfl, rfl⟩
  go_wp2_with fail
  go_ret
  exact ⟨rfl, (Below.refl _ _).alloc (Nat.le_refl _) _⟩
set_option maxHeartbeats 800000 in
theorem textbytes_any (s : ByteArray) (w : World) (hs : s.size ≤ 1000000000000) :
    Calls Try.prog 55 #[.string s] w fun e w' => e = .returned (.string ⟨(txt s.data.toList).toArray⟩) ∧ Below w.heap.size w w' := by
  have HN := Lib.hid (fun W => refnum_any (s.size : Int) W (by omega) (by omega))
  go_enter Try.func55, Try.ntmps55
  have hn := numB_le s.size
  have hz : (⟨(numB s.size).toArray⟩ : ByteArray).size ≤ 10 := hn
  clear hn
  go_wp2_with fail
  refine (HN.out _).mono ?_
  rintro e w1 ⟨rfl, hb⟩
  have B1 := Lib.hid hb
  clear hb
  have hv : (⟨(numB s.size).toArray⟩ : ByteArray) ++ s = ⟨(txt s.data.toList).toArray⟩ := by
    conv => lhs; rw [ba_mk s]
    rw [ba_app', ba_size]
    rfl
  have HV := Lib.hid hv
  clear hv
  go_wp2_with fail
  go_ret
  exact ⟨by rw [HV.out]; rfl, B1.out⟩
theorem intbytes_any (n : Int) (w : World) (h1 : -9223372036854775808 ≤ n) (h2 : n ≤ 9223372036854775807) :
    Calls Try.prog 54 #[.int .i64 n] w fun e w' => e = .returned (.string ⟨(numB n).toArray⟩) ∧ Below w.heap.size w w' := by
  have HN := Lib.hid (fun W => refnum_any n W h1 h2)
  clear h1 h2
  go_enter Try.func54, Try.ntmps54
  go_wp2_with fail
  refine (HN.out _).mono ?_
  rintro e w1 ⟨rfl, hb⟩
  have B1 := Lib.hid hb
  clear hb
  go_wp2_with fail
  go_ret
  exact ⟨rfl, B1.out⟩
end Go.Proofs.Ytfaophiaiflecaa
