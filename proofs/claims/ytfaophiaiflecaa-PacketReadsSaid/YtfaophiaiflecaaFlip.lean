/- Strings as bytes that are written, one bit of which is turned; no program in sight. -/
import Derived.Test.YtfaophiaiflecaaBase
import Derived.Laws.IdiomStrings
import Derived.Laws.BytesArg
import Derived.Laws.BitsAllLaws
namespace Go.Proofs.Ytfaophiaiflecaa
open Go.RowKit

theorem bytesRow_at (s : ByteArray) (c j : Nat) (h : j < s.size) : (bytesRow s c)[j]? = some (.int .u8 (s[j].toNat : Int)) := by
  have h' : j < s.data.size := h
  unfold bytesRow
  rw [Array.getElem?_append_left (by simpa using h)]
  rw [Array.getElem?_map, Array.getElem?_eq_getElem h']
  rfl
theorem bytesRow_size (s : ByteArray) (c : Nat) : s.size ≤ (bytesRow s c).size := by unfold bytesRow; simp

theorem toList_ne_nil (s : ByteArray) (h : 0 < s.size) : (s.toList == []) = false := by
  rw [ByteArray.toList_eq]
  have : 0 < s.data.toList.length := by rw [Array.length_toList]; exact h
  cases hq : s.data.toList with
  | nil => rw [hq] at this; simp at this
  | cons a t => rfl
theorem toList_nil (s : ByteArray) (h : s.size = 0) : (s.toList == []) = true := by
  rw [ByteArray.toList_eq]
  have : s.data.toList.length = 0 := by rw [Array.length_toList]; exact h
  rw [List.eq_nil_of_length_eq_zero this]
  rfl
/-- The number of the bit that is turned. -/
def bitNo (bit : Int) (n : Nat) : Nat := ((bit % 18446744073709551616) % (8 * n : Nat)).toNat
theorem bitNo_lt (bit : Int) (n : Nat) (h : 0 < n) : bitNo bit n < 8 * n := by
  unfold bitNo
  have := Int.emod_lt_of_pos (bit % 18446744073709551616) (show (0 : Int) < ((8 * n : Nat) : Int) by omega)
  omega

theorem conv_any {P : Program} (w : World) (src dst e : TypeId) (s : ByteArray) (hs : P.underlying src = some .string) (hd : P.underlying dst = some (.slice e)) (he : P.underlying e = some (.int .u8)) :
    ∃ (cp n : Nat) (BR : Array Value), s.size ≤ cp ∧ s.size ≤ n ∧ s.size ≤ BR.size ∧ (∀ j (h : j < s.size), BR[j]? = some (.int .u8 (s[j].toNat : Int))) ∧
      (convert src dst (.string s)).run P w = .ok (.slice (some ⟨w.heap.size, 0, none⟩) s.size cp) (w.drew.alloc (.cells BR e (n, n + 1))) :=
  ⟨_, _, _, grownCap_ge w s.size 0 e, bytesRow_size s _, bytesRow_size s _, fun j h => bytesRow_at s _ j h, run_bytes_of_string w src dst e s hs hd he⟩
theorem mark_cell (w : World) (BR : Array Value) (e n j : Nat) : (w.alloc (.cells BR e (n, n + 1))).cell? ⟨w.heap.size, j, none⟩ = BR[j]? := by
  unfold World.cell?
  rw [show (w.alloc (.cells BR e (n, n + 1))).heap[(⟨w.heap.size, j, none⟩ : Addr).block]? = _ from heap_alloc_new w _]
  simp
theorem mark_frozen (w : World) (BR : Array Value) (e n j : Nat) (h : j < n) : (w.alloc (.cells BR e (n, n + 1))).frozen? ⟨w.heap.size, j, none⟩ = false := by
  unfold World.frozen?
  rw [show (w.alloc (.cells BR e (n, n + 1))).heap[(⟨w.heap.size, j, none⟩ : Addr).block]? = _ from heap_alloc_new w _]
  simp
  omega
theorem bit_core (bit : Int) (n : Nat) : (IntKind.u64.wrap bit).tmod (8 * (n : Int)) = (bitNo bit n : Int) := by
  have hx : IntKind.u64.wrap bit = bit % 18446744073709551616 := by simp [IntKind.wrap_u64]
  rw [hx, Int.tmod_eq_emod_of_nonneg (by omega)]
  unfold bitNo
  rcases Nat.eq_zero_or_pos n with rfl | hn
  · simp; omega
  · have := Int.emod_nonneg (bit % 18446744073709551616) (show ((8 * n : Nat) : Int) ≠ 0 by omega)
    rw [Int.toNat_of_nonneg this]
    push_cast
    rfl
/-- The string with one bit turned. -/
def flipAt (s : ByteArray) (K : Nat) : ByteArray := ⟨s.data.modify (K / 8) (fun b => b ^^^ UInt8.ofNat (2 ^ (K % 8)))⟩
theorem flipAt_size (s : ByteArray) (K : Nat) : (flipAt s K).size = s.size := by
  show (s.data.modify _ _).size = s.data.size
  simp
theorem pow_lt (j : Nat) (h : j < 8) : 2 ^ j < 256 := Nat.lt_of_lt_of_le (Nat.pow_lt_pow_right (by omega) h) (by decide)
theorem flip_byte (x : UInt8) (K : Nat) : bits .xor .u8 (x.toNat : Int) (2 ^ (K % 8) % 256) = ((x ^^^ UInt8.ofNat (2 ^ (K % 8))).toNat : Int) := by
  have hp := pow_lt (K % 8) (by omega)
  have hx : x.toNat < 256 := x.toNat_lt
  have e : (2 ^ (K % 8) % 256 : Int) = ((2 ^ (K % 8) : Nat) : Int) := by
    have h1 : (2 : Int) ^ (K % 8) = ((2 ^ (K % 8) : Nat) : Int) := (Int.natCast_pow 2 (K % 8)).symm
    rw [h1]
    generalize 2 ^ (K % 8) = p at hp
    exact Int.emod_eq_of_lt (by omega) (by omega)
  rw [e, u8_xor_nat _ _ hx hp, UInt8.toNat_xor, UInt8.toNat_ofNat', Nat.mod_eq_of_lt hp]
theorem addr_add (b j : Nat) : (⟨b, 0, none⟩ : Addr).add j = ⟨b, j, none⟩ := by
  unfold Addr.add
  split <;> simp_all
theorem flip_cells (w : World) (BR : Array Value) (e n K : Nat) (s : ByteArray) (hBR : ∀ j (h : j < s.size), BR[j]? = some (.int .u8 (s[j].toNat : Int))) (hq : K / 8 < s.size) (x : Int) (hx : x = ((s[K / 8] ^^^ UInt8.ofNat (2 ^ (K % 8))).toNat : Int)) :
    ∀ j (hj : j < (flipAt s K).data.toList.length), ((w.alloc (.cells BR e (n, n + 1))).setCell ⟨w.heap.size, K / 8, none⟩ (.int .u8 x)).cell? ((⟨w.heap.size, 0, none⟩ : Addr).add j) = some (.int .u8 ((flipAt s K).data.toList[j].toNat : Int)) := by
  intro j hj
  have hj' : j < s.size := by rw [Array.length_toList] at hj; exact (flipAt_size s K) ▸ hj
  rw [addr_add]
  by_cases hjk : j = K / 8
  · subst hjk
    rw [World.cell?_setCell_same _ _ _ ((mark_cell w BR e n _).trans (hBR _ hq)), hx]
    simp [flipAt]
    rfl
  · rw [World.cell?_setCell_other _ _ _ _ (by intro h; injection h with h1 h2; exact hjk h2.symm), mark_cell, hBR _ hj']
    have : (flipAt s K).data.toList[j] = s[j] := by
      simp [flipAt, Ne.symm hjk]
      rfl
    rw [this]
theorem flip_back {P : Program} (W : World) (src e dst : TypeId) (a : Addr) (cap K : Nat) (s : ByteArray) (hs : P.underlying src = some (.slice e)) (he : P.underlying e = some (.int .u8)) (hd : P.underlying dst = some .string)
    (hc : ∀ j (hj : j < (flipAt s K).data.toList.length), W.cell? (a.add j) = some (.int .u8 ((flipAt s K).data.toList[j].toNat : Int))) :
    (convert src dst (.slice (some a) s.size cap)).run P W = .ok (.string (flipAt s K)) W := by
  have h := run_convert_bytes_back (P := P) W src dst e a cap (flipAt s K).data.toList hs he hd hc
  have hl : (flipAt s K).data.toList.length = s.size := by rw [Array.length_toList]; exact flipAt_size s K
  rw [hl] at h
  exact h
theorem flip_list (S : List UInt8) (K : Nat) (h : K / 8 < S.length) : (flipAt ⟨S.toArray⟩ K).data.toList = S.set (K / 8) (S[K / 8] ^^^ UInt8.ofNat (2 ^ (K % 8))) := by
  unfold flipAt
  simp only [Array.toList_modify]
  refine List.ext_getElem? fun i => ?_
  rw [List.getElem?_modify, List.getElem?_set]
  by_cases hi : K / 8 = i
  · subst hi; simp [h]
  · simp [hi]
theorem flip_ne (x : UInt8) (K : Nat) : x ≠ x ^^^ UInt8.ofNat (2 ^ (K % 8)) := by
  intro h
  have hp := pow_lt (K % 8) (by omega)
  have h1 := congrArg (x ^^^ ·) h
  have h2 : (0 : UInt8) = UInt8.ofNat (2 ^ (K % 8)) := by simpa [← UInt8.xor_assoc] using h1
  have h3 := congrArg UInt8.toNat h2
  rw [UInt8.toNat_ofNat', Nat.mod_eq_of_lt hp] at h3
  have := Nat.two_pow_pos (K % 8)
  simp at h3
  omega
end Go.Proofs.Ytfaophiaiflecaa
