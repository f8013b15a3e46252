/- Contracts: object.Sum, packet.sum. -/
import Derived.Test.YtfaophiaiflecaaNumRead
import Derived.Test.YtfaophiaiflecaaBlk
namespace Go.Proofs.Ytfaophiaiflecaa
open Go.RowKit

/-- One step of the sum, and the sum. -/
def fstep (h : Nat) (c : UInt8) : Nat := ((h ^^^ c.toNat) * 16777619) % 4294967296
def fnv (l : List UInt8) : Nat := l.foldl fstep 2166136261
theorem fstep_lt (h : Nat) (c : UInt8) : fstep h c < 4294967296 := by unfold fstep; omega
theorem fnv_append (l : List UInt8) (c : UInt8) : fnv (l ++ [c]) = fstep (fnv l) c := by unfold fnv; rw [List.foldl_append, List.foldl_cons, List.foldl_nil]
theorem fnv_lt (l : List UInt8) : fnv l < 4294967296 := by
  rcases List.eq_nil_or_concat l with rfl | ⟨m, c, rfl⟩
  · decide
  · rw [List.concat_eq_append, fnv_append]; exact fstep_lt _ _
theorem fstep_core (h : Nat) (c : UInt8) (hh : h < 4294967296) : bits BinOp.xor IntKind.u32 (h : Int) ((c.toNat : Int) % 4294967296) * 16777619 % 4294967296 = ((fstep h c : Nat) : Int) := by
  have hc : c.toNat < 256 := c.toNat_lt
  rw [show (c.toNat : Int) % 4294967296 = (c.toNat : Int) by omega, u32_xor_nat _ _ hh (by omega)]
  unfold fstep
  omega
/-- A number's four bytes, the highest first. -/
def fourB (h : Nat) : List UInt8 := [UInt8.ofNat (h / 16777216), UInt8.ofNat (h / 65536), UInt8.ofNat (h / 256), UInt8.ofNat h]
theorem take_snoc' (s : ByteArray) (k : Nat) (h : k < s.size) : s.data.toList.take (k + 1) = s.data.toList.take k ++ [s[k]] := by
  rw [List.take_succ_eq_append_getElem (by simpa using h)]; rfl
set_option maxHeartbeats 400000 in
theorem sum_any (s : ByteArray) (w : World) (hs : s.size ≤ maxLen) :
    Calls Try.prog 53 #[.string s] w fun e w' => e = .returned (.int .u32 (fnv s.data.toList)) ∧ w = w' := by
  unfold maxLen at hs
  go_enter Try.func53, Try.ntmps53
  go_wp2
  go_loop [3, 7] (fun h i => ∃ k : Nat, k ≤ s.size ∧ i = .int .i64 k ∧ h = .int .u32 (fnv (s.data.toList.take k))) (fun _ i => s.size - (intOf i).toNat)
  case atStart => exact ⟨0, Nat.zero_le _, rfl, rfl⟩
  case round =>
    obtain ⟨k, hk, rfl, rfl⟩ := hrel
    by_cases hlt : k < s.size
    · have hts := take_snoc' s k hlt
      have hf := fnv_append (s.data.toList.take k) s[k]
      have hl := fnv_lt (s.data.toList.take k)
      have hc := fstep_core _ s[k] hl
      rw [← hf, ← hts] at hc
      have HC := Lib.hid hc
      clear hts hf hc
      generalize fnv (s.data.toList.take k) = q at *
      go_wp2
      go_round
      case rel => exact ⟨k + 1, by omega, by go_num, by rw [HC.out]⟩
      case measure => simp [intOf]; omega
    · go_wp2
      go_ret
      have hk2 : s.data.toList.take k = s.data.toList := List.take_of_length_le (by simp; show s.size ≤ k; omega)
      rw [hk2]
      exact ⟨rfl, rfl⟩
theorem byte_core (h : Nat) : (h : Int) % 256 = ((UInt8.ofNat h).toNat : Int) := by
  rw [UInt8.toNat_ofNat']
  omega
theorem byte_top (h : Nat) (hh : h < 4294967296) : (h : Int) / 16777216 = ((UInt8.ofNat (h / 16777216)).toNat : Int) := by
  rw [UInt8.toNat_ofNat']
  omega
theorem four_cells (h : Nat) (hh : h < 4294967296) : (#[.int .u8 ((h : Int) / 16777216), .int .u8 ((h : Int) / 65536 % 256), .int .u8 ((h : Int) / 256 % 256), .int .u8 ((h : Int) % 256)] : Array Value).toList = bytesV (fourB h) := by
  have e1 := byte_core (h / 65536)
  have e2 := byte_core (h / 256)
  rw [Int.natCast_ediv] at e1 e2
  rw [byte_top h hh, byte_core h, show ((h : Int) / 65536) % 256 = _ from e1, show ((h : Int) / 256) % 256 = _ from e2]
  rfl
theorem ba_app (a b : ByteArray) : (a ++ b).data.toList = a.data.toList ++ b.data.toList := by rw [ByteArray.data_append, Array.toList_append]
theorem ba_mk (s : ByteArray) : s = ⟨s.data.toList.toArray⟩ := by cases s; simp
theorem ba_app' (a b : List UInt8) : (⟨a.toArray⟩ : ByteArray) ++ ⟨b.toArray⟩ = ⟨(a ++ b).toArray⟩ := by
  rw [ba_mk ((⟨a.toArray⟩ : ByteArray) ++ ⟨b.toArray⟩), ba_app]
theorem ba_size (s : ByteArray) : s.size = s.data.toList.length := by rw [Array.length_toList]; rfl
set_option maxRecDepth 100000 in
set_option maxHeartbeats 800000 in
theorem pksum_any (s : ByteArray) (w : World) (hs : s.size ≤ maxLen) :
    Calls Try.prog 26 #[.string s] w fun e w' => e = .returned (.string ⟨(fourB (fnv s.data.toList)).toArray⟩) ∧ Below w.heap.size w w' := by
  have hh := fnv_lt s.data.toList
  have HS := Lib.hid (sum_any s w hs)
  generalize fnv s.data.toList = h at *
  have hrd := Rd.new w #[.int .u8 ((h : Int) / 16777216), .int .u8 ((h : Int) / 65536 % 256), .int .u8 ((h : Int) / 256 % 256), .int .u8 ((h : Int) % 256)] 5
  rw [four_cells h hh] at hrd
  have hconv := rd_string (P := Try.prog) (n := 4) (c := 4) Try.underlying32 Try.underlying5 Try.underlying9 hrd rfl
  clear hrd
  go_enter Try.func26, Try.ntmps26
  go_wp2_with fail
  refine HS.out.mono ?_
  rintro e w1 ⟨rfl, rfl⟩
  go_wp2_with fail
  go_ret
  exact ⟨rfl, (Below.refl _ _).alloc (Nat.le_refl _) _⟩
end Go.Proofs.Ytfaophiaiflecaa
