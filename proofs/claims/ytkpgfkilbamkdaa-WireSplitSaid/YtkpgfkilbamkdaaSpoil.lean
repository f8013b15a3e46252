/- Contracts: wire.Spoil, reparteeref36.SpoilWire. -/
import Derived.Test.YtkpgfkilbamkdaaWireRef
import Derived.Laws.IdiomStrings
import Derived.Laws.BytesArg
namespace Go.Proofs.Ytkpgfkilbamkdaa
open Go.RowKit

theorem bytesRow_at (s : ByteArray) (c j : Nat) (h : j < s.size) : (bytesRow s c)[j]? = some (.int .u8 (s[j].toNat : Int)) := by
  have h' : j < s.data.size := h
  unfold bytesRow
  rw [Array.getElem?_append_left (by simpa using h)]
  rw [Array.getElem?_map, Array.getElem?_eq_getElem h']
  rfl
theorem bytesRow_size (s : ByteArray) (c : Nat) : s.size ≤ (bytesRow s c).size := by unfold bytesRow; simp

theorem toList_ne_nil (s : ByteArray) (h : 0 < s.size) : (s.toList == []) = false := by
  rw [ByteArray.toList_eq]
  have : 0 < s.data.toList.length := by rw [Array.length_toList]; exact h
  cases hq : s.data.toList with
  | nil => rw [hq] at this; simp at this
  | cons a t => rfl
theorem toList_nil (s : ByteArray) (h : s.size = 0) : (s.toList == []) = true := by
  rw [ByteArray.toList_eq]
  have : s.data.toList.length = 0 := by rw [Array.length_toList]; exact h
  rw [List.eq_nil_of_length_eq_zero this]
  rfl
/-- The number of the bit that is turned. -/
def bitNo (bit : Int) (n : Nat) : Nat := ((bit % 18446744073709551616) % (8 * n : Nat)).toNat
theorem bitNo_lt (bit : Int) (n : Nat) (h : 0 < n) : bitNo bit n < 8 * n := by
  unfold bitNo
  have := Int.emod_lt_of_pos (bit % 18446744073709551616) (show (0 : Int) < ((8 * n : Nat) : Int) by omega)
  omega

theorem conv_any {P : Program} (w : World) (src dst e : TypeId) (s : ByteArray) (hs : P.underlying src = some .string) (hd : P.underlying dst = some (.slice e)) (he : P.underlying e = some (.int .u8)) :
    ∃ (cp n : Nat) (BR : Array Value), s.size ≤ cp ∧ s.size ≤ n ∧ s.size ≤ BR.size ∧ (∀ j (h : j < s.size), BR[j]? = some (.int .u8 (s[j].toNat : Int))) ∧
      (convert src dst (.string s)).run P w = .ok (.slice (some ⟨w.heap.size, 0, none⟩) s.size cp) (w.drew.alloc (.cells BR e (n, n + 1))) :=
  ⟨_, _, _, grownCap_ge w s.size 0 e, bytesRow_size s _, bytesRow_size s _, fun j h => bytesRow_at s _ j h, run_bytes_of_string w src dst e s hs hd he⟩
theorem mark_cell (w : World) (BR : Array Value) (e n j : Nat) : (w.alloc (.cells BR e (n, n + 1))).cell? ⟨w.heap.size, j, none⟩ = BR[j]? := by
  unfold World.cell?
  rw [show (w.alloc (.cells BR e (n, n + 1))).heap[(⟨w.heap.size, j, none⟩ : Addr).block]? = _ from heap_alloc_new w _]
  simp
theorem mark_frozen (w : World) (BR : Array Value) (e n j : Nat) (h : j < n) : (w.alloc (.cells BR e (n, n + 1))).frozen? ⟨w.heap.size, j, none⟩ = false := by
  unfold World.frozen?
  rw [show (w.alloc (.cells BR e (n, n + 1))).heap[(⟨w.heap.size, j, none⟩ : Addr).block]? = _ from heap_alloc_new w _]
  simp
  omega
theorem bit_core (bit : Int) (n : Nat) : (IntKind.u64.wrap bit).tmod (8 * (n : Int)) = (bitNo bit n : Int) := by
  have hx : IntKind.u64.wrap bit = bit % 18446744073709551616 := by simp [IntKind.wrap_u64]
  rw [hx, Int.tmod_eq_emod_of_nonneg (by omega)]
  unfold bitNo
  rcases Nat.eq_zero_or_pos n with rfl | hn
  · simp; omega
  · have := Int.emod_nonneg (bit % 18446744073709551616) (show ((8 * n : Nat) : Int) ≠ 0 by omega)
    rw [Int.toNat_of_nonneg this]
    push_cast
    rfl
/-- The string with one bit turned. -/
def flipAt (s : ByteArray) (K : Nat) : ByteArray := ⟨s.data.modify (K / 8) (fun b => b ^^^ UInt8.ofNat (2 ^ (K % 8)))⟩
theorem flipAt_size (s : ByteArray) (K : Nat) : (flipAt s K).size = s.size := by
  show (s.data.modify _ _).size = s.data.size
  simp
theorem pow_lt (j : Nat) (h : j < 8) : 2 ^ j < 256 := Nat.lt_of_lt_of_le (Nat.pow_lt_pow_right (by omega) h) (by decide)
theorem flip_byte (x : UInt8) (K : Nat) : bits .xor .u8 (x.toNat : Int) (2 ^ (K % 8) % 256) = ((x ^^^ UInt8.ofNat (2 ^ (K % 8))).toNat : Int) := by
  have hp := pow_lt (K % 8) (by omega)
  have hx : x.toNat < 256 := x.toNat_lt
  have e : (2 ^ (K % 8) % 256 : Int) = ((2 ^ (K % 8) : Nat) : Int) := by
    have h1 : (2 : Int) ^ (K % 8) = ((2 ^ (K % 8) : Nat) : Int) := (Int.natCast_pow 2 (K % 8)).symm
    rw [h1]
    generalize 2 ^ (K % 8) = p at hp
    exact Int.emod_eq_of_lt (by omega) (by omega)
  rw [e, u8_xor_nat _ _ hx hp, UInt8.toNat_xor, UInt8.toNat_ofNat', Nat.mod_eq_of_lt hp]
theorem addr_add (b j : Nat) : (⟨b, 0, none⟩ : Addr).add j = ⟨b, j, none⟩ := by
  unfold Addr.add
  split <;> simp_all
theorem flip_cells (w : World) (BR : Array Value) (e n K : Nat) (s : ByteArray) (hBR : ∀ j (h : j < s.size), BR[j]? = some (.int .u8 (s[j].toNat : Int))) (hq : K / 8 < s.size) (x : Int) (hx : x = ((s[K / 8] ^^^ UInt8.ofNat (2 ^ (K % 8))).toNat : Int)) :
    ∀ j (hj : j < (flipAt s K).data.toList.length), ((w.alloc (.cells BR e (n, n + 1))).setCell ⟨w.heap.size, K / 8, none⟩ (.int .u8 x)).cell? ((⟨w.heap.size, 0, none⟩ : Addr).add j) = some (.int .u8 ((flipAt s K).data.toList[j].toNat : Int)) := by
  intro j hj
  have hj' : j < s.size := by rw [Array.length_toList] at hj; exact (flipAt_size s K) ▸ hj
  rw [addr_add]
  by_cases hjk : j = K / 8
  · subst hjk
    rw [World.cell?_setCell_same _ _ _ ((mark_cell w BR e n _).trans (hBR _ hq)), hx]
    simp [flipAt]
    rfl
  · rw [World.cell?_setCell_other _ _ _ _ (by intro h; injection h with h1 h2; exact hjk h2.symm), mark_cell, hBR _ hj']
    have : (flipAt s K).data.toList[j] = s[j] := by
      simp [flipAt, Ne.symm hjk]
      rfl
    rw [this]
theorem flip_back {P : Program} (W : World) (src e dst : TypeId) (a : Addr) (cap K : Nat) (s : ByteArray) (hs : P.underlying src = some (.slice e)) (he : P.underlying e = some (.int .u8)) (hd : P.underlying dst = some .string)
    (hc : ∀ j (hj : j < (flipAt s K).data.toList.length), W.cell? (a.add j) = some (.int .u8 ((flipAt s K).data.toList[j].toNat : Int))) :
    (convert src dst (.slice (some a) s.size cap)).run P W = .ok (.string (flipAt s K)) W := by
  have h := run_convert_bytes_back (P := P) W src dst e a cap (flipAt s K).data.toList hs he hd hc
  have hl : (flipAt s K).data.toList.length = s.size := by rw [Array.length_toList]; exact flipAt_size s K
  rw [hl] at h
  exact h

theorem join_flip (b off k c : Nat) (l : List ByteArray) (s : ByteArray) (W : World) (t u : TypeId) (h : Strs W (some ⟨b, off, none⟩) l) (hc : l.length ≤ c) (hkl : k < l.length) (hn : l.length * 16 ≤ 140737488355312) :
    Calls Try.prog 21 #[.slice (some ⟨W.heap.size + 1, 0, none⟩) 3 3] (((W.alloc (.cells #[.string s] t)).alloc (.cells #[.slice (some ⟨b, off, none⟩) k c, .slice (some ⟨W.heap.size, 0, none⟩) 1 1, .slice (cutA (some ⟨b, off, none⟩) c (k + 1)) (l.length - (k + 1)) (c - (k + 1))] u))).drew
      fun e w' => ∃ A' L' c', e = .returned (.slice A' L'.length c') ∧ Hid (L' = l.take k ++ s :: l.drop (k + 1)) ∧ L'.length ≤ c' ∧ Strs w' A' L' ∧ Below W.heap.size W w' := by
  have hh := Rd.new (W.alloc (.cells #[.string s] t)) #[.slice (some ⟨b, off, none⟩) k c, .slice (some ⟨W.heap.size, 0, none⟩) 1 1, .slice (cutA (some ⟨b, off, none⟩) c (k + 1)) (l.length - (k + 1)) (c - (k + 1))] u
  rw [World.size_alloc] at hh
  have e : [(some ⟨b, off, none⟩, l.take k, c), (some ⟨W.heap.size, 0, none⟩, [s], 1), (cutA (some ⟨b, off, none⟩) c (k + 1), l.drop (k + 1), c - (k + 1))].map pv =
      [.slice (some ⟨b, off, none⟩) k c, .slice (some ⟨W.heap.size, 0, none⟩) 1 1, .slice (cutA (some ⟨b, off, none⟩) c (k + 1)) (l.length - (k + 1)) (c - (k + 1))] := by
    simp [pv, Nat.min_eq_left (show k ≤ l.length by omega)]
  have h1 : Strs (W.alloc (.cells #[.string s] t)) (some ⟨W.heap.size, 0, none⟩) [s] := strs_one W t s
  have hj := join_is (some ⟨W.heap.size + 1, 0, none⟩) [(some ⟨b, off, none⟩, l.take k, c), (some ⟨W.heap.size, 0, none⟩, [s], 1), (cutA (some ⟨b, off, none⟩) c (k + 1), l.drop (k + 1), c - (k + 1))] 3 3 (l.take k ++ s :: l.drop (k + 1))
    (((W.alloc (.cells #[.string s] t)).alloc (.cells #[.slice (some ⟨b, off, none⟩) k c, .slice (some ⟨W.heap.size, 0, none⟩) 1 1, .slice (cutA (some ⟨b, off, none⟩) c (k + 1)) (l.length - (k + 1)) (c - (k + 1))] u))).drew
    (by rw [e]; exact hh.drew) (by simp; exact ⟨((h.take k).alloc _).alloc _, h1.alloc _, ((h.cut (k + 1) hc).alloc _).alloc _⟩) (by simp [joined]) rfl (by simp; omega) (by simp)
  exact hj.mono fun e w' ⟨A', L', c', he, hL, hle, hs, hb⟩ => ⟨A', L', c', he, hL, hle, hs, below_of_alloc (below_of_alloc (below_of_drew hb))⟩

set_option maxHeartbeats 400000 in
theorem spoil_hit (l : List ByteArray) (c b off k : Nat) (bit : Int) (w : World) (h : Strs w (some ⟨b, off, none⟩) l) (hc : l.length ≤ c) (hn : l.length * 16 ≤ 140737488355312) (hkl : k < l.length)
    (hs0 : 0 < l[k].size) (hs1 : l[k].size ≤ 1000) (hck : w.cell? ⟨b, off + k, none⟩ = some (.string l[k])) :
    Calls Try.prog 13 #[.slice (some ⟨b, off, none⟩) l.length c, .int .i64 k, .int .i64 bit] w (Out2 w (l.take k ++ flipAt l[k] (bitNo bit l[k].size) :: l.drop (k + 1), true)) := by
  have hb : (decide (0 ≤ (k : Int)) && decide ((k : Int) < ↑l.length)) = true := by simp; omega
  generalize hsv : l[k] = s at *
  obtain ⟨cp, n, BR, hcp, hnn, hBRs, hBR, hconv⟩ := conv_any (P := Try.prog) w 9 42 5 s Try.underlying9 Try.underlying42 Try.underlying5
  have hne := toList_ne_nil s hs0
  have hK := bitNo_lt bit s.size hs0
  have hbc := bit_core bit s.size
  generalize hKv : bitNo bit s.size = K at *
  have hq : K / 8 < s.size := by omega
  have hq' : (K : Int) / 8 < (s.size : Int) := by omega
  have hcell := (mark_cell w BR 5 n (K / 8)).trans (hBR _ hq)
  have hfro := mark_frozen w BR 5 n (K / 8) (by omega)
  have HB := Lib.hid hBR
  have HKv := Lib.hid hKv
  have HS := Lib.hid hsv
  clear hBR hKv hsv
  go_enter Try.func13, Try.ntmps13
  go_wp2_with fail
  refine (has_any _ _ _ _ _).mono ?_
  rintro e w' ⟨rfl, rfl⟩
  rw [hb]
  go_wp2_with fail
  generalize hW : ((w.alloc (.cells BR 5 (n, n + 1))).setCell ⟨w.heap.size, K / 8, none⟩ (.int .u8 (bits BinOp.xor IntKind.u8 (↑s[K / 8].toNat) (2 ^ (K % 8) % 256)))).drew = W1
  have hflip : ∀ j (hj : j < (flipAt s K).data.toList.length), W1.cell? ((⟨w.heap.size, 0, none⟩ : Addr).add j) = some (.int .u8 ((flipAt s K).data.toList[j].toNat : Int)) := by
    rw [← hW]
    exact flip_cells w BR 5 n K s HB.out hq _ (flip_byte _ K)
  have hold : Below w.heap.size w W1 := by
    rw [← hW]
    exact (((Below.refl _ _).alloc (Nat.le_refl _) _).setCell (by simp) _).drew
  have hsize : W1.heap.size = w.heap.size + 1 := by rw [← hW]; simp
  clear hW
  have HZ := Lib.hid hsize
  clear hsize hconv hcell hfro hbc hb hBRs hck
  have hk0' : (0 : Int) ≤ (k : Int) := by omega
  have hkc : k ≤ c := by omega
  have hkc1 : k + 1 ≤ l.length := by omega
  have e1 : IntKind.i64.wrap ((k : Int) + 1) = (k : Int) + 1 := IntWalk.i64_in _ (by omega)
  have e2 : ((k : Int) + 1).toNat = k + 1 := by omega
  obtain ⟨i0, hi0, hz0, hz1, hz2⟩ := info_parts infoStr
  have hcut := fun W => run_cut (P := Try.prog) 22 9 i0 Try.underlying22 hi0 hz1 (some ⟨b, off, none⟩) l.length c (k + 1) ((k : Int) + 1) (by omega) hkc1 W
  have hback := flip_back (P := Try.prog) W1.drew 42 5 9 ⟨w.heap.size, 0, none⟩ cp K s Try.underlying42 Try.underlying5 Try.underlying9 hflip
  have hj := join_flip b off k c l (flipAt s K) W1 9 22 (h.below hold) hc hkl hn
  have HJ := Lib.hid hj
  clear hj hflip
  go_region_with (go_at_call 21; refine HJ.out.mono ?_; rintro e w1 ⟨A1, L1, c1, rfl, hL, hle, hs, hb⟩)
  all_goals
    go_wp2
    go_ret2
    exact ⟨A1, L1, c1, rfl, hL, hle, hs, below_next hold hb⟩

def spoilF (l : List ByteArray) (k bit : Int) : List ByteArray × Bool :=
  if 0 ≤ k ∧ k < l.length ∧ 0 < (l.getD k.toNat ⟨#[]⟩).size then (l.take k.toNat ++ flipAt (l.getD k.toNat ⟨#[]⟩) (bitNo bit (l.getD k.toNat ⟨#[]⟩).size) :: l.drop (k.toNat + 1), true) else (l, false)
theorem spoil_miss (A : Option Addr) (l : List ByteArray) (c : Nat) (k bit : Int) (w : World) (h : Strs w A l) (hn : l.length * 16 ≤ 140737488355312)
    (hk : ¬ (0 ≤ k ∧ k < l.length ∧ 0 < (l.getD k.toNat ⟨#[]⟩).size)) :
    Calls Try.prog 13 #[.slice A l.length c, .int .i64 k, .int .i64 bit] w (Out2 w (l, false)) := by
  obtain ⟨hq1, hq2⟩ := strs_parts1 w A l c 22 h
  have HJ := Lib.hid (join_is _ _ 1 1 l _ hq1 hq2 (by simp [joined]) rfl (by omega) (by simp))
  clear hq1 hq2
  by_cases hin : 0 ≤ k ∧ k < l.length
  · obtain ⟨hk0, hk1⟩ := hin
    obtain ⟨k, rfl⟩ := Int.eq_ofNat_of_zero_le hk0
    have hkl : k < l.length := by omega
    obtain ⟨b, off, rfl, _, hcs⟩ := h.at_ (i := k) hkl
    have hck := hcs k hkl
    have hb : (decide (0 ≤ (k : Int)) && decide ((k : Int) < ↑l.length)) = true := by simp; omega
    have hs0 : l[k].size = 0 := by
      have : ¬ 0 < (l.getD k ⟨#[]⟩).size := fun hp => hk ⟨hk0, hk1, by simpa using hp⟩
      simp [hkl] at this
      rw [this]
      rfl
    have hne := toList_nil _ hs0
    clear hcs hk
    go_enter Try.func13, Try.ntmps13
    go_wp2_with fail
    refine (has_any _ _ _ _ _).mono ?_
    rintro e w' ⟨rfl, rfl⟩
    rw [hb]
    go_wp2_with fail
    refine HJ.out.mono ?_
    rintro e w1 ⟨A1, L1, c1, rfl, hL, hle, hs, hb⟩
    go_wp2
    go_ret2
    exact ⟨A1, L1, c1, rfl, hL, hle, hs, below_of_alloc hb⟩
  · have hb : (decide (0 ≤ k) && decide (k < ↑l.length)) = false := by rw [← Bool.decide_and]; exact decide_eq_false hin
    go_enter Try.func13, Try.ntmps13
    go_wp2_with fail
    refine (has_any _ _ _ _ _).mono ?_
    rintro e w' ⟨rfl, rfl⟩
    rw [hb]
    go_wp2_with fail
    refine HJ.out.mono ?_
    rintro e w1 ⟨A1, L1, c1, rfl, hL, hle, hs, hb⟩
    go_wp2
    go_ret2
    exact ⟨A1, L1, c1, rfl, hL, hle, hs, below_of_alloc hb⟩
theorem spoil_any (A : Option Addr) (l : List ByteArray) (c : Nat) (k bit : Int) (w : World) (h : Strs w A l) (hc : l.length ≤ c) (hn : l.length * 16 ≤ 140737488355312) (hsz : ∀ s ∈ l, s.size ≤ 1000) :
    Calls Try.prog 13 #[.slice A l.length c, .int .i64 k, .int .i64 bit] w (Out2 w (spoilF l k bit)) := by
  by_cases hk : 0 ≤ k ∧ k < l.length ∧ 0 < (l.getD k.toNat ⟨#[]⟩).size
  · have hr : spoilF l k bit = (l.take k.toNat ++ flipAt (l.getD k.toNat ⟨#[]⟩) (bitNo bit (l.getD k.toNat ⟨#[]⟩).size) :: l.drop (k.toNat + 1), true) := by unfold spoilF; rw [if_pos hk]
    rw [hr]
    obtain ⟨hk0, hk1, hk2⟩ := hk
    obtain ⟨k, rfl⟩ := Int.eq_ofNat_of_zero_le hk0
    have hkl : k < l.length := by omega
    obtain ⟨b, off, rfl, _, hcs⟩ := h.at_ (i := k) hkl
    have e : l.getD (k : Int).toNat ⟨#[]⟩ = l[k] := by simp [hkl]
    rw [e] at hk2 ⊢
    exact spoil_hit l c b off k bit w h hc hn hkl hk2 (hsz _ (List.getElem_mem hkl)) (hcs k hkl)
  · have hr : spoilF l k bit = (l, false) := by unfold spoilF; rw [if_neg hk]
    rw [hr]
    exact spoil_miss A l c k bit w h hn hk
end Go.Proofs.Ytkpgfkilbamkdaa
