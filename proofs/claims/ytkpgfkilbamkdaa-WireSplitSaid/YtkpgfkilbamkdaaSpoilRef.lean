/- Contract: reparteeref36.SpoilWire. -/
import Derived.Test.YtkpgfkilbamkdaaSpoil
namespace Go.Proofs.Ytkpgfkilbamkdaa
open Go.RowKit

set_option maxHeartbeats 800000 in
theorem spoilR_hit (l : List ByteArray) (c b off k : Nat) (bit : Int) (w : World) (h : Strs w (some ⟨b, off, none⟩) l) (hn : l.length * 16 ≤ 140737488355312) (hkl : k < l.length) (hbw : b < w.heap.size)
    (hs0 : 0 < l[k].size) (hs1 : l[k].size ≤ 1000) (hck : w.cell? ⟨b, off + k, none⟩ = some (.string l[k])) :
    Calls Try.prog 17 #[.slice (some ⟨b, off, none⟩) l.length c, .int .i64 k, .int .i64 bit] w (Out2 w (l.set k (flipAt l[k] (bitNo bit l[k].size)), true)) := by
  generalize hsv : l[k] = s at *
  have hne := toList_ne_nil s hs0
  have hK := bitNo_lt bit s.size hs0
  have hbc := bit_core bit s.size
  generalize hKv : bitNo bit s.size = K at *
  have hq : K / 8 < s.size := by omega
  have hq' : (K : Int) / 8 < (s.size : Int) := by omega
  have HKv := Lib.hid hKv
  have HS := Lib.hid hsv
  clear hKv hsv
  go_enter Try.func17, Try.ntmps17
  go_wp2_with fail
  refine (texts_any _ _ _ _ h (by omega)).mono ?_
  rintro e w1 ⟨A1, c1, rfl, hle, hown, hb⟩
  have hck1 := (hb.cell (p := ⟨b, off + k, none⟩) hbw).trans hck
  obtain ⟨cp, n, BR, hcp, hnn, hBRs, hBR, hconv⟩ := conv_any (P := Try.prog) w1 9 42 5 s Try.underlying9 Try.underlying42 Try.underlying5
  have hcell := (mark_cell w1 BR 5 n (K / 8)).trans (hBR _ hq)
  have hfro := mark_frozen w1 BR 5 n (K / 8) (by omega)
  have HB := Lib.hid hBR
  clear hBR
  go_wp2_with fail
  go_region
  generalize hW : ((w1.alloc (.cells BR 5 (n, n + 1))).setCell ⟨w1.heap.size, K / 8, none⟩ (.int .u8 (bits BinOp.xor IntKind.u8 (↑s[K / 8].toNat) (2 ^ (K % 8) % 256)))).drew.drew = W2
  have hflip : ∀ j (hj : j < (flipAt s K).data.toList.length), W2.cell? ((⟨w1.heap.size, 0, none⟩ : Addr).add j) = some (.int .u8 ((flipAt s K).data.toList[j].toNat : Int)) := by
    rw [← hW]
    exact flip_cells w1 BR 5 n K s HB.out hq _ (flip_byte _ K)
  have hold : Below w1.heap.size w1 W2 := by
    rw [← hW]
    exact (((Below.refl _ _).alloc (Nat.le_refl _) _).setCell (by simp) _).drew.drew
  clear hW
  have hback := flip_back (P := Try.prog) W2 42 5 9 ⟨w1.heap.size, 0, none⟩ cp K s Try.underlying42 Try.underlying5 Try.underlying9 hflip
  have hown2 := own_below hown hold
  obtain ⟨g, cap, hA, hgb, hgs⟩ := World.ownsRow.form hown2 (by omega)
  injection hA with hA _ hcap
  subst hA hcap
  have hoc : W2.cell? ⟨g, k, none⟩ = some (.string l[k]) := by rw [hown2.cellAt k (by omega)]; simp [hkl]
  have hof := hown2.frozenAt k
  obtain ⟨hst1, hst2⟩ := hown2.stored k (.string (flipAt s K))
  have hbelow := below_next hb hold
  have H1 := Lib.hid hst1
  have H2 := Lib.hid hst2
  clear hconv hcell hfro hflip hbc hst1 hst2 hck hck1
  go_wp2_with fail
  go_ret2
  refine ⟨some ⟨g, 0, none⟩, l.set k (flipAt s K), c1, by simp, Lib.hid rfl, by simpa using hle, ?_, ?_⟩
  · have := own_rd H1.out
    unfold Strs
    rw [List.map_set]
    exact this
  · exact hbelow.setCell hgb _
theorem set_is (l : List ByteArray) (k : Nat) (s : ByteArray) (h : k < l.length) : l.set k s = l.take k ++ s :: l.drop (k + 1) := by
  rw [List.set_eq_take_append_cons_drop, if_pos h]
theorem spoilR_miss (A : Option Addr) (l : List ByteArray) (c : Nat) (k bit : Int) (w : World) (h : Strs w A l) (hn : l.length * 16 ≤ 140737488355312)
    (hk : ¬ (0 ≤ k ∧ k < l.length ∧ 0 < (l.getD k.toNat ⟨#[]⟩).size)) :
    Calls Try.prog 17 #[.slice A l.length c, .int .i64 k, .int .i64 bit] w (Out2 w (l, false)) := by
  by_cases hin : 0 ≤ k ∧ k < l.length
  · obtain ⟨hk0, hk1⟩ := hin
    obtain ⟨k, rfl⟩ := Int.eq_ofNat_of_zero_le hk0
    have hkl : k < l.length := by omega
    obtain ⟨b, off, rfl, _, hcs⟩ := h.at_ (i := k) hkl
    have hck := hcs k hkl
    have hs0 : l[k].size = 0 := by
      have : ¬ 0 < (l.getD k ⟨#[]⟩).size := fun hp => hk ⟨hk0, hk1, by simpa using hp⟩
      simp [hkl] at this
      rw [this]
      rfl
    have hne := toList_nil _ hs0
    clear hcs hk
    go_enter Try.func17, Try.ntmps17
    go_wp2_with fail
    refine (texts_any _ _ _ _ h (by omega)).mono ?_
    rintro e w1 ⟨A1, c1, rfl, hle, hown, hb⟩
    go_wp2
    go_ret2
    exact ⟨A1, l, c1, rfl, Lib.hid rfl, hle, own_rd hown, hb⟩
  · clear hk
    by_cases hk0 : k < 0
    all_goals
      go_enter Try.func17, Try.ntmps17
      go_wp2_with fail
      refine (texts_any _ _ _ _ h (by omega)).mono ?_
      rintro e w1 ⟨A1, c1, rfl, hle, hown, hb⟩
      go_wp2
      go_ret2
      exact ⟨A1, l, c1, rfl, Lib.hid rfl, hle, own_rd hown, hb⟩
theorem spoilR_any (A : Option Addr) (l : List ByteArray) (c : Nat) (k bit : Int) (w : World) (h : Strs w A l) (hn : l.length * 16 ≤ 140737488355312) (hsz : ∀ s ∈ l, s.size ≤ 1000) :
    Calls Try.prog 17 #[.slice A l.length c, .int .i64 k, .int .i64 bit] w (Out2 w (spoilF l k bit)) := by
  by_cases hk : 0 ≤ k ∧ k < l.length ∧ 0 < (l.getD k.toNat ⟨#[]⟩).size
  · have hr : spoilF l k bit = (l.take k.toNat ++ flipAt (l.getD k.toNat ⟨#[]⟩) (bitNo bit (l.getD k.toNat ⟨#[]⟩).size) :: l.drop (k.toNat + 1), true) := by unfold spoilF; rw [if_pos hk]
    rw [hr]
    obtain ⟨hk0, hk1, hk2⟩ := hk
    obtain ⟨k, rfl⟩ := Int.eq_ofNat_of_zero_le hk0
    have hkl : k < l.length := by omega
    obtain ⟨b, off, rfl, hbw, hcs⟩ := h.at_ (i := k) hkl
    have e : l.getD (k : Int).toNat ⟨#[]⟩ = l[k] := by simp [hkl]
    rw [e] at hk2 ⊢
    rw [Int.toNat_natCast, ← set_is l k _ hkl]
    exact spoilR_hit l c b off k bit w h hn hkl hbw hk2 (hsz _ (List.getElem_mem hkl)) (hcs k hkl)
  · have hr : spoilF l k bit = (l, false) := by unfold spoilF; rw [if_neg hk]
    rw [hr]
    exact spoilR_miss A l c k bit w h hn hk
end Go.Proofs.Ytkpgfkilbamkdaa
