/- Contracts: the writer of the package object. -/
import Derived.Test.YthepacphphiijaaWriter
import Derived.Deep.RegionLaw
namespace Go.Proofs.Ythepacphphiijaa
open Go.RowKit Go.Lib

theorem OwnG.ne {w : World} {base : Nat} {e t : TypeId} {A : Option Addr} {n c g : Nat} {xs : List Value} {cs : Array Value} (h : OwnG w base e A n c xs) (hb : Blk w g cs t) (he : e ≠ t) : (Value.slice A n c).ownBlock ≠ some g := by
  intro hg
  unfold Blk at hb
  rcases h with h | ⟨k, cur, fz, rfl, _, _, hh, _⟩
  · rcases h.2 with ⟨hv, _⟩ | ⟨k, cap, cur, hv, _, hh, _⟩
    · rw [hv] at hg; cases hg
    · rw [hv] at hg
      simp [Value.ownBlock] at hg
      subst hg
      rw [hb] at hh
      injection hh with hh
      injection hh with _ hh
      exact he hh.symm
  · simp [Value.ownBlock] at hg
    subst hg
    rw [hb] at hh
    injection hh with hh
    injection hh with _ hh
    exact he hh.symm
theorem OwnG.far {w : World} {base : Nat} {e : TypeId} {A : Option Addr} {n c : Nat} {xs : List Value} (h : OwnG w base e A n c xs) {p : Addr} (hp : (Value.slice A n c).ownBlock ≠ some p.block) (u : Value) : OwnG (w.setCell p u) base e A n c xs :=
  h.keep fun g _ hg => Below.heap_setCell w p u g (fun e => hp (by rw [hg, e]))
theorem numB_len (n : Int) : 1 ≤ (numB n).length ∧ (numB n).length ≤ 10 := by
  unfold numB
  exact ⟨vb_pos 9 _, vb_len 10 _⟩
set_option maxRecDepth 100000 in
theorem wnumber_any (w : World) (base g : Nat) (A : Option Addr) (c : Nat) (L : List UInt8) (x : Int) (hbase : base ≤ w.heap.size) (hg : base ≤ g) (hblk : Blk w g #[.slice A L.length c] 67)
    (hown : OwnG w base 5 A L.length c (bytesV L)) (hL : L.length ≤ 70000000000000) (h1 : -9223372036854775808 ≤ x) (h2 : x ≤ 9223372036854775807) :
    Calls Try.prog 56 #[.pointer (some ⟨g, 0, none⟩), .int .i64 x] w fun e w' => e = .returned (.tuple #[]) ∧ Below base w w' ∧ ∃ A' c', Blk w' g #[.slice A' (L ++ numB x).length c'] 67 ∧
      OwnG w' base 5 A' (L ++ numB x).length c' (bytesV (L ++ numB x)) := by
  obtain ⟨i0, hi0, hz0, hz1, hz2⟩ := info_parts infoByte
  go_enter Try.func56, Try.ntmps56
  obtain ⟨hN1, hN2⟩ := numB_len x
  have hne := hown.ne hblk (by decide)
  have HN1 : Hid (0 < (⟨(numB x).toArray⟩ : ByteArray).size) := Lib.hid hN1
  have HN3 : Hid (L.length + (⟨(numB x).toArray⟩ : ByteArray).size ≤ 140737488355328) := Lib.hid (show L.length + (numB x).length ≤ 140737488355328 by omega)
  clear hN1 hN2 hL
  have HN := Lib.hid (fun W => number_any x W h1 h2)
  have HO := Lib.hid hown
  have HB := Lib.hid hblk
  obtain ⟨x0, fx0⟩ := blk1 hblk
  have hlt := hblk.lt
  clear hblk hown h1 h2
  go_wp2_with fail
  go_region_law (first
    | (refine step_app_str _ (by rfl) _ _ _ _ (by rfl) base 5 i0 Try.underlying34 Try.underlying9 hi0 hz0 hz1 hz2 A L.length c (bytesV L) (by rfl) HO1.out _ (by rfl) HN1.out HN3.out (by exact hbz) ?_; intro A2 c2 w2 hle2 hown2 hg2; obtain ⟨z0, fz0⟩ := blk1 ((HB.out.belowS hb1).grown hg2 (fun e => hne e.symm)))
    | (go_simp; go_at_call 7; refine (HN.out _).mono ?_; rintro e w1 ⟨rfl, hb1'⟩; have hb1 := below_of_drew hb1'; have HO1 := Lib.hid (HO.out.below hb1); have hbz := Nat.le_trans hbase hb1.size; obtain ⟨y0, fy0⟩ := blk1 (HB.out.belowS hb1); go_simp))
  all_goals
    go_wp2_with fail
    go_end0
    have hsz : L.length + (⟨(numB x).toArray⟩ : ByteArray).size = (L ++ numB x).length := by rw [List.length_append]; rfl
    have hval : bytesV L ++ strCells ⟨(numB x).toArray⟩ = bytesV (L ++ numB x) := by rw [strCells_bytes]; simp [bytesV]
    have hB2 := (HB.out.belowS hb1).grown hg2 (fun e => hne e.symm)
    rw [hsz, hval] at hown2
    have hO2 : OwnG w2 base 5 A2 (L ++ numB x).length c2 (bytesV (L ++ numB x)) := .inl hown2
    have hs : L.length + (numB x).length = (L ++ numB x).length := by rw [List.length_append]
    rw [hs]
    refine ⟨rfl, ?_, A2, c2, ?_, ?_⟩
    · exact ((hb1.mono hbase).grown hg2 (Nat.le_trans hbase hb1.size) (fun k hk => (HO.out.lt k hk).1)).setCell hg _
    · exact hB2.set_ 0 _
    · exact hO2.far (p := ⟨g, 0, none⟩) (hO2.ne hB2 (by decide)) _
end Go.Proofs.Ythepacphphiijaa
