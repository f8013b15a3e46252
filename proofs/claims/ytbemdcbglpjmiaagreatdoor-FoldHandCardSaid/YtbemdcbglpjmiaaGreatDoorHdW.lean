/- Walk: reparteelaw30.FoldHand. -/
import Derived.Test.YtbemdcbglpjmiaaGreatDoorHdR
import Derived.Test.YtbemdcbglpjmiaaGreatDoorBlk
import Derived.BigQuiet
import Derived.Deep.RegionHeld3
import Derived.Deep.DrawnRows
import Derived.Test.YtbemdcbglpjmiaaGreatDoorFqC
import Derived.Test.YtbemdcbglpjmiaaGreatDoorLow
namespace Go.Proofs.YtbemdcbglpjmiaaGreatDoor
open Go.RowKit
open Kv (Txt)

theorem hand_num (n : Int) : ∃ x : Nat, wrap64 ((IntKind.u64.wrap n).tmod 1000) = (x : Int) ∧ x < 1000 := by
  have h1 : IntKind.u64.wrap n = n % 18446744073709551616 := by simp [IntKind.wrap_u64]
  rw [h1, Int.tmod_eq_emod_of_nonneg (by omega)]
  refine ⟨(n % 18446744073709551616 % 1000).toNat, ?_, by omega⟩
  unfold wrap64
  omega
theorem dig_size {x : Nat} {t : ByteArray} (h : Ev.bytes t = Kv.digF x) : t.size ≤ 3 := by
  rw [← Ev.bytes_length, h]
  unfold Kv.digF
  repeat' split
  all_goals simp
set_option maxRecDepth 100000 in
set_option maxHeartbeats 8000000 in
theorem hand_walk (which n : Int) (w : World) :
    Calls Tryz.prog 5 #[.int .i64 which, .int .i64 n] w fun e w' => e = .returned (.bool true) ∧ Below w.heap.size w w' := by
  have CF := Lib.hid (fun W => Kv.first_any W)
  have CD := Lib.hid (fun x hx W => Kv.digits_any x hx W)
  go_enter Tryz.func5, Tryz.ntmps5
  go_wp2_with fail
  refine (CF.out _).mono ?_
  rintro e w1 ⟨rfl, hb⟩
  have HB1 := Lib.hid hb
  clear hb
  obtain ⟨x, hx, hx1⟩ := hand_num n
  go_wp2_with fail
  rw [hx]
  refine (CD.out x hx1 w1).mono ?_
  rintro e w2 ⟨⟨t, rfl, ht⟩, hb2⟩
  have HB2 := Lib.hid (below_next HB1.out hb2)
  obtain ⟨c, d, hc, htx⟩ := Kv.dig_txt x hx1
  have HTX := Lib.hid (htx t ht)
  have hsz : t.size ≤ 3 := dig_size ht
  have HC := Lib.hid hc
  clear hb2 htx ht hx hx1 hc
  go_wp2_with fail
  change Calls Tryz.prog 16 _ ((w2.alloc (.cells (Kv.inArr t) 9)).alloc (.cells (Kv.wantArr t) 9)) _
  have K1 := Lib.hid ((Blk.new w2 (Kv.inArr t) 9).alloc (.cells (Kv.wantArr t) 9))
  have K2 := Lib.hid (Blk.new (w2.alloc (.cells (Kv.inArr t) 9)) (Kv.wantArr t) 9)
  have HB3 : Hid (Below w.heap.size w ((w2.alloc (.cells (Kv.inArr t) 9)).alloc (.cells (Kv.wantArr t) 9))) := Lib.hid ((HB2.out.alloc HB2.out.size _).alloc (by have := HB2.out.size; simp; omega) _)
  have hz2 : (w2.alloc (.cells (Kv.inArr t) 9)).heap.size = w2.heap.size + 1 := by simp
  rw [hz2] at K2
  generalize (w2.alloc (.cells (Kv.inArr t) 9)).alloc (.cells (Kv.wantArr t) 9) = W3 at *
  clear hz2
  obtain ⟨k, hk, hlow⟩ : ∃ k : Nat, k < 9 ∧ lowF which 9 = (k : Int) := by
    have := lowF_lt which 9 (by decide)
    exact ⟨(lowF which 9).toNat, by omega, by omega⟩
  refine (low_any which 9 W3 (by decide)).mono ?_
  rintro e w3 ⟨rfl, rfl⟩
  rw [hlow]
  have c1 : W3.cell? ⟨w2.heap.size, k, none⟩ = some (.string (Kv.inS t k)) := (K1.out.cell k).trans (Kv.in_get t k hk)
  have c2 : W3.cell? ⟨w2.heap.size + 1, k, none⟩ = some (.string (Kv.wantS t k)) := (K2.out.cell k).trans (Kv.want_get t k hk)
  have l1 := K1.out.lt
  have l2 := K2.out.lt
  have HK := Lib.hid hk
  obtain ⟨X, Y, Z, R, hX, hY, hZ, hR, hRv⟩ := Kv.hand_four (Kv.hand_all c k HC.out hk)
  have HX := Lib.hid hX
  have HY := Lib.hid hY
  have HZ := Lib.hid hZ
  have HR := Lib.hid hR
  have HRV := Lib.hid hRv
  have VI := Lib.hid (Kv.in_vr HTX.out k hk)
  have VW := Lib.hid (Kv.want_vr HTX.out k hk)
  have C1 := Lib.hid (fun W => Kv.call_ev Tryz.func19 (by kernel_rfl) (by kernel_rfl) (vs := #[.string (Kv.inS t k)]) HX.out (Kv.rel_at W d) ⟨VI.out, trivial⟩)
  have C2 := Lib.hid (fun W0 m1 v1 W (hH : Ev.HR W0 m1 X.2 W) (hv : Ev.VR m1 X.1 v1) => Kv.call_ev Tryz.func18 (by kernel_rfl) (by kernel_rfl) (vs := #[v1]) HY.out hH ⟨hv, trivial⟩)
  have C3 := Lib.hid (fun W0 m2 W (hH : Ev.HR W0 m2 Y.2 W) (hv : Ev.VR m2 (.p (.c (Kv.wantC c k))) (.string (Kv.wantS t k))) => Kv.call_ev Tryz.func19 (by kernel_rfl) (by kernel_rfl) (vs := #[.string (Kv.wantS t k)]) HZ.out hH ⟨hv, trivial⟩)
  have C4 := Lib.hid (fun W0 m3 v2 v3 W (hH : Ev.HR W0 m3 Z.2 W) (hv : Ev.VR m3 Y.1 v2) (hv' : Ev.VR m3 Z.1 v3) => Kv.call_ev Tryz.func17 (by kernel_rfl) (by kernel_rfl) (vs := #[v2, v3]) HR.out hH ⟨hv, hv', trivial⟩)
  have KS : Hid (∀ W, Below W3.heap.size W3 W → Below W3.heap.size W3 W ∧ W.cell? ⟨w2.heap.size, k, none⟩ = some (.string (Kv.inS t k)) ∧ W.cell? ⟨w2.heap.size + 1, k, none⟩ = some (.string (Kv.wantS t k))) :=
    Lib.hid fun W hb => ⟨hb, (hb.cell (p := ⟨w2.heap.size, k, none⟩) l1).trans c1, (hb.cell (p := ⟨w2.heap.size + 1, k, none⟩) l2).trans c2⟩
  clear hlow hX hY hZ hR hRv
  have hk1 : (0 : Int) ≤ (k : Int) := by omega
  have hk2 : (k : Int) < 9 := by omega
  have hk3 : (k : Int) ≤ 8 := by omega
  go_wp2_with fail
  go_region_held3 (fun W => Below W3.heap.size W3 W ∧ W.cell? ⟨w2.heap.size, k, none⟩ = some (.string (Kv.inS t k)) ∧ W.cell? ⟨w2.heap.size + 1, k, none⟩ = some (.string (Kv.wantS t k)))
    (first
      | (exact KS.out _ ((Below.refl _ _).drew))
      | (exact KS.out _ (by assumption)))
    (first
      | (go_at_call 19; (with_reducible refine (C1.out _).mono ?_); rintro e w5 ⟨m1, v1, rfl, gr1, hH1, hv1⟩; have hb5 : Below W3.heap.size W3 w5 := ⟨hH1.below.os, hH1.below.tape, hH1.below.output, hH1.below.size, hH1.below.block⟩)
      | (go_at_call 18; (with_reducible refine (C2.out _ _ _ _ hH1 hv1).mono ?_); rintro e w6 ⟨m2, v2, rfl, gr2, hH2, hv2⟩; have hb6 : Below W3.heap.size W3 w6 := ⟨hH2.below.os, hH2.below.tape, hH2.below.output, hH2.below.size, hH2.below.block⟩)
      | (go_at_call 19; (with_reducible refine (C3.out _ _ _ hH2 (Ev.VR.ext gr2.1 (Ev.VR.ext gr1.1 VW.out))).mono ?_); rintro e w7 ⟨m3, v3, rfl, gr3, hH3, hv3⟩; have hb7 : Below W3.heap.size W3 w7 := ⟨hH3.below.os, hH3.below.tape, hH3.below.output, hH3.below.size, hH3.below.block⟩)
      | (go_at_call 17; (with_reducible refine (C4.out _ _ _ _ _ hH3 (Ev.VR.ext gr3.1 hv2) hv3).mono ?_); rintro e w8 ⟨m4, v4, rfl, gr4, hH4, hv4⟩; have hb8 : Below W3.heap.size W3 w8 := ⟨hH4.below.os, hH4.below.tape, hH4.below.output, hH4.below.size, hH4.below.block⟩; rw [HRV.out] at hv4; have hv4 : v4 = .bool true := hv4; subst hv4))
  all_goals
    have HF := Lib.hid (below_next HB3.out hb8)
    clear gr1 gr2 gr3 gr4 hH1 hH2 hH3 hH4 hv1 hv2 hv3 hv4 hb5 hb6 hb7 hb8
    go_wp2_with fail
    go_ret
    exact ⟨rfl, HF.out⟩
end Go.Proofs.YtbemdcbglpjmiaaGreatDoor
