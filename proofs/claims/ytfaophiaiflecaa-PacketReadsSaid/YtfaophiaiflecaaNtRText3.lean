/- Contract: reparteeref36.valueBytes. Contract: reparteeref36.noteBytes. Contract: reparteeref36.NoteText. -/
import Derived.Test.YtfaophiaiflecaaNtB2
import Derived.Test.YtfaophiaiflecaaPkRef
import Derived.Deep.DeepCutAuto
import Derived.Test.YtfaophiaiflecaaNtNote
import Derived.Test.YtfaophiaiflecaaNtRef4
namespace Go.Proofs.Ytfaophiaiflecaa
open Go.RowKit

set_option maxRecDepth 100000 in
set_option maxHeartbeats 3200000 in
theorem valueBytes_any (v : Vl) (A : Option Addr) (c : Nat) (w : World) (hA : Ints w A v.l) (hv : VlOk v) :
    Calls Try.prog 59 #[.agg #[.int .i64 v.kind, .int .i64 v.n, .string v.s, .slice A v.l.length c]] w fun e w' => e = .returned (.string ⟨(vlB v).toArray⟩) ∧ Below w.heap.size w w' := by
  obtain ⟨k, n, s, l⟩ := v
  have C0 := Lib.hid (fun W => intbytes_any k W hv.k.1 hv.k.2)
  have C1 := Lib.hid (fun W => refnum_any n W hv.n.1 hv.n.2)
  have C2 := Lib.hid (fun W => textbytes_any s W (by have := hv.s; dsimp only at this; omega))
  have C3 := Lib.hid (fun W => intbytes_any (l.length : Int) W (by omega) (by have := hv.l; dsimp only at this; omega))
  have HI := Lib.hid hv.i
  have hll : l.length ≤ 1000000 := hv.l
  have z0 := numB_le k
  have z1 := numB_le n
  have z2 : (txt s.data.toList).length ≤ 1000010 := by have h1 := txt_len s; have h2 : s.size ≤ 1000000 := hv.s; omega
  have z3 := numB_le (l.length : Int)
  have hval : (((⟨(numB k).toArray⟩ : ByteArray) ++ (⟨(numB n).toArray⟩ : ByteArray)) ++ (⟨(txt s.data.toList).toArray⟩ : ByteArray)) ++ (⟨(numB (l.length : Int)).toArray⟩ : ByteArray) = ⟨(numB k ++ numB n ++ txt s.data.toList ++ numB (l.length : Int)).toArray⟩ := by rw [ba_app', ba_app', ba_app']
  have HV := Lib.hid hval
  have HRES := Lib.hid (show vlB ⟨k, n, s, l⟩ = (numB k ++ numB n ++ txt s.data.toList ++ numB (l.length : Int)) ++ nums64 l by unfold vlB l64B; simp)
  generalize vlB ⟨k, n, s, l⟩ = res at *
  dsimp only at *
  obtain ⟨W0, hW0⟩ : ∃ W0, W0 = w.alloc (.cells #[.int .i64 k, .int .i64 n, .string s, .slice A l.length c] 36) := ⟨_, rfl⟩
  have BF := Lib.hid (show Below w.heap.size w W0 by rw [hW0]; exact below_allocS (Below.refl _ _) _)
  have HB := Lib.hid (show Blk W0 w.heap.size #[.int .i64 k, .int .i64 n, .string s, .slice A l.length c] 36 by rw [hW0]; exact Blk.new w _ _)
  have HAA := Lib.hid (fun W (hw : Below W0.heap.size W0 W) => (Rd.below hA (below_next BF.out hw) : Ints W A l))
  have KS := Lib.hid (fun W (hw : Below W0.heap.size W0 W) => show Below W0.heap.size W0 W ∧ W.cell? ⟨w.heap.size, 0, none⟩ = some (.int .i64 k) ∧ W.cell? ⟨w.heap.size, 1, none⟩ = some (.int .i64 n) ∧ W.cell? ⟨w.heap.size, 2, none⟩ = some (.string s) ∧ W.cell? ⟨w.heap.size, 3, none⟩ = some (.slice A l.length c) from ⟨hw, (HB.out.belowS hw).cell 0, (HB.out.belowS hw).cell 1, (HB.out.belowS hw).cell 2, (HB.out.belowS hw).cell 3⟩)
  have HW := Lib.hid hW0
  clear hW0 hA hv hval
  go_enter Try.func59, Try.ntmps59
  go_upto_region 1 with fail
  rw [← HW.out]
  have n1 : ¬ 9223372036854775807 < (numB k).length + (numB n).length := by omega
  have n2 : ¬ 9223372036854775807 < (numB k).length + (numB n).length + (txt s.data.toList).length := by omega
  have n3 : ¬ 9223372036854775807 < (numB k).length + (numB n).length + (txt s.data.toList).length + (numB (l.length : Int)).length := by omega
  refine wp_region_noPanic ?_
  refine wp_region_held_drew (S := fun W => Below W0.heap.size W0 W ∧ W.cell? ⟨w.heap.size, 0, none⟩ = some (.int .i64 k) ∧ W.cell? ⟨w.heap.size, 1, none⟩ = some (.int .i64 n) ∧ W.cell? ⟨w.heap.size, 2, none⟩ = some (.string s) ∧ W.cell? ⟨w.heap.size, 3, none⟩ = some (.slice A l.length c)) (by kernel_rfl) (KS.out _ ((Below.refl _ _).drew)) (fun hHeld => ?_)
  refine held_take (v := ?v1) 0 rfl (by kernel_rfl) (by kernel_rfl) (by kernel_rfl) (fun _ _ _ h => h) (by rfl) ?hy1 (by assumption) ?rest1
  case hy1 => (intro w hSw; (try dsimp only at hSw); go_simp; try with_reducible rfl)
  simp only [Act.put, List.setIfInBounds_toArray, List.set_cons_zero, List.set_cons_succ]
  refine held_take (v := ?v2) 1 rfl (by kernel_rfl) (by kernel_rfl) (by kernel_rfl) (fun _ _ _ h => h) (by rfl) ?hy2 (by assumption) ?rest2
  case hy2 => (intro w hSw; (try dsimp only at hSw); go_simp; try with_reducible rfl)
  simp only [Act.put, List.setIfInBounds_toArray, List.set_cons_zero, List.set_cons_succ]
  refine held_take (v := ?v3) 3 rfl (by kernel_rfl) (by kernel_rfl) (by kernel_rfl) (fun _ _ _ h => h) (by rfl) ?hy3 (by assumption) ?rest3
  case hy3 => (intro w hSw; (try dsimp only at hSw); go_simp; try with_reducible rfl)
  simp only [Act.put, List.setIfInBounds_toArray, List.set_cons_zero, List.set_cons_succ]
  refine held_take (v := ?v4) 4 rfl (by kernel_rfl) (by kernel_rfl) (by kernel_rfl) (fun _ _ _ h => h) (by rfl) ?hy4 (by assumption) ?rest4
  case hy4 => (intro w hSw; (try dsimp only at hSw); go_simp; try with_reducible rfl)
  simp only [Act.put, List.setIfInBounds_toArray, List.set_cons_zero, List.set_cons_succ]
  refine held_take (v := ?v5) 7 rfl (by kernel_rfl) (by kernel_rfl) (by kernel_rfl) (fun _ _ _ h => h) (by rfl) ?hy5 (by assumption) ?rest5
  case hy5 => (intro w hSw; (try dsimp only at hSw); go_simp; try with_reducible rfl)
  simp only [Act.put, List.setIfInBounds_toArray, List.set_cons_zero, List.set_cons_succ]
  refine held_take (v := ?v6) 8 rfl (by kernel_rfl) (by kernel_rfl) (by kernel_rfl) (fun _ _ _ h => h) (by rfl) ?hy6 (by assumption) ?rest6
  case hy6 => (intro w hSw; (try dsimp only at hSw); go_simp; try with_reducible rfl)
  simp only [Act.put, List.setIfInBounds_toArray, List.set_cons_zero, List.set_cons_succ]
  refine held_take (v := ?v7) 11 rfl (by kernel_rfl) (by kernel_rfl) (by kernel_rfl) (fun _ _ _ h => h) (by rfl) ?hy7 (by assumption) ?rest7
  case hy7 => (intro w hSw; (try dsimp only at hSw); go_simp; try with_reducible rfl)
  simp only [Act.put, List.setIfInBounds_toArray, List.set_cons_zero, List.set_cons_succ]
  refine held_take (v := ?v8) 12 rfl (by kernel_rfl) (by kernel_rfl) (by kernel_rfl) (fun _ _ _ h => h) (by rfl) ?hy8 (by assumption) ?rest8
  case hy8 => (intro w hSw; (try dsimp only at hSw); go_simp; try with_reducible rfl)
  simp only [Act.put, List.setIfInBounds_toArray, List.set_cons_zero, List.set_cons_succ]
  refine held_take (v := ?v9) 13 rfl (by kernel_rfl) (by kernel_rfl) (by kernel_rfl) (fun _ _ _ h => h) (by rfl) ?hy9 (by assumption) ?rest9
  case hy9 => (intro w hSw; (try dsimp only at hSw); go_simp; try with_reducible rfl)
  simp only [Act.put, List.setIfInBounds_toArray, List.set_cons_zero, List.set_cons_succ]
  refine held_call 2 rfl (by kernel_rfl) (by rfl) (fun K hK => ?_)
  go_simp
  go_at_call 54
  refine (C0.out _).mono ?_
  rintro e wf ⟨rfl, hbf⟩
  go_simp
  have hHeld := KS.out _ (below_next (And.left hHeld) hbf)
  refine hK _ _ (by assumption) ?_
  clear hK K
  try simp only [Act.put, List.setIfInBounds_toArray, List.set_cons_zero, List.set_cons_succ]
  refine held_call 5 rfl (by kernel_rfl) (by rfl) (fun K hK => ?_)
  go_simp
  go_at_call 81
  refine (C1.out _).mono ?_
  rintro e wf ⟨rfl, hbf⟩
  go_simp
  have hHeld := KS.out _ (below_next (And.left hHeld) hbf)
  refine hK _ _ (by assumption) ?_
  clear hK K
  try simp only [Act.put, List.setIfInBounds_toArray, List.set_cons_zero, List.set_cons_succ]
  refine held_take (v := ?v12) 6 rfl (by kernel_rfl) (by kernel_rfl) (by kernel_rfl) (fun _ _ _ h => h) (by rfl) ?hy12 (by assumption) ?rest12
  case hy12 => (intro w hSw; (try dsimp only at hSw); go_simp; try with_reducible rfl)
  simp only [Act.put, List.setIfInBounds_toArray, List.set_cons_zero, List.set_cons_succ]
  refine held_call 9 rfl (by kernel_rfl) (by rfl) (fun K hK => ?_)
  go_simp
  go_at_call 55
  refine (C2.out _).mono ?_
  rintro e wf ⟨rfl, hbf⟩
  go_simp
  have hHeld := KS.out _ (below_next (And.left hHeld) hbf)
  refine hK _ _ (by assumption) ?_
  clear hK K
  try simp only [Act.put, List.setIfInBounds_toArray, List.set_cons_zero, List.set_cons_succ]
  refine held_take (v := ?v14) 10 rfl (by kernel_rfl) (by kernel_rfl) (by kernel_rfl) (fun _ _ _ h => h) (by rfl) ?hy14 (by assumption) ?rest14
  case hy14 => (intro w hSw; (try dsimp only at hSw); go_simp; try with_reducible rfl)
  simp only [Act.put, List.setIfInBounds_toArray, List.set_cons_zero, List.set_cons_succ]
  refine held_call 14 rfl (by kernel_rfl) (by rfl) (fun K hK => ?_)
  go_simp
  go_at_call 54
  refine (C3.out _).mono ?_
  rintro e wf ⟨rfl, hbf⟩
  go_simp
  have hHeld := KS.out _ (below_next (And.left hHeld) hbf)
  refine hK _ _ (by assumption) ?_
  clear hK K
  try simp only [Act.put, List.setIfInBounds_toArray, List.set_cons_zero, List.set_cons_succ]
  refine held_take (v := ?v16) 15 rfl (by kernel_rfl) (by kernel_rfl) (by kernel_rfl) (fun _ _ _ h => h) (by rfl) ?hy16 (by assumption) ?rest16
  case hy16 => (intro w hSw; (try dsimp only at hSw); go_simp; try with_reducible rfl)
  simp only [Act.put, List.setIfInBounds_toArray, List.set_cons_zero, List.set_cons_succ]
  refine held_take (v := ?v17) 16 rfl (by kernel_rfl) (by kernel_rfl) (by kernel_rfl) (fun _ _ _ h => h) (by rfl) ?hy17 (by assumption) ?rest17
  case hy17 => (intro w hSw; (try dsimp only at hSw); go_simp; try with_reducible rfl)
  simp only [Act.put, List.setIfInBounds_toArray, List.set_cons_zero, List.set_cons_succ]
  refine wpAnyH_done (by kernel_rfl) ?_ _
  refine NoPanic.normal ?_
  have BE := Lib.hid (And.left hHeld)
  go_upto_region 2 with fail
  go_wp2_with fail
  rw [HV.out]
  generalize hX0 : numB k ++ numB n ++ txt s.data.toList ++ numB (l.length : Int) = X0 at *
  have hx0 : X0.length ≤ 1000040 := by rw [← hX0]; simp only [List.length_append]; omega
  clear n1 n2 n3 z0 z1 z2 z3 hX0
  go_loopw [3, 4] (fun s i wr => ∃ k : Nat, k ≤ l.length ∧ i = .int .i64 k ∧ s = .string ⟨(X0 ++ nums64 (l.take k)).toArray⟩ ∧ Hid (Below W0.heap.size W0 wr)) (fun _ i _ => l.length - (intOf i).toNat)
  case atStart => exact ⟨0, Nat.zero_le _, rfl, by simp [nums64], BE⟩
  case round =>
    obtain ⟨k, hk, rfl, rfl, hB⟩ := hrel
    have x3 : wr.cell? ⟨w.heap.size, 3, none⟩ = some (.slice A l.length c) := (HB.out.belowS hB.out).cell 3
    by_cases hlt : k < l.length
    · obtain ⟨ab, ao, rfl, hab, hcs⟩ := ints_at (HAA.out _ hB.out) hlt
      have hck := hcs k hlt
      have CN := Lib.hid (fun W => refnum_any l[k] W (HI.out _ (List.getElem_mem hlt)).1 (HI.out _ (List.getElem_mem hlt)).2)
      have HSN := Lib.hid (nums64_snoc l k hlt)
      have hn1 := nums64_len (l.take k)
      have hn3 := numB_le l[k]
      have hn4 : (l.take k).length ≤ 1000000 := by rw [List.length_take]; omega
      clear hcs
      generalize l[k] = n at *
      generalize hX : X0 ++ nums64 (l.take k) = X at *
      have hxl : X.length ≤ 20000010 := by rw [← hX, List.length_append]; omega
      have HX := Lib.hid hX
      have HAP := Lib.hid (ba_app' X (numB n))
      have hz1 : ¬ 9223372036854775807 < X.length + (numB n).length := by omega
      clear hX hn1 hn3 hn4 hxl
      go_wp2_with fail
      refine (CN.out _).mono ?_
      rintro e w1 ⟨rfl, hb1⟩
      have B1 := Lib.hid (below_next hB.out hb1)
      clear hb1 x3 hck
      go_wp2_with fail
      exact ⟨⟨k + 1, by omega, by go_num, by rw [HSN.out, ← List.append_assoc, HX.out, ← HAP.out], B1⟩, by simp [intOf]; omega⟩
    · go_wp2_with fail
      go_ret
      rw [show l.take k = l from List.take_of_length_le (by omega)]
      exact ⟨by rw [HRES.out]; rfl, below_next BF.out hB.out⟩
end Go.Proofs.Ytfaophiaiflecaa
namespace Go.Proofs.Ytfaophiaiflecaa
open Go.RowKit

set_option maxRecDepth 100000 in
set_option maxHeartbeats 6400000 in
theorem noteBytes_any (x : Nt) (A E : Option Addr) (c d : Nat) (w : World) (hx : NtAt w x A E) (ok : NtOk x) (hp : x.peer.size ≤ 12 ∧ x.label.size ≤ 12) :
    Calls Try.prog 30 #[.agg (x.cells A c E d)] w fun e w' => e = .returned (.string ⟨(noteB x).toArray⟩) ∧ Below w.heap.size w w' := by
  obtain ⟨k, ag, se, st, pe, la, v, pr, en⟩ := x
  obtain ⟨ok1, ok2, ok3, ok4, ok5, ok6, ok7, ok8⟩ := ok
  obtain ⟨hA, hE, _, _, _⟩ := hx
  simp only [Nt.cells]
  dsimp only at *
  have C0 := Lib.hid (fun W => intbytes_any k W ok1.1 ok1.2)
  have C1 := Lib.hid (fun W => textbytes_any ag W (by omega))
  have C2 := Lib.hid (fun W => textbytes_any se W (by omega))
  have C3 := Lib.hid (fun W => intbytes_any st W ok2.1 ok2.2)
  have C4 := Lib.hid (fun W => textbytes_any pe W (by omega))
  have C5 := Lib.hid (fun W => textbytes_any la W (by omega))
  have C7 := Lib.hid (fun W => intbytes_any pr W ok3.1 ok3.2)
  have C8 := Lib.hid (fun W => intbytes_any (en.length : Int) W (by omega) (by omega))
  have z0 := numB_le k
  have z1 : (txt ag.data.toList).length ≤ 1000010 := by have := txt_len ag; omega
  have z2 : (txt se.data.toList).length ≤ 1000010 := by have := txt_len se; omega
  have z3 := numB_le st
  have z4 : (txt pe.data.toList).length ≤ 22 := by have := txt_len pe; omega
  have z5 : (txt la.data.toList).length ≤ 22 := by have := txt_len la; omega
  have z6 := vlB_len ok6
  have z7 := numB_le pr
  have z8 := numB_le (en.length : Int)
  have HOE := Lib.hid ok8
  have hle : en.length ≤ 20 := ok7
  have HV1 := Lib.hid (show ((((⟨(numB k).toArray⟩ : ByteArray) ++ (⟨(txt ag.data.toList).toArray⟩ : ByteArray)) ++ (⟨(txt se.data.toList).toArray⟩ : ByteArray)) ++ (⟨(numB st).toArray⟩ : ByteArray)) ++ (⟨(txt pe.data.toList).toArray⟩ : ByteArray) = ⟨(numB k ++ txt ag.data.toList ++ txt se.data.toList ++ numB st ++ txt pe.data.toList).toArray⟩ by rw [ba_app', ba_app', ba_app', ba_app'])
  have HV2 := Lib.hid (fun X : List UInt8 => show ((((⟨X.toArray⟩ : ByteArray) ++ (⟨(txt la.data.toList).toArray⟩ : ByteArray)) ++ (⟨(vlB v).toArray⟩ : ByteArray)) ++ (⟨(numB pr).toArray⟩ : ByteArray)) ++ (⟨(numB (en.length : Int)).toArray⟩ : ByteArray) = ⟨(X ++ txt la.data.toList ++ vlB v ++ numB pr ++ numB (en.length : Int)).toArray⟩ by rw [ba_app', ba_app', ba_app', ba_app'])
  have HRES := Lib.hid (show noteB ⟨k, ag, se, st, pe, la, v, pr, en⟩ = ((numB k ++ txt ag.data.toList ++ txt se.data.toList ++ numB st ++ txt pe.data.toList) ++ txt la.data.toList ++ vlB v ++ numB pr ++ numB (en.length : Int)) ++ bdsB en by unfold noteB envB; simp)
  generalize noteB ⟨k, ag, se, st, pe, la, v, pr, en⟩ = res at *
  obtain ⟨W0, hW0⟩ : ∃ W0, W0 = w.alloc (.cells #[.int .i64 k, .string ag, .string se, .int .i64 st, .string pe, .string la, .int .i64 v.kind, .int .i64 v.n, .string v.s, .slice A v.l.length c, .int .i64 pr, .slice E en.length d] 41) := ⟨_, rfl⟩
  have BF := Lib.hid (show Below w.heap.size w W0 by rw [hW0]; exact below_allocS (Below.refl _ _) _)
  have HB := Lib.hid (show Blk W0 w.heap.size #[.int .i64 k, .string ag, .string se, .int .i64 st, .string pe, .string la, .int .i64 v.kind, .int .i64 v.n, .string v.s, .slice A v.l.length c, .int .i64 pr, .slice E en.length d] 41 by rw [hW0]; exact Blk.new w _ _)
  have C6 := Lib.hid (fun W (hw : Below W0.heap.size W0 W) => valueBytes_any v A c W (Rd.below hA (below_next BF.out hw)) ok6)
  have HEE := Lib.hid (fun W (hw : Below W0.heap.size W0 W) => hE.below (below_next BF.out hw))
  have KS := Lib.hid (fun W (hw : Below W0.heap.size W0 W) => show Below W0.heap.size W0 W ∧ W.cell? ⟨w.heap.size, 0, none⟩ = some (.int .i64 k) ∧ W.cell? ⟨w.heap.size, 1, none⟩ = some (.string ag) ∧ W.cell? ⟨w.heap.size, 2, none⟩ = some (.string se) ∧ W.cell? ⟨w.heap.size, 3, none⟩ = some (.int .i64 st) ∧ W.cell? ⟨w.heap.size, 4, none⟩ = some (.string pe) ∧ W.cell? ⟨w.heap.size, 5, none⟩ = some (.string la) ∧ W.cell? ⟨w.heap.size, 6, none⟩ = some (.int .i64 v.kind) ∧ W.cell? ⟨w.heap.size, 7, none⟩ = some (.int .i64 v.n) ∧ W.cell? ⟨w.heap.size, 8, none⟩ = some (.string v.s) ∧ W.cell? ⟨w.heap.size, 9, none⟩ = some (.slice A v.l.length c) ∧ W.cell? ⟨w.heap.size, 10, none⟩ = some (.int .i64 pr) ∧ W.cell? ⟨w.heap.size, 11, none⟩ = some (.slice E en.length d) from ⟨hw, (HB.out.belowS hw).cell 0, (HB.out.belowS hw).cell 1, (HB.out.belowS hw).cell 2, (HB.out.belowS hw).cell 3, (HB.out.belowS hw).cell 4, (HB.out.belowS hw).cell 5, (HB.out.belowS hw).cell 6, (HB.out.belowS hw).cell 7, (HB.out.belowS hw).cell 8, (HB.out.belowS hw).cell 9, (HB.out.belowS hw).cell 10, (HB.out.belowS hw).cell 11⟩)
  have HW := Lib.hid hW0
  have n1 : ¬ 9223372036854775807 < (numB k).length + (txt ag.data.toList).length := by omega
  have n2 : ¬ 9223372036854775807 < (numB k).length + (txt ag.data.toList).length + (txt se.data.toList).length := by omega
  have n3 : ¬ 9223372036854775807 < (numB k).length + (txt ag.data.toList).length + (txt se.data.toList).length + (numB st).length := by omega
  have n4 : ¬ 9223372036854775807 < (numB k).length + (txt ag.data.toList).length + (txt se.data.toList).length + (numB st).length + (txt pe.data.toList).length := by omega
  have hm := fun X : List UInt8 => (show X = numB k ++ txt ag.data.toList ++ txt se.data.toList ++ numB st ++ txt pe.data.toList → X.length ≤ 3000000 by rintro rfl; simp only [List.length_append]; omega)
  have HM := Lib.hid hm
  clear hm hW0 hA hE ok1 ok2 ok3 ok4 ok5 ok6 ok7 ok8 hp
  go_enter Try.func30, Try.ntmps30
  go_upto_region 1 with fail
  rw [← HW.out]
  refine wp_region_noPanic ?_
  refine wp_region_held_drew (S := fun W => Below W0.heap.size W0 W ∧ W.cell? ⟨w.heap.size, 0, none⟩ = some (.int .i64 k) ∧ W.cell? ⟨w.heap.size, 1, none⟩ = some (.string ag) ∧ W.cell? ⟨w.heap.size, 2, none⟩ = some (.string se) ∧ W.cell? ⟨w.heap.size, 3, none⟩ = some (.int .i64 st) ∧ W.cell? ⟨w.heap.size, 4, none⟩ = some (.string pe) ∧ W.cell? ⟨w.heap.size, 5, none⟩ = some (.string la) ∧ W.cell? ⟨w.heap.size, 6, none⟩ = some (.int .i64 v.kind) ∧ W.cell? ⟨w.heap.size, 7, none⟩ = some (.int .i64 v.n) ∧ W.cell? ⟨w.heap.size, 8, none⟩ = some (.string v.s) ∧ W.cell? ⟨w.heap.size, 9, none⟩ = some (.slice A v.l.length c) ∧ W.cell? ⟨w.heap.size, 10, none⟩ = some (.int .i64 pr) ∧ W.cell? ⟨w.heap.size, 11, none⟩ = some (.slice E en.length d)) (by kernel_rfl) (KS.out _ ((Below.refl _ _).drew)) (fun hHeld => ?_)
  refine held_take (v := ?v18) 0 rfl (by kernel_rfl) (by kernel_rfl) (by kernel_rfl) (fun _ _ _ h => h) (by rfl) ?hy18 (by assumption) ?rest18
  case hy18 => (intro w hSw; (try dsimp only at hSw); go_simp; try with_reducible rfl)
  simp only [Act.put, List.setIfInBounds_toArray, List.set_cons_zero, List.set_cons_succ]
  refine held_take (v := ?v19) 1 rfl (by kernel_rfl) (by kernel_rfl) (by kernel_rfl) (fun _ _ _ h => h) (by rfl) ?hy19 (by assumption) ?rest19
  case hy19 => (intro w hSw; (try dsimp only at hSw); go_simp; try with_reducible rfl)
  simp only [Act.put, List.setIfInBounds_toArray, List.set_cons_zero, List.set_cons_succ]
  refine held_take (v := ?v20) 3 rfl (by kernel_rfl) (by kernel_rfl) (by kernel_rfl) (fun _ _ _ h => h) (by rfl) ?hy20 (by assumption) ?rest20
  case hy20 => (intro w hSw; (try dsimp only at hSw); go_simp; try with_reducible rfl)
  simp only [Act.put, List.setIfInBounds_toArray, List.set_cons_zero, List.set_cons_succ]
  refine held_take (v := ?v21) 4 rfl (by kernel_rfl) (by kernel_rfl) (by kernel_rfl) (fun _ _ _ h => h) (by rfl) ?hy21 (by assumption) ?rest21
  case hy21 => (intro w hSw; (try dsimp only at hSw); go_simp; try with_reducible rfl)
  simp only [Act.put, List.setIfInBounds_toArray, List.set_cons_zero, List.set_cons_succ]
  refine held_take (v := ?v22) 7 rfl (by kernel_rfl) (by kernel_rfl) (by kernel_rfl) (fun _ _ _ h => h) (by rfl) ?hy22 (by assumption) ?rest22
  case hy22 => (intro w hSw; (try dsimp only at hSw); go_simp; try with_reducible rfl)
  simp only [Act.put, List.setIfInBounds_toArray, List.set_cons_zero, List.set_cons_succ]
  refine held_take (v := ?v23) 8 rfl (by kernel_rfl) (by kernel_rfl) (by kernel_rfl) (fun _ _ _ h => h) (by rfl) ?hy23 (by assumption) ?rest23
  case hy23 => (intro w hSw; (try dsimp only at hSw); go_simp; try with_reducible rfl)
  simp only [Act.put, List.setIfInBounds_toArray, List.set_cons_zero, List.set_cons_succ]
  refine held_take (v := ?v24) 11 rfl (by kernel_rfl) (by kernel_rfl) (by kernel_rfl) (fun _ _ _ h => h) (by rfl) ?hy24 (by assumption) ?rest24
  case hy24 => (intro w hSw; (try dsimp only at hSw); go_simp; try with_reducible rfl)
  simp only [Act.put, List.setIfInBounds_toArray, List.set_cons_zero, List.set_cons_succ]
  refine held_take (v := ?v25) 12 rfl (by kernel_rfl) (by kernel_rfl) (by kernel_rfl) (fun _ _ _ h => h) (by rfl) ?hy25 (by assumption) ?rest25
  case hy25 => (intro w hSw; (try dsimp only at hSw); go_simp; try with_reducible rfl)
  simp only [Act.put, List.setIfInBounds_toArray, List.set_cons_zero, List.set_cons_succ]
  refine held_take (v := ?v26) 15 rfl (by kernel_rfl) (by kernel_rfl) (by kernel_rfl) (fun _ _ _ h => h) (by rfl) ?hy26 (by assumption) ?rest26
  case hy26 => (intro w hSw; (try dsimp only at hSw); go_simp; try with_reducible rfl)
  simp only [Act.put, List.setIfInBounds_toArray, List.set_cons_zero, List.set_cons_succ]
  refine held_take (v := ?v27) 16 rfl (by kernel_rfl) (by kernel_rfl) (by kernel_rfl) (fun _ _ _ h => h) (by rfl) ?hy27 (by assumption) ?rest27
  case hy27 => (intro w hSw; (try dsimp only at hSw); go_simp; try with_reducible rfl)
  simp only [Act.put, List.setIfInBounds_toArray, List.set_cons_zero, List.set_cons_succ]
  refine held_call 2 rfl (by kernel_rfl) (by rfl) (fun K hK => ?_)
  go_simp
  go_at_call 54
  refine (C0.out _).mono ?_
  rintro e wf ⟨rfl, hbf⟩
  go_simp
  have hHeld := KS.out _ (below_next (And.left hHeld) hbf)
  refine hK _ _ (by assumption) ?_
  clear hK K
  try simp only [Act.put, List.setIfInBounds_toArray, List.set_cons_zero, List.set_cons_succ]
  refine held_call 5 rfl (by kernel_rfl) (by rfl) (fun K hK => ?_)
  go_simp
  go_at_call 55
  refine (C1.out _).mono ?_
  rintro e wf ⟨rfl, hbf⟩
  go_simp
  have hHeld := KS.out _ (below_next (And.left hHeld) hbf)
  refine hK _ _ (by assumption) ?_
  clear hK K
  try simp only [Act.put, List.setIfInBounds_toArray, List.set_cons_zero, List.set_cons_succ]
  refine held_take (v := ?v30) 6 rfl (by kernel_rfl) (by kernel_rfl) (by kernel_rfl) (fun _ _ _ h => h) (by rfl) ?hy30 (by assumption) ?rest30
  case hy30 => (intro w hSw; (try dsimp only at hSw); go_simp; try with_reducible rfl)
  simp only [Act.put, List.setIfInBounds_toArray, List.set_cons_zero, List.set_cons_succ]
  refine held_call 9 rfl (by kernel_rfl) (by rfl) (fun K hK => ?_)
  go_simp
  go_at_call 55
  refine (C2.out _).mono ?_
  rintro e wf ⟨rfl, hbf⟩
  go_simp
  have hHeld := KS.out _ (below_next (And.left hHeld) hbf)
  refine hK _ _ (by assumption) ?_
  clear hK K
  try simp only [Act.put, List.setIfInBounds_toArray, List.set_cons_zero, List.set_cons_succ]
  refine held_take (v := ?v32) 10 rfl (by kernel_rfl) (by kernel_rfl) (by kernel_rfl) (fun _ _ _ h => h) (by rfl) ?hy32 (by assumption) ?rest32
  case hy32 => (intro w hSw; (try dsimp only at hSw); go_simp; try with_reducible rfl)
  simp only [Act.put, List.setIfInBounds_toArray, List.set_cons_zero, List.set_cons_succ]
  refine held_call 13 rfl (by kernel_rfl) (by rfl) (fun K hK => ?_)
  go_simp
  go_at_call 54
  refine (C3.out _).mono ?_
  rintro e wf ⟨rfl, hbf⟩
  go_simp
  have hHeld := KS.out _ (below_next (And.left hHeld) hbf)
  refine hK _ _ (by assumption) ?_
  clear hK K
  try simp only [Act.put, List.setIfInBounds_toArray, List.set_cons_zero, List.set_cons_succ]
  refine held_take (v := ?v34) 14 rfl (by kernel_rfl) (by kernel_rfl) (by kernel_rfl) (fun _ _ _ h => h) (by rfl) ?hy34 (by assumption) ?rest34
  case hy34 => (intro w hSw; (try dsimp only at hSw); go_simp; try with_reducible rfl)
  simp only [Act.put, List.setIfInBounds_toArray, List.set_cons_zero, List.set_cons_succ]
  refine held_call 17 rfl (by kernel_rfl) (by rfl) (fun K hK => ?_)
  go_simp
  go_at_call 55
  refine (C4.out _).mono ?_
  rintro e wf ⟨rfl, hbf⟩
  go_simp
  have hHeld := KS.out _ (below_next (And.left hHeld) hbf)
  refine hK _ _ (by assumption) ?_
  clear hK K
  try simp only [Act.put, List.setIfInBounds_toArray, List.set_cons_zero, List.set_cons_succ]
  refine held_take (v := ?v36) 18 rfl (by kernel_rfl) (by kernel_rfl) (by kernel_rfl) (fun _ _ _ h => h) (by rfl) ?hy36 (by assumption) ?rest36
  case hy36 => (intro w hSw; (try dsimp only at hSw); go_simp; try with_reducible rfl)
  simp only [Act.put, List.setIfInBounds_toArray, List.set_cons_zero, List.set_cons_succ]
  refine held_take (v := ?v37) 19 rfl (by kernel_rfl) (by kernel_rfl) (by kernel_rfl) (fun _ _ _ h => h) (by rfl) ?hy37 (by assumption) ?rest37
  case hy37 => (intro w hSw; (try dsimp only at hSw); go_simp; try with_reducible rfl)
  simp only [Act.put, List.setIfInBounds_toArray, List.set_cons_zero, List.set_cons_succ]
  refine wpAnyH_done (by kernel_rfl) ?_ _
  refine NoPanic.normal ?_
  have BE := Lib.hid (And.left hHeld)
  go_upto_region 2 with fail
  rw [HV1.out]
  generalize hX0 : numB k ++ txt ag.data.toList ++ txt se.data.toList ++ numB st ++ txt pe.data.toList = X0 at *
  have hx0 := HM.out X0 rfl
  clear n1 n2 n3 n4 hX0 HV1
  have HV2 := Lib.hid (HV2.out X0)
  have n1 : ¬ 9223372036854775807 < X0.length + (txt la.data.toList).length := by omega
  have n2 : ¬ 9223372036854775807 < X0.length + (txt la.data.toList).length + (vlB v).length := by omega
  have n3 : ¬ 9223372036854775807 < X0.length + (txt la.data.toList).length + (vlB v).length + (numB pr).length := by omega
  have n4 : ¬ 9223372036854775807 < X0.length + (txt la.data.toList).length + (vlB v).length + (numB pr).length + (numB (en.length : Int)).length := by omega
  refine wp_region_noPanic ?_
  refine wp_region_held_drew (S := fun W => Below W0.heap.size W0 W ∧ W.cell? ⟨w.heap.size, 0, none⟩ = some (.int .i64 k) ∧ W.cell? ⟨w.heap.size, 1, none⟩ = some (.string ag) ∧ W.cell? ⟨w.heap.size, 2, none⟩ = some (.string se) ∧ W.cell? ⟨w.heap.size, 3, none⟩ = some (.int .i64 st) ∧ W.cell? ⟨w.heap.size, 4, none⟩ = some (.string pe) ∧ W.cell? ⟨w.heap.size, 5, none⟩ = some (.string la) ∧ W.cell? ⟨w.heap.size, 6, none⟩ = some (.int .i64 v.kind) ∧ W.cell? ⟨w.heap.size, 7, none⟩ = some (.int .i64 v.n) ∧ W.cell? ⟨w.heap.size, 8, none⟩ = some (.string v.s) ∧ W.cell? ⟨w.heap.size, 9, none⟩ = some (.slice A v.l.length c) ∧ W.cell? ⟨w.heap.size, 10, none⟩ = some (.int .i64 pr) ∧ W.cell? ⟨w.heap.size, 11, none⟩ = some (.slice E en.length d)) (by kernel_rfl) (KS.out _ (BE.out.drew)) (fun hHeld => ?_)
  refine held_take (v := ?v38) 0 rfl (by kernel_rfl) (by kernel_rfl) (by kernel_rfl) (fun _ _ _ h => h) (by rfl) ?hy38 (by assumption) ?rest38
  case hy38 => (intro w hSw; (try dsimp only at hSw); go_simp; try with_reducible rfl)
  simp only [Act.put, List.setIfInBounds_toArray, List.set_cons_zero, List.set_cons_succ]
  refine held_take (v := ?v39) 1 rfl (by kernel_rfl) (by kernel_rfl) (by kernel_rfl) (fun _ _ _ h => h) (by rfl) ?hy39 (by assumption) ?rest39
  case hy39 => (intro w hSw; (try dsimp only at hSw); go_simp; try with_reducible rfl)
  simp only [Act.put, List.setIfInBounds_toArray, List.set_cons_zero, List.set_cons_succ]
  refine held_take (v := ?v40) 2 rfl (by kernel_rfl) (by kernel_rfl) (by kernel_rfl) (fun _ _ _ h => h) (by rfl) ?hy40 (by assumption) ?rest40
  case hy40 => (intro w hSw; (try dsimp only at hSw); go_simp; try with_reducible rfl)
  simp only [Act.put, List.setIfInBounds_toArray, List.set_cons_zero, List.set_cons_succ]
  refine held_take (v := ?v41) 3 rfl (by kernel_rfl) (by kernel_rfl) (by kernel_rfl) (fun _ _ _ h => h) (by rfl) ?hy41 (by assumption) ?rest41
  case hy41 => (intro w hSw; (try dsimp only at hSw); go_simp; try with_reducible rfl)
  simp only [Act.put, List.setIfInBounds_toArray, List.set_cons_zero, List.set_cons_succ]
  refine held_take (v := ?v42) 6 rfl (by kernel_rfl) (by kernel_rfl) (by kernel_rfl) (fun _ _ _ h => h) (by rfl) ?hy42 (by assumption) ?rest42
  case hy42 => (intro w hSw; (try dsimp only at hSw); go_simp; try with_reducible rfl)
  simp only [Act.put, List.setIfInBounds_toArray, List.set_cons_zero, List.set_cons_succ]
  refine held_take (v := ?v43) 7 rfl (by kernel_rfl) (by kernel_rfl) (by kernel_rfl) (fun _ _ _ h => h) (by rfl) ?hy43 (by assumption) ?rest43
  case hy43 => (intro w hSw; (try dsimp only at hSw); go_simp; try with_reducible rfl)
  simp only [Act.put, List.setIfInBounds_toArray, List.set_cons_zero, List.set_cons_succ]
  refine held_take (v := ?v44) 8 rfl (by kernel_rfl) (by kernel_rfl) (by kernel_rfl) (fun _ _ _ h => h) (by rfl) ?hy44 (by assumption) ?rest44
  case hy44 => (intro w hSw; (try dsimp only at hSw); go_simp; try with_reducible rfl)
  simp only [Act.put, List.setIfInBounds_toArray, List.set_cons_zero, List.set_cons_succ]
  refine held_take (v := ?v45) 11 rfl (by kernel_rfl) (by kernel_rfl) (by kernel_rfl) (fun _ _ _ h => h) (by rfl) ?hy45 (by assumption) ?rest45
  case hy45 => (intro w hSw; (try dsimp only at hSw); go_simp; try with_reducible rfl)
  simp only [Act.put, List.setIfInBounds_toArray, List.set_cons_zero, List.set_cons_succ]
  refine held_take (v := ?v46) 12 rfl (by kernel_rfl) (by kernel_rfl) (by kernel_rfl) (fun _ _ _ h => h) (by rfl) ?hy46 (by assumption) ?rest46
  case hy46 => (intro w hSw; (try dsimp only at hSw); go_simp; try with_reducible rfl)
  simp only [Act.put, List.setIfInBounds_toArray, List.set_cons_zero, List.set_cons_succ]
  refine held_take (v := ?v47) 15 rfl (by kernel_rfl) (by kernel_rfl) (by kernel_rfl) (fun _ _ _ h => h) (by rfl) ?hy47 (by assumption) ?rest47
  case hy47 => (intro w hSw; (try dsimp only at hSw); go_simp; try with_reducible rfl)
  simp only [Act.put, List.setIfInBounds_toArray, List.set_cons_zero, List.set_cons_succ]
  refine held_take (v := ?v48) 16 rfl (by kernel_rfl) (by kernel_rfl) (by kernel_rfl) (fun _ _ _ h => h) (by rfl) ?hy48 (by assumption) ?rest48
  case hy48 => (intro w hSw; (try dsimp only at hSw); go_simp; try with_reducible rfl)
  simp only [Act.put, List.setIfInBounds_toArray, List.set_cons_zero, List.set_cons_succ]
  refine held_take (v := ?v49) 17 rfl (by kernel_rfl) (by kernel_rfl) (by kernel_rfl) (fun _ _ _ h => h) (by rfl) ?hy49 (by assumption) ?rest49
  case hy49 => (intro w hSw; (try dsimp only at hSw); go_simp; try with_reducible rfl)
  simp only [Act.put, List.setIfInBounds_toArray, List.set_cons_zero, List.set_cons_succ]
  refine held_call 4 rfl (by kernel_rfl) (by rfl) (fun K hK => ?_)
  go_simp
  go_at_call 55
  refine (C5.out _).mono ?_
  rintro e wf ⟨rfl, hbf⟩
  go_simp
  have hHeld := KS.out _ (below_next (And.left hHeld) hbf)
  refine hK _ _ (by assumption) ?_
  clear hK K
  try simp only [Act.put, List.setIfInBounds_toArray, List.set_cons_zero, List.set_cons_succ]
  refine held_take (v := ?v51) 5 rfl (by kernel_rfl) (by kernel_rfl) (by kernel_rfl) (fun _ _ _ h => h) (by rfl) ?hy51 (by assumption) ?rest51
  case hy51 => (intro w hSw; (try dsimp only at hSw); go_simp; try with_reducible rfl)
  simp only [Act.put, List.setIfInBounds_toArray, List.set_cons_zero, List.set_cons_succ]
  refine held_call 9 rfl (by kernel_rfl) (by rfl) (fun K hK => ?_)
  go_simp
  go_at_call 59
  refine (C6.out _ (And.left hHeld)).mono ?_
  rintro e wf ⟨rfl, hbf⟩
  go_simp
  have hHeld := KS.out _ (below_next (And.left hHeld) hbf)
  refine hK _ _ (by assumption) ?_
  clear hK K
  try simp only [Act.put, List.setIfInBounds_toArray, List.set_cons_zero, List.set_cons_succ]
  refine held_take (v := ?v53) 10 rfl (by kernel_rfl) (by kernel_rfl) (by kernel_rfl) (fun _ _ _ h => h) (by rfl) ?hy53 (by assumption) ?rest53
  case hy53 => (intro w hSw; (try dsimp only at hSw); go_simp; try with_reducible rfl)
  simp only [Act.put, List.setIfInBounds_toArray, List.set_cons_zero, List.set_cons_succ]
  refine held_call 13 rfl (by kernel_rfl) (by rfl) (fun K hK => ?_)
  go_simp
  go_at_call 54
  refine (C7.out _).mono ?_
  rintro e wf ⟨rfl, hbf⟩
  go_simp
  have hHeld := KS.out _ (below_next (And.left hHeld) hbf)
  refine hK _ _ (by assumption) ?_
  clear hK K
  try simp only [Act.put, List.setIfInBounds_toArray, List.set_cons_zero, List.set_cons_succ]
  refine held_take (v := ?v55) 14 rfl (by kernel_rfl) (by kernel_rfl) (by kernel_rfl) (fun _ _ _ h => h) (by rfl) ?hy55 (by assumption) ?rest55
  case hy55 => (intro w hSw; (try dsimp only at hSw); go_simp; try with_reducible rfl)
  simp only [Act.put, List.setIfInBounds_toArray, List.set_cons_zero, List.set_cons_succ]
  refine held_call 18 rfl (by kernel_rfl) (by rfl) (fun K hK => ?_)
  go_simp
  go_at_call 54
  refine (C8.out _).mono ?_
  rintro e wf ⟨rfl, hbf⟩
  go_simp
  have hHeld := KS.out _ (below_next (And.left hHeld) hbf)
  refine hK _ _ (by assumption) ?_
  clear hK K
  try simp only [Act.put, List.setIfInBounds_toArray, List.set_cons_zero, List.set_cons_succ]
  refine held_take (v := ?v57) 19 rfl (by kernel_rfl) (by kernel_rfl) (by kernel_rfl) (fun _ _ _ h => h) (by rfl) ?hy57 (by assumption) ?rest57
  case hy57 => (intro w hSw; (try dsimp only at hSw); go_simp; try with_reducible rfl)
  simp only [Act.put, List.setIfInBounds_toArray, List.set_cons_zero, List.set_cons_succ]
  refine held_take (v := ?v58) 20 rfl (by kernel_rfl) (by kernel_rfl) (by kernel_rfl) (fun _ _ _ h => h) (by rfl) ?hy58 (by assumption) ?rest58
  case hy58 => (intro w hSw; (try dsimp only at hSw); go_simp; try with_reducible rfl)
  simp only [Act.put, List.setIfInBounds_toArray, List.set_cons_zero, List.set_cons_succ]
  refine wpAnyH_done (by kernel_rfl) ?_ _
  refine NoPanic.normal ?_
  have BE := Lib.hid (And.left hHeld)
  go_upto_region 3 with fail
  go_wp2_with fail
  rw [HV2.out]
  generalize hX1 : X0 ++ txt la.data.toList ++ vlB v ++ numB pr ++ numB (en.length : Int) = X1 at *
  have hx1 : X1.length ≤ 20000000 := by rw [← hX1]; simp only [List.length_append]; omega
  clear n1 n2 n3 n4 z0 z1 z2 z3 z4 z5 z6 z7 z8 hX1
  go_loopw [3, 4] (fun s i wr => ∃ k : Nat, k ≤ en.length ∧ i = .int .i64 k ∧ s = .string ⟨(X1 ++ bdsB (en.take k)).toArray⟩ ∧ Hid (Below W0.heap.size W0 wr)) (fun _ i _ => en.length - (intOf i).toNat)
  case atStart => exact ⟨0, Nat.zero_le _, rfl, by simp [bdsB], BE⟩
  case round =>
    obtain ⟨k, hk, rfl, rfl, hB⟩ := hrel
    by_cases hlt : k < en.length
    · obtain ⟨F, hF⟩ := env_at (HEE.out _ hB.out)
      obtain ⟨ab, ao, rfl, hab, hints, hcs⟩ := hF k hlt
      have hck := hcs k hlt
      have HOK := Lib.hid (HOE.out _ (List.getElem_mem hlt))
      have HSN := Lib.hid (bdsB_snoc en k hlt)
      have hn1 := bdsB_len (l := en.take k) fun x hx => HOE.out x (List.mem_of_mem_take hx)
      have hn3 := txt_len en[k].name
      have hn5 := HOK.out.nm
      have hn6 := vlB_len HOK.out.v
      have hn4 : (en.take k).length ≤ 20 := by rw [List.length_take]; omega
      have HBB := Lib.hid (show bdB en[k] = txt en[k].name.data.toList ++ vlB en[k].v from rfl)
      clear hcs hF
      generalize en[k] = b at *
      generalize F k = PP at *
      obtain ⟨P, pc⟩ := PP
      dsimp only at *
      generalize hX : X1 ++ bdsB (en.take k) = X at *
      have hxl : X.length ≤ 400000010 := by rw [← hX, List.length_append]; omega
      have HX := Lib.hid hX
      have HAP := Lib.hid (show ((⟨X.toArray⟩ : ByteArray) ++ (⟨(txt b.name.data.toList).toArray⟩ : ByteArray)) ++ (⟨(vlB b.v).toArray⟩ : ByteArray) = ⟨(X ++ bdB b).toArray⟩ by rw [ba_app', ba_app', HBB.out]; simp)
      have hz1 : ¬ 9223372036854775807 < X.length + (txt b.name.data.toList).length := by omega
      have hz2 : ¬ 9223372036854775807 < X.length + (txt b.name.data.toList).length + (vlB b.v).length := by omega
      have CN := Lib.hid (fun W => textbytes_any b.name W (by omega))
      have KL := Lib.hid (fun W (hw : Below wr.heap.size wr W) => show Below wr.heap.size wr W ∧ W.cell? ⟨w.heap.size, 11, none⟩ = some (.slice (some ⟨ab, ao, none⟩) en.length d) ∧ W.cell? ⟨ab, ao + k * 5, none⟩ = some (.string b.name) ∧ W.cell? ⟨ab, ao + k * 5 + 1, none⟩ = some (.int .i64 b.v.kind) ∧ W.cell? ⟨ab, ao + k * 5 + 2, none⟩ = some (.int .i64 b.v.n) ∧ W.cell? ⟨ab, ao + k * 5 + 3, none⟩ = some (.string b.v.s) ∧ W.cell? ⟨ab, ao + k * 5 + 4, none⟩ = some (.slice P b.v.l.length pc) from
        have t := fun o => hw.cell (p := ⟨ab, o, none⟩) hab
        ⟨hw, (HB.out.belowS (below_next hB.out hw)).cell 11, (t _).trans hck.1, (t _).trans hck.2.1, (t _).trans hck.2.2.1, (t _).trans hck.2.2.2.1, (t _).trans hck.2.2.2.2⟩)
      have CV := Lib.hid (fun W (hw : Below wr.heap.size wr W) => valueBytes_any b.v P pc W (Rd.below hints hw) HOK.out.v)
      have x11 : wr.cell? ⟨w.heap.size, 11, none⟩ = some (.slice (some ⟨ab, ao, none⟩) en.length d) := (HB.out.belowS hB.out).cell 11
      clear hX hn1 hn3 hn4 hn5 hn6 hxl hck hints
      go_upto_region 6 with fail
      clear x11
      refine wp_region_noPanic ?_
      refine wp_region_held_drew (S := fun W => Below wr.heap.size wr W ∧ W.cell? ⟨w.heap.size, 11, none⟩ = some (.slice (some ⟨ab, ao, none⟩) en.length d) ∧ W.cell? ⟨ab, ao + k * 5, none⟩ = some (.string b.name) ∧ W.cell? ⟨ab, ao + k * 5 + 1, none⟩ = some (.int .i64 b.v.kind) ∧ W.cell? ⟨ab, ao + k * 5 + 2, none⟩ = some (.int .i64 b.v.n) ∧ W.cell? ⟨ab, ao + k * 5 + 3, none⟩ = some (.string b.v.s) ∧ W.cell? ⟨ab, ao + k * 5 + 4, none⟩ = some (.slice P b.v.l.length pc)) (by kernel_rfl) (KL.out _ ((Below.refl _ _).drew)) (fun hHeld => ?_)
      refine held_take (v := ?v59) 0 rfl (by kernel_rfl) (by kernel_rfl) (by kernel_rfl) (fun _ _ _ h => h) (by rfl) ?hy59 (by assumption) ?rest59
      case hy59 => (intro w hSw; (try dsimp only at hSw); go_simp; try with_reducible rfl)
      simp only [Act.put, List.setIfInBounds_toArray, List.set_cons_zero, List.set_cons_succ]
      refine held_take (v := ?v60) 1 rfl (by kernel_rfl) (by kernel_rfl) (by kernel_rfl) (fun _ _ _ h => h) (by rfl) ?hy60 (by assumption) ?rest60
      case hy60 => (intro w hSw; (try dsimp only at hSw); go_simp; try with_reducible rfl)
      simp only [Act.put, List.setIfInBounds_toArray, List.set_cons_zero, List.set_cons_succ]
      refine held_take (v := ?v61) 2 rfl (by kernel_rfl) (by kernel_rfl) (by kernel_rfl) (fun _ _ _ h => h) (by rfl) ?hy61 (by assumption) ?rest61
      case hy61 => (intro w hSw; (try dsimp only at hSw); go_simp; try with_reducible rfl)
      simp only [Act.put, List.setIfInBounds_toArray, List.set_cons_zero, List.set_cons_succ]
      refine held_take (v := ?v62) 3 rfl (by kernel_rfl) (by kernel_rfl) (by kernel_rfl) (fun _ _ _ h => h) (by rfl) ?hy62 (by assumption) ?rest62
      case hy62 => (intro w hSw; (try dsimp only at hSw); go_simp; try with_reducible rfl)
      simp only [Act.put, List.setIfInBounds_toArray, List.set_cons_zero, List.set_cons_succ]
      refine held_take (v := ?v63) 4 rfl (by kernel_rfl) (by kernel_rfl) (by kernel_rfl) (fun _ _ _ h => h) (by rfl) ?hy63 (by assumption) ?rest63
      case hy63 => (intro w hSw; (try dsimp only at hSw); go_simp; try with_reducible rfl)
      simp only [Act.put, List.setIfInBounds_toArray, List.set_cons_zero, List.set_cons_succ]
      refine held_take (v := ?v64) 5 rfl (by kernel_rfl) (by kernel_rfl) (by kernel_rfl) (fun _ _ _ h => h) (by rfl) ?hy64 (by assumption) ?rest64
      case hy64 => (intro w hSw; (try dsimp only at hSw); go_simp; try with_reducible rfl)
      simp only [Act.put, List.setIfInBounds_toArray, List.set_cons_zero, List.set_cons_succ]
      refine held_take (v := ?v65) 6 rfl (by kernel_rfl) (by kernel_rfl) (by kernel_rfl) (fun _ _ _ h => h) (by rfl) ?hy65 (by assumption) ?rest65
      case hy65 => (intro w hSw; (try dsimp only at hSw); go_simp; try with_reducible rfl)
      simp only [Act.put, List.setIfInBounds_toArray, List.set_cons_zero, List.set_cons_succ]
      refine held_take (v := ?v66) 9 rfl (by kernel_rfl) (by kernel_rfl) (by kernel_rfl) (fun _ _ _ h => h) (by rfl) ?hy66 (by assumption) ?rest66
      case hy66 => (intro w hSw; (try dsimp only at hSw); go_simp; try with_reducible rfl)
      simp only [Act.put, List.setIfInBounds_toArray, List.set_cons_zero, List.set_cons_succ]
      refine held_take (v := ?v67) 10 rfl (by kernel_rfl) (by kernel_rfl) (by kernel_rfl) (fun _ _ _ h => h) (by rfl) ?hy67 (by assumption) ?rest67
      case hy67 => (intro w hSw; (try dsimp only at hSw); go_simp; try with_reducible rfl)
      simp only [Act.put, List.setIfInBounds_toArray, List.set_cons_zero, List.set_cons_succ]
      refine held_take (v := ?v68) 11 rfl (by kernel_rfl) (by kernel_rfl) (by kernel_rfl) (fun _ _ _ h => h) (by rfl) ?hy68 (by assumption) ?rest68
      case hy68 => (intro w hSw; (try dsimp only at hSw); go_simp; try with_reducible rfl)
      simp only [Act.put, List.setIfInBounds_toArray, List.set_cons_zero, List.set_cons_succ]
      refine held_take (v := ?v69) 12 rfl (by kernel_rfl) (by kernel_rfl) (by kernel_rfl) (fun _ _ _ h => h) (by rfl) ?hy69 (by assumption) ?rest69
      case hy69 => (intro w hSw; (try dsimp only at hSw); go_simp; try with_reducible rfl)
      simp only [Act.put, List.setIfInBounds_toArray, List.set_cons_zero, List.set_cons_succ]
      refine held_take (v := ?v70) 13 rfl (by kernel_rfl) (by kernel_rfl) (by kernel_rfl) (fun _ _ _ h => h) (by rfl) ?hy70 (by assumption) ?rest70
      case hy70 => (intro w hSw; (try dsimp only at hSw); go_simp; try with_reducible rfl)
      simp only [Act.put, List.setIfInBounds_toArray, List.set_cons_zero, List.set_cons_succ]
      refine held_take (v := ?v71) 14 rfl (by kernel_rfl) (by kernel_rfl) (by kernel_rfl) (fun _ _ _ h => h) (by rfl) ?hy71 (by assumption) ?rest71
      case hy71 => (intro w hSw; (try dsimp only at hSw); go_simp; try with_reducible rfl)
      simp only [Act.put, List.setIfInBounds_toArray, List.set_cons_zero, List.set_cons_succ]
      refine held_call 7 rfl (by kernel_rfl) (by rfl) (fun K hK => ?_)
      go_simp
      go_at_call 55
      refine (CN.out _).mono ?_
      rintro e wf ⟨rfl, hbf⟩
      go_simp
      have hHeld := KL.out _ (below_next (And.left hHeld) hbf)
      refine hK _ _ (by assumption) ?_
      clear hK K
      try simp only [Act.put, List.setIfInBounds_toArray, List.set_cons_zero, List.set_cons_succ]
      refine held_take (v := ?v73) 8 rfl (by kernel_rfl) (by kernel_rfl) (by kernel_rfl) (fun _ _ _ h => h) (by rfl) ?hy73 (by assumption) ?rest73
      case hy73 => (intro w hSw; (try dsimp only at hSw); go_simp; try with_reducible rfl)
      simp only [Act.put, List.setIfInBounds_toArray, List.set_cons_zero, List.set_cons_succ]
      refine held_call 15 rfl (by kernel_rfl) (by rfl) (fun K hK => ?_)
      go_simp
      go_at_call 59
      refine (CV.out _ (And.left hHeld)).mono ?_
      rintro e wf ⟨rfl, hbf⟩
      go_simp
      have hHeld := KL.out _ (below_next (And.left hHeld) hbf)
      refine hK _ _ (by assumption) ?_
      clear hK K
      try simp only [Act.put, List.setIfInBounds_toArray, List.set_cons_zero, List.set_cons_succ]
      refine held_take (v := ?v75) 16 rfl (by kernel_rfl) (by kernel_rfl) (by kernel_rfl) (fun _ _ _ h => h) (by rfl) ?hy75 (by assumption) ?rest75
      case hy75 => (intro w hSw; (try dsimp only at hSw); go_simp; try with_reducible rfl)
      simp only [Act.put, List.setIfInBounds_toArray, List.set_cons_zero, List.set_cons_succ]
      refine held_take (v := ?v76) 17 rfl (by kernel_rfl) (by kernel_rfl) (by kernel_rfl) (fun _ _ _ h => h) (by rfl) ?hy76 (by assumption) ?rest76
      case hy76 => (intro w hSw; (try dsimp only at hSw); go_simp; try with_reducible rfl)
      simp only [Act.put, List.setIfInBounds_toArray, List.set_cons_zero, List.set_cons_succ]
      refine wpAnyH_done (by kernel_rfl) ?_ _
      refine NoPanic.normal ?_
      go_wp2_with fail
      exact ⟨⟨k + 1, by omega, by go_num, by rw [HSN.out, ← List.append_assoc, HX.out, ← HAP.out], Lib.hid (below_next hB.out (And.left hHeld))⟩, by simp [intOf]; omega⟩
    · have x11 : wr.cell? ⟨w.heap.size, 11, none⟩ = some (.slice E en.length d) := (HB.out.belowS hB.out).cell 11
      go_wp2_with fail
      go_ret
      rw [show en.take k = en from List.take_of_length_le (by omega)]
      exact ⟨by rw [HRES.out]; rfl, below_next BF.out hB.out⟩
end Go.Proofs.Ytfaophiaiflecaa
namespace Go.Proofs.Ytfaophiaiflecaa
open Go.RowKit

set_option maxRecDepth 100000 in
set_option maxHeartbeats 3200000 in
theorem noteText_any (x : Nt) (A E : Option Addr) (c d : Nat) (w : World) (hx : NtAt w x A E) (ok : mayF x = true → NtOk x) :
    Calls Try.prog 15 #[.agg (x.cells A c E d)] w fun e w' => e = .returned (.tuple #[.string (noteTF x).1, .int .i64 (noteTF x).2]) ∧ Below w.heap.size w w' := by
  have CM := Lib.hid (fun W (hw : Below w.heap.size w W) => rnoteMay_any x A E c d W (hx.below hw))
  rw [refF_eq] at CM
  have HTF := Lib.hid (show noteTF x = if mayF x then (if 4096 < (noteB x).length then (eS, 3801) else (⟨(noteB x).toArray⟩, 0)) else (eS, 3800) from rfl)
  have HSZ := Lib.hid (fun h => may_sizes (x := x) h)
  have HNL := Lib.hid (fun hm h => noteB_len (x := x) (ok hm) h)
  have CW := Lib.hid (fun W (hw : Below w.heap.size w W) hp hm => noteBytes_any x A E c d W (hx.below hw) (ok hm) hp)
  generalize hcl : x.cells A c E d = cl at *
  have HCL := Lib.hid hcl
  have HB := Lib.hid (Blk.new w cl 41)
  have BF := Lib.hid (below_allocS (Below.refl _ _) (.cells cl 41) : Below w.heap.size w (w.alloc (.cells cl 41)))
  generalize noteB x = BT at *
  clear hx ok
  obtain ⟨k, ag, se, st, pe, la, v, pr, en⟩ := x
  simp only [Nt.cells] at hcl
  subst hcl
  generalize noteTF ⟨k, ag, se, st, pe, la, v, pr, en⟩ = TF at *
  go_enter Try.func15, Try.ntmps15
  go_wp2_with fail
  refine (CM.out _ BF.out).mono ?_
  rintro e w1 ⟨rfl, hb1⟩
  have B1 := Lib.hid (below_next BF.out hb1)
  have HB1 := Lib.hid (HB.out.belowS hb1)
  clear hb1 CM
  rcases hmay : mayF ⟨k, ag, se, st, pe, la, v, pr, en⟩ with _ | _
  · rw [hmay] at HTF
    go_wp2_with fail
    go_ret2
    rw [HTF.out]
    exact ⟨rfl, B1.out⟩
  · have HSZ := Lib.hid (HSZ.out hmay)
    have hbl := HNL.out hmay HSZ.out
    rw [hmay, if_pos rfl] at HTF
    have CN := Lib.hid (CW.out w1 B1.out HSZ.out hmay)
    have x0 : w1.cell? ⟨w.heap.size, 0, none⟩ = _ := HB1.out.cell 0
    have x1 : w1.cell? ⟨w.heap.size, 1, none⟩ = _ := HB1.out.cell 1
    have x2 : w1.cell? ⟨w.heap.size, 2, none⟩ = _ := HB1.out.cell 2
    have x3 : w1.cell? ⟨w.heap.size, 3, none⟩ = _ := HB1.out.cell 3
    have x4 : w1.cell? ⟨w.heap.size, 4, none⟩ = _ := HB1.out.cell 4
    have x5 : w1.cell? ⟨w.heap.size, 5, none⟩ = _ := HB1.out.cell 5
    have x6 : w1.cell? ⟨w.heap.size, 6, none⟩ = _ := HB1.out.cell 6
    have x7 : w1.cell? ⟨w.heap.size, 7, none⟩ = _ := HB1.out.cell 7
    have x8 : w1.cell? ⟨w.heap.size, 8, none⟩ = _ := HB1.out.cell 8
    have x9 : w1.cell? ⟨w.heap.size, 9, none⟩ = _ := HB1.out.cell 9
    have x10 : w1.cell? ⟨w.heap.size, 10, none⟩ = _ := HB1.out.cell 10
    have x11 : w1.cell? ⟨w.heap.size, 11, none⟩ = _ := HB1.out.cell 11
    dsimp [Nt.cells] at x0 x1 x2 x3 x4 x5 x6 x7 x8 x9 x10 x11
    go_wp2_with fail
    refine CN.out.mono ?_
    rintro e w3 ⟨rfl, hb3⟩
    have B3 := Lib.hid (below_next B1.out hb3)
    clear hb3 CW x0 x1 x2 x3 x4 x5 x6 x7 x8 x9 x10 x11
    by_cases hs : 4096 < BT.length
    · have hd : decide ((4096 : Int) < (BT.length : Int)) = true := by simp; omega
      go_wp2_with fail
      go_ret2
      rw [HTF.out, if_pos hs]
      exact ⟨rfl, B3.out⟩
    · have hd : decide ((4096 : Int) < (BT.length : Int)) = false := by simp; omega
      go_wp2_with fail
      go_ret2
      rw [HTF.out, if_neg hs]
      exact ⟨rfl, B3.out⟩
end Go.Proofs.Ytfaophiaiflecaa
