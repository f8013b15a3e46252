/- Contracts: packet.value (a value anywhere), what packet.value makes to read one number of a list, the list's writer. Contract: the writer of a list of numbers. -/
import Derived.Test.YtfaophiaiflecaaPkFld2
import Derived.Test.YtfaophiaiflecaaNtSame
import Derived.Test.YtfaophiaiflecaaHeld
import Derived.Deep.DeepCutAuto
namespace Go.Proofs.Ytfaophiaiflecaa
open Go.RowKit

abbrev I64 (n : Int) : Prop := -9223372036854775808 ≤ n ∧ n ≤ 9223372036854775807
def nums64 (l : List Int) : List UInt8 := l.flatMap numB
def l64B (l : List Int) : List UInt8 := numB l.length ++ nums64 l
theorem nums64_len (l : List Int) : (nums64 l).length ≤ l.length * 10 := by
  induction l with
  | nil => simp [nums64]
  | cons a t ih =>
    have h := numB_le a
    have e : nums64 (a :: t) = numB a ++ nums64 t := rfl
    rw [e, List.length_append, List.length_cons]; omega
theorem l64B_len (l : List Int) : (l64B l).length ≤ l.length * 10 + 10 := by
  have h := nums64_len l
  have k := numB_le (l.length : Int)
  unfold l64B
  rw [List.length_append]; omega
theorem nums64_snoc (l : List Int) (k : Nat) (h : k < l.length) : nums64 (l.take (k + 1)) = nums64 (l.take k) ++ numB l[k] := by
  rw [List.take_succ_eq_append_getElem h]
  unfold nums64
  rw [List.flatMap_append]
  simp
set_option maxHeartbeats 800000 in
theorem one_any (p : Addr) (w : World) :
    Calls Try.prog 82 #[.pointer (some p)] w fun e w' => ∃ b, e = .returned (.slice (some ⟨b + 2, 0, none⟩) 1 1) ∧ Rd w' (some ⟨b + 2, 0, none⟩) [n64W b, n64R b] ∧ Blk w' b #[.pointer (some p)] 106 ∧ w.heap.size ≤ b ∧ Below w.heap.size w w' := by
  have HE := Lib.hid (size_withN64 w p)
  have HK := Lib.hid (blk_withN64 w p)
  have HL := Lib.hid (below_withN64 w p)
  go_enter Try.func82, Try.ntmps82
  go_wp2_with fail
  refine (number64_any _ _).mono ?_
  rintro e w' ⟨rfl, rfl⟩
  generalize withN64 w p = w1 at *
  go_wp2_with fail
  go_ret
  refine ⟨w.heap.size, ?_, ?_, HK.out.alloc _, Nat.le_refl _, below_allocS HL.out _⟩
  · rw [← HE.out]; rfl
  · rw [← HE.out]; exact Rd.new w1 _ _
set_option maxHeartbeats 800000 in
theorem write_n64 (b : Nat) (p : Addr) (A : Option Addr) (c : Nat) (n : Int) (w : World) (ha : Rd w A [n64W b, n64R b]) (hb : Blk w b #[.pointer (some p)] 106) (hp : w.cell? p = some (.int .i64 n)) (hn : I64 n) :
    Calls Try.prog 24 #[.slice A 1 c] w fun e w' => e = .returned (.string ⟨(numB n).toArray⟩) ∧ Below w.heap.size w w' := by
  have h := write_any A [(.ext .i64 #[.pointer (some ⟨b, 0, none⟩)] #[.pointer (some ⟨b, 0, none⟩)] (numB n), 0)] c w ha (by
    intro x hx
    simp only [List.mem_cons, List.not_mem_nil, or_false] at hx
    subst hx
    refine ⟨by have := numB_le n; omega, fun W hw => number641_any b p n W (hb.belowS hw) ((hw.cell (World.block_lt_of_cell? _ _ hp)).trans hp) hn.1 hn.2⟩) (by simp)
  have e : fdBytes [((Fd.ext .i64 #[.pointer (some ⟨b, 0, none⟩)] #[.pointer (some ⟨b, 0, none⟩)] (numB n) : Fd), 0)] = numB n := by simp [fdBytes, Fd.bytes]
  rw [e] at h
  exact h
end Go.Proofs.Ytfaophiaiflecaa
namespace Go.Proofs.Ytfaophiaiflecaa
open Go.RowKit

set_option maxRecDepth 100000 in
set_option maxHeartbeats 3200000 in
theorem list641_any (b : Nat) (p : Addr) (A : Option Addr) (l : List Int) (c : Nat) (w : World) (hb : Blk w b #[.pointer (some p)] 110) (hf : Blk w (b + 1) #[.func (.func 82) #[] #[]] 108) (hp : w.cell? p = some (.slice A l.length c)) (hA : Ints w A l) (hl : l.length ≤ 1000000) (hi : ∀ x ∈ l, I64 x) :
    Calls Try.prog 91 #[.pointer (some ⟨b, 0, none⟩), .pointer (some ⟨b + 1, 0, none⟩)] w fun e w' => e = .returned (.string ⟨(l64B l).toArray⟩) ∧ Below w.heap.size w w' := by
  have HN := Lib.hid (fun W => number_any l.length W (by omega) (by omega))
  have hpl := World.block_lt_of_cell? w _ hp
  have KS0 := Lib.hid (fun W (hw : Below w.heap.size w W) => show W.cell? ⟨b, 0, none⟩ = some (.pointer (some p)) ∧ W.cell? ⟨b + 1, 0, none⟩ = some (.func (.func 82) #[] #[]) ∧ W.cell? p = some (.slice A l.length c) from ⟨(hw.cell (p := ⟨b, 0, none⟩) hb.lt).trans (hb.cell 0), (hw.cell (p := ⟨b + 1, 0, none⟩) hf.lt).trans (hf.cell 0), (hw.cell hpl).trans hp⟩)
  have HA := Lib.hid (fun W (hw : Below w.heap.size w W) => (Rd.below hA hw : Ints W A l))
  have HIA := Lib.hid hi
  have HB := Lib.hid (And.intro hb.lt (And.intro hf.lt hpl))
  obtain ⟨x0, _, x1⟩ := KS0.out w (Below.refl _ _)
  clear hb hp hpl hf hA hi
  go_enter Try.func91, Try.ntmps91
  go_wp2_with fail
  refine (HN.out _).mono ?_
  rintro e w1 ⟨rfl, hb⟩
  have B1 := Lib.hid hb
  clear x0 x1 hb
  obtain ⟨x0, _, x1⟩ := KS0.out w1 B1.out
  go_wp2_with fail
  go_loopw [3, 14] (fun s i wr => ∃ k : Nat, k ≤ l.length ∧ i = .int .i64 k ∧ s = .string ⟨(numB l.length ++ nums64 (l.take k)).toArray⟩ ∧ Hid (Below w.heap.size w wr)) (fun _ i _ => l.length - (intOf i).toNat)
  case atStart => exact ⟨0, Nat.zero_le _, rfl, by simp [nums64], B1⟩
  case round =>
    obtain ⟨k, hk, rfl, rfl, hB⟩ := hrel
    clear x0 x1
    by_cases hlt : k < l.length
    · obtain ⟨ab, ao, rfl, hab, hcs⟩ := ints_at (HA.out _ hB.out) hlt
      have hck := hcs k hlt
      have KS := Lib.hid (fun W (hw : Below wr.heap.size wr W) => show Below wr.heap.size wr W ∧ W.cell? ⟨b, 0, none⟩ = some (.pointer (some p)) ∧ W.cell? ⟨b + 1, 0, none⟩ = some (.func (.func 82) #[] #[]) ∧ W.cell? p = some (.slice (some ⟨ab, ao, none⟩) l.length c) from ⟨hw, KS0.out _ (below_next hB.out hw)⟩)
      have KS2 := Lib.hid (fun W (hw : Below wr.heap.size wr W) => show W.cell? ⟨ab, ao + k, none⟩ = some (.int .i64 l[k]) from (hw.cell (p := ⟨ab, ao + k, none⟩) hab).trans hck)
      have HI := Lib.hid (HIA.out _ (List.getElem_mem hlt))
      have HSN := Lib.hid (nums64_snoc l k hlt)
      have hn1 := nums64_len (l.take k)
      have hn2 := numB_le (l.length : Int)
      have hn3 := numB_le l[k]
      have hn4 : (l.take k).length ≤ 1000000 := by rw [List.length_take]; omega
      have CONE := Lib.hid (fun W => one_any ⟨ab, ao + k, none⟩ W)
      clear hcs hck
      generalize l[k] = n at *
      generalize hX : numB l.length ++ nums64 (l.take k) = X at *
      have hxl : X.length ≤ 10000010 := by rw [← hX, List.length_append]; omega
      have HX := Lib.hid hX
      have HAP := Lib.hid (ba_app' X (numB n))
      have hz1 : ¬ 9223372036854775807 < X.length + (numB n).length := by omega
      clear hX hn1 hn2 hn3 hn4 hxl
      go_upto_region 5 with fail
      refine wp_region_noPanic ?_
      refine wp_region_held_drew (S := fun W => Below wr.heap.size wr W ∧ W.cell? ⟨b, 0, none⟩ = some (.pointer (some p)) ∧ W.cell? ⟨b + 1, 0, none⟩ = some (.func (.func 82) #[] #[]) ∧ W.cell? p = some (.slice (some ⟨ab, ao, none⟩) l.length c)) (by kernel_rfl) (KS.out _ ((Below.refl _ _).drew)) (fun hHeld => ?_)
      refine held_take (v := ?v1) 0 rfl (by kernel_rfl) (by kernel_rfl) (by kernel_rfl) (fun _ _ _ h => h) (by rfl) ?hy1 (by assumption) ?rest1
      case hy1 => (intro w hSw; (try dsimp only at hSw); go_simp; try with_reducible rfl)
      simp only [Act.put, List.setIfInBounds_toArray, List.set_cons_zero, List.set_cons_succ]
      refine held_take (v := ?v2) 1 rfl (by kernel_rfl) (by kernel_rfl) (by kernel_rfl) (fun _ _ _ h => h) (by rfl) ?hy2 (by assumption) ?rest2
      case hy2 => (intro w hSw; (try dsimp only at hSw); go_simp; try with_reducible rfl)
      simp only [Act.put, List.setIfInBounds_toArray, List.set_cons_zero, List.set_cons_succ]
      refine held_take (v := ?v3) 2 rfl (by kernel_rfl) (by kernel_rfl) (by kernel_rfl) (fun _ _ _ h => h) (by rfl) ?hy3 (by assumption) ?rest3
      case hy3 => (intro w hSw; (try dsimp only at hSw); go_simp; try with_reducible rfl)
      simp only [Act.put, List.setIfInBounds_toArray, List.set_cons_zero, List.set_cons_succ]
      refine held_take (v := ?v4) 3 rfl (by kernel_rfl) (by kernel_rfl) (by kernel_rfl) (fun _ _ _ h => h) (by rfl) ?hy4 (by assumption) ?rest4
      case hy4 => (intro w hSw; (try dsimp only at hSw); go_simp; try with_reducible rfl)
      simp only [Act.put, List.setIfInBounds_toArray, List.set_cons_zero, List.set_cons_succ]
      refine held_take (v := ?v5) 4 rfl (by kernel_rfl) (by kernel_rfl) (by kernel_rfl) (fun _ _ _ h => h) (by rfl) ?hy5 (by assumption) ?rest5
      case hy5 => (intro w hSw; (try dsimp only at hSw); go_simp; try with_reducible rfl)
      simp only [Act.put, List.setIfInBounds_toArray, List.set_cons_zero, List.set_cons_succ]
      refine held_take (v := ?v6) 5 rfl (by kernel_rfl) (by kernel_rfl) (by kernel_rfl) (fun _ _ _ h => h) (by rfl) ?hy6 (by assumption) ?rest6
      case hy6 => (intro w hSw; (try dsimp only at hSw); go_simp; try with_reducible rfl)
      simp only [Act.put, List.setIfInBounds_toArray, List.set_cons_zero, List.set_cons_succ]
      refine held_take (v := ?v7) 6 rfl (by kernel_rfl) (by kernel_rfl) (by kernel_rfl) (fun _ _ _ h => h) (by rfl) ?hy7 (by assumption) ?rest7
      case hy7 => (intro w hSw; (try dsimp only at hSw); go_simp; try with_reducible rfl)
      simp only [Act.put, List.setIfInBounds_toArray, List.set_cons_zero, List.set_cons_succ]
      refine held_call 7 rfl (by kernel_rfl) (by rfl) (fun K hK => ?_)
      go_simp
      go_at_call 82
      refine (CONE.out _).mono ?_
      rintro e wf ⟨b2, rfl, q1, q2, q3, hbf⟩
      go_simp
      have hHeld := KS.out _ (below_next (And.left hHeld) hbf)
      refine hK _ _ (by assumption) ?_
      clear hK K
      try simp only [Act.put, List.setIfInBounds_toArray, List.set_cons_zero, List.set_cons_succ]
      refine held_call 8 rfl (by kernel_rfl) (by rfl) (fun K hK => ?_)
      go_simp
      go_at_call 24
      refine (write_n64 b2 _ _ 1 _ _ q1 q2 (KS2.out _ (And.left hHeld)) HI.out).mono ?_
      rintro e wg ⟨rfl, hbg⟩
      go_simp
      have hHeld := KS.out _ (below_next (And.left hHeld) hbg)
      refine hK _ _ (by assumption) ?_
      clear hK K
      try simp only [Act.put, List.setIfInBounds_toArray, List.set_cons_zero, List.set_cons_succ]
      refine held_take (v := ?v10) 9 rfl (by kernel_rfl) (by kernel_rfl) (by kernel_rfl) (fun _ _ _ h => h) (by rfl) ?hy10 (by assumption) ?rest10
      case hy10 => (intro w hSw; (try dsimp only at hSw); go_simp; try with_reducible rfl)
      simp only [Act.put, List.setIfInBounds_toArray, List.set_cons_zero, List.set_cons_succ]
      refine held_take (v := ?v11) 10 rfl (by kernel_rfl) (by kernel_rfl) (by kernel_rfl) (fun _ _ _ h => h) (by rfl) ?hy11 (by assumption) ?rest11
      case hy11 => (intro w hSw; (try dsimp only at hSw); go_simp; try with_reducible rfl)
      simp only [Act.put, List.setIfInBounds_toArray, List.set_cons_zero, List.set_cons_succ]
      refine wpAnyH_done (by kernel_rfl) ?_ _
      refine NoPanic.normal ?_
      go_wp2_with fail
      exact ⟨⟨k + 1, by omega, by go_num, by rw [HSN.out, ← List.append_assoc, HX.out, ← HAP.out], Lib.hid (below_next hB.out (And.left (by assumption)))⟩, by simp [intOf]; omega⟩
    · go_wp2_with fail
      go_ret
      rw [show l.take k = l from List.take_of_length_le (by omega)]
      exact ⟨rfl, hB.out⟩
end Go.Proofs.Ytfaophiaiflecaa
