/- Contracts: reparteeref36.inputBytes, row, WriteInputs. -/
import Derived.Test.YthepacphphiijaaRefNum
namespace Go.Proofs.Ythepacphphiijaa
open Go.RowKit

/-- An input as a value. -/
def inV (x : In) : Value := .agg #[.int .i64 x.kind, .int .i64 x.frm, .string ⟨x.body.toArray⟩]
set_option maxRecDepth 100000 in
set_option maxHeartbeats 1600000 in
theorem inputBytes_any (x : In) (w : World) (hx : x.ok) :
    Calls Try.prog 41 #[.agg #[.int .i64 x.kind, .int .i64 x.frm, .string ⟨x.body.toArray⟩]] w fun e w' => e = .returned (.string ⟨(payB x).toArray⟩) ∧ Below w.heap.size w w' := by
  have HX := Lib.hid hx
  obtain ⟨⟨k1, k2⟩, ⟨f1, f2⟩, hbd⟩ := hx
  have hp := payB_len HX.out
  have hv : ((⟨(numB x.kind).toArray⟩ : ByteArray) ++ (⟨(numB x.frm).toArray⟩ : ByteArray)) ++ (⟨(txt x.body).toArray⟩ : ByteArray) = ⟨(payB x).toArray⟩ := by rw [ba_app', ba_app']; unfold payB; rw [List.append_assoc]
  have HV := Lib.hid hv
  have CT := Lib.hid (fun W => textbytes_any ⟨x.body.toArray⟩ W (by show x.body.length ≤ _; omega))
  have y1 : (numB x.kind).length ≤ 10 := numB_le x.kind
  have y2 : (numB x.frm).length ≤ 10 := numB_le x.frm
  have y3 : (txt x.body).length ≤ 1000000030 := by
    simp only [payB, List.length_append] at hp
    omega
  have n1 : ¬ 9223372036854775807 < (numB x.kind).length + (numB x.frm).length := by omega
  have n2 : ¬ 9223372036854775807 < (numB x.kind).length + (numB x.frm).length + (txt x.body).length := by omega
  clear hv hp hbd
  obtain ⟨W1, hW1⟩ : ∃ W1, W1 = w.alloc (.cells #[.int .i64 x.kind, .int .i64 x.frm, .string ⟨x.body.toArray⟩] 39) := ⟨_, rfl⟩
  have GB := Lib.hid (show Blk W1 w.heap.size #[.int .i64 x.kind, .int .i64 x.frm, .string ⟨x.body.toArray⟩] 39 by rw [hW1]; exact Blk.new w _ _)
  have BW1 := Lib.hid (show Below w.heap.size w W1 by rw [hW1]; exact (Below.refl _ _).alloc (Nat.le_refl _) _)
  have HW1 := Lib.hid hW1
  clear hW1
  obtain ⟨x0, x1, x2⟩ := blk3 GB.out
  go_enter Try.func41, Try.ntmps41
  go_upto_region 1 with fail
  rw [← HW1.out]
  go_region_held3 (fun W => W.cell? ⟨w.heap.size, 0, none⟩ = some (.int .i64 x.kind) ∧ W.cell? ⟨w.heap.size, 1, none⟩ = some (.int .i64 x.frm) ∧ W.cell? ⟨w.heap.size, 2, none⟩ = some (.string ⟨x.body.toArray⟩))
    (first | go_keep | (exact blk3 (GB.out.belowS HBf)))
    (first
      | (go_at_call 55; refine (intbytes_any _ _ (by assumption) (by assumption)).mono ?_; rintro e wf ⟨rfl, hbf⟩; have HBf : Below W1.heap.size W1 wf := (by first | exact below_of_drew hbf | exact below_next HBf hbf))
      | (go_at_call 40; refine (CT.out _).mono ?_; rintro e wf ⟨rfl, hbf⟩; have HBf : Below W1.heap.size W1 wf := (by first | exact below_of_drew hbf | exact below_next HBf hbf)))
  all_goals
    go_wp2_with fail
    go_ret
    refine ⟨?_, below_next BW1.out HBf⟩
    show Ending.returned (Value.string ((⟨(numB x.kind).toArray⟩ ++ ⟨(numB x.frm).toArray⟩) ++ ⟨(txt x.body).toArray⟩)) = _
    rw [HV.out]
set_option maxRecDepth 100000 in
set_option maxHeartbeats 1600000 in
theorem row_any (x : In) (w : World) (hx : x.ok) :
    Calls Try.prog 29 #[.agg #[.int .i64 x.kind, .int .i64 x.frm, .string ⟨x.body.toArray⟩]] w fun e w' => e = .returned (.string ⟨(recB x).toArray⟩) ∧ Below w.heap.size w w' := by
  have CI := Lib.hid (fun W => inputBytes_any x W hx)
  have hp := payB_len hx
  have hr := recB_len hx
  have CT := Lib.hid (fun W => textbytes_any ⟨(payB x).toArray⟩ W (by show (payB x).length ≤ _; omega))
  have CS := Lib.hid (fun W => sumtext_any ⟨(rowB x).toArray⟩ W (by unfold maxLen; simp [recB] at hr; show (rowB x).length ≤ _; omega))
  have hv : (⟨(rowB x).toArray⟩ : ByteArray) ++ (⟨(fourB (fnv (rowB x))).toArray⟩ : ByteArray) = ⟨(recB x).toArray⟩ := by rw [ba_app']; rfl
  have y1 : (txt (payB x)).length ≤ 1000000100 := by simp only [recB, rowB, List.length_append] at hr; omega
  have y2 : (fourB (fnv (rowB x))).length ≤ 4 := Nat.le_refl _
  have HV := Lib.hid hv
  clear hv hp hr hx
  go_enter Try.func29, Try.ntmps29
  go_wp2_with fail
  refine (CI.out _).mono ?_
  rintro e w1 ⟨rfl, hb⟩
  have B1 := Lib.hid (below_of_alloc hb)
  clear hb
  go_wp2_with fail
  refine (CT.out _).mono ?_
  rintro e w2 ⟨rfl, hb⟩
  have B2 := Lib.hid (below_next B1.out hb)
  clear hb
  go_wp2_with fail
  refine (CS.out _).mono ?_
  rintro e w3 ⟨rfl, hb⟩
  have B3 := Lib.hid (below_next B2.out hb)
  clear hb
  go_wp2_with fail
  go_ret
  refine ⟨?_, B3.out⟩
  show Ending.returned (Value.string (⟨(rowB x).toArray⟩ ++ ⟨(fourB (fnv (rowB x))).toArray⟩)) = _
  rw [HV.out]
set_option maxRecDepth 100000 in
set_option maxHeartbeats 1600000 in
theorem writeInputs_any (A : Option Addr) (l : List In) (c : Nat) (w : World) (ha : Rd w A (irow l)) (hok : ∀ x ∈ l, x.ok) (hl : l.length ≤ 1000) :
    Calls Try.prog 17 #[.slice A l.length c] w fun e w' => e = .returned (.string ⟨(recsB l).toArray⟩) ∧ Below w.heap.size w w' := by
  have HA := Lib.hid ha
  have HOK := Lib.hid hok
  clear ha hok
  go_enter Try.func17, Try.ntmps17
  go_wp2_with fail
  go_loopw [3, 4] (fun s i wr => ∃ (k : Nat) (L : List UInt8), k ≤ l.length ∧ i = .int .i64 k ∧ s = .string ⟨L.toArray⟩ ∧ Hid (L = recsB (l.take k)) ∧ Below w.heap.size w wr) (fun _ i _ => l.length - (intOf i).toNat)
  case atStart => exact ⟨0, [], by omega, rfl, rfl, Lib.hid rfl, Below.refl _ _⟩
  case round =>
    obtain ⟨k, L, hk, rfl, rfl, hL, hbw⟩ := hrel
    by_cases hlt : k < l.length
    · have BW := Lib.hid hbw
      have RW := HA.out.below hbw
      clear hbw
      obtain ⟨b, off, rfl, hb, c0, c1, c2⟩ := irow_cells RW hlt
      clear RW
      have HX := Lib.hid (HOK.out l[k] (List.getElem_mem hlt))
      have HS := Lib.hid (recsB_snoc l k hlt)
      generalize l[k] = x at *
      have CR := Lib.hid (fun W => row_any x W HX.out)
      have y4 : (recB x).length ≤ 1000000100 := recB_len HX.out
      have y6 : L.length ≤ 1000000100000 := by
        have := recsB_len (l.take k) (fun x hx => HOK.out x (List.mem_of_mem_take hx))
        rw [← hL.out, List.length_take] at this
        omega
      go_wp2_with fail
      refine (CR.out _).mono ?_
      rintro e w2 ⟨rfl, hb2⟩
      have B2 := Lib.hid (below_next BW.out hb2)
      clear hb2 c0 c1 c2
      go_wp2_with fail
      go_roundw
      case rel =>
        refine ⟨k + 1, L ++ recB x, by omega, by go_num, ?_, Lib.hid (by rw [HS.out, ← hL.out]), B2.out⟩
        show Value.string (⟨L.toArray⟩ ++ ⟨(recB x).toArray⟩) = _
        rw [ba_app']
      case measure => simp [intOf]; omega
    · go_wp2_with fail
      go_ret
      refine ⟨?_, hbw⟩
      rw [hL.out, List.take_of_length_le (by omega)]
      rfl
end Go.Proofs.Ythepacphphiijaa
