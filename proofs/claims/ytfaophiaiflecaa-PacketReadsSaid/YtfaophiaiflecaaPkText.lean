/- Contracts: reparteeref36.frameBytes, FrameText. -/
import Derived.Test.YtfaophiaiflecaaPkFrame
import Derived.Test.YtfaophiaiflecaaPkRef
import Derived.Deep.DeepCutAuto
namespace Go.Proofs.Ytfaophiaiflecaa
open Go.RowKit

set_option maxRecDepth 100000 in
set_option maxHeartbeats 1600000 in
theorem frameBytes_any (x : Fr) (w : World) (hx : x.fits) (hb : x.body.size ≤ 1000000) :
    Calls Try.prog 27 #[.agg x.cells] w fun e w' => e = .returned (.string ⟨(frB x).toArray⟩) ∧ Below w.heap.size w w' := by
  obtain ⟨f0, f1, f2, f3⟩ := hx
  have C0 := Lib.hid (fun W => intbytes_any x.kind W f0.1 f0.2)
  have C1 := Lib.hid (fun W => intbytes_any x.from_ W f1.1 f1.2)
  have C2 := Lib.hid (fun W => intbytes_any x.to W f2.1 f2.2)
  have C3 := Lib.hid (fun W => intbytes_any x.seq W f3.1 f3.2)
  have C4 := Lib.hid (fun W => textbytes_any x.body W (by omega))
  have HB := Lib.hid (Blk.new w x.cells 23)
  have BF := Lib.hid (below_allocS (Below.refl _ _) (.cells x.cells 23) : Below w.heap.size w (w.alloc (.cells x.cells 23)))
  have KS := Lib.hid (fun W (hw : Below (w.alloc (.cells x.cells 23)).heap.size (w.alloc (.cells x.cells 23)) W) => show Below (w.alloc (.cells x.cells 23)).heap.size (w.alloc (.cells x.cells 23)) W ∧ W.cell? ⟨w.heap.size, 0, none⟩ = some (.int .i64 x.kind) ∧ W.cell? ⟨w.heap.size, 1, none⟩ = some (.int .i64 x.from_) ∧ W.cell? ⟨w.heap.size, 2, none⟩ = some (.int .i64 x.to) ∧ W.cell? ⟨w.heap.size, 3, none⟩ = some (.int .i64 x.seq) ∧ W.cell? ⟨w.heap.size, 4, none⟩ = some (.string x.body) from ⟨hw, blk5 (HB.out.belowS hw)⟩)
  have z0 : (numB x.kind).length ≤ 10 := numB_le x.kind
  have z1 : (numB x.from_).length ≤ 10 := numB_le x.from_
  have z2 : (numB x.to).length ≤ 10 := numB_le x.to
  have z3 : (numB x.seq).length ≤ 10 := numB_le x.seq
  have z4 : (txt x.body.data.toList).length ≤ 1000010 := by
    have h5 := numB_le x.body.data.toList.length
    have e := ba_size x.body
    unfold txt
    rw [List.length_append]; omega
  have hv : (((((⟨(numB x.kind).toArray⟩ : ByteArray) ++ (⟨(numB x.from_).toArray⟩ : ByteArray)) ++ (⟨(numB x.to).toArray⟩ : ByteArray)) ++ (⟨(numB x.seq).toArray⟩ : ByteArray)) ++ (⟨(txt x.body.data.toList).toArray⟩ : ByteArray)) = ⟨(frB x).toArray⟩ := by
    rw [ba_app', ba_app', ba_app', ba_app']; unfold frB; simp
  have HV := Lib.hid hv
  have n1 : ¬ 9223372036854775807 < (numB x.kind).length + (numB x.from_).length := by omega
  have n2 : ¬ 9223372036854775807 < (numB x.kind).length + (numB x.from_).length + (numB x.to).length := by omega
  have n3 : ¬ 9223372036854775807 < (numB x.kind).length + (numB x.from_).length + (numB x.to).length + (numB x.seq).length := by omega
  have n4 : ¬ 9223372036854775807 < (numB x.kind).length + (numB x.from_).length + (numB x.to).length + (numB x.seq).length + (txt x.body.data.toList).length := by omega
  clear hv f0 f1 f2 f3
  unfold Fr.cells at *
  go_enter Try.func27, Try.ntmps27
  go_wp2_with fail
  go_region_held3 (fun W => Below (w.alloc (.cells #[.int .i64 x.kind, .int .i64 x.from_, .int .i64 x.to, .int .i64 x.seq, .string x.body] 23)).heap.size (w.alloc (.cells #[.int .i64 x.kind, .int .i64 x.from_, .int .i64 x.to, .int .i64 x.seq, .string x.body] 23)) W ∧ W.cell? ⟨w.heap.size, 0, none⟩ = some (.int .i64 x.kind) ∧ W.cell? ⟨w.heap.size, 1, none⟩ = some (.int .i64 x.from_) ∧ W.cell? ⟨w.heap.size, 2, none⟩ = some (.int .i64 x.to) ∧ W.cell? ⟨w.heap.size, 3, none⟩ = some (.int .i64 x.seq) ∧ W.cell? ⟨w.heap.size, 4, none⟩ = some (.string x.body))
    (first
      | (exact KS.out _ ((Below.refl _ _).drew))
      | (exact KS.out _ (below_next (And.left (by assumption)) (by assumption))))
    (first
      | (go_at_call 54; (with_reducible refine (C0.out _).mono ?_); rintro e wf ⟨rfl, hbf⟩)
      | (go_at_call 54; (with_reducible refine (C1.out _).mono ?_); rintro e wf ⟨rfl, hbf⟩)
      | (go_at_call 54; (with_reducible refine (C2.out _).mono ?_); rintro e wf ⟨rfl, hbf⟩)
      | (go_at_call 54; (with_reducible refine (C3.out _).mono ?_); rintro e wf ⟨rfl, hbf⟩)
      | (go_at_call 55; (with_reducible refine (C4.out _).mono ?_); rintro e wf ⟨rfl, hbf⟩))
  all_goals
    have BE := Lib.hid (And.left (show Below (w.alloc (.cells #[.int .i64 x.kind, .int .i64 x.from_, .int .i64 x.to, .int .i64 x.seq, .string x.body] 23)).heap.size (w.alloc (.cells #[.int .i64 x.kind, .int .i64 x.from_, .int .i64 x.to, .int .i64 x.seq, .string x.body] 23)) _ ∧ _ by assumption))
    go_wp2_with fail
    go_ret
    exact ⟨by rw [← HV.out]; rfl, below_next BF.out BE.out⟩
theorem dec_nil (s : ByteArray) : decide (s = ⟨#[]⟩) = decide (s.toList = []) := by
  by_cases h : s = ⟨#[]⟩
  · subst h
    have e : (⟨#[]⟩ : ByteArray).toList = [] := by rw [Go.ByteArray.toList_eq]
    simp [e]
  · have := nil_not h
    simp [h, this]
set_option maxRecDepth 100000 in
set_option maxHeartbeats 1600000 in
theorem frameText_any (x : Fr) (w : World) (hx : x.fits) :
    Calls Try.prog 10 #[.agg x.cells] w fun e w' => e = .returned (.tuple #[.string (frameF x).1, .int .i64 (frameF x).2]) ∧ Below w.heap.size w w' := by
  have HF := Lib.hid (show frameF x = if x.may then (if 4096 < x.body.size then (⟨#[]⟩, 3801) else (⟨(frB x ++ fourB (fnv (frB x))).toArray⟩, 0)) else (⟨#[]⟩, 3800) from rfl)
  have HX := Lib.hid hx
  have BF := Lib.hid (below_allocS (Below.refl _ _) (.cells x.cells 23) : Below w.heap.size w (w.alloc (.cells x.cells 23)))
  have CB := Lib.hid (fun W (h : x.body.size ≤ 4096) => frameBytes_any x W hx (by omega))
  have HL := frB_len x
  have HM := Lib.hid (show x.may = ((decide (x.kind = 1) || (decide (x.kind = 2) && decide (x.body = ⟨#[]⟩))) && Fr.node x.from_ && Fr.node x.to && !decide (x.from_ = x.to) && decide (0 ≤ x.seq)) from rfl)
  have HB := Lib.hid (Blk.new w x.cells 23)
  clear hx
  generalize hbt : frB x = BT at *
  have HAP := Lib.hid (ba_app' BT (fourB (fnv BT)))
  obtain ⟨kd, fr, tt, sq, bd⟩ := x
  clear hbt
  unfold Fr.cells at *
  dsimp only at *
  go_enter Try.func10, Try.ntmps10
  rw [dec_nil] at HM
  have HC := Lib.hid (show True from trivial)
  go_upto_region 1 with fail
  go_cut [54] (fun s54 wx => s54 = .bool (!((decide (kd = 1) || (decide (kd = 2) && decide (bd.toList = []))) && Fr.node fr && Fr.node tt && !decide (fr = tt) && decide (0 ≤ sq))) ∧ Hid (w.alloc (.cells #[.int .i64 kd, .int .i64 fr, .int .i64 tt, .int .i64 sq, .string bd] 23) = wx))
  case first =>
    have split : ∀ a b : Int, (((a == b) = true ∧ (a != b) = false) ∧ Hid (a = b)) ∨ (((a == b) = false ∧ (a != b) = true) ∧ Hid (¬ a = b)) := fun a b => by
      by_cases h : a = b
      · exact .inl ⟨by subst h; simp, Lib.hid h⟩
      · exact .inr ⟨by simp [h], Lib.hid h⟩
    have s1 := Lib.hid (split kd 1)
    have s2 := Lib.hid (split kd 2)
    have s3 := Lib.hid (split fr tt)
    clear split
    rcases s1.out with ⟨⟨a1, a2⟩, P1⟩ | ⟨⟨a1, a2⟩, P1⟩ <;> rcases s2.out with ⟨⟨b1, b2⟩, P2⟩ | ⟨⟨b1, b2⟩, P2⟩ <;> rcases s3.out with ⟨⟨d1, d2⟩, P3⟩ | ⟨⟨d1, d2⟩, P3⟩ <;> by_cases hP : bd.toList = []
    all_goals
      go_wp2_with fail
    all_goals
      go_meet
      refine ⟨?_, Lib.hid rfl⟩
      have p1 := P1.out
      have p2 := P2.out
      have p3 := P3.out
      congr 1
      rw [Bool.eq_iff_iff]
      simp [Fr.node, hP]
      omega
  case rest =>
    obtain ⟨rfl, hwc⟩ := hcut
    obtain rfl := hwc.out
    rw [← HM.out]
    obtain ⟨y0, y1, y2, y3, y4⟩ := blk5 HB.out
    have hl := HB.out.lt
    rcases hmay : Fr.may ⟨kd, fr, tt, sq, bd⟩ with _ | _
    · go_wp2_with fail
      go_ret2
      rw [HF.out, hmay]
      exact ⟨rfl, BF.out⟩
    · by_cases hs : 4096 < bd.size
      · have hd : decide ((4096 : Int) < (bd.size : Int)) = true := by simp; omega
        have hd2 : decide (4096 < bd.size) = true := by simp; omega
        go_wp2_with fail
        go_ret2
        rw [HF.out, hmay, if_pos rfl, if_pos hs]
        exact ⟨rfl, BF.out⟩
      · have hd : decide ((4096 : Int) < (bd.size : Int)) = false := by simp; omega
        have hd2 : decide (4096 < bd.size) = false := by simp; omega
        go_wp2_with fail
        refine (CB.out _ (by omega)).mono ?_
        rintro e w1 ⟨rfl, hb1⟩
        have B1 := Lib.hid (below_next BF.out hb1)
        clear hb1
        have CS := Lib.hid (fun W => sumtext_any ⟨BT.toArray⟩ W (by show BT.length ≤ _; unfold maxLen; omega))
        have hz : ¬ 9223372036854775807 < BT.length + 4 := by omega
        have hz2 : ¬ 9223372036854775807 < BT.length + (fourB (fnv BT)).length := by show ¬ _ < BT.length + 4; omega
        go_wp2_with fail
        refine (CS.out _).mono ?_
        rintro e w2 ⟨rfl, hb2⟩
        have B2 := Lib.hid (below_next B1.out hb2)
        clear hb2
        go_wp2_with fail
        go_ret2
        rw [HF.out, hmay, if_pos rfl, if_neg hs]
        exact ⟨by rw [← HAP.out]; rfl, B2.out⟩
end Go.Proofs.Ytfaophiaiflecaa
