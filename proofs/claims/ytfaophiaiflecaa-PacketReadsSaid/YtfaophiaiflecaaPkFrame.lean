/- Contracts: packet.may, packet.Frame. -/
import Derived.Test.YtfaophiaiflecaaPkWrite
namespace Go.Proofs.Ytfaophiaiflecaa
open Go.RowKit

theorem nil_not {s : ByteArray} (h : ¬ s = ⟨#[]⟩) : ¬ s.toList = [] := by
  rw [Go.ByteArray.toList_eq]
  intro e
  apply h
  cases s
  simp at e
  rw [e]
/-- A frame. -/
structure Fr where
  kind : Int
  from_ : Int
  to : Int
  seq : Int
  body : ByteArray
def Fr.node (k : Int) : Bool := decide (0 ≤ k) && decide (k < 4)
def Fr.may (x : Fr) : Bool := (decide (x.kind = 1) || (decide (x.kind = 2) && decide (x.body = ⟨#[]⟩))) && Fr.node x.from_ && Fr.node x.to && !decide (x.from_ = x.to) && decide (0 ≤ x.seq)
def Fr.cells (x : Fr) : Array Value := #[.int .i64 x.kind, .int .i64 x.from_, .int .i64 x.to, .int .i64 x.seq, .string x.body]
def Fr.fits (x : Fr) : Prop := (-9223372036854775808 ≤ x.kind ∧ x.kind ≤ 9223372036854775807) ∧ (-9223372036854775808 ≤ x.from_ ∧ x.from_ ≤ 9223372036854775807) ∧ (-9223372036854775808 ≤ x.to ∧ x.to ≤ 9223372036854775807) ∧ (-9223372036854775808 ≤ x.seq ∧ x.seq ≤ 9223372036854775807)
def frB (x : Fr) : List UInt8 := numB x.kind ++ (numB x.from_ ++ (numB x.to ++ (numB x.seq ++ txt x.body.data.toList)))
def frameF (x : Fr) : ByteArray × Int := if x.may then (if 4096 < x.body.size then (⟨#[]⟩, 3801) else (⟨(frB x ++ fourB (fnv (frB x))).toArray⟩, 0)) else (⟨#[]⟩, 3800)
set_option maxHeartbeats 800000 in
theorem may1_any (k : Int) (w : World) : Calls Try.prog 50 #[.int .i64 k] w fun e w' => e = .returned (.bool (Fr.node k)) ∧ w = w' := by
  go_enter Try.func50, Try.ntmps50
  go_wp2
  all_goals
    go_ret
    exact ⟨ret_bool (by rw [Bool.eq_iff_iff]; simp [Fr.node]; omega), rfl⟩
set_option maxRecDepth 100000 in
set_option maxHeartbeats 1600000 in
theorem may_any (x : Fr) (w : World) :
    Calls Try.prog 23 #[.agg x.cells] w fun e w' => e = .returned (.bool x.may) ∧ Below w.heap.size w w' := by
  obtain ⟨kd, fr, to, sq, bd⟩ := x
  have C1 := Lib.hid (fun W => may1_any fr W)
  have C2 := Lib.hid (fun W => may1_any to W)
  unfold Fr.cells
  have BF := Lib.hid (below_allocS (Below.refl _ _) (.cells #[.int .i64 kd, .int .i64 fr, .int .i64 to, .int .i64 sq, .string bd] 23) : Below w.heap.size w (w.alloc (.cells #[.int .i64 kd, .int .i64 fr, .int .i64 to, .int .i64 sq, .string bd] 23)))
  by_cases hk : kd = 1
  · subst hk
    go_enter Try.func23, Try.ntmps23
    go_wp2_with fail
    refine (C1.out _).mono ?_
    rintro e w1 ⟨rfl, rfl⟩
    rcases h1 : Fr.node fr with _ | _
    · go_wp2_with fail
      go_ret
      exact ⟨ret_bool (by simp [Fr.may, h1]), BF.out⟩
    · go_wp2_with fail
      refine (C2.out _).mono ?_
      rintro e w1 ⟨rfl, rfl⟩
      rcases h2 : Fr.node to with _ | _
      · go_wp2_with fail
        go_ret
        exact ⟨ret_bool (by simp [Fr.may, h2]), BF.out⟩
      · by_cases h3 : fr = to
        · subst h3
          have h3b : (fr == fr) = true := by simp
          go_wp2_with fail
          go_ret
          exact ⟨ret_bool (by simp [Fr.may]), BF.out⟩
        · have h3b : (fr == to) = false := by simp; exact h3
          have h3c : (fr != to) = true := by simp; exact h3
          go_wp2_with fail
          go_ret
          exact ⟨ret_bool (by simp [Fr.may, h1, h2, h3]), BF.out⟩
  · have hkb : (kd == 1) = false := by simp; exact hk
    by_cases hk2 : kd = 2
    · subst hk2
      by_cases hb : bd = ⟨#[]⟩
      · subst hb
        go_enter Try.func23, Try.ntmps23
        go_wp2_with fail
        refine (C1.out _).mono ?_
        rintro e w1 ⟨rfl, rfl⟩
        rcases h1 : Fr.node fr with _ | _
        · go_wp2_with fail
          go_ret
          exact ⟨ret_bool (by simp [Fr.may, h1]), BF.out⟩
        · go_wp2_with fail
          refine (C2.out _).mono ?_
          rintro e w1 ⟨rfl, rfl⟩
          rcases h2 : Fr.node to with _ | _
          · go_wp2_with fail
            go_ret
            exact ⟨ret_bool (by simp [Fr.may, h2]), BF.out⟩
          · by_cases h3 : fr = to
            · subst h3
              have h3b : (fr == fr) = true := by simp
              go_wp2_with fail
              go_ret
              exact ⟨ret_bool (by simp [Fr.may]), BF.out⟩
            · have h3b : (fr == to) = false := by simp; exact h3
              have h3c : (fr != to) = true := by simp; exact h3
              go_wp2_with fail
              go_ret
              exact ⟨ret_bool (by simp [Fr.may, h1, h2, h3]), BF.out⟩
      · have hbb := nil_not hb
        go_enter Try.func23, Try.ntmps23
        go_wp2_with fail
        go_ret
        exact ⟨ret_bool (by simp [Fr.may, hb]), BF.out⟩
    · have hkc : (kd == 2) = false := by simp; exact hk2
      go_enter Try.func23, Try.ntmps23
      go_wp2_with fail
      go_ret
      exact ⟨ret_bool (by simp [Fr.may, hk, hk2]), BF.out⟩
/-- The fields of a frame that lies at the block h. -/
def frFields (x : Fr) (b : Nat) : List (Fd × Nat) := [(.num x.kind, b), (.num x.from_, b + 2), (.num x.to, b + 4), (.num x.seq, b + 6), (.txt x.body, b + 8)]
theorem frFields_bytes (x : Fr) (b : Nat) : fdBytes (frFields x b) = frB x := by
  unfold fdBytes frFields frB
  simp [Fd.bytes]
theorem frB_len (x : Fr) : (frB x).length ≤ 50 + x.body.size := by
  have h1 := numB_le x.kind
  have h2 := numB_le x.from_
  have h3 := numB_le x.to
  have h4 := numB_le x.seq
  have h5 := numB_le x.body.data.toList.length
  have e := ba_size x.body
  unfold frB txt
  simp only [List.length_append]
  omega
set_option maxRecDepth 100000 in
set_option maxHeartbeats 1600000 in
theorem packetFrame_any (x : Fr) (w : World) (hx : x.fits) :
    Calls Try.prog 9 #[.agg x.cells] w fun e w' => e = .returned (.tuple #[.string (frameF x).1, .int .i64 (frameF x).2]) ∧ Below w.heap.size w w' := by
  have HX := Lib.hid hx
  have CM := Lib.hid (fun W => may_any x W)
  have HB := Lib.hid (Blk.new w x.cells 23)
  have HF := Lib.hid (show frameF x = if x.may then (if 4096 < x.body.size then (⟨#[]⟩, 3801) else (⟨(frB x ++ fourB (fnv (frB x))).toArray⟩, 0)) else (⟨#[]⟩, 3800) from rfl)
  have CF := Lib.hid (fun W (hw : Below (w.alloc (.cells x.cells 23)).heap.size (w.alloc (.cells x.cells 23)) W) => frame_any w.heap.size W 23 x.cells (HB.out.belowS hw) rfl)
  have BF := Lib.hid (below_allocS (Below.refl _ _) (.cells x.cells 23) : Below w.heap.size w (w.alloc (.cells x.cells 23)))
  have HFR := Lib.hid (fun b => frFields_bytes x b)
  have HL := frB_len x
  clear hx
  generalize hbt : frB x = BT at *
  have HAP := Lib.hid (ba_app' BT (fourB (fnv BT)))
  unfold Fr.cells at *
  go_enter Try.func9, Try.ntmps9
  go_wp2_with fail
  refine (CM.out _).mono ?_
  rintro e w1 ⟨rfl, hb1⟩
  have B1 := Lib.hid hb1
  clear hb1
  rcases hm : x.may with _ | _
  · go_wp2_with fail
    go_ret2
    rw [HF.out, hm]
    exact ⟨rfl, below_next BF.out B1.out⟩
  · obtain ⟨y0, y1, y2, y3, y4⟩ := blk5 (HB.out.belowS B1.out)
    have hl1 := (HB.out.belowS B1.out).lt
    by_cases hs : 4096 < x.body.size
    · have hd : decide ((4096 : Int) < (x.body.size : Int)) = true := by simp; omega
      have hd2 : decide (4096 < x.body.size) = true := by simp; omega
      go_wp2_with fail
      go_ret2
      rw [HF.out, hm, if_pos rfl, if_pos hs]
      exact ⟨rfl, below_next BF.out B1.out⟩
    · have hd : decide ((4096 : Int) < (x.body.size : Int)) = false := by simp; omega
      have hd2 : decide (4096 < x.body.size) = false := by simp; omega
      go_wp2_with fail
      refine (CF.out _ B1.out).mono ?_
      rintro e w2 ⟨A, b, rfl, hA, k0, k1, k2, k3, k4, hge, hb2, _⟩
      have B2 := Lib.hid (below_next B1.out hb2)
      obtain ⟨z0, z1, z2, z3, z4⟩ := blk5 (HB.out.belowS B2.out)
      obtain ⟨f0, f1, f2, f3⟩ := HX.out
      have CW := Lib.hid (write_any A (frFields x b) 5 w2 hA (by
        intro u hu
        simp [frFields] at hu
        rcases hu with rfl | rfl | rfl | rfl | rfl
        · exact ⟨_, k0, z0, f0⟩
        · exact ⟨_, k1, z1, f1⟩
        · exact ⟨_, k2, z2, f2⟩
        · exact ⟨_, k3, z3, f3⟩
        · exact ⟨_, k4, z4, by omega⟩) (by simp [frFields]))
      rw [HFR.out] at CW
      clear hA k0 k1 k2 k3 k4 hge hb2 z0 z1 z2 z3 z4 f0 f1 f2 f3 y0 y1 y2 y3 y4
      go_wp2_with fail
      refine CW.out.mono ?_
      rintro e w3 ⟨rfl, hb3⟩
      have B3 := Lib.hid (below_next B2.out hb3)
      clear hb3
      have CS := Lib.hid (fun W => pksum_any ⟨BT.toArray⟩ W (by show BT.length ≤ _; unfold maxLen; omega))
      have hz : ¬ 9223372036854775807 < BT.length + 4 := by omega
      have hz2 : ¬ 9223372036854775807 < BT.length + (fourB (fnv BT)).length := by show ¬ _ < BT.length + 4; omega
      go_wp2_with fail
      refine (CS.out _).mono ?_
      rintro e w4 ⟨rfl, hb4⟩
      have B4 := Lib.hid (below_next B3.out hb4)
      clear hb4
      go_wp2_with fail
      go_ret2
      rw [HF.out, hm, if_pos rfl, if_neg hs]
      exact ⟨by rw [← HAP.out]; rfl, below_next BF.out B4.out⟩
end Go.Proofs.Ytfaophiaiflecaa
