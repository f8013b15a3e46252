/- Contracts: journal.text, journal.sum, journal.Write. -/
import Derived.Test.YthepacphphiijaaJrSpoil
import Derived.Deep.RegionHeld3
import Derived.Deep.DeepCutAuto
namespace Go.Proofs.Ythepacphphiijaa
open Go.RowKit

theorem ba_app (a b : ByteArray) : (a ++ b).data.toList = a.data.toList ++ b.data.toList := by rw [ByteArray.data_append, Array.toList_append]
theorem ba_mk (s : ByteArray) : s = ⟨s.data.toList.toArray⟩ := by cases s; simp
theorem ba_app' (a b : List UInt8) : (⟨a.toArray⟩ : ByteArray) ++ ⟨b.toArray⟩ = ⟨(a ++ b).toArray⟩ := by
  rw [ba_mk ((⟨a.toArray⟩ : ByteArray) ++ ⟨b.toArray⟩), ba_app]
theorem ba_size (s : ByteArray) : s.size = s.data.toList.length := by rw [Array.length_toList]; rfl
set_option maxHeartbeats 800000 in
theorem text_any (s : ByteArray) (w : World) (hs : s.size ≤ 1000000000000) :
    Calls Try.prog 25 #[.string s] w fun e w' => e = .returned (.string ⟨(txt s.data.toList).toArray⟩) ∧ Below w.heap.size w w' := by
  have HN := Lib.hid (fun W => number_any (s.size : Int) W (by omega) (by omega))
  go_enter Try.func25, Try.ntmps25
  have hn := numB_le s.size
  have hz : (⟨(numB s.size).toArray⟩ : ByteArray).size ≤ 10 := hn
  clear hn
  go_wp2_with fail
  refine (HN.out _).mono ?_
  rintro e w1 ⟨rfl, hb⟩
  have B1 := Lib.hid hb
  clear hb
  have hv : (⟨(numB s.size).toArray⟩ : ByteArray) ++ s = ⟨(txt s.data.toList).toArray⟩ := by
    conv => lhs; rw [ba_mk s]
    rw [ba_app', ba_size]
    rfl
  have HV := Lib.hid hv
  clear hv
  go_wp2_with fail
  go_ret
  exact ⟨by rw [HV.out]; rfl, B1.out⟩
set_option maxRecDepth 100000 in
set_option maxHeartbeats 800000 in
theorem jsum_any (s : ByteArray) (w : World) (hs : s.size ≤ maxLen) :
    Calls Try.prog 26 #[.string s] w fun e w' => e = .returned (.string ⟨(fourB (fnv s.data.toList)).toArray⟩) ∧ Below w.heap.size w w' := by
  have hh := fnv_lt s.data.toList
  have HS := Lib.hid (sum_any s w hs)
  generalize fnv s.data.toList = h at *
  have hrd := Rd.new w #[.int .u8 ((h : Int) / 16777216), .int .u8 ((h : Int) / 65536 % 256), .int .u8 ((h : Int) / 256 % 256), .int .u8 ((h : Int) % 256)] 5
  rw [four_cells h hh] at hrd
  have hconv := rd_string (P := Try.prog) (n := 4) (c := 4) Try.underlying34 Try.underlying5 Try.underlying9 hrd rfl
  clear hrd
  go_enter Try.func26, Try.ntmps26
  go_wp2_with fail
  refine HS.out.mono ?_
  rintro e w1 ⟨rfl, rfl⟩
  go_wp2_with fail
  go_ret
  exact ⟨rfl, (Below.refl _ _).alloc (Nat.le_refl _) _⟩
/-- An input's cells, and those of a row of inputs. -/
def icells (x : In) : List Value := [.int .i64 x.kind, .int .i64 x.frm, .string ⟨x.body.toArray⟩]
def irow (l : List In) : List Value := l.flatMap icells
theorem irow_append (l m : List In) : irow (l ++ m) = irow l ++ irow m := List.flatMap_append
theorem irow_len (l : List In) : (irow l).length = l.length * 3 := by
  induction l with
  | nil => rfl
  | cons a t ih =>
    have : irow (a :: t) = icells a ++ irow t := rfl
    rw [this, List.length_append, ih, List.length_cons]
    have : (icells a).length = 3 := rfl
    omega
theorem irow_one (l : List In) : ∀ u ∈ irow l, u.oneCell' = true := by
  intro u hu
  obtain ⟨m, _, hm⟩ := List.mem_flatMap.1 hu
  simp [icells] at hm
  rcases hm with rfl | rfl | rfl <;> rfl
theorem irow_get (L : List In) (j m : Nat) (h : j < L.length) (hm : m < 3) : (irow L)[j * 3 + m]? = some ((icells L[j])[m]'hm) := by
  induction L generalizing j with
  | nil => simp at h
  | cons a t ih =>
    have e : irow (a :: t) = icells a ++ irow t := rfl
    have el : (icells a).length = 3 := rfl
    rw [e]
    cases j with
    | zero =>
      rw [List.getElem?_append_left (by omega)]
      simp [List.getElem?_eq_getElem (show m < (icells a).length by omega)]
    | succ j =>
      rw [List.getElem?_append_right (by omega), el, show (j + 1) * 3 + m - 3 = j * 3 + m by omega]
      exact ih j (by simpa using h)
/-- The three cells of the j-th input, as a walk spells them. -/
theorem irow_cells {w : World} {A : Option Addr} {l : List In} (h : Rd w A (irow l)) {j : Nat} (hj : j < l.length) :
    ∃ b off, A = some ⟨b, off, none⟩ ∧ b < w.heap.size ∧ w.cell? ⟨b, off + j * 3, none⟩ = some (.int .i64 l[j].kind) ∧ w.cell? ⟨b, off + j * 3 + 1, none⟩ = some (.int .i64 l[j].frm) ∧ w.cell? ⟨b, off + j * 3 + 2, none⟩ = some (.string ⟨l[j].body.toArray⟩) := by
  obtain ⟨b, off, hA, hb, hc⟩ := h.at_ (i := 0) (by rw [irow_len]; omega)
  refine ⟨b, off, hA, hb, ?_, ?_, ?_⟩
  · exact hc (j * 3 + 0) _ (irow_get l j 0 hj (by omega))
  · rw [Nat.add_assoc]; exact hc (j * 3 + 1) _ (irow_get l j 1 hj (by omega))
  · rw [Nat.add_assoc]; exact hc (j * 3 + 2) _ (irow_get l j 2 hj (by omega))
theorem recsB_snoc (l : List In) (k : Nat) (h : k < l.length) : recsB (l.take (k + 1)) = recsB (l.take k) ++ recB l[k] := by
  rw [List.take_succ_eq_append_getElem h, recsB_append]
  simp [recsB]
theorem recB_len {x : In} (h : x.ok) : (recB x).length ≤ 1000000100 := by
  have := payB_len h
  have := numB_le (payB x).length
  simp [recB, rowB, txt, fourB_len]
  omega
theorem recsB_len (l : List In) (h : ∀ x ∈ l, x.ok) : (recsB l).length ≤ l.length * 1000000100 := by
  induction l with
  | nil => simp [recsB]
  | cons a t ih =>
    rw [recsB_cons, List.length_append, List.length_cons]
    have := recB_len (h a (by simp))
    have := ih fun x hx => h x (by simp [hx])
    omega
theorem blk3new (w : World) (a b c : Value) (t : TypeId) : (w.alloc (.cells #[a, b, c] t)).cell? ⟨w.heap.size, 0, none⟩ = some a ∧ (w.alloc (.cells #[a, b, c] t)).cell? ⟨w.heap.size, 1, none⟩ = some b ∧ (w.alloc (.cells #[a, b, c] t)).cell? ⟨w.heap.size, 2, none⟩ = some c := blk3 (Blk.new w _ _)
set_option maxRecDepth 100000 in
set_option maxHeartbeats 1600000 in
theorem jwrite_any (A : Option Addr) (l : List In) (c : Nat) (w : World) (ha : Rd w A (irow l)) (hok : ∀ x ∈ l, x.ok) (hl : l.length ≤ 1000) :
    Calls Try.prog 11 #[.slice A l.length c] w fun e w' => e = .returned (.string ⟨(recsB l).toArray⟩) ∧ Below w.heap.size w w' := by
  have HA := Lib.hid ha
  have HOK := Lib.hid hok
  clear ha hok
  go_enter Try.func11, Try.ntmps11
  go_wp2_with fail
  go_loopw [3, 9] (fun s i wr => ∃ (k : Nat) (L : List UInt8), k ≤ l.length ∧ i = .int .i64 k ∧ s = .string ⟨L.toArray⟩ ∧ Hid (L = recsB (l.take k)) ∧ Below w.heap.size w wr) (fun _ i _ => l.length - (intOf i).toNat)
  case atStart => exact ⟨0, [], by omega, rfl, rfl, Lib.hid rfl, Below.refl _ _⟩
  case round =>
    obtain ⟨k, L, hk, rfl, rfl, hL, hbw⟩ := hrel
    by_cases hlt : k < l.length
    · have BW := Lib.hid hbw
      have RW := HA.out.below hbw
      clear hbw
      obtain ⟨b, off, rfl, hb, c0, c1, c2⟩ := irow_cells RW hlt
      clear RW
      have hx := HOK.out l[k] (List.getElem_mem hlt)
      obtain ⟨⟨k1, k2⟩, ⟨f1, f2⟩, hbd⟩ := hx
      have HX := Lib.hid (HOK.out l[k] (List.getElem_mem hlt))
      have HS := Lib.hid (recsB_snoc l k hlt)
      generalize l[k] = x at *
      have hp := payB_len HX.out
      have hv : ((⟨(numB x.kind).toArray⟩ : ByteArray) ++ (⟨(numB x.frm).toArray⟩ : ByteArray)) ++ (⟨(txt x.body).toArray⟩ : ByteArray) = ⟨(payB x).toArray⟩ := by rw [ba_app', ba_app']; unfold payB; rw [List.append_assoc]
      have HV := Lib.hid hv
      have CT := Lib.hid (fun W => text_any ⟨x.body.toArray⟩ W (by show x.body.length ≤ _; omega))
      have CP := Lib.hid (fun W => text_any ⟨(payB x).toArray⟩ W (by show (payB x).length ≤ _; omega))
      have CS := Lib.hid (fun W => jsum_any ⟨(rowB x).toArray⟩ W (by unfold maxLen; have := recB_len HX.out; simp [recB] at this; show (rowB x).length ≤ _; omega))
      have z1 : (⟨(numB x.kind).toArray⟩ : ByteArray).size ≤ 10 := numB_le x.kind
      have z2 : (⟨(numB x.frm).toArray⟩ : ByteArray).size ≤ 10 := numB_le x.frm
      have z3 : (⟨(txt x.body).toArray⟩ : ByteArray).size ≤ 1000000030 := by
        show (txt x.body).length ≤ _
        simp only [payB, List.length_append] at hp
        omega
      have y1 : (numB x.kind).length ≤ 10 := z1
      have y2 : (numB x.frm).length ≤ 10 := z2
      have y3 : (txt x.body).length ≤ 1000000030 := z3
      have n1 : ¬ 9223372036854775807 < (numB x.kind).length + (numB x.frm).length := by omega
      have n2 : ¬ 9223372036854775807 < (numB x.kind).length + (numB x.frm).length + (txt x.body).length := by omega
      have LX := Lib.hid (show (payB x).length ≤ 1000000030 from hp)
      clear hv hp hbd
      obtain ⟨W1, hW1⟩ : ∃ W1, W1 = wr.alloc (.cells #[.int .i64 x.kind, .int .i64 x.frm, .string ⟨x.body.toArray⟩] 39) := ⟨_, rfl⟩
      have GB := Lib.hid (show Blk W1 wr.heap.size #[.int .i64 x.kind, .int .i64 x.frm, .string ⟨x.body.toArray⟩] 39 by rw [hW1]; exact Blk.new wr _ _)
      have BW1 := Lib.hid (show Below w.heap.size w W1 by rw [hW1]; exact BW.out.alloc BW.out.size _)
      have HW1 := Lib.hid hW1
      clear hW1
      obtain ⟨x0, x1, x2⟩ := blk3 GB.out
      go_upto_region 5 with fail
      rw [← HW1.out]
      go_cut [6] (fun s6 wx => s6 = .string ⟨(rowB x).toArray⟩ ∧ Hid (Below w.heap.size w wx))
      case first =>
        go_region_held3 (fun W => W.cell? ⟨wr.heap.size, 0, none⟩ = some (.int .i64 x.kind) ∧ W.cell? ⟨wr.heap.size, 1, none⟩ = some (.int .i64 x.frm) ∧ W.cell? ⟨wr.heap.size, 2, none⟩ = some (.string ⟨x.body.toArray⟩))
          (first | go_keep | (exact blk3 (GB.out.belowS HBf)))
          (first
            | (go_at_call 7; refine (number_any _ _ (by assumption) (by assumption)).mono ?_; rintro e wf ⟨rfl, hbf⟩; have HBf : Below W1.heap.size W1 wf := (by first | exact below_of_drew hbf | exact below_next HBf hbf))
            | (go_at_call 25; refine (CT.out _).mono ?_; rintro e wf ⟨rfl, hbf⟩; have HBf : Below W1.heap.size W1 wf := (by first | exact below_of_drew hbf | exact below_next HBf hbf))
            | (go_at_call 25; rw [HV.out]; refine (CP.out _).mono ?_; rintro e wf ⟨rfl, hbf⟩; have HBf : Below W1.heap.size W1 wf := (by first | exact below_of_drew hbf | exact below_next HBf hbf)))
        all_goals
          go_wp2_with fail
          go_meet
          exact ⟨rfl, Lib.hid (below_next BW1.out HBf)⟩
      case rest =>
        obtain ⟨rfl, BX⟩ := hcut
        clear x0 x1 x2 c0 c1 c2
        have y4 : (rowB x).length ≤ 1000000100 := by have := recB_len HX.out; simp only [recB, List.length_append] at this; omega
        have y5 : (fourB (fnv (rowB x))).length ≤ 4 := Nat.le_refl _
        have y6 : L.length ≤ 1000000100000 := by
          have := recsB_len (l.take k) (fun x hx => HOK.out x (List.mem_of_mem_take hx))
          rw [← hL.out, List.length_take] at this
          omega
        go_wp2_with fail
        refine (CS.out _).mono ?_
        rintro e w2 ⟨rfl, hb2⟩
        have B2 := Lib.hid (below_next BX.out hb2)
        clear hb2
        go_wp2_with fail
        go_roundw
        case rel =>
          refine ⟨k + 1, L ++ recB x, by omega, by go_num, ?_, Lib.hid (by rw [HS.out, ← hL.out]), B2.out⟩
          show Value.string (⟨L.toArray⟩ ++ (⟨(rowB x).toArray⟩ ++ ⟨(fourB (fnv (rowB x))).toArray⟩)) = _
          rw [ba_app', ba_app']
          rfl
        case measure => simp [intOf]; omega
    · go_wp2_with fail
      go_ret
      refine ⟨?_, hbw⟩
      rw [hL.out, List.take_of_length_le (by omega)]
      rfl
end Go.Proofs.Ythepacphphiijaa
