/- Contracts: reparteeref15.SameInts of nothing, reparteeref30.SameIns, SameCode of the same code. -/
import Derived.Test.YtngfeflemblljaaGreatDoorEmWalk
import Derived.Deep.RegionHeld3
import Derived.Deep.DrawnRows
namespace Go.Proofs.YtngfeflemblljaaGreatDoor
open Go.RowKit
attribute [local go_sem ↓] Go.wp_at_zero Go.wp_at_succ

theorem same_none (w : World) : Calls Tryz.prog 33 #[.slice none 0 0, .slice none 0 0] w fun e w' => e = .returned (.bool true) ∧ w = w' := by
  go_enter Tryz.func33, Tryz.ntmps33
  go_wp2_with fail
  refine wp_loop_rounds 1 ?_
  rw [rounds_succ]
  go_wp2_with fail
  go_ret
  exact ⟨rfl, rfl⟩
set_option maxRecDepth 100000 in
set_option maxHeartbeats 4000000 in
theorem same_ins (op a n : Int) (s : ByteArray) (w : World) : Calls Tryz.prog 15
    #[.agg #[.int .i64 op, .int .i64 a, .int .i64 0, .int .i64 n, .string s, .string ⟨#[]⟩, .slice none 0 0, .slice none 0 0, .slice none 0 0], .agg #[.int .i64 op, .int .i64 a, .int .i64 0, .int .i64 n, .string s, .string ⟨#[]⟩, .slice none 0 0, .slice none 0 0, .slice none 0 0]] w fun e w' => e = .returned (.bool true) ∧ Below w.heap.size w w' := by
  have CS := Lib.hid (fun W => same_none W)
  go_enter Tryz.func15, Tryz.ntmps15
  go_wp2_with fail
  refine (CS.out _).mono ?_
  rintro e w1 ⟨rfl, rfl⟩
  go_wp2_with fail
  refine wp_loop_rounds 1 ?_
  rw [rounds_succ]
  go_wp2_with fail
  refine wp_loop_rounds 1 ?_
  rw [rounds_succ]
  go_wp2_with fail
  go_ret
  exact ⟨rfl, ((Below.refl _ _).alloc (Nat.le_refl _) _).alloc (by simp) _⟩
theorem in_clen (i : In) : i.cells.length = 9 := rfl
structure InAt (w : World) (b o : Nat) (i : In) : Prop where
  c0 : w.cell? ⟨b, o, none⟩ = some (.int .i64 i.op)
  c1 : w.cell? ⟨b, o + 1, none⟩ = some (.int .i64 i.a)
  c2 : w.cell? ⟨b, o + 2, none⟩ = some (.int .i64 0)
  c3 : w.cell? ⟨b, o + 3, none⟩ = some (.int .i64 i.n)
  c4 : w.cell? ⟨b, o + 4, none⟩ = some (.string i.s)
  c5 : w.cell? ⟨b, o + 5, none⟩ = some (.string ⟨#[]⟩)
  c6 : w.cell? ⟨b, o + 6, none⟩ = some (.slice none 0 0)
  c7 : w.cell? ⟨b, o + 7, none⟩ = some (.slice none 0 0)
  c8 : w.cell? ⟨b, o + 8, none⟩ = some (.slice none 0 0)
theorem ins_at {w : World} {A : Option Addr} {l : List In} (h : Rd w A (l.flatMap In.cells)) {k : Nat} (hk : k < l.length) :
    ∃ b off i, A = some ⟨b, off, none⟩ ∧ b < w.heap.size ∧ l[k]? = some i ∧ InAt w b (off + k * 9) i := by
  obtain ⟨b, off, h1, h2, h3⟩ := Rd.at_ h (i := k * 9) (by rw [flat_len _ 9 in_clen]; omega)
  refine ⟨b, off, l[k], h1, h2, List.getElem?_eq_getElem hk, ?_⟩
  have g : ∀ m, m < 9 → ∀ u, (l[k].cells)[m]? = some u → w.cell? ⟨b, off + k * 9 + m, none⟩ = some u := fun m hm u hu => by
    rw [Nat.add_assoc]
    exact h3 _ u ((flat_get In.cells 9 in_clen l k m hk hm).trans hu)
  exact ⟨g 0 (by omega) _ rfl, g 1 (by omega) _ rfl, g 2 (by omega) _ rfl, g 3 (by omega) _ rfl, g 4 (by omega) _ rfl, g 5 (by omega) _ rfl, g 6 (by omega) _ rfl, g 7 (by omega) _ rfl, g 8 (by omega) _ rfl⟩
set_option maxRecDepth 100000 in
set_option maxHeartbeats 8000000 in
theorem same_code (l : List In) (A B : Option Addr) (c d : Nat) (w : World) (ha : Rd w A (l.flatMap In.cells)) (hb : Rd w B (l.flatMap In.cells)) (hl : l.length ≤ 1000000) :
    Calls Tryz.prog 7 #[.slice A l.length c, .slice B l.length d] w fun e w' => e = .returned (.bool true) ∧ Below w.heap.size w w' := by
  have HA := Lib.hid ha
  have HB := Lib.hid hb
  have CS := Lib.hid (fun (i : In) W => same_ins i.op i.a i.n i.s W)
  clear ha hb
  go_enter Tryz.func7, Tryz.ntmps7
  go_wp2_with fail
  go_loopw [5] (fun i wr => ∃ k : Nat, k ≤ l.length ∧ i = .int .i64 k ∧ Hid (Below w.heap.size w wr)) (fun i _ => l.length - (intOf i).toNat)
  case atStart => exact ⟨0, by omega, rfl, Lib.hid (Below.refl _ _)⟩
  case round =>
    obtain ⟨k, hk, rfl, HBW⟩ := hrel
    by_cases hlt : k < l.length
    · obtain ⟨b1, o1, i, rfl, hb1, hi, h1⟩ := ins_at (Rd.below HA.out HBW.out) hlt
      obtain ⟨b2, o2, i', rfl, hb2, hi', h2⟩ := ins_at (Rd.below HB.out HBW.out) hlt
      obtain rfl : i' = i := Option.some.inj (hi'.symm.trans hi)
      obtain ⟨p0, p1, p2, p3, p4, p5, p6, p7, p8⟩ := h1
      obtain ⟨q0, q1, q2, q3, q4, q5, q6, q7, q8⟩ := h2
      clear hi hi'
      go_wp2_with fail
      go_region_held3 (fun W => W.cell? ⟨b1, o1 + k * 9, none⟩ = some (.int .i64 i'.op) ∧ W.cell? ⟨b1, o1 + k * 9 + 1, none⟩ = some (.int .i64 i'.a) ∧ W.cell? ⟨b1, o1 + k * 9 + 2, none⟩ = some (.int .i64 0) ∧ W.cell? ⟨b1, o1 + k * 9 + 3, none⟩ = some (.int .i64 i'.n) ∧ W.cell? ⟨b1, o1 + k * 9 + 4, none⟩ = some (.string i'.s) ∧ W.cell? ⟨b1, o1 + k * 9 + 5, none⟩ = some (.string ⟨#[]⟩) ∧ W.cell? ⟨b1, o1 + k * 9 + 6, none⟩ = some (.slice none 0 0) ∧ W.cell? ⟨b1, o1 + k * 9 + 7, none⟩ = some (.slice none 0 0) ∧ W.cell? ⟨b1, o1 + k * 9 + 8, none⟩ = some (.slice none 0 0) ∧ W.cell? ⟨b2, o2 + k * 9, none⟩ = some (.int .i64 i'.op) ∧ W.cell? ⟨b2, o2 + k * 9 + 1, none⟩ = some (.int .i64 i'.a) ∧ W.cell? ⟨b2, o2 + k * 9 + 2, none⟩ = some (.int .i64 0) ∧ W.cell? ⟨b2, o2 + k * 9 + 3, none⟩ = some (.int .i64 i'.n) ∧ W.cell? ⟨b2, o2 + k * 9 + 4, none⟩ = some (.string i'.s) ∧ W.cell? ⟨b2, o2 + k * 9 + 5, none⟩ = some (.string ⟨#[]⟩) ∧ W.cell? ⟨b2, o2 + k * 9 + 6, none⟩ = some (.slice none 0 0) ∧ W.cell? ⟨b2, o2 + k * 9 + 7, none⟩ = some (.slice none 0 0) ∧ W.cell? ⟨b2, o2 + k * 9 + 8, none⟩ = some (.slice none 0 0)) (go_keep) ((go_at_call 15; refine (CS.out i' _).mono ?_; rintro e w2 ⟨rfl, hb3⟩; have hcc : ∀ b o, b < wr.heap.size → w2.cell? ⟨b, o, none⟩ = wr.cell? ⟨b, o, none⟩ := fun b o h => hb3.cell (p := ⟨b, o, none⟩) h))
      all_goals
        have HB3 := Lib.hid (below_next HBW.out (below_of_drew hb3))
        clear hb3 hcc p0 p1 p2 p3 p4 p5 p6 p7 p8 q0 q1 q2 q3 q4 q5 q6 q7 q8
        go_wp2_with fail
        go_roundw
        case rel => exact ⟨k + 1, by omega, by go_num, HB3⟩
        case measure => simp [intOf]; omega
    · go_wp2_with fail
      go_ret
      exact ⟨rfl, HBW.out⟩
end Go.Proofs.YtngfeflemblljaaGreatDoor
