/- Walk: reparteelaw30.FoldTells. -/
import Derived.Test.YtbemdcbglpjmiaaGreatDoorFpE
import Derived.Test.YtbemdcbglpjmiaaGreatDoorFqC
namespace Go.Proofs.YtbemdcbglpjmiaaGreatDoor
open Go.RowKit

/-- What both programs hand back. -/
theorem fold_both (l : List Tm) (A : Option Addr) (c : Nat) (root : Int) (hl : l.length ≤ 200) :
    ∃ (x : Tr) (b : Bool), (layF x []).1.length ≤ 1000 ∧ ∀ w, Tms w A l →
      Calls Tryz.prog 7 #[.slice A l.length c, .int .i64 root] w (TermPost x w) ∧
      Calls Tryz.prog 8 #[.slice A l.length c, .int .i64 root] w (TermPost x w) ∧
      Calls Tryz.prog 10 #[.slice A l.length c, .int .i64 root] w (fun e w' => e = .returned (.bool b) ∧ Below w.heap.size w w') ∧
      Calls Tryz.prog 11 #[.slice A l.length c, .int .i64 root] w (fun e w' => e = .returned (.bool b) ∧ Below w.heap.size w w') := by
  cases hm : tmF l root with
  | false => exact ⟨.nil, false, by simp [layF], fun w ht => ⟨fTerm_no l A c root w ht (by omega) hm, rTerm_no l A c root w ht (by omega) hm, fPlain_no l A c root w ht (by omega) hm, rPlain_no l A c root w ht (by omega) hm⟩⟩
  | true =>
    obtain ⟨x, hx, hx0, hO, hs, _⟩ := tm_tree hm
    have hf := (fold_ok hO).2.1
    exact ⟨foldF x, plainF x, by rw [lay_len]; simp; omega, fun w ht => ⟨fTerm_yes l A c root w ht (by omega) hm x hx hO (by omega), rTerm_yes l A c root w ht (by omega) hm x hx0 hx hO (by omega),
      fPlain_yes l A c root w ht (by omega) hm x hx, rPlain_yes l A c root w ht (by omega) hm x hx0 hx⟩⟩
set_option maxRecDepth 100000 in
set_option maxHeartbeats 8000000 in
theorem tells_walk (l : List Tm) (A : Option Addr) (c : Nat) (root : Int) (w : World) (ht : Tms w A l) (bl : l.length ≤ 9223372036854775807) :
    Calls Tryz.prog 3 #[.slice A l.length c, .int .i64 root] w fun e w' => e = .returned (.bool true) ∧ Below w.heap.size w w' := by
  have CF := Lib.hid (fun W => Kv.first_any W)
  by_cases h1 : 200 < l.length
  · have e1 : decide ((200 : Int) < (l.length : Int)) = true := decide_eq_true (by omega)
    clear h1
    go_enter Tryz.func3, Tryz.ntmps3
    go_wp2_with fail
    refine (CF.out _).mono ?_
    rintro e w1 ⟨rfl, hb⟩
    have HB := Lib.hid hb
    clear hb
    go_wp2_with fail
    go_ret
    exact ⟨rfl, HB.out⟩
  have e1 : decide ((200 : Int) < (l.length : Int)) = false := decide_eq_false (by omega)
  have HT := Lib.hid ht
  obtain ⟨x, b, hlen, hc⟩ := fold_both l A c root (by omega)
  have HC := Lib.hid hc
  have HLEN := Lib.hid hlen
  clear ht hc hlen h1
  go_enter Tryz.func3, Tryz.ntmps3
  go_wp2_with fail
  refine (CF.out _).mono ?_
  rintro e w1 ⟨rfl, hb⟩
  have HB1 := Lib.hid hb
  clear hb
  go_wp2_with fail
  refine (HC.out w1 (HT.out.below HB1.out)).1.mono ?_
  rintro e w2 ⟨A2, c2, rfl, ht2, hb2⟩
  have HB2 := Lib.hid (below_next HB1.out hb2)
  have HT2 := Lib.hid ht2
  clear ht2 hb2
  go_wp2_with fail
  refine (HC.out w2 (HT.out.below HB2.out)).2.1.mono ?_
  rintro e w3 ⟨A3, c3, rfl, ht3, hb3⟩
  have HB3 := Lib.hid (below_next HB2.out hb3)
  have HT3 := Lib.hid ht3
  have HT2' := Lib.hid (HT2.out.below hb3)
  have CS := Lib.hid (sameTerms_eq (layF x []).1 A2 A3 c2 c3 w3 HT2'.out HT3.out (by have := HLEN.out; omega))
  clear ht3 hb3
  go_wp2_with fail
  refine CS.out.mono ?_
  rintro e w4 ⟨rfl, hb4⟩
  have HB4 := Lib.hid (below_next HB3.out hb4)
  clear hb4
  go_wp2_with fail
  refine (HC.out w4 (HT.out.below HB4.out)).2.2.1.mono ?_
  rintro e w5 ⟨rfl, hb5⟩
  have HB5 := Lib.hid (below_next HB4.out hb5)
  clear hb5
  go_wp2_with fail
  refine (HC.out w5 (HT.out.below HB5.out)).2.2.2.mono ?_
  rintro e w6 ⟨rfl, hb6⟩
  have HB6 := Lib.hid (below_next HB5.out hb6)
  clear hb6
  go_wp2_with fail
  go_ret
  exact ⟨rfl, HB6.out⟩
end Go.Proofs.YtbemdcbglpjmiaaGreatDoor
