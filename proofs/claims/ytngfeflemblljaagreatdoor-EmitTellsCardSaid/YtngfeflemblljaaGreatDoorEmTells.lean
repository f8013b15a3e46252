/- Walk: reparteelaw32.EmitTells. -/
import Derived.Test.YtngfeflemblljaaGreatDoorEmRef
import Derived.Test.YtngfeflemblljaaGreatDoorEmSame
import Derived.Test.YtngfeflemblljaaGreatDoorEqC
namespace Go.Proofs.YtngfeflemblljaaGreatDoor
open Go.RowKit

theorem emit_view {r : Option (List In)} {w w' : World} {e : Ending} (h : EmitPost r w e w') : ∃ A' c', e = .returned (.tuple #[.slice A' (r.getD []).length c', .bool r.isSome]) ∧ Rd w' A' ((r.getD []).flatMap In.cells) ∧ Below w.heap.size w w' := by
  obtain ⟨hb, h⟩ := h
  cases r with
  | none => exact ⟨none, 0, h, Rd.nil, hb⟩
  | some o =>
    obtain ⟨A', c', he, hr⟩ := h
    exact ⟨A', c', he, hr, hb⟩
/-- What both functions answer. -/
theorem emit_both (l : List Tm) (A : Option Addr) (c : Nat) (root : Int) (ns : List ByteArray) (An : Option Addr) (cn : Nat) (rs : List Int) (Ar : Option Addr) (cr : Nat) (hl : l.length ≤ 200) (hn : ns.length ≤ 1000000) :
    ∃ r : Option (List In), (r.getD []).length ≤ 1000 ∧ ∀ w, Tms w A l → Strs w An ns → Ints w Ar rs →
      Calls Tryz.prog 5 #[.slice A l.length c, .int .i64 root, .slice An ns.length cn, .slice Ar rs.length cr] w (EmitPost r w) ∧
      Calls Tryz.prog 6 #[.slice A l.length c, .int .i64 root, .slice An ns.length cn, .slice Ar rs.length cr] w (EmitPost r w) := by
  by_cases h : tmF l root = true ∧ ns.length = rs.length
  · obtain ⟨x, hx, hx0, _, hxs, _⟩ := tm_tree h.1
    refine ⟨psF ns rs x [], ?_, fun w ht hs hi => ⟨emit_yes l A c root ns An cn rs Ar cr w ht hs hi (by omega) hn h.1 h.2 x hx (by omega), pushes_yes l A c root ns An cn rs Ar cr w ht hs hi (by omega) hn h.1 h.2 x hx hx0 (by omega)⟩⟩
    cases hp : psF ns rs x [] with
    | none => simp
    | some o =>
      have := ps_len ns rs x [] o hp
      simp at this ⊢
      omega
  · have hb : tmF l root = false ∨ ns.length ≠ rs.length := by
      cases hq : tmF l root with
      | false => exact .inl rfl
      | true => exact .inr fun e => h ⟨hq, e⟩
    exact ⟨none, by simp, fun w ht _ _ => ⟨emit_no l A c root ns An cn rs Ar cr w ht (by omega) hb, pushes_no l A c root ns An cn rs Ar cr w ht (by omega) hb⟩⟩
set_option maxRecDepth 100000 in
set_option maxHeartbeats 8000000 in
theorem tells_walk (l : List Tm) (A : Option Addr) (c : Nat) (root : Int) (ns : List ByteArray) (An : Option Addr) (cn : Nat) (rs : List Int) (Ar : Option Addr) (cr : Nat) (w : World) (ht : Tms w A l) (hs : Strs w An ns) (hi : Ints w Ar rs) (hrc : rs.length ≤ cr)
    (bl : l.length ≤ 9223372036854775807) (bn : ns.length ≤ 9223372036854775807) (br : rs.length ≤ 9223372036854775807) :
    Calls Tryz.prog 3 #[.slice A l.length c, .int .i64 root, .slice An ns.length cn, .slice Ar rs.length cr] w fun e w' => e = .returned (.bool true) ∧ Below w.heap.size w w' := by
  have CF := Lib.hid (fun W => Kv.first_any W)
  by_cases h1 : 200 < l.length
  · have e1 : decide ((200 : Int) < (l.length : Int)) = true := decide_eq_true (by omega)
    clear h1
    go_enter Tryz.func3, Tryz.ntmps3
    go_wp2_with fail
    refine (CF.out _).mono ?_
    rintro e w1 ⟨rfl, hb⟩
    have HB := Lib.hid hb
    clear hb
    go_wp2_with fail
    go_ret
    exact ⟨rfl, HB.out⟩
  have e1 : decide ((200 : Int) < (l.length : Int)) = false := decide_eq_false (by omega)
  by_cases h2 : 30 < ns.length
  · have e2 : decide ((30 : Int) < (ns.length : Int)) = true := decide_eq_true (by omega)
    clear h2
    go_enter Tryz.func3, Tryz.ntmps3
    go_wp2_with fail
    refine (CF.out _).mono ?_
    rintro e w1 ⟨rfl, hb⟩
    have HB := Lib.hid hb
    clear hb
    go_wp2_with fail
    go_ret
    exact ⟨rfl, HB.out⟩
  have e2 : decide ((30 : Int) < (ns.length : Int)) = false := decide_eq_false (by omega)
  by_cases h3 : 30 < rs.length
  · have e3 : decide ((30 : Int) < (rs.length : Int)) = true := decide_eq_true (by omega)
    clear h3
    go_enter Tryz.func3, Tryz.ntmps3
    go_wp2_with fail
    refine (CF.out _).mono ?_
    rintro e w1 ⟨rfl, hb⟩
    have HB := Lib.hid hb
    clear hb
    go_wp2_with fail
    go_ret
    exact ⟨rfl, HB.out⟩
  have e3 : decide ((30 : Int) < (rs.length : Int)) = false := decide_eq_false (by omega)
  have HT := Lib.hid ht
  have HS := Lib.hid hs
  have HI := Lib.hid hi
  have hq : ∃ rs' : List Int, Ints w Ar rs' ∧ ((ns.length < rs.length ∧ rs'.length = ns.length) ∨ (rs.length ≤ ns.length ∧ rs' = rs)) := by
    by_cases hlt : ns.length < rs.length
    · refine ⟨rs.take ns.length, ?_, .inl ⟨hlt, by simp; omega⟩⟩
      have := Rd.take hi ns.length
      rwa [← List.map_take] at this
    · exact ⟨rs, hi, .inr ⟨by omega, rfl⟩⟩
  obtain ⟨rs', hi', hor⟩ := hq
  obtain ⟨r1, hr1, c1⟩ := emit_both l A c root ns An cn rs' Ar cr (by omega) (by omega)
  obtain ⟨r2, hr2, c2⟩ := emit_both l A c root ns An cn rs Ar cr (by omega) (by omega)
  have C1 := Lib.hid c1
  have C2 := Lib.hid c2
  have HI' := Lib.hid hi'
  obtain ⟨i0, hi0, _, _, _⟩ := info_parts infoInt
  clear c1 c2 hi' ht hs hi
  have hkey : True ∧ (decide (ns.length < rs.length) = true ∧ (∀ W : World, (Instr.slice 24 (.slice Ar rs.length cr) none (some (.int .i64 ns.length)) none).run Tryz.prog W = .ok (.slice Ar rs'.length cr) W) ∨ decide (ns.length < rs.length) = false ∧ rs' = rs) := by
    refine ⟨trivial, ?_⟩
    rcases hor with ⟨h1, h2⟩ | ⟨h1, h2⟩
    · exact .inl ⟨decide_eq_true h1, fun W => by rw [h2]; exact run_cut0 (P := Tryz.prog) 24 3 Tryz.underlying24 i0 hi0 Ar rs.length cr ns.length ns.length rfl (by omega) W⟩
    · exact .inr ⟨decide_eq_false (by omega), h2⟩
  clear hor hi0
  rcases hkey.2 with ⟨d1, hcut⟩ | ⟨d1, rfl⟩
  all_goals
    clear hkey
    go_enter Tryz.func3, Tryz.ntmps3
    go_wp2_with fail
    refine (CF.out _).mono ?_
    rintro e w1 ⟨rfl, hb⟩
    have HB1 := Lib.hid hb
    clear hb
    go_wp2_with fail
    try clear hcut
    refine (C1.out w1 (HT.out.below HB1.out) (HS.out.below HB1.out) (Rd.below HI'.out HB1.out)).1.mono ?_
    intro e w2 hp
    obtain ⟨A2, k2, rfl, hrd, hb⟩ := emit_view hp
    have HB2 := Lib.hid (below_next HB1.out hb)
    have HR2 := Lib.hid hrd
    clear hp hrd hb
    go_wp2_with fail
    refine (C1.out w2 (HT.out.below HB2.out) (HS.out.below HB2.out) (Rd.below HI'.out HB2.out)).2.mono ?_
    intro e w3 hp
    obtain ⟨A3, k3, rfl, hrd, hb⟩ := emit_view hp
    have HB3 := Lib.hid (below_next HB2.out hb)
    have HR3 := Lib.hid hrd
    have HR2 := Lib.hid (Rd.below HR2.out hb)
    clear hp hrd hb
    go_wp2_with fail
    refine (C2.out w3 (HT.out.below HB3.out) (HS.out.below HB3.out) (Rd.below HI.out HB3.out)).1.mono ?_
    intro e w4 hp
    obtain ⟨A4, k4, rfl, hrd, hb⟩ := emit_view hp
    have HB4 := Lib.hid (below_next HB3.out hb)
    have HR4 := Lib.hid hrd
    have HR2 := Lib.hid (Rd.below HR2.out hb)
    have HR3 := Lib.hid (Rd.below HR3.out hb)
    clear hp hrd hb
    go_wp2_with fail
    refine (C2.out w4 (HT.out.below HB4.out) (HS.out.below HB4.out) (Rd.below HI.out HB4.out)).2.mono ?_
    intro e w5 hp
    obtain ⟨A5, k5, rfl, hrd, hb⟩ := emit_view hp
    have HB5 := Lib.hid (below_next HB4.out hb)
    have HR5 := Lib.hid hrd
    have HR2 := Lib.hid (Rd.below HR2.out hb)
    have HR3 := Lib.hid (Rd.below HR3.out hb)
    have HR4 := Lib.hid (Rd.below HR4.out hb)
    clear hp hrd hb
    go_wp2_with fail
    refine (same_code (r1.getD []) A2 A3 k2 k3 w5 HR2.out HR3.out (by omega)).mono ?_
    rintro e w6 ⟨rfl, hb⟩
    have HB6 := Lib.hid (below_next HB5.out hb)
    have HR4 := Lib.hid (Rd.below HR4.out hb)
    have HR5 := Lib.hid (Rd.below HR5.out hb)
    clear hb
    go_wp2_with fail
    refine (same_code (r2.getD []) A4 A5 k4 k5 w6 HR4.out HR5.out (by omega)).mono ?_
    rintro e w7 ⟨rfl, hb⟩
    have HB7 := Lib.hid (below_next HB6.out hb)
    clear hb
    go_wp2_with fail
    go_ret
    exact ⟨rfl, HB7.out⟩
end Go.Proofs.YtngfeflemblljaaGreatDoor
