/- Contracts: what packet.number and packet.text make to read. -/
import Derived.Test.YtfaophiaiflecaaPkFrame
import Derived.Deep.DeepCutAuto
namespace Go.Proofs.Ytfaophiaiflecaa
open Go.RowKit

theorem ba_drop (s : ByteArray) (a : Nat) : (s.extract a s.size).data.toList = s.data.toList.drop a := by
  rw [ByteArray.data_extract, Array.toList_extract, List.extract_eq_take_drop]
  exact List.take_of_length_le (by rw [List.length_drop, Array.length_toList]; exact Nat.le_refl _)
/-- What reading a number into p gives. -/
def OutRN (s : ByteArray) (p : Addr) (w : World) (r : Int × Nat × Bool) (e : Ending) (w' : World) : Prop :=
  if r.2.2 = true then e = .returned (.tuple #[.string (s.extract r.2.1 s.size), .bool true]) ∧ w' = w.setCell p (.int .i64 r.1) else e = .returned (.tuple #[.string s, .bool false]) ∧ w' = w
set_option maxHeartbeats 800000 in
theorem numberInt2_any (b : Nat) (p : Addr) (v : Value) (s : ByteArray) (w : World) (hb : Blk w b #[.pointer (some p)] 88) (hp : w.cell? p = some v) (hf : w.frozen? p = false) (hs : s.size ≤ 1000000000) :
    Calls Try.prog 77 #[.string s, .pointer (some ⟨b, 0, none⟩)] w (OutRN s p w (readF s.data.toList)) := by
  have CR := Lib.hid (fun W => readNumber_any s W (by omega))
  obtain ⟨x0, _⟩ := blk1 hb
  rcases hr : readF s.data.toList with ⟨n, k, ok⟩
  rw [hr] at CR
  cases ok with
  | false =>
    go_enter Try.func77, Try.ntmps77
    go_wp2_with fail
    refine (CR.out _).mono ?_
    rintro e w1 ⟨rfl, rfl⟩
    go_wp2_with fail
    go_ret2
    exact ⟨rfl, rfl⟩
  | true =>
    obtain ⟨k0, k1⟩ := readF_le hr
    have k2 : k ≤ s.size := by rw [ba_size]; exact k1
    clear k0 k1 hr
    go_enter Try.func77, Try.ntmps77
    go_wp2_with fail
    refine (CR.out _).mono ?_
    rintro e w1 ⟨rfl, rfl⟩
    go_wp2_with fail
    go_ret2
    exact ⟨rfl, rfl⟩
/-- What reading a text into p gives. -/
def cutT (l : List UInt8) : List UInt8 × List UInt8 × Bool := match readF l with
  | (n, k, true) => if n < 0 ∨ (l.length : Int) - (k : Int) < n then ([], l, false) else ((l.drop k).take n.toNat, l.drop (k + n.toNat), true)
  | (_, _, false) => ([], l, false)
def OutRT (p : Addr) (w : World) (r : List UInt8 × List UInt8 × Bool) (e : Ending) (w' : World) : Prop :=
  e = .returned (.tuple #[.string ⟨r.2.1.toArray⟩, .bool r.2.2]) ∧ (w' = (if r.2.2 = true then w.setCell p (.string ⟨r.1.toArray⟩) else w) ∨ w' = (if r.2.2 = true then w.setCell p (.string ⟨r.1.toArray⟩) else w).drew)
theorem ba_extract (s : ByteArray) (a b : Nat) : (s.extract a b).data.toList = (s.data.toList.drop a).take (b - a) := by
  rw [ByteArray.data_extract, Array.toList_extract, List.extract_eq_take_drop]
theorem ba_cut (s : ByteArray) (a b : Nat) (L : List UInt8) (h : (s.data.toList.drop a).take (b - a) = L) : s.extract a b = ⟨L.toArray⟩ := by
  rw [ba_mk (s.extract a b), ba_extract, h]
set_option maxHeartbeats 1600000 in
theorem text2_any (b : Nat) (p : Addr) (v : Value) (s : ByteArray) (w : World) (hb : Blk w b #[.pointer (some p)] 90) (hp : w.cell? p = some v) (hf : w.frozen? p = false) (hs : s.size ≤ 1000000000) :
    Calls Try.prog 80 #[.string s, .pointer (some ⟨b, 0, none⟩)] w (OutRT p w (cutT s.data.toList)) := by
  have CR := Lib.hid (fun W => readNumber_any s W (by omega))
  obtain ⟨x0, _⟩ := blk1 hb
  have hsl := ba_size s
  rcases hr : readF s.data.toList with ⟨n, k, ok⟩
  rw [hr] at CR
  have HC : Hid (cutT s.data.toList = match ((n, k, ok) : Int × Nat × Bool) with
    | (n, k, true) => if n < 0 ∨ (s.data.toList.length : Int) - (k : Int) < n then ([], s.data.toList, false) else ((s.data.toList.drop k).take n.toNat, s.data.toList.drop (k + n.toNat), true)
    | (_, _, false) => ([], s.data.toList, false)) := Lib.hid (by unfold cutT; rw [hr])
  cases ok with
  | false =>
    have hc : cutT s.data.toList = ([], s.data.toList, false) := HC.out
    have HC2 := Lib.hid hc
    clear hc hsl hr
    go_enter Try.func80, Try.ntmps80
    go_wp2_with fail
    refine (CR.out _).mono ?_
    rintro e w1 ⟨rfl, rfl⟩
    go_wp2_with fail
    go_ret2
    rw [HC2.out]
    exact ⟨by show _ = Ending.returned (.tuple #[.string ⟨s.data.toList.toArray⟩, .bool false]); rw [← ba_mk]; rfl, .inl rfl⟩
  | true =>
    obtain ⟨k0, k1⟩ := readF_le hr
    have k2 : k ≤ s.size := by rw [ba_size]; exact k1
    have hc : cutT s.data.toList = if n < 0 ∨ (s.size : Int) - (k : Int) < n then ([], s.data.toList, false) else ((s.data.toList.drop k).take n.toNat, s.data.toList.drop (k + n.toNat), true) := by rw [hsl]; exact HC.out
    have HC2 := Lib.hid hc
    clear hc hr HC hsl k0 k1
    have q1 : IntKind.i64.wrap ((s.size : Int) - (k : Int)) = (s.size : Int) - (k : Int) := IntWalk.i64_in _ (by omega)
    by_cases hn : n < 0
    · have hd : decide (n < 0) = true := by simp; exact hn
      go_enter Try.func80, Try.ntmps80
      go_wp2_with fail
      refine (CR.out _).mono ?_
      rintro e w1 ⟨rfl, rfl⟩
      go_wp2_with fail
      go_ret2
      rw [HC2.out, if_pos (.inl hn)]
      exact ⟨by show _ = Ending.returned (.tuple #[.string ⟨s.data.toList.toArray⟩, .bool false]); rw [← ba_mk]; rfl, .inl rfl⟩
    · obtain ⟨m, rfl⟩ : ∃ m : Nat, n = m := ⟨n.toNat, by omega⟩
      have hd : decide ((m : Int) < 0) = false := by simp
      by_cases hlt : (s.size : Int) - (k : Int) < (m : Int)
      · have hd2 : decide ((s.size : Int) - (k : Int) < (m : Int)) = true := by simp; omega
        go_enter Try.func80, Try.ntmps80
        go_wp2_with fail
        refine (CR.out _).mono ?_
        rintro e w1 ⟨rfl, rfl⟩
        go_wp2_with fail
        go_ret2
        rw [HC2.out, if_pos (.inr hlt)]
        exact ⟨by show _ = Ending.returned (.tuple #[.string ⟨s.data.toList.toArray⟩, .bool false]); rw [← ba_mk]; rfl, .inl rfl⟩
      · have hd2 : decide ((s.size : Int) - (k : Int) < (m : Int)) = false := by simp; omega
        have hkm : k + m ≤ s.size := by omega
        have q2 : IntKind.i64.wrap ((k : Int) + (m : Int)) = (k : Int) + (m : Int) := IntWalk.i64_in _ (by omega)
        have e1 := ba_cut s k (k + m) ((s.data.toList.drop k).take m) (by rw [Nat.add_sub_cancel_left])
        have E1 := Lib.hid e1
        have E2 := Lib.hid (show s.extract (k + m) s.size = ⟨(s.data.toList.drop (k + m)).toArray⟩ by rw [ba_mk (s.extract (k + m) s.size), ba_drop])
        clear e1
        go_enter Try.func80, Try.ntmps80
        go_wp2_with fail
        refine (CR.out _).mono ?_
        rintro e w1 ⟨rfl, rfl⟩
        go_upto_region 4 with fail
        go_region
        all_goals
          go_wp2_with fail
          go_ret2
          rw [HC2.out, if_neg (by omega)]
          exact ⟨by rw [E2.out]; rfl, .inr (by rw [E1.out]; rfl)⟩
end Go.Proofs.Ytfaophiaiflecaa
