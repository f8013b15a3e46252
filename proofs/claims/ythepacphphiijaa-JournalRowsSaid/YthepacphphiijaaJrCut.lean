/- Contracts: journal.cut, journal.input. -/
import Derived.Test.YthepacphphiijaaJrW
namespace Go.Proofs.Ythepacphphiijaa
open Go.RowKit

def OutC (r : List UInt8 × Nat × Bool) (w : World) (e : Ending) (w' : World) : Prop := e = .returned (.tuple #[.string ⟨r.1.toArray⟩, .int .i64 r.2.1, .bool r.2.2]) ∧ w = w'
theorem ba_extract (s : ByteArray) (a b : Nat) : (s.extract a b).data.toList = (s.data.toList.drop a).take (b - a) := by
  rw [ByteArray.data_extract, Array.toList_extract]
theorem ba_cut (s : ByteArray) (a b : Nat) (L : List UInt8) (h : (s.data.toList.drop a).take (b - a) = L) : s.extract a b = ⟨L.toArray⟩ := by
  rw [ba_mk (s.extract a b), ba_extract, h]
set_option maxHeartbeats 800000 in
theorem cut_any (s : ByteArray) (w : World) (hs : s.size ≤ 1000000000000000) :
    Calls Try.prog 27 #[.string s] w (OutC (cutF s.data.toList) w) := by
  have HR := Lib.hid (readNumber_any s w (by omega))
  have hz := ba_size s
  have HC : Hid (cutF s.data.toList = match readF s.data.toList with
    | (n, k, true) => if n < 0 ∨ (s.data.toList.length : Int) - (k : Int) < n then ([], 0, false) else ((s.data.toList.drop k).take n.toNat, k + n.toNat, true)
    | (_, _, false) => ([], 0, false)) := Lib.hid rfl
  have HZ := Lib.hid hz
  clear hz
  rcases hr : readF s.data.toList with ⟨n, k, b⟩
  rw [hr] at HR HC
  cases b with
  | false =>
    have hcc : cutF s.data.toList = ([], 0, false) := HC.out
    have HCC := Lib.hid hcc
    clear hcc hr HC
    go_enter Try.func27, Try.ntmps27
    go_wp2_with fail
    refine HR.out.mono ?_
    rintro e w1 ⟨rfl, rfl⟩
    go_wp2_with fail
    go_ret3
    rw [HCC.out]
    exact ⟨rfl, rfl⟩
  | true =>
    have hk := readF_le hr
    rw [← HZ.out] at hk
    obtain ⟨hk1, hk2⟩ := hk
    have HC2 : Hid (cutF s.data.toList = if n < 0 ∨ (s.size : Int) - (k : Int) < n then ([], 0, false) else ((s.data.toList.drop k).take n.toNat, k + n.toNat, true)) := Lib.hid (by rw [HZ.out]; exact HC.out)
    clear hr HC
    by_cases hn : n < 0 ∨ (s.size : Int) - (k : Int) < n
    · have hcc : cutF s.data.toList = ([], 0, false) := by rw [HC2.out, if_pos hn]
      have HCC := Lib.hid hcc
      clear hcc HC2
      by_cases hn0 : n < 0
      all_goals
        try have hn1 : (s.size : Int) - (k : Int) < n := by omega
        clear hn
        go_enter Try.func27, Try.ntmps27
        go_wp2_with fail
        refine HR.out.mono ?_
        rintro e w1 ⟨rfl, rfl⟩
        go_wp2_with fail
        go_ret3
        rw [HCC.out]
        exact ⟨rfl, rfl⟩
    · have hcc : cutF s.data.toList = ((s.data.toList.drop k).take n.toNat, k + n.toNat, true) := by rw [HC2.out, if_neg hn]
      have HCC := Lib.hid hcc
      clear hcc HC2
      have hn0 : 0 ≤ n := by omega
      have hn1 : n ≤ (s.size : Int) - (k : Int) := by omega
      clear hn
      obtain ⟨m, rfl⟩ := Int.eq_ofNat_of_zero_le hn0
      go_enter Try.func27, Try.ntmps27
      go_wp2_with fail
      refine HR.out.mono ?_
      rintro e w1 ⟨rfl, rfl⟩
      go_wp2_with fail
      go_ret3
      rw [HCC.out, ba_cut s k (k + m) _ (by rw [Nat.add_sub_cancel_left]), Int.toNat_natCast]
      exact ⟨by simp, rfl⟩
/-- What input answers. -/
def OutI (r : Option In) (w : World) (e : Ending) (w' : World) : Prop :=
  e = .returned (.tuple #[.agg #[.int .i64 (r.getD ⟨0, 0, []⟩).kind, .int .i64 (r.getD ⟨0, 0, []⟩).frm, .string ⟨(r.getD ⟨0, 0, []⟩).body.toArray⟩], .bool r.isSome]) ∧ Below w.heap.size w w'
theorem ba_drop (s : ByteArray) (a : Nat) : (s.extract a s.size).data.toList = s.data.toList.drop a := by
  rw [ba_extract, List.take_of_length_le (by rw [List.length_drop, ba_size]; exact Nat.le_refl _)]
theorem inputF_1 {s : List UInt8} {n : Int} {a : Nat} (h : readF s = (n, a, false)) : inputF s = none := by unfold inputF; rw [h]
theorem inputF_2 {s : List UInt8} {n m : Int} {a b : Nat} (h : readF s = (n, a, true)) (h2 : readF (s.drop a) = (m, b, false)) : inputF s = none := by
  unfold inputF; rw [h]; dsimp only; rw [h2]
theorem inputF_3 {s r : List UInt8} {n m : Int} {a b c : Nat} (h : readF s = (n, a, true)) (h2 : readF (s.drop a) = (m, b, true)) (h3 : cutF (s.drop (a + b)) = (r, c, false)) : inputF s = none := by
  unfold inputF; rw [h]; dsimp only; rw [h2]; dsimp only; rw [h3]
theorem inputF_4 {s r : List UInt8} {n m : Int} {a b c : Nat} (h : readF s = (n, a, true)) (h2 : readF (s.drop a) = (m, b, true)) (h3 : cutF (s.drop (a + b)) = (r, c, true)) : inputF s = if a + b + c = s.length then some ⟨n, m, r⟩ else none := by
  unfold inputF; rw [h]; dsimp only; rw [h2]; dsimp only; rw [h3]
set_option maxHeartbeats 1600000 in
theorem input_any (s : ByteArray) (w : World) (hs : s.size ≤ 1000000000000000) :
    Calls Try.prog 28 #[.string s] w (OutI (inputF s.data.toList) w) := by
  have HZ := Lib.hid (ba_size s)
  have HR := Lib.hid (fun W => readNumber_any s W (by omega))
  rcases hr : readF s.data.toList with ⟨n, a, b1⟩
  rw [hr] at HR
  cases b1 with
  | false =>
    have hi := inputF_1 hr
    rw [hi]
    clear hi hr
    go_enter Try.func28, Try.ntmps28
    go_wp2_with fail
    refine (HR.out _).mono ?_
    rintro e w1 ⟨rfl, rfl⟩
    go_wp2_with fail
    refine bodyPost_ret (v := .tuple #[.agg #[.int .i64 0, .int .i64 0, .string ⟨#[]⟩], .bool false]) (by simp [results, Try.results28, go_sem]) rfl ⟨rfl, (Below.refl _ _).alloc (Nat.le_refl _) _⟩
  | true =>
    have hk := readF_le hr
    rw [← HZ.out] at hk
    obtain ⟨hk1, hk2⟩ := hk
    have hd := ba_drop s a
    have HR2 := Lib.hid (fun W => readNumber_any (s.extract a s.size) W (by rw [ba_size, hd, List.length_drop, ← HZ.out]; omega))
    rw [hd] at HR2
    clear hd
    rcases hr2 : readF (s.data.toList.drop a) with ⟨m, b, b2⟩
    rw [hr2] at HR2
    cases b2 with
    | false =>
      have hi := inputF_2 hr hr2
      rw [hi]
      clear hi hr hr2
      go_enter Try.func28, Try.ntmps28
      go_wp2_with fail
      refine (HR.out _).mono ?_
      rintro e w1 ⟨rfl, rfl⟩
      go_wp2_with fail
      refine (HR2.out _).mono ?_
      rintro e w1 ⟨rfl, rfl⟩
      go_wp2_with fail
      refine bodyPost_ret (v := .tuple #[.agg #[.int .i64 0, .int .i64 0, .string ⟨#[]⟩], .bool false]) (by simp [results, Try.results28, go_sem]) rfl ⟨rfl, (Below.refl _ _).alloc (Nat.le_refl _) _⟩
    | true =>
      have hk := readF_le hr2
      rw [List.length_drop, ← HZ.out] at hk
      obtain ⟨hk3, hk4⟩ := hk
      have hd := ba_drop s (a + b)
      have HR3 := Lib.hid (fun W => cut_any (s.extract (a + b) s.size) W (by rw [ba_size, hd, List.length_drop, ← HZ.out]; omega))
      rw [hd] at HR3
      clear hd
      rcases hr3 : cutF (s.data.toList.drop (a + b)) with ⟨r, c, b3⟩
      rw [hr3] at HR3
      cases b3 with
      | false =>
        have hi := inputF_3 hr hr2 hr3
        rw [hi]
        clear hi hr hr2 hr3
        go_enter Try.func28, Try.ntmps28
        go_wp2_with fail
        refine (HR.out _).mono ?_
        rintro e w1 ⟨rfl, rfl⟩
        go_wp2_with fail
        refine (HR2.out _).mono ?_
        rintro e w1 ⟨rfl, rfl⟩
        go_wp2_with fail
        refine (HR3.out _).mono ?_
        rintro e w1 ⟨rfl, rfl⟩
        go_wp2_with fail
        refine bodyPost_ret (v := .tuple #[.agg #[.int .i64 0, .int .i64 0, .string ⟨#[]⟩], .bool false]) (by simp [results, Try.results28, go_sem]) rfl ⟨rfl, (Below.refl _ _).alloc (Nat.le_refl _) _⟩
      | true =>
        have hk := cutF_le hr3
        rw [List.length_drop, ← HZ.out] at hk
        obtain ⟨hk5, hk6⟩ := hk
        have hi := inputF_4 hr hr2 hr3
        rw [← HZ.out] at hi
        rw [hi]
        clear hi hr hr2 hr3
        by_cases hq : a + b + c = s.size
        · rw [if_pos hq]
          have hq1 : ((a : Int) + (b : Int) + (c : Int) != (s.size : Int)) = false := by simp; omega
          clear hq
          go_enter Try.func28, Try.ntmps28
          go_wp2_with fail
          refine (HR.out _).mono ?_
          rintro e w1 ⟨rfl, rfl⟩
          go_wp2_with fail
          refine (HR2.out _).mono ?_
          rintro e w1 ⟨rfl, rfl⟩
          go_wp2_with fail
          refine (HR3.out _).mono ?_
          rintro e w1 ⟨rfl, rfl⟩
          go_wp2_with fail
          refine bodyPost_ret (v := .tuple #[.agg #[.int .i64 n, .int .i64 m, .string ⟨r.toArray⟩], .bool true]) (by simp [results, Try.results28, go_sem]) rfl ⟨rfl, (Below.refl _ _).alloc (Nat.le_refl _) _⟩
        · rw [if_neg hq]
          have hq1 : ((a : Int) + (b : Int) + (c : Int) != (s.size : Int)) = true := by simp; omega
          clear hq
          go_enter Try.func28, Try.ntmps28
          go_wp2_with fail
          refine (HR.out _).mono ?_
          rintro e w1 ⟨rfl, rfl⟩
          go_wp2_with fail
          refine (HR2.out _).mono ?_
          rintro e w1 ⟨rfl, rfl⟩
          go_wp2_with fail
          refine (HR3.out _).mono ?_
          rintro e w1 ⟨rfl, rfl⟩
          go_wp2_with fail
          refine bodyPost_ret (v := .tuple #[.agg #[.int .i64 0, .int .i64 0, .string ⟨#[]⟩], .bool false]) (by simp [results, Try.results28, go_sem]) rfl ⟨rfl, (Below.refl _ _).alloc (Nat.le_refl _) _⟩
end Go.Proofs.Ythepacphphiijaa
