/- The walk of the law ObjectNumbers. -/
import Derived.Test.YthepacphphiijaaObjFirst
namespace Go.Proofs.Ythepacphphiijaa
open Go.RowKit Go.Lib

theorem numB_mono (n k : Int) (h : 0 ≤ n) (h1 : n ≤ k) : (numB n).length ≤ (numB k).length := by
  unfold numB
  apply vb_mono
  unfold zz
  rw [if_pos h, if_pos (by omega)]
  omega
set_option maxRecDepth 100000 in
set_option maxHeartbeats 1600000 in
theorem numbers_walk (n k : Int) (s : ByteArray) (w : World) (h1 : -9223372036854775808 ≤ n) (h2 : n ≤ 9223372036854775807) (k1 : -9223372036854775808 ≤ k) (k2 : k ≤ 9223372036854775807) (hs : s.size ≤ maxLen) :
    Calls Try.prog 3 #[.int .i64 n, .int .i64 k, .string s] w fun e w' => e = .returned (.bool true) ∧ Below w.heap.size w w' := by
  unfold maxLen at hs
  have HN := Lib.hid (fun W => number_any n W h1 h2)
  have HK := Lib.hid (fun W => number_any k W k1 k2)
  go_enter Try.func3, Try.ntmps3
  go_wp2_with fail
  refine (first33_any w).mono ?_
  rintro e w1 ⟨rfl, hb⟩
  have B1 := Lib.hid hb
  clear hb
  by_cases hl : 100 < s.size
  · go_wp2_with fail
    go_ret
    exact ⟨rfl, B1.out⟩
  · obtain ⟨hn1, hn2⟩ := numB_len n
    obtain ⟨hk1, hk2⟩ := numB_len k
    have hR := readF_num n s.data.toList h1 h2
    have hC := readF_cut n
    have HR := Lib.hid hR
    have HC := Lib.hid hC
    have HM := Lib.hid (numB_mono n k)
    clear hR hC
    generalize numB n = N at *
    generalize numB k = K at *
    go_wp2_with fail
    refine (HN.out _).mono ?_
    rintro e w2 ⟨rfl, hb⟩
    have B2 := Lib.hid (below_next B1.out hb)
    clear hb
    go_wp2_with fail
    have C := readNumber_any ((⟨N.toArray⟩ : ByteArray) ++ s) w2 (by rw [ByteArray.size_append]; show N.length + s.size ≤ _; omega)
    rw [show ((⟨N.toArray⟩ : ByteArray) ++ s).data.toList = N ++ s.data.toList by rw [ByteArray.data_append, Array.toList_append], HR.out] at C
    refine C.mono ?_
    clear C
    rintro e w3 ⟨rfl, rfl⟩
    go_wp2_with fail
    have hcut : ((⟨N.toArray⟩ : ByteArray).extract 0 (N.length - 1)).data.toList = N.dropLast := by
      rw [ByteArray.data_extract, List.dropLast_eq_take]
      simp [List.dropLast_eq_take]
    have C := readNumber_any ((⟨N.toArray⟩ : ByteArray).extract 0 (N.length - 1)) w2 (by show ((⟨N.toArray⟩ : ByteArray).extract 0 (N.length - 1)).data.size ≤ _; rw [← Array.length_toList, hcut, List.length_dropLast]; omega)
    rw [hcut, HC.out] at C
    clear hcut
    refine C.mono ?_
    clear C
    rintro e w3 ⟨rfl, rfl⟩
    go_wp2_with fail
    refine (HK.out _).mono ?_
    rintro e w3 ⟨rfl, hb⟩
    have B3 := Lib.hid (below_next B2.out hb)
    clear hb
    by_cases hnk : 0 ≤ n ∧ n ≤ k
    · obtain ⟨g1, g2⟩ := hnk
      have hm := HM.out g1 g2
      go_wp2_with fail
      go_ret
      exact ⟨rfl, B3.out⟩
    · by_cases g1 : 0 ≤ n
      · have g2 : ¬ n ≤ k := fun h => hnk ⟨g1, h⟩
        clear hnk
        go_wp2_with fail
        go_ret
        exact ⟨rfl, B3.out⟩
      · clear hnk
        go_wp2_with fail
        go_ret
        exact ⟨rfl, B3.out⟩
end Go.Proofs.Ythepacphphiijaa
