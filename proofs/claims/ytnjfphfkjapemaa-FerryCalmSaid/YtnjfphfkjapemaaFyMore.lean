/- Contracts: reparteeref36.HearFerry whole, SameFerry. -/
import Derived.Test.YtnjfphfkjapemaaFyHearRef
namespace Go.Proofs.Ytnjfphfkjapemaa
open Go.RowKit

theorem hearR_any (b : Int) (A : Option Addr) (l : List ByteArray) (c : Nat) (v : Int) (k f t q : Int) (s : ByteArray) (w : World) (ha : Strs w A l) (hl : l.length ≤ 1000) (hc : l.length ≤ c) :
    Calls Try.prog 13 #[.agg #[.int .i64 b, .slice A l.length c, .int .i64 v], .agg #[.int .i64 k, .int .i64 f, .int .i64 t, .int .i64 q, .string s]] w (OutH w (hearF ⟨b, l, v⟩ ⟨k, f, t, q, s⟩)) := by
  rcases hm : (Fy.mk b l v).may with _ | _
  · have hr : hearF ⟨b, l, v⟩ ⟨k, f, t, q, s⟩ = (⟨b, l, v⟩, ⟨#[]⟩, false) := by unfold hearF; rw [hm]; rfl
    rw [hr]
    exact hearR_not b A l c v k f t q s w ha hl hm
  · obtain ⟨hb, hv⟩ := may_bounds hm
    by_cases h1 : k = 1
    · subst h1
      by_cases h2 : q = v
      · subst h2
        have hr : hearF ⟨b, l, q⟩ ⟨1, f, t, q, s⟩ = (⟨b, l, q + 1⟩, s, true) := by unfold hearF; rw [hm]; simp
        rw [hr]
        exact hearR_data b A l c q f t s w ha hl hm hv
      · have hr : hearF ⟨b, l, v⟩ ⟨1, f, t, q, s⟩ = (⟨b, l, v⟩, ⟨#[]⟩, false) := by unfold hearF; rw [hm]; simp [h2]
        rw [hr]
        exact hearR_data0 b A l c v f t q s w ha hl hm h2
    · by_cases h2 : k = 2
      · subst h2
        by_cases h3 : b < q ∧ q ≤ b + l.length
        · obtain ⟨b, rfl⟩ := Int.eq_ofNat_of_zero_le hb.1
          obtain ⟨q, rfl⟩ := Int.eq_ofNat_of_zero_le (show 0 ≤ q by omega)
          have hr : hearF ⟨b, l, v⟩ ⟨2, f, t, q, s⟩ = (⟨q, l.drop (q - b), v⟩, ⟨#[]⟩, false) := by unfold hearF; rw [hm]; simp [h3]
          rw [hr]
          exact hearR_ack b A l c v f t q s w ha hl hm (by omega) (by omega) (by omega) hc
        · have hr : hearF ⟨b, l, v⟩ ⟨2, f, t, q, s⟩ = (⟨b, l, v⟩, ⟨#[]⟩, false) := by
            unfold hearF
            rw [hm, if_pos rfl, if_neg (by simp), if_neg (fun h => h3 h.2)]
          rw [hr]
          by_cases h4 : b < q
          · exact hearR_ack0b b A l c v f t q s w ha hl hm hb.1 hb.2 h4 (fun h => h3 ⟨h4, h⟩)
          · exact hearR_ack0a b A l c v f t q s w ha hl hm h4
      · have hr : hearF ⟨b, l, v⟩ ⟨k, f, t, q, s⟩ = (⟨b, l, v⟩, ⟨#[]⟩, false) := by unfold hearF; rw [hm]; simp [h1, h2]
        rw [hr]
        exact hearR_other b A l c v k f t q s w ha hl hm h1 h2

def sameF (x y : Fy) : Bool := (x.base == y.base) && (x.want == y.want) && decide (x.sent = y.sent)
theorem sameF_self (x : Fy) : sameF x x = true := by simp [sameF]
set_option maxHeartbeats 800000 in
theorem sameFy_any (b b' : Int) (A B : Option Addr) (l m : List ByteArray) (c d : Nat) (v v' : Int) (w : World) (ha : Strs w A l) (hb : Strs w B m) (hl : l.length ≤ 9223372036854775807) :
    Calls Try.prog 16 #[.agg #[.int .i64 b, .slice A l.length c, .int .i64 v], .agg #[.int .i64 b', .slice B m.length d, .int .i64 v']] w fun e w' => e = .returned (.bool (sameF ⟨b, l, v⟩ ⟨b', m, v'⟩)) ∧ Below w.heap.size w w' := by
  by_cases h1 : b = b'
  · subst h1
    by_cases h2 : v = v'
    · subst h2
      by_cases h3 : l.length = m.length
      · rw [← h3]
        have HL := Lib.hid h3
        obtain ⟨W0, hW0⟩ : ∃ W0, W0 = (w.alloc (.cells #[.int .i64 b, .slice A l.length c, .int .i64 v] 24)).alloc (.cells #[.int .i64 b, .slice B l.length d, .int .i64 v] 24) := ⟨_, rfl⟩
        have B0 := Lib.hid (show Below w.heap.size w W0 by rw [hW0]; exact ((Below.refl _ _).alloc (Nat.le_refl _) _).alloc (by simp) _)
        have b1 : Blk W0 w.heap.size #[.int .i64 b, .slice A l.length c, .int .i64 v] 24 := by rw [hW0]; exact (Blk.new w _ _).alloc _
        have b2 : Blk W0 (w.heap.size + 1) #[.int .i64 b, .slice B l.length d, .int .i64 v] 24 := by
          rw [hW0]
          have := Blk.new (w.alloc (.cells #[.int .i64 b, .slice A l.length c, .int .i64 v] 24)) #[.int .i64 b, .slice B l.length d, .int .i64 v] 24
          rw [World.size_alloc] at this
          exact this
        obtain ⟨x0, x1, x2⟩ := blk3 b1
        obtain ⟨y0, y1, y2⟩ := blk3 b2
        have SA := Lib.hid (ha.below B0.out)
        have SB := Lib.hid (hb.below B0.out)
        have HW := Lib.hid hW0
        clear h3 hW0 ha hb b1 b2
        go_enter Try.func16, Try.ntmps16
        go_wp2
        rw [← HW.out]
        go_loopw [5] (fun i wr => ∃ k : Nat, k ≤ l.length ∧ i = .int .i64 k ∧ l.take k = m.take k ∧ ∃ j, wr = W0.drewN j) (fun i _ => l.length - (intOf i).toNat)
        case atStart => exact ⟨0, by omega, rfl, by simp, 0, rfl⟩
        case round =>
          obtain ⟨k, hk, rfl, hq, j, rfl⟩ := hrel
          by_cases hlt : k < l.length
          · have hltm : k < m.length := by rw [← HL.out]; exact hlt
            obtain ⟨ab, ao, hA, _, ha'⟩ := SA.out.at_ (i := k) (by omega)
            obtain ⟨bb, bo, hB, _, hb'⟩ := SB.out.at_ (i := k) (by omega)
            subst hA hB
            have ca := ha' k hlt
            have cb := hb' k hltm
            have HQ := Lib.hid hq
            clear ha' hb' hq
            go_wp2
            go_quiet (fail)
            go_wp2
            · go_ret
              have hne : (!l[k].toList == m[k].toList) = true := by assumption
              refine ⟨ret_bool ?_, below_drewN (below_drewN B0.out _) _⟩
              unfold sameF
              symm
              have : ¬ l = m := ne_of_get hlt hltm (by intro e; rw [e] at hne; simp at hne)
              simp [this]
            · go_roundw
              have he : (!l[k].toList == m[k].toList) = false := by assumption
              case rel => exact ⟨k + 1, by omega, by go_num, take_eq_succ HQ.out hlt hltm (toList_eq he), _, rfl⟩
              case measure => simp [intOf]; omega
          · go_wp2
            go_ret
            have := HL.out
            rw [List.take_of_length_le (by omega), List.take_of_length_le (by omega)] at hq
            exact ⟨ret_bool (by rw [hq]; exact (sameF_self _).symm), below_drewN B0.out _⟩
      · have hr : sameF ⟨b, l, v⟩ ⟨b, m, v⟩ = false := by
          have : ¬ l = m := fun h => h3 (by rw [h])
          simp [sameF, this]
        rw [hr]
        have hd : ((l.length : Int) != (m.length : Int)) = true := by simp; omega
        clear hr h3
        go_enter Try.func16, Try.ntmps16
        go_wp2
        go_ret
        exact ⟨rfl, ((Below.refl _ _).alloc (Nat.le_refl _) _).alloc (by simp) _⟩
    · have hr : sameF ⟨b, l, v⟩ ⟨b, m, v'⟩ = false := by simp [sameF, h2]
      rw [hr]
      have hd : (v != v') = true := by simpa using h2
      clear hr h2
      go_enter Try.func16, Try.ntmps16
      go_wp2
      go_ret
      exact ⟨rfl, ((Below.refl _ _).alloc (Nat.le_refl _) _).alloc (by simp) _⟩
  · have hr : sameF ⟨b, l, v⟩ ⟨b', m, v'⟩ = false := by simp [sameF, h1]
    rw [hr]
    have hd : (b != b') = true := by simpa using h1
    clear hr h1
    go_enter Try.func16, Try.ntmps16
    go_wp2
    go_ret
    exact ⟨rfl, ((Below.refl _ _).alloc (Nat.le_refl _) _).alloc (by simp) _⟩
end Go.Proofs.Ytnjfphfkjapemaa
