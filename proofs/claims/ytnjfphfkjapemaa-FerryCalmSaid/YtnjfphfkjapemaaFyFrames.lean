/- Contracts: ferry.Frames, reparteeref36.FramesFerry. -/
import Derived.Test.YtnjfphfkjapemaaFyMore
import Derived.StillTailTactics
namespace Go.Proofs.Ytnjfphfkjapemaa
open Go.RowKit

theorem infoFrame : (Try.prog.info? 26).map (fun i => (i.zero, i.size, i.bytes)) = some (some (.agg #[.int .i64 0, .int .i64 0, .int .i64 0, .int .i64 0, .string ⟨#[]⟩]), 5, 48) := by kernel_rfl
def fcells (m : Fm) : List Value := [.int .i64 m.kind, .int .i64 m.from_, .int .i64 m.to, .int .i64 m.seq, .string m.body]
def frow (l : List Fm) : List Value := l.flatMap fcells
theorem frow_append (l m : List Fm) : frow (l ++ m) = frow l ++ frow m := List.flatMap_append
theorem frow_len (l : List Fm) : (frow l).length = l.length * 5 := by
  induction l with
  | nil => rfl
  | cons a t ih =>
    have : frow (a :: t) = fcells a ++ frow t := rfl
    rw [this, List.length_append, ih, List.length_cons]
    have : (fcells a).length = 5 := rfl
    omega
theorem frow_one (l : List Fm) : ∀ u ∈ frow l, u.oneCell' = true := by
  intro u hu
  obtain ⟨m, _, hm⟩ := List.mem_flatMap.1 hu
  simp [fcells] at hm
  rcases hm with rfl | rfl | rfl | rfl | rfl <;> rfl
/-- The data frames of the first k bodies. -/
def dataOf (b f t : Int) (l : List ByteArray) (k : Nat) : List Fm := (List.range k).map fun (i : Nat) => ⟨1, f, t, b + (i : Int), l.getD i ⟨#[]⟩⟩
theorem dataOf_succ (b f t : Int) (l : List ByteArray) (k : Nat) (h : k < l.length) : dataOf b f t l (k + 1) = dataOf b f t l k ++ [⟨1, f, t, b + k, l[k]⟩] := by
  unfold dataOf
  rw [List.range_succ, List.map_append]
  simp [h]
def framesF (x : Fy) (f t : Int) : List Fm := if x.may then ⟨2, f, t, x.want, ⟨#[]⟩⟩ :: dataOf x.base f t x.sent (min x.sent.length 8) else []
def OutF (w : World) (r : List Fm) (e : Ending) (w' : World) : Prop :=
  ∃ A L c, e = .returned (.slice A L.length c) ∧ Hid (L = r) ∧ L.length ≤ c ∧ w'.ownsRow w.heap.size 26 5 (.slice A L.length c) L.length (frow L) ∧ Below w.heap.size w w'

theorem far_alloc {wr w4 : World} {o : Obj} {row : Option Nat} {p : Addr} {u : Value} (h : wr.cell? p = some u) (hg : (wr.alloc o).drew.grownBy w4 row) (hne : some p.block ≠ row) : w4.cell? p = some u := by
  have hb := World.block_lt_of_cell? wr p h
  rw [hg.cell_far p (by simp; omega) hne]
  exact (World.cell?_alloc_lt wr o p hb).trans h
set_option maxHeartbeats 1600000 in
theorem frames_any (b : Int) (A : Option Addr) (l : List ByteArray) (c : Nat) (v f t : Int) (w : World) (ha : Strs w A l) (hl : l.length ≤ 1000) :
    Calls Try.prog 14 #[.agg #[.int .i64 b, .slice A l.length c, .int .i64 v], .int .i64 f, .int .i64 t] w (OutF w (framesF ⟨b, l, v⟩ f t)) := by
  obtain ⟨i0, hi0, hz0, hz1, hz2⟩ := info_parts infoFrame
  obtain ⟨W0, hW0⟩ : ∃ W0, W0 = w.alloc (.cells #[.int .i64 b, .slice A l.length c, .int .i64 v] 24) := ⟨_, rfl⟩
  have B0 := Lib.hid (show Below w.heap.size w W0 by rw [hW0]; exact (Below.refl _ _).alloc (Nat.le_refl _) _)
  have b1 := Lib.hid (show Blk W0 w.heap.size #[.int .i64 b, .slice A l.length c, .int .i64 v] 24 by rw [hW0]; exact Blk.new w _ _)
  have SA := Lib.hid (ha.below B0.out)
  have hsz := Lib.hid (show W0.heap.size = w.heap.size + 1 by rw [hW0]; simp)
  have HW := Lib.hid hW0
  clear hW0 ha
  rcases hm : (Fy.mk b l v).may with _ | _
  · have hr : framesF ⟨b, l, v⟩ f t = [] := by unfold framesF; rw [hm]; rfl
    rw [hr]
    have HM := Lib.hid hm
    clear hr hm
    go_enter Try.func14, Try.ntmps14
    go_wp2_with fail
    rw [← HW.out]
    refine (may_any _ _ _ _ _ _).mono ?_
    rintro e w2 ⟨rfl, hb⟩
    rw [HM.out]
    have B2 := Lib.hid hb
    clear hb
    go_wp2_with fail
    go_ret
    exact ⟨none, [], 0, rfl, Lib.hid rfl, Nat.le_refl _, World.ownsRow_nil _ _ _ _, below_next B0.out B2.out⟩
  · obtain ⟨⟨hb0, hb1⟩, hv0, hv1⟩ := may_bounds hm
    have hr : framesF ⟨b, l, v⟩ f t = ⟨2, f, t, v, ⟨#[]⟩⟩ :: dataOf b f t l (min l.length 8) := by unfold framesF; rw [hm]; rfl
    rw [hr]
    have HM := Lib.hid hm
    clear hr hm
    go_enter Try.func14, Try.ntmps14
    go_wp2_with fail
    rw [← HW.out]
    refine (may_any _ _ _ _ _ _).mono ?_
    rintro e w2 ⟨rfl, hb⟩
    rw [HM.out]
    have B2 := Lib.hid hb
    have C2 := Lib.hid (b1.out.belowS hb)
    have S2 := Lib.hid (SA.out.below hb)
    have hs2 := hb.size
    rw [hsz.out] at hs2
    obtain ⟨x0, x1, x2⟩ := blk3 C2.out
    clear hb
    go_wp2_with fail
    go_loopw [7, 8] (fun u i wr => ∃ (k : Nat) (A' : Option Addr) (c' : Nat) (L : List Fm), k ≤ l.length ∧ k ≤ 8 ∧ i = .int .i64 k ∧ u = .slice A' L.length c' ∧ Hid (L = ⟨2, f, t, v, ⟨#[]⟩⟩ :: dataOf b f t l k) ∧ L.length ≤ c' ∧
        wr.ownsRow w2.heap.size 26 5 (.slice A' L.length c') L.length (frow L) ∧ Below w2.heap.size w2 wr) (fun _ i _ => 8 - (intOf i).toNat)
    case atStart => exact ⟨0, _, 1, [⟨2, f, t, v, ⟨#[]⟩⟩], by omega, by omega, rfl, rfl, Lib.hid rfl, Nat.le_refl _, World.ownsRow_lit w2 _ 1 (Nat.le_refl _) (by unfold maxLen; omega) rfl, (Below.refl _ _).alloc (Nat.le_refl _) _⟩
    case round =>
      obtain ⟨k, A', c', L, hk, hk8, rfl, rfl, hL, hle, hown, hbw⟩ := hrel
      have hLn : L.length = k + 1 := by rw [hL.out]; simp [dataOf]
      have BW := Lib.hid hbw
      have CW := Lib.hid (C2.out.belowS hbw)
      have SW := Lib.hid (S2.out.below hbw)
      obtain ⟨x0, x1, x2⟩ := blk3 CW.out
      have hws := hbw.size
      clear hbw
      by_cases hlt : k < l.length ∧ k < 8
      · obtain ⟨h1, h2⟩ := hlt
        obtain ⟨ab, ao, hA, hab, hcs⟩ := S2.out.at_ (i := k) h1
        subst hA
        have hcs2 := (BW.out.cell (p := ⟨ab, ao + k, none⟩) hab).trans (hcs k h1)
        have hlen48 : (L.length + 1) * 48 ≤ 140737488355328 := by omega
        have hlen63 : L.length + 1 ≤ maxLen := by unfold maxLen; omega
        have hLk := Lib.hid hLn
        have e1 : IntKind.i64.wrap (b + (k : Int)) = b + (k : Int) := IntWalk.i64_in _ (by omega)
        have hw : w.heap.size < w2.heap.size := by omega
        have HO := Lib.hid hown
        clear hcs hLn hown
        go_wp2_with fail
        go_region_held3 (fun W => W.cell? ⟨w.heap.size, 0, none⟩ = some (.int .i64 b) ∧ W.cell? ⟨w.heap.size, 1, none⟩ = some (.slice (some ⟨ab, ao, none⟩) l.length c) ∧ W.cell? ⟨ab, ao + k, none⟩ = some (.string l[k]))
          (first | go_keep | (refine ⟨?_, ?_, ?_⟩ <;> go_keep))
          ((refine step_app _ (by rfl) _ _ _ (by rfl) w2.heap.size 26 i0 _ 5 48 Try.underlying35 hi0 hz0 hz1 hz2 rfl (by omega) (.slice A' L.length c') L.length (frow L) (by rfl) ((HO.out.alloc _).drew) (some ⟨wr.heap.size, 0, none⟩) 1 1 (frow [⟨1, f, t, b + k, l[k]⟩]) (by rfl) (Rd.new wr #[.int .i64 1, .int .i64 f, .int .i64 t, .int .i64 (b + k), .string l[k]] 26) rfl (frow_one _) hlen48 hlen63 (by simp; omega) ?_; intro A2 c2 w4 hle2 hown2 hg hat; have hr : ∀ g, g < w2.heap.size → some g ≠ (Value.slice A' L.length c').ownBlock := (fun g hlt e => by have := (HO.out.lt _ e.symm).1; omega); have z0 := far_alloc x0 hg (hr _ hw); have z1 := far_alloc x1 hg (hr _ hw); have z2 := far_alloc hcs2 hg (hr _ hab)))
        have BW4 := Lib.hid (((BW.out.alloc hws _).drew).grown hg (by simp; omega) (fun g hg => (HO.out.lt g hg).1))
        clear z0 z1 z2 hg hat x0 x1 x2 hcs2
        go_wp2_with fail
        go_roundw
        case rel =>
          refine ⟨k + 1, A2, c2, L ++ [⟨1, f, t, b + k, l[k]⟩], by omega, by omega, by go_num, by simp, Lib.hid (by rw [hL.out, dataOf_succ _ _ _ _ _ h1]; rfl), by simpa using hle2, ?_, BW4.out⟩
          rw [frow_append]
          simpa using hown2
        case measure => simp [intOf]; omega
      · have hkm : k = min l.length 8 := by omega
        have HK := Lib.hid hkm
        have HO := Lib.hid hown
        have HLn := Lib.hid hLn
        clear hkm hown hLn
        by_cases hkl : k < l.length
        all_goals
          go_wp2_with fail
          go_ret
          refine ⟨A', L, c', rfl, Lib.hid (by rw [hL.out, ← HK.out]), hle, own_mono HO.out (by omega), below_next (below_next B0.out B2.out) BW.out⟩
set_option maxHeartbeats 1600000 in
theorem framesR_any (b : Int) (A : Option Addr) (l : List ByteArray) (c : Nat) (v f t : Int) (w : World) (ha : Strs w A l) (hl : l.length ≤ 1000) :
    Calls Try.prog 15 #[.agg #[.int .i64 b, .slice A l.length c, .int .i64 v], .int .i64 f, .int .i64 t] w (OutF w (framesF ⟨b, l, v⟩ f t)) := by
  obtain ⟨i0, hi0, hz0, hz1, hz2⟩ := info_parts infoFrame
  obtain ⟨W0, hW0⟩ : ∃ W0, W0 = w.alloc (.cells #[.int .i64 b, .slice A l.length c, .int .i64 v] 24) := ⟨_, rfl⟩
  have B0 := Lib.hid (show Below w.heap.size w W0 by rw [hW0]; exact (Below.refl _ _).alloc (Nat.le_refl _) _)
  have b1 := Lib.hid (show Blk W0 w.heap.size #[.int .i64 b, .slice A l.length c, .int .i64 v] 24 by rw [hW0]; exact Blk.new w _ _)
  have SA := Lib.hid (ha.below B0.out)
  have hsz := Lib.hid (show W0.heap.size = w.heap.size + 1 by rw [hW0]; simp)
  have HW := Lib.hid hW0
  clear hW0 ha
  rcases hm : (Fy.mk b l v).may with _ | _
  · have hr : framesF ⟨b, l, v⟩ f t = [] := by unfold framesF; rw [hm]; rfl
    rw [hr]
    have HM := Lib.hid hm
    clear hr hm
    go_enter Try.func15, Try.ntmps15
    go_wp2_with fail
    rw [← HW.out]
    refine (mayR_any _ _ _ _ _ _).mono ?_
    rintro e w2 ⟨rfl, hb⟩
    rw [HM.out]
    have B2 := Lib.hid hb
    clear hb
    go_wp2_with fail
    go_ret
    exact ⟨none, [], 0, rfl, Lib.hid rfl, Nat.le_refl _, World.ownsRow_nil _ _ _ _, below_next B0.out B2.out⟩
  · obtain ⟨⟨hb0, hb1⟩, hv0, hv1⟩ := may_bounds hm
    have hr : framesF ⟨b, l, v⟩ f t = ⟨2, f, t, v, ⟨#[]⟩⟩ :: dataOf b f t l (min l.length 8) := by unfold framesF; rw [hm]; rfl
    rw [hr]
    have HM := Lib.hid hm
    clear hr hm
    go_enter Try.func15, Try.ntmps15
    go_wp2_with fail
    rw [← HW.out]
    refine (mayR_any _ _ _ _ _ _).mono ?_
    rintro e w2 ⟨rfl, hb⟩
    rw [HM.out]
    have B2 := Lib.hid hb
    have C2 := Lib.hid (b1.out.belowS hb)
    have S2 := Lib.hid (SA.out.below hb)
    have hs2 := hb.size
    rw [hsz.out] at hs2
    obtain ⟨x0, x1, x2⟩ := blk3 C2.out
    clear hb
    go_wp2_with fail
    go_loopw [7, 8] (fun u i wr => ∃ (k : Nat) (A' : Option Addr) (c' : Nat) (L : List Fm), k ≤ l.length ∧ k ≤ 8 ∧ i = .int .i64 k ∧ u = .slice A' L.length c' ∧ Hid (L = ⟨2, f, t, v, ⟨#[]⟩⟩ :: dataOf b f t l k) ∧ L.length ≤ c' ∧
        wr.ownsRow w2.heap.size 26 5 (.slice A' L.length c') L.length (frow L) ∧ Below w2.heap.size w2 wr) (fun _ i _ => 8 - (intOf i).toNat)
    case atStart => exact ⟨0, _, 1, [⟨2, f, t, v, ⟨#[]⟩⟩], by omega, by omega, rfl, rfl, Lib.hid rfl, Nat.le_refl _, World.ownsRow_lit w2 _ 1 (Nat.le_refl _) (by unfold maxLen; omega) rfl, (Below.refl _ _).alloc (Nat.le_refl _) _⟩
    case round =>
      obtain ⟨k, A', c', L, hk, hk8, rfl, rfl, hL, hle, hown, hbw⟩ := hrel
      have hLn : L.length = k + 1 := by rw [hL.out]; simp [dataOf]
      have BW := Lib.hid hbw
      have CW := Lib.hid (C2.out.belowS hbw)
      have SW := Lib.hid (S2.out.below hbw)
      obtain ⟨x0, x1, x2⟩ := blk3 CW.out
      have hws := hbw.size
      clear hbw
      by_cases hlt : k < l.length ∧ k < 8
      · obtain ⟨h1, h2⟩ := hlt
        obtain ⟨ab, ao, hA, hab, hcs⟩ := S2.out.at_ (i := k) h1
        subst hA
        have hcs2 := (BW.out.cell (p := ⟨ab, ao + k, none⟩) hab).trans (hcs k h1)
        have hlen48 : (L.length + 1) * 48 ≤ 140737488355328 := by omega
        have hlen63 : L.length + 1 ≤ maxLen := by unfold maxLen; omega
        have hLk := Lib.hid hLn
        have e1 : IntKind.i64.wrap (b + (k : Int)) = b + (k : Int) := IntWalk.i64_in _ (by omega)
        have hw : w.heap.size < w2.heap.size := by omega
        have HO := Lib.hid hown
        clear hcs hLn hown
        go_wp2_with fail
        go_region_held3 (fun W => W.cell? ⟨w.heap.size, 0, none⟩ = some (.int .i64 b) ∧ W.cell? ⟨w.heap.size, 1, none⟩ = some (.slice (some ⟨ab, ao, none⟩) l.length c) ∧ W.cell? ⟨ab, ao + k, none⟩ = some (.string l[k]))
          (first | go_keep | (refine ⟨?_, ?_, ?_⟩ <;> go_keep))
          ((refine step_app _ (by rfl) _ _ _ (by rfl) w2.heap.size 26 i0 _ 5 48 Try.underlying35 hi0 hz0 hz1 hz2 rfl (by omega) (.slice A' L.length c') L.length (frow L) (by rfl) ((HO.out.alloc _).drew) (some ⟨wr.heap.size, 0, none⟩) 1 1 (frow [⟨1, f, t, b + k, l[k]⟩]) (by rfl) (Rd.new wr #[.int .i64 1, .int .i64 f, .int .i64 t, .int .i64 (b + k), .string l[k]] 26) rfl (frow_one _) hlen48 hlen63 (by simp; omega) ?_; intro A2 c2 w4 hle2 hown2 hg hat; have hr : ∀ g, g < w2.heap.size → some g ≠ (Value.slice A' L.length c').ownBlock := (fun g hlt e => by have := (HO.out.lt _ e.symm).1; omega); have z0 := far_alloc x0 hg (hr _ hw); have z1 := far_alloc x1 hg (hr _ hw); have z2 := far_alloc hcs2 hg (hr _ hab)))
        have BW4 := Lib.hid (((BW.out.alloc hws _).drew).grown hg (by simp; omega) (fun g hg => (HO.out.lt g hg).1))
        clear z0 z1 z2 hg hat x0 x1 x2 hcs2
        go_wp2_with fail
        go_roundw
        case rel =>
          refine ⟨k + 1, A2, c2, L ++ [⟨1, f, t, b + k, l[k]⟩], by omega, by omega, by go_num, by simp, Lib.hid (by rw [hL.out, dataOf_succ _ _ _ _ _ h1]; rfl), by simpa using hle2, ?_, BW4.out⟩
          rw [frow_append]
          simpa using hown2
        case measure => simp [intOf]; omega
      · have hkm : k = min l.length 8 := by omega
        have HK := Lib.hid hkm
        have HO := Lib.hid hown
        have HLn := Lib.hid hLn
        clear hkm hown hLn
        by_cases hkl : k < l.length
        all_goals
          go_wp2_with fail
          go_ret
          refine ⟨A', L, c', rfl, Lib.hid (by rw [hL.out, ← HK.out]), hle, own_mono HO.out (by omega), below_next (below_next B0.out B2.out) BW.out⟩
end Go.Proofs.Ytnjfphfkjapemaa
