/- Contract: journal.Read. -/
import Derived.Test.YthepacphphiijaaJrCut
namespace Go.Proofs.Ythepacphphiijaa
open Go.RowKit

theorem infoInput : (Try.prog.info? 39).map (fun i => (i.zero, i.size, i.bytes)) = some (some (.agg #[.int .i64 0, .int .i64 0, .string ⟨#[]⟩]), 3, 32) := by kernel_rfl
/-- What Read answers. -/
def OutJ (s : List UInt8) (w : World) (e : Ending) (w' : World) : Prop :=
  ∃ A L c m, e = .returned (.tuple #[.slice A L.length c, .int .i64 (m : Nat)]) ∧ Hid (Reads s L m) ∧ L.length ≤ c ∧ w'.ownsRow w.heap.size 39 3 (.slice A L.length c) L.length (irow L) ∧ Below w.heap.size w w'
theorem mk_toList (l : List UInt8) : (⟨l.toArray⟩ : ByteArray).toList = l := by rw [ByteArray.toList_eq]
def Goes (s : List UInt8) (k : Nat) (L : List In) : Prop := ∀ l m, Reads (s.drop k) l m → Reads s (L ++ l) (k + m)
theorem Goes.start (s : List UInt8) : Goes s 0 [] := fun l m h => by simpa using h
theorem Goes.stop {s : List UInt8} {k : Nat} {L : List In} (h : Goes s k L) (hs : stepF (s.drop k) = none) : Reads s L k := by
  have := h [] 0 (.stop hs)
  simpa using this
theorem Goes.step {s : List UInt8} {k n : Nat} {L : List In} {x : In} (h : Goes s k L) (hs : stepF (s.drop k) = some (x, n)) : Goes s (k + n) (L ++ [x]) := by
  intro l m hr
  rw [← List.drop_drop] at hr
  have := h _ _ (.more hs hr)
  rw [List.append_assoc, Nat.add_assoc]
  exact this
theorem stepF_1 {s r : List UInt8} {n : Nat} (h : cutF s = (r, n, false)) : stepF s = none := by unfold stepF; rw [h]
theorem stepF_2 {s r : List UInt8} {n : Nat} (h : cutF s = (r, n, true)) (h2 : s.length < n + 4) : stepF s = none := by unfold stepF; rw [h]; dsimp only; rw [if_pos h2]
theorem stepF_4 {s r : List UInt8} {n : Nat} (h : cutF s = (r, n, true)) (h2 : ¬ s.length < n + 4) (h3 : fourB (fnv (s.take n)) = (s.drop n).take 4) : stepF s = (inputF r).map fun x => (x, n + 4) := by
  unfold stepF; rw [h]; dsimp only; rw [if_neg h2, if_pos h3]
theorem cutF_row {s r : List UInt8} {n : Nat} (h : cutF s = (r, n, true)) : r.length ≤ s.length := by
  unfold cutF at h
  split at h
  · split at h
    · injection h with _ h; injection h with _ h; cases h
    · injection h with h _
      subst h
      rw [List.length_take, List.length_drop]
      omega
  · injection h with _ h; injection h with _ h; cases h
set_option maxRecDepth 100000 in
set_option maxHeartbeats 3200000 in
theorem jread_any (s : ByteArray) (w : World) (hs : s.size ≤ 1000000000000) :
    Calls Try.prog 12 #[.string s] w (OutJ s.data.toList w) := by
  obtain ⟨i0, hi0, hz0, hz1, hz2⟩ := info_parts infoInput
  have HZ := Lib.hid (ba_size s)
  go_enter Try.func12, Try.ntmps12
  go_wp2_with fail
  go_loopw [4, 5] (fun o a wr => ∃ (k : Nat) (A' : Option Addr) (c' : Nat) (L : List In), k ≤ s.size ∧ a = .int .i64 k ∧ o = .slice A' L.length c' ∧ L.length ≤ k ∧ L.length ≤ c' ∧ Hid (Goes s.data.toList k L) ∧
      wr.ownsRow w.heap.size 39 3 (.slice A' L.length c') L.length (irow L) ∧ Below w.heap.size w wr) (fun _ a _ => s.size - (intOf a).toNat)
  case atStart => exact ⟨0, none, 0, [], by omega, rfl, rfl, Nat.le_refl _, Nat.le_refl _, Lib.hid (Goes.start _), World.ownsRow_nil _ _ _ _, Below.refl _ _⟩
  case round =>
    obtain ⟨k, A', c', L, hk, rfl, rfl, hLk, hle, hG, hown, hbw⟩ := hrel
    have BW := Lib.hid hbw
    have hws := hbw.size
    have HO := Lib.hid hown
    clear hbw hown
    have hd := ba_drop s k
    have HC := Lib.hid (fun W => cut_any (s.extract k s.size) W (by rw [ba_size, hd, List.length_drop, ← HZ.out]; omega))
    rw [hd] at HC
    clear hd
    rcases hc : cutF (s.data.toList.drop k) with ⟨r, n, b⟩
    rw [hc] at HC
    cases b with
    | false =>
      have HR := Lib.hid (hG.out.stop (stepF_1 hc))
      clear hc hG
      go_wp2_with fail
      refine (HC.out _).mono ?_
      rintro e w1 ⟨rfl, rfl⟩
      go_wp2_with fail
      go_quiet (fail)
      go_wp2_with fail
      go_ret2
      exact ⟨A', L, c', k, rfl, HR, hle, own_drewN HO.out _, below_drewN BW.out _⟩
    | true =>
      have hk2 := cutF_le hc
      have hrl := cutF_row hc
      rw [List.length_drop, ← HZ.out] at hk2 hrl
      obtain ⟨hn0, hn1⟩ := hk2
      by_cases h4 : s.size - k < n + 4
      · have HR := Lib.hid (hG.out.stop (stepF_2 hc (by rw [List.length_drop, ← HZ.out]; exact h4)))
        have hd : decide ((s.size : Int) - (k : Int) - (n : Int) < 4) = true := by simp; omega
        clear hc hG h4
        go_wp2_with fail
        refine (HC.out _).mono ?_
        rintro e w1 ⟨rfl, rfl⟩
        go_wp2_with fail
        go_quiet (fail)
        go_wp2_with fail
        go_ret2
        exact ⟨A', L, c', k, rfl, HR, hle, own_drewN HO.out _, below_drewN BW.out _⟩
      · have hd : decide ((s.size : Int) - (k : Int) - (n : Int) < 4) = false := by simp; omega
        have h44 : ¬ (s.data.toList.drop k).length < n + 4 := by rw [List.length_drop, ← HZ.out]; exact h4
        have e1 : (s.extract k (k + n)).data.toList = (s.data.toList.drop k).take n := by rw [ba_extract, Nat.add_sub_cancel_left]
        have e2 : s.extract (k + n) (k + n + 4) = ⟨(((s.data.toList.drop k).drop n).take 4).toArray⟩ := ba_cut _ _ _ _ (by rw [Nat.add_sub_cancel_left, List.drop_drop])
        have HS := Lib.hid (fun W => jsum_any (s.extract k (k + n)) W (by unfold maxLen; rw [ba_size, e1, List.length_take, List.length_drop, ← HZ.out]; omega))
        rw [e1] at HS
        have HE2 := Lib.hid e2
        clear e1 e2
        have b1 : (k : Int) + (n : Int) + 4 ≤ (s.size : Int) := by omega
        by_cases hq : fourB (fnv ((s.data.toList.drop k).take n)) = ((s.data.toList.drop k).drop n).take 4
        · have HS4 := stepF_4 hc h44 hq
          have hcmp : (!((⟨(fourB (fnv ((s.data.toList.drop k).take n))).toArray⟩ : ByteArray).toList == (s.extract (k + n) (k + n + 4)).toList)) = false := by rw [HE2.out, hq]; simp
          rw [mk_toList] at hcmp
          generalize fourB (fnv ((s.data.toList.drop k).take n)) = F at *
          have HG4 := Lib.hid HS4
          clear HS4 hc h4 hq h44
          have hrl2 : r.length ≤ s.size := by omega
          have HI := Lib.hid (fun W => input_any ⟨r.toArray⟩ W (by show r.length ≤ _; omega))
          have hdr : (⟨r.toArray⟩ : ByteArray).data.toList = r := rfl
          rw [hdr] at HI
          clear hdr
          go_wp2_with fail
          refine (HC.out _).mono ?_
          rintro e w1 ⟨rfl, rfl⟩
          have q1 : IntKind.i64.wrap ((s.size : Int) - (k : Int)) = (s.size : Int) - (k : Int) := IntWalk.i64_in _ (by omega)
          have q2 : IntKind.i64.wrap ((s.size : Int) - (k : Int) - (n : Int)) = (s.size : Int) - (k : Int) - (n : Int) := IntWalk.i64_in _ (by omega)
          have q3 : IntKind.i64.wrap ((k : Int) + (n : Int)) = (k : Int) + (n : Int) := IntWalk.i64_in _ (by omega)
          have q4 : IntKind.i64.wrap ((k : Int) + (n : Int) + 4) = (k : Int) + (n : Int) + 4 := IntWalk.i64_in _ (by omega)
          have q5 : (0 : Int) ≤ (k : Int) + (n : Int) := by omega
          have q6 : (0 : Int) ≤ (k : Int) + (n : Int) + 4 := by omega
          have q7 : ((k : Int) + (n : Int)).toNat = k + n := by omega
          have q8 : ((k : Int) + (n : Int) + 4).toNat = k + n + 4 := by omega
          have q9 : (k : Int) ≤ (k : Int) + (n : Int) := by omega
          have q10 : (k : Int) + (n : Int) ≤ (s.size : Int) := by omega
          have q11 : (k : Int) + (n : Int) ≤ (k : Int) + (n : Int) + 4 := by omega
          go_upto_region 4 with fail
          go_cut [47] (fun s47 wx => s47 = .bool false ∧ Hid (Below wr.heap.size wr wx))
          case first =>
            go_region_held3 (fun _ => True) (trivial) ((go_at_call 26; refine (HS.out _).mono ?_; rintro e w2 ⟨rfl, hb2⟩))
            all_goals
              go_wp2_with fail
              go_meet
              exact ⟨rfl, Lib.hid (below_of_drew hb2)⟩
          case rest =>
            obtain ⟨rfl, B2⟩ := hcut
            rcases hix : inputF r with _ | x
            · rw [hix] at HI HG4
              have HR := Lib.hid (hG.out.stop HG4.out)
              clear hix hG
              go_wp2_with fail
              refine (HI.out _).mono ?_
              rintro e w3 ⟨rfl, hb3⟩
              have B3 := Lib.hid (below_next B2.out hb3)
              clear hb3
              go_wp2_with fail
              go_ret2
              exact ⟨A', L, c', k, rfl, HR, hle, own_below HO.out (B3.out.alloc B3.out.size _), below_next BW.out (B3.out.alloc B3.out.size _)⟩
            · rw [hix] at HI HG4
              have HG5 := Lib.hid (hG.out.step HG4.out)
              clear hix hG HG4
              go_wp2_with fail
              refine (HI.out _).mono ?_
              rintro e w3 ⟨rfl, hb3⟩
              have B3 := Lib.hid (below_next B2.out hb3)
              clear hb3
              obtain ⟨W4, hW4⟩ : ∃ W4, W4 = w3.alloc (.cells #[.int .i64 x.kind, .int .i64 x.frm, .string ⟨x.body.toArray⟩] 39) := ⟨_, rfl⟩
              have GB := Lib.hid (show Blk W4 w3.heap.size #[.int .i64 x.kind, .int .i64 x.frm, .string ⟨x.body.toArray⟩] 39 by rw [hW4]; exact Blk.new w3 _ _)
              have B4 := Lib.hid (show Below wr.heap.size wr W4 by rw [hW4]; exact B3.out.alloc B3.out.size _)
              have HW4 := Lib.hid hW4
              clear hW4
              obtain ⟨x0, x1, x2⟩ := blk3 GB.out
              have h32 : (L.length + 1) * 32 ≤ 140737488355328 := by omega
              have h63 : L.length + 1 ≤ maxLen := by unfold maxLen; omega
              have hz4 : w.heap.size ≤ W4.heap.size := Nat.le_trans hws B4.out.size
              have HO4 := Lib.hid (own_below HO.out B4.out)
              go_upto_region 9 with fail
              rw [← HW4.out]
              go_wp2_with (at_builtin; refine wpList_app _ rfl _ _ _ rfl w.heap.size 39 i0 _ 3 32 Try.underlying27 hi0 hz0 hz1 hz2 rfl (by omega) (.slice A' L.length c') L.length (irow L) rfl (HO4.out.alloc _) (some ⟨W4.heap.size, 0, none⟩) 1 1 (irow [x]) rfl (Rd.new W4 #[.int .i64 x.kind, .int .i64 x.frm, .string ⟨x.body.toArray⟩] 39) rfl (irow_one _) h32 h63 (by simp; omega) ?_; intro A2 c2 w5 hle2 hown2 hg2 _)
              have B5 := Lib.hid ((((BW.out.trans (B4.out.mono hws)).alloc hz4 _)).grown hg2 (by simp; omega) (fun g hg => (HO.out.lt g hg).1))
              clear q1 q2 q3 q4 q5 q6 q7 q8 q9 q10 q11 hg2 x0 x1 x2
              rw [← irow_append] at hown2
              refine ⟨⟨k + (n + 4), A2, c2, L ++ [x], by omega, by go_num, by simp, by simp; omega, by simpa using hle2, Lib.hid HG5.out, by simpa using hown2, B5.out⟩, by simp [intOf]; omega⟩
        · have HR := Lib.hid (hG.out.stop (stepF_sum hc hq))
          have hcmp : (!((⟨(fourB (fnv ((s.data.toList.drop k).take n))).toArray⟩ : ByteArray).toList == (s.extract (k + n) (k + n + 4)).toList)) = true := by
            rw [HE2.out]
            rcases hb : (!((⟨(fourB (fnv ((s.data.toList.drop k).take n))).toArray⟩ : ByteArray).toList == (⟨(((s.data.toList.drop k).drop n).take 4).toArray⟩ : ByteArray).toList)) with _ | _
            · exact absurd (by have := congrArg (fun x : ByteArray => x.data.toList) (toList_eq hb); exact this) hq
            · rfl
          rw [mk_toList] at hcmp
          generalize fourB (fnv ((s.data.toList.drop k).take n)) = F at *
          clear hc hG h4 hq h44
          go_wp2_with fail
          refine (HC.out _).mono ?_
          rintro e w1 ⟨rfl, rfl⟩
          have q1 : IntKind.i64.wrap ((s.size : Int) - (k : Int)) = (s.size : Int) - (k : Int) := IntWalk.i64_in _ (by omega)
          have q2 : IntKind.i64.wrap ((s.size : Int) - (k : Int) - (n : Int)) = (s.size : Int) - (k : Int) - (n : Int) := IntWalk.i64_in _ (by omega)
          have q3 : IntKind.i64.wrap ((k : Int) + (n : Int)) = (k : Int) + (n : Int) := IntWalk.i64_in _ (by omega)
          have q4 : IntKind.i64.wrap ((k : Int) + (n : Int) + 4) = (k : Int) + (n : Int) + 4 := IntWalk.i64_in _ (by omega)
          have q5 : (0 : Int) ≤ (k : Int) + (n : Int) := by omega
          have q6 : (0 : Int) ≤ (k : Int) + (n : Int) + 4 := by omega
          have q7 : ((k : Int) + (n : Int)).toNat = k + n := by omega
          have q8 : ((k : Int) + (n : Int) + 4).toNat = k + n + 4 := by omega
          have q9 : (k : Int) ≤ (k : Int) + (n : Int) := by omega
          have q10 : (k : Int) + (n : Int) ≤ (s.size : Int) := by omega
          have q11 : (k : Int) + (n : Int) ≤ (k : Int) + (n : Int) + 4 := by omega
          go_upto_region 4 with fail
          go_cut [47] (fun s47 wx => s47 = .bool true ∧ Hid (Below wr.heap.size wr wx))
          case first =>
            go_region_held3 (fun _ => True) (trivial) ((go_at_call 26; refine (HS.out _).mono ?_; rintro e w2 ⟨rfl, hb2⟩))
            all_goals
              go_wp2_with fail
              go_meet
              exact ⟨rfl, Lib.hid (below_of_drew hb2)⟩
          case rest =>
            obtain ⟨rfl, B2⟩ := hcut
            go_wp2_with fail
            go_ret2
            exact ⟨A', L, c', k, rfl, HR, hle, own_below HO.out B2.out, below_next BW.out B2.out⟩
end Go.Proofs.Ythepacphphiijaa
