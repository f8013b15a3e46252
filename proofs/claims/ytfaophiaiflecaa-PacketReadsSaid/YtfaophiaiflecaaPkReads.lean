/- Contract: packet.read, where the fields lie in one block, one behind the other. -/
import Derived.Test.YtfaophiaiflecaaPkRead
namespace Go.Proofs.Ytfaophiaiflecaa
open Go.RowKit

theorem grown_trans {w w1 w2 : World} {row : Option Nat} (h : w.grownBy w1 row) (k : w1.grownBy w2 row) : w.grownBy w2 row :=
  ⟨k.os.trans h.os, k.tape.trans h.tape, k.output.trans h.output, Nat.le_trans h.size k.size, fun j hj hne => (k.block j (Nat.lt_of_lt_of_le hj h.size) hne).trans (h.block j hj hne)⟩
theorem grown_alloc (w : World) (o : Obj) (row : Option Nat) : w.grownBy (w.alloc o) row := ⟨rfl, rfl, rfl, by simp, fun k hk _ => Below.heap_alloc w o k hk⟩
theorem grown_drew {w w' : World} {row : Option Nat} (h : w.grownBy w' row) : w.grownBy w'.drew row := ⟨h.os, h.tape, h.output, h.size, h.block⟩
theorem grown_setCell (w : World) (p : Addr) (u : Value) : w.grownBy (w.setCell p u) (some p.block) :=
  ⟨by rfl, by rfl, by rfl, by simp, fun k _ hne => Below.heap_setCell w p u k (fun e => hne (by rw [e]))⟩
def blkOf (A : Option Addr) : Option Nat := A.map (·.block)
theorem rd_grown {w w' : World} {A : Option Addr} {xs : List Value} {row : Option Nat} (h : Rd w A xs) (hg : w.grownBy w' row) (hne : blkOf A ≠ row) : Rd w' A xs := fun hn => by
  obtain ⟨b, off, e, hb, hc⟩ := h hn
  refine ⟨b, off, e, Nat.lt_of_lt_of_le hb hg.size, fun i u hu => ?_⟩
  rw [World.cell?_of_block (hg.block b hb (by rw [e] at hne; exact hne))]
  exact hc i u hu
/-- What is read: the values, what is left of the bytes, and whether all was there. -/
def readsF : List Bool → List UInt8 → List Value × List UInt8 × Bool
  | [], s => ([], s, true)
  | true :: t, s => if (cutT s).2.2 = true then (.string ⟨(cutT s).1.toArray⟩ :: (readsF t (cutT s).2.1).1, (readsF t (cutT s).2.1).2) else ([], (cutT s).2.1, false)
  | false :: t, s => if (readF s).2.2 = true then (.int .i64 (readF s).1 :: (readsF t (s.drop (readF s).2.1)).1, (readsF t (s.drop (readF s).2.1)).2) else ([], s, false)
theorem cutT_le (s : List UInt8) : (cutT s).2.1.length ≤ s.length := by
  unfold cutT
  split
  · split
    · exact Nat.le_refl _
    · rw [List.length_drop]; omega
  · exact Nat.le_refl _
def fdW (t : Bool) (b : Nat) : Value := if t then txtW b else numW b
def fdR (t : Bool) (b : Nat) : Value := if t then txtR b else numR b
def rdRow (F : List (Bool × Nat)) : List Value := F.flatMap fun x => [fdW x.1 x.2, fdR x.1 x.2]
theorem rdRow_get (l : List (Bool × Nat)) (k : Nat) (h : k < l.length) : (rdRow l)[k * 2]? = some (fdW l[k].1 l[k].2) ∧ (rdRow l)[k * 2 + 1]? = some (fdR l[k].1 l[k].2) := by
  induction l generalizing k with
  | nil => simp at h
  | cons a t ih =>
    have e : rdRow (a :: t) = fdW a.1 a.2 :: fdR a.1 a.2 :: rdRow t := rfl
    rw [e]
    cases k with
    | zero => exact ⟨rfl, rfl⟩
    | succ k =>
      have := ih k (by simpa using h)
      rw [show (k + 1) * 2 = k * 2 + 1 + 1 by omega, show k * 2 + 1 + 1 + 1 = (k * 2 + 1) + 1 + 1 by omega]
      simpa using this
theorem rdRow_len (l : List (Bool × Nat)) : (rdRow l).length = l.length * 2 := by
  induction l with
  | nil => rfl
  | cons a t ih =>
    have e : rdRow (a :: t) = fdW a.1 a.2 :: fdR a.1 a.2 :: rdRow t := rfl
    rw [e, List.length_cons, List.length_cons, ih, List.length_cons]; omega
/-- The box of a field holds where it lies: at the block h, the j-th cell. -/
def boxAt (w : World) (h j : Nat) (x : Bool × Nat) : Prop := x.2 ≠ h ∧ if x.1 then Blk w x.2 #[.pointer (some ⟨h, j, none⟩)] 90 else Blk w x.2 #[.pointer (some ⟨h, j, none⟩)] 88
theorem boxAt.grown {w w' : World} {h j : Nat} {x : Bool × Nat} (hb : boxAt w h j x) (hg : w.grownBy w' (some h)) : boxAt w' h j x := by
  obtain ⟨h1, h2⟩ := hb
  refine ⟨h1, ?_⟩
  split at h2 <;> rename_i hx
  · rw [if_pos hx]; exact h2.grown hg (by simpa using h1)
  · rw [if_neg hx]; exact h2.grown hg (by simpa using h1)
theorem blk_set_list {w : World} {h : Nat} {t : TypeId} {vs cs : List Value} (hb : Blk w h (vs ++ cs.drop vs.length).toArray t) (u : Value) (hk : vs.length < cs.length) :
    Blk (w.setCell ⟨h, vs.length, none⟩ u) h ((vs ++ [u]) ++ cs.drop (vs ++ [u]).length).toArray t := by
  have e := hb.set_ vs.length u
  have e2 : (vs ++ cs.drop vs.length).toArray.setIfInBounds vs.length u = ((vs ++ [u]) ++ cs.drop (vs ++ [u]).length).toArray := by
    rw [List.setIfInBounds_toArray, List.drop_eq_getElem_cons hk, List.set_append_right _ _ (Nat.le_refl _), Nat.sub_self, List.set_cons_zero, List.length_append, List.length_singleton, List.append_assoc]
    rfl
  rw [e2] at e
  exact e
set_option maxRecDepth 100000 in
set_option maxHeartbeats 3200000 in
theorem read_any (A : Option Addr) (F : List (Bool × Nat)) (c h : Nat) (cs : List Value) (t : TypeId) (s0 : ByteArray) (w : World) (ha : Rd w A (rdRow F)) (hA : blkOf A ≠ some h) (hbox : ∀ j (hj : j < F.length), boxAt w h j F[j]) (hb : Blk w h cs.toArray t) (hcs : cs.length = F.length) (hF : F.length ≤ 1000) (hs : s0.size ≤ 1000000000) :
    Calls Try.prog 28 #[.slice A F.length c, .string s0] w fun e w' => e = .returned (.tuple #[.string ⟨(readsF (F.map (·.1)) s0.data.toList).2.1.toArray⟩, .bool (readsF (F.map (·.1)) s0.data.toList).2.2]) ∧
      Blk w' h ((readsF (F.map (·.1)) s0.data.toList).1 ++ cs.drop (readsF (F.map (·.1)) s0.data.toList).1.length).toArray t ∧ w.grownBy w' (some h) := by
  have hs0 : s0 = ⟨s0.data.toList.toArray⟩ := ba_mk s0
  have hl0 : s0.data.toList.length ≤ 1000000000 := by have := ba_size s0; omega
  generalize s0.data.toList = S at *
  subst hs0
  have HA := Lib.hid (fun W (hg : w.grownBy W (some h)) => rd_grown ha hg hA)
  have HBX := Lib.hid (fun W (hg : w.grownBy W (some h)) j (hj : j < F.length) => (hbox j hj).grown hg)
  have HB0 := Lib.hid hb
  clear ha hbox hA hb
  go_enter Try.func28, Try.ntmps28
  go_wp2_with fail
  go_loopw [1, 11] (fun s i wr => ∃ (k : Nat) (R : List UInt8) (vs : List Value), k ≤ F.length ∧ i = .int .i64 k ∧ s = .string ⟨R.toArray⟩ ∧ vs.length = k ∧ R.length ≤ 1000000000 ∧
      Hid (readsF (F.map (·.1)) S = (vs ++ (readsF ((F.map (·.1)).drop k) R).1, (readsF ((F.map (·.1)).drop k) R).2)) ∧ Hid (Blk wr h (vs ++ cs.drop vs.length).toArray t) ∧ Hid (w.grownBy wr (some h))) (fun _ i _ => F.length - (intOf i).toNat)
  case atStart => exact ⟨0, S, [], Nat.zero_le _, rfl, rfl, rfl, hl0, Lib.hid rfl, Lib.hid HB0.out, Lib.hid (World.grownBy.refl _ _)⟩
  case round =>
    obtain ⟨k, R, vs, hk, rfl, rfl, hvs, hR, hP, hB, hG⟩ := hrel
    by_cases hlt : k < F.length
    · obtain ⟨ib, io, hAe, hib, hcc⟩ := (HA.out _ hG.out).at_ (i := k * 2) (by rw [rdRow_len]; omega)
      subst hAe
      obtain ⟨g0, g1⟩ := rdRow_get F k hlt
      have c0 := hcc (k * 2) _ g0
      have c1 := hcc (k * 2 + 1) _ g1
      rw [← Nat.add_assoc] at c1
      have hbx := HBX.out _ hG.out k hlt
      have hdr : (F.map (·.1)).drop k = F[k].1 :: (F.map (·.1)).drop (k + 1) := by
        rw [List.drop_eq_getElem_cons (by simpa using hlt)]
        simp
      rw [hdr] at hP
      have hcell := hB.out.cell k
      have hfroz := hB.out.frozen k
      have hne : (vs ++ cs.drop vs.length).toArray[k]? = some cs[k] := by
        rw [List.getElem?_toArray, List.getElem?_append_right (by omega), hvs, Nat.sub_self, List.getElem?_drop, Nat.add_zero, List.getElem?_eq_getElem (by omega)]
      rw [hne] at hcell
      have HCELL := Lib.hid hcell
      have HFROZ := Lib.hid hfroz
      clear hcc g0 g1 hdr hne hcell hfroz
      generalize F[k] = x at *
      obtain ⟨x, b⟩ := x
      subst hvs
      cases x with
      | false =>
        have hbb : Blk wr b #[.pointer (some ⟨h, vs.length, none⟩)] 88 := hbx.2
        have CC := Lib.hid (fun W (hw : Below wr.heap.size wr W) => numberInt2_any b ⟨h, vs.length, none⟩ _ ⟨R.toArray⟩ W (hbb.belowS hw) ((hw.cell (p := ⟨h, vs.length, none⟩) hB.out.lt).trans HCELL.out) (((hB.out.belowS hw).frozen _)) (by show R.length ≤ _; omega))
        have hP' : readsF (F.map (·.1)) S = (vs ++ (if (readF R).2.2 = true then (Value.int .i64 (readF R).1 :: (readsF ((F.map (·.1)).drop (vs.length + 1)) (R.drop (readF R).2.1)).1, (readsF ((F.map (·.1)).drop (vs.length + 1)) (R.drop (readF R).2.1)).2) else ([], R, false)).1, (if (readF R).2.2 = true then (Value.int .i64 (readF R).1 :: (readsF ((F.map (·.1)).drop (vs.length + 1)) (R.drop (readF R).2.1)).1, (readsF ((F.map (·.1)).drop (vs.length + 1)) (R.drop (readF R).2.1)).2) else ([], R, false)).2) := hP.out
        have HP2 := Lib.hid hP'
        clear hP hP' hbx hbb
        rw [show (⟨R.toArray⟩ : ByteArray).data.toList = R by simp] at CC
        rcases hr : readF R with ⟨n, kk, ok⟩
        rw [hr] at CC HP2
        dsimp only [fdW, fdR] at *
        cases ok with
        | false =>
          clear hr
          go_wp2_with fail
          refine (CC.out _ (below_allocS (Below.refl _ _) _)).mono ?_
          rintro e w1 hO
          obtain ⟨rfl, rfl⟩ : e = .returned (.tuple #[.string ⟨R.toArray⟩, .bool false]) ∧ w1 = wr.alloc _ := hO
          clear CC
          go_wp2_with fail
          go_ret2
          rw [HP2.out]
          refine ⟨rfl, ?_, grown_trans hG.out (grown_alloc _ _ _)⟩
          have e := hB.out.alloc (.cells #[numW b, numR b] 86)
          simpa using e
        | true =>
          obtain ⟨k0, k1⟩ := readF_le hr
          clear hr
          have E1 := Lib.hid (show (⟨R.toArray⟩ : ByteArray).extract kk (⟨R.toArray⟩ : ByteArray).size = ⟨(R.drop kk).toArray⟩ by rw [ba_mk ((⟨R.toArray⟩ : ByteArray).extract kk _), ba_drop])
          go_wp2_with fail
          refine (CC.out _ (below_allocS (Below.refl _ _) _)).mono ?_
          rintro e w1 hO
          obtain ⟨rfl, hw1⟩ : e = .returned (.tuple #[.string ((⟨R.toArray⟩ : ByteArray).extract kk (⟨R.toArray⟩ : ByteArray).size), .bool true]) ∧ w1 = (wr.alloc _).setCell ⟨h, vs.length, none⟩ (.int .i64 n) := hO
          have HW1 := Lib.hid hw1
          clear CC hw1
          rw [E1.out]
          go_wp2_with fail
          refine ⟨⟨vs.length + 1, R.drop kk, vs ++ [.int .i64 n], by omega, by go_num, rfl, by simp, by rw [List.length_drop]; omega, Lib.hid (by rw [HP2.out]; simp), Lib.hid ?_, Lib.hid ?_⟩, by simp [intOf]; omega⟩
          · rw [HW1.out]
            exact blk_set_list (hB.out.alloc _) _ (by omega)
          · rw [HW1.out]
            exact grown_trans hG.out (grown_trans (grown_alloc _ _ _) (grown_setCell _ ⟨h, vs.length, none⟩ _))
      | true =>
        have hbb : Blk wr b #[.pointer (some ⟨h, vs.length, none⟩)] 90 := hbx.2
        have CC := Lib.hid (fun W (hw : Below wr.heap.size wr W) => text2_any b ⟨h, vs.length, none⟩ _ ⟨R.toArray⟩ W (hbb.belowS hw) ((hw.cell (p := ⟨h, vs.length, none⟩) hB.out.lt).trans HCELL.out) (((hB.out.belowS hw).frozen _)) (by show R.length ≤ _; omega))
        have hP' : readsF (F.map (·.1)) S = (vs ++ (if (cutT R).2.2 = true then (Value.string ⟨(cutT R).1.toArray⟩ :: (readsF ((F.map (·.1)).drop (vs.length + 1)) (cutT R).2.1).1, (readsF ((F.map (·.1)).drop (vs.length + 1)) (cutT R).2.1).2) else ([], (cutT R).2.1, false)).1, (if (cutT R).2.2 = true then (Value.string ⟨(cutT R).1.toArray⟩ :: (readsF ((F.map (·.1)).drop (vs.length + 1)) (cutT R).2.1).1, (readsF ((F.map (·.1)).drop (vs.length + 1)) (cutT R).2.1).2) else ([], (cutT R).2.1, false)).2) := hP.out
        have HP2 := Lib.hid hP'
        have hle := cutT_le R
        clear hP hP' hbx hbb
        rw [show (⟨R.toArray⟩ : ByteArray).data.toList = R by simp] at CC
        rcases hr : cutT R with ⟨bd, rest, ok⟩
        rw [hr] at CC HP2 hle
        clear hr
        dsimp only [fdW, fdR] at *
        cases ok with
        | false =>
          go_wp2_with fail
          refine (CC.out _ (below_allocS (Below.refl _ _) _)).mono ?_
          rintro e w1 hO
          obtain ⟨rfl, hw1⟩ : e = .returned (.tuple #[.string ⟨rest.toArray⟩, .bool false]) ∧ (w1 = wr.alloc _ ∨ w1 = (wr.alloc _).drew) := hO
          have HW1 := Lib.hid hw1
          clear CC hw1
          go_wp2_with fail
          go_ret2
          rw [HP2.out]
          refine ⟨rfl, ?_, ?_⟩
          · rcases HW1.out with h | h <;> rw [h]
            · have e := hB.out.alloc (.cells #[txtW b, txtR b] 86)
              simpa using e
            · have e := (hB.out.alloc (.cells #[txtW b, txtR b] 86)).drew
              simpa using e
          · rcases HW1.out with h | h <;> rw [h]
            · exact grown_trans hG.out (grown_alloc _ _ _)
            · exact grown_drew (grown_trans hG.out (grown_alloc _ _ _))
        | true =>
          go_wp2_with fail
          refine (CC.out _ (below_allocS (Below.refl _ _) _)).mono ?_
          rintro e w1 hO
          obtain ⟨rfl, hw1⟩ : e = .returned (.tuple #[.string ⟨rest.toArray⟩, .bool true]) ∧ (w1 = (wr.alloc _).setCell ⟨h, vs.length, none⟩ (.string ⟨bd.toArray⟩) ∨ w1 = ((wr.alloc _).setCell ⟨h, vs.length, none⟩ (.string ⟨bd.toArray⟩)).drew) := hO
          have HW1 := Lib.hid hw1
          clear CC hw1
          go_wp2_with fail
          refine ⟨⟨vs.length + 1, rest, vs ++ [.string ⟨bd.toArray⟩], by omega, by go_num, rfl, by simp, by omega, Lib.hid (by rw [HP2.out]; simp), Lib.hid ?_, Lib.hid ?_⟩, by simp [intOf]; omega⟩
          · rcases HW1.out with h | h <;> rw [h]
            · exact blk_set_list (hB.out.alloc _) _ (by omega)
            · exact (blk_set_list (hB.out.alloc _) _ (by omega)).drew
          · rcases HW1.out with h | h <;> rw [h]
            · exact grown_trans hG.out (grown_trans (grown_alloc _ _ _) (grown_setCell _ ⟨_, vs.length, none⟩ _))
            · exact grown_drew (grown_trans hG.out (grown_trans (grown_alloc _ _ _) (grown_setCell _ ⟨_, vs.length, none⟩ _)))
    · have hke : k = F.length := by omega
      go_wp2_with fail
      go_ret2
      have hd : (F.map (·.1)).drop k = [] := List.drop_of_length_le (by simp; omega)
      rw [hP.out, hd]
      refine ⟨rfl, ?_, hG.out⟩
      have e := hB.out
      simpa [readsF] using e
end Go.Proofs.Ytfaophiaiflecaa
