/- Contracts: term.apply at push; all kinds together. Contracts: term.apply on operands without lists, all kinds together. Contracts: term.Eval$1, term.Eval at a node over literals. Both Evals at a node over literals. -/
import Derived.Test.YtbemdcbglpjmiaaGreatDoorFoB
import Derived.Test.YtbemdcbglpjmiaaGreatDoorFoW
import Derived.Deep.RegionLaw
import Derived.Test.YtbemdcbglpjmiaaGreatDoorFoJ
import Derived.Test.YtbemdcbglpjmiaaGreatDoorFoZ
import Derived.Test.YtbemdcbglpjmiaaGreatDoorFoU
namespace Go.Proofs.YtbemdcbglpjmiaaGreatDoor
open Go.RowKit

theorem ap_push {w w3 w4 : World} {bn : Int} {A : Option Addr} {c : Nat} {an : Int} {sa : ByteArray} {sb : ByteArray} (h3 : w3 = ((apW w 4 an sa 1 bn sb).alloc (.cells #[.int .i64 bn] 2)).drew ∨ w3 = (apW w 4 an sa 1 bn sb).drew.alloc (.cells #[.int .i64 bn] 2)) (ho : w4.ownsRow (w.heap.size + 3) 2 1 (.slice A (0 + 1) c) (0 + 1) ([] ++ [.int .i64 bn])) (hg : w3.grownBy w4 (Value.slice none 0 0).ownBlock) :
    Blk w4 (w.heap.size + 1 + 1) zeroC 31 ∧ Below w.heap.size w w4 ∧ w4.ownsRow (w.heap.size + 3) 2 1 (.slice A 1 c) 1 [.int .i64 bn] := by
  have hb : Below (apW w 4 an sa 1 bn sb).heap.size (apW w 4 an sa 1 bn sb) w3 := by
    rcases h3 with rfl | rfl
    · exact (below_new _ _).drew
    · exact below_push (Below.refl _ _).drew _
  have hb4 : Below (apW w 4 an sa 1 bn sb).heap.size (apW w 4 an sa 1 bn sb) w4 := hb.grown hg hb.size (by simp [Value.ownBlock])
  have hK : Blk (apW w 4 an sa 1 bn sb) (w.heap.size + 1 + 1) zeroC 31 := blk_next (by simp) _ _
  exact ⟨hK.belowS hb4, below_next (ap_below _ _ _ _ _ _ _) hb4, by simpa using ho⟩
theorem ap_push_end {w w4 : World} {bn : Int} {A : Option Addr} {c : Nat} (hb : Below w.heap.size w w4) (ho : w4.ownsRow (w.heap.size + 3) 2 1 (.slice A 1 c) 1 [.int .i64 bn]) :
    EvPost (some ⟨4, 0, e0, [bn]⟩) w (.returned (.tuple #[.agg #[.int .i64 4, .int .i64 0, .string e0, .slice A 1 c], .int .i64 0])) ((((w4.setCell ⟨w.heap.size + 1 + 1, 0, none⟩ (.int .i64 4)).setCell ⟨w.heap.size + 1 + 1, 1, none⟩ (.int .i64 0)).setCell ⟨w.heap.size + 1 + 1, 2, none⟩ (.string e0)).setCell ⟨w.heap.size + 1 + 1, 3, none⟩ (.slice A 1 c)) := by
  have hk : Kb (fun j => j = w.heap.size + 1 + 1) w4 ((((w4.setCell ⟨w.heap.size + 1 + 1, 0, none⟩ (.int .i64 4)).setCell ⟨w.heap.size + 1 + 1, 1, none⟩ (.int .i64 0)).setCell ⟨w.heap.size + 1 + 1, 2, none⟩ (.string e0)).setCell ⟨w.heap.size + 1 + 1, 3, none⟩ (.slice A 1 c)) :=
    kb_put (kb_put (kb_put (kb_put (S := fun i => i = w.heap.size + 1 + 1) (Kb.refl _ _) rfl _ _) rfl _ _) rfl _ _) rfl _ _
  have hr := own_rd ho
  obtain ⟨A2, c2, e2, hc⟩ := own_shape ho
  cases e2
  refine ⟨4, 0, e0, A, 1, c, 0, rfl, below_put4 hb (by omega) _ _ _ _, rfl, rfl, rfl, rfl, rfl, ?_, hc, fun _ b o e => ?_⟩
  · refine ints_kb (x := ⟨4, 0, e0, [bn]⟩) (show Rd w4 A ([bn].map (Value.int .i64)) from hr) hk fun _ b o e q => ?_
    have := own_base ho e
    simp at this
    omega
  · have := own_base ho e
    simp at this
    omega
set_option maxRecDepth 100000 in
set_option maxHeartbeats 8000000 in
theorem ap18_yes (an : Int) (sa : ByteArray) (bn : Int) (sb : ByteArray) (w : World) : Calls Tryz.prog 73 #[.int .i64 18, .agg #[.int .i64 4, .int .i64 an, .string sa, .slice none 0 0], .agg #[.int .i64 1, .int .i64 bn, .string sb, .slice none 0 0]] w (EvPost (some ⟨4, 0, e0, [bn]⟩) w) := by
  have CC := Lib.hid (fun w => clone_nil w)
  obtain ⟨i0, hi0, hz0, hz1, hz2⟩ := info_parts infoI64
  go_enter Tryz.func73, Tryz.ntmps73
  go_wp2_with fail
  go_region_law (first
    | (go_simp; go_at_call 118; refine (CC.out _).mono ?_; rintro e w2 ⟨rfl, rfl⟩; go_simp)
    | (refine step_app _ (by rfl) _ _ _ (by rfl) (w.heap.size + 3) 2 i0 _ 1 8 Tryz.underlying29 hi0 hz0 hz1 hz2 rfl (by omega) (.slice none 0 0) 0 [] (by rfl) (World.ownsRow_nil _ _ _ _) (some ⟨w.heap.size + 1 + 1 + 1, 0, none⟩) 1 1 [.int .i64 bn] (by rfl) (by first | exact (blk_next (by simp) _ _).drew.rd | exact (blk_next (by simp) _ _).rd) rfl (by simp [Value.oneCell']) (by omega) (by unfold maxLen; omega) (by simp) ?_; intro A4 c4 w4 hle4 hown4 hg4 hat4; obtain ⟨hq1, hq2, hq3⟩ := ap_push (an := an) (sa := sa) (sb := sb) (by first | exact .inl rfl | exact .inr rfl) hown4 hg4; obtain ⟨⟨f0, f1, f2, f3⟩, k0, k1, k2, k3, hz⟩ := blk_facts hq1; have HQ2 := Lib.hid hq2; have HQ3 := Lib.hid hq3; clear hown4 hg4 hat4 hle4 hq1 hq2 hq3))
  all_goals
    have HE := Lib.hid (ap_push_end HQ2.out HQ3.out)
    clear HQ2 HQ3
    go_wp2_with fail
    refine bodyPost_ret (v := .tuple #[.agg #[.int .i64 4, .int .i64 0, .string e0, .slice A4 1 c4], .int .i64 0]) (by simp [results, Tryz.results73, go_sem, e0, k0, k1, k2, k3]) rfl HE.out
end Go.Proofs.YtbemdcbglpjmiaaGreatDoor
namespace Go.Proofs.YtbemdcbglpjmiaaGreatDoor
open Go.RowKit

theorem app1_flat (k : Int) (hk : k = 15 ∨ k = 16) (ak an : Int) (sa : ByteArray) (ha : VlOk ⟨ak, an, sa, []⟩) (w : World) :
    Calls Tryz.prog 73 #[.int .i64 k, .agg #[.int .i64 ak, .int .i64 an, .string sa, .slice none 0 0], .agg #[.int .i64 0, .int .i64 0, .string e0, .slice none 0 0]] w (EvPost (oneV k ⟨ak, an, sa, []⟩) w) := by
  rcases hk with rfl | rfl
  · by_cases h : ak = 2
    · subst h
      exact ap15_yes an sa 0 0 e0 (ha.b rfl) w
    · rw [show oneV 15 ⟨ak, an, sa, []⟩ = none by simp [oneV, h]]
      exact ap15_no ak an sa 0 0 e0 h w
  · by_cases h : ak = 3
    · subst h
      exact ap16_text an sa 0 0 e0 w
    · by_cases h4 : ak = 4
      · subst h4
        exact ap16_list an sa 0 0 e0 w
      · rw [show oneV 16 ⟨ak, an, sa, []⟩ = none by simp [oneV, h, h4]]
        exact ap16_no ak an sa 0 0 e0 ⟨h, h4⟩ w
theorem app2_flat (k : Int) (hk : arF k = 2) (ak an : Int) (sa : ByteArray) (bk bn : Int) (sb : ByteArray) (ha : VlOk ⟨ak, an, sa, []⟩) (hb : VlOk ⟨bk, bn, sb, []⟩) (w : World) :
    Calls Tryz.prog 73 #[.int .i64 k, .agg #[.int .i64 ak, .int .i64 an, .string sa, .slice none 0 0], .agg #[.int .i64 bk, .int .i64 bn, .string sb, .slice none 0 0]] w (EvPost (twoV k ⟨ak, an, sa, []⟩ ⟨bk, bn, sb, []⟩) w) := by
  have hk : k = 6 ∨ k = 7 ∨ k = 8 ∨ k = 9 ∨ k = 10 ∨ k = 11 ∨ k = 12 ∨ k = 13 ∨ k = 14 ∨ k = 17 ∨ k = 18 ∨ k = 19 := by
    unfold arF at hk
    split at hk
    · omega
    · split at hk
      · omega
      · split at hk <;> omega
  rcases hk with rfl | rfl | rfl | rfl | rfl | rfl | rfl | rfl | rfl | rfl | rfl | rfl
  · by_cases h : ak = 1 ∧ bk = 1
    · obtain ⟨rfl, rfl⟩ := h
      exact ap6_yes an sa bn sb w
    · rw [show twoV 6 ⟨ak, an, sa, []⟩ ⟨bk, bn, sb, []⟩ = none by simp only [twoV]; simp [h]]
      exact ap6_no ak an sa bk bn sb h w
  · by_cases h : ak = 1 ∧ bk = 1
    · obtain ⟨rfl, rfl⟩ := h
      exact ap7_yes an sa bn sb w
    · rw [show twoV 7 ⟨ak, an, sa, []⟩ ⟨bk, bn, sb, []⟩ = none by simp only [twoV]; simp [h]]
      exact ap7_no ak an sa bk bn sb h w
  · by_cases h : ak = 1 ∧ bk = 1
    · obtain ⟨rfl, rfl⟩ := h
      exact ap8_yes an sa bn sb w
    · rw [show twoV 8 ⟨ak, an, sa, []⟩ ⟨bk, bn, sb, []⟩ = none by simp only [twoV]; simp [h]]
      exact ap8_no ak an sa bk bn sb h w
  · by_cases h : ak = 1 ∧ bk = 1
    · obtain ⟨rfl, rfl⟩ := h
      exact ap9_yes an sa bn sb w
    · rw [show twoV 9 ⟨ak, an, sa, []⟩ ⟨bk, bn, sb, []⟩ = none by simp only [twoV]; simp [h]]
      exact ap9_no ak an sa bk bn sb h w
  · by_cases h : ak = 1 ∧ bk = 1
    · obtain ⟨rfl, rfl⟩ := h
      exact ap10_yes an sa bn sb w
    · rw [show twoV 10 ⟨ak, an, sa, []⟩ ⟨bk, bn, sb, []⟩ = none by simp only [twoV]; simp [h]]
      exact ap10_no ak an sa bk bn sb h w
  · by_cases h : ak = bk ∧ ak ≠ 5
    · obtain ⟨rfl, h5⟩ := h
      rw [show twoV 11 ⟨ak, an, sa, []⟩ ⟨ak, bn, sb, []⟩ = some (tru (decide (ak = ak ∧ an = bn ∧ sa = sb))) by simp [twoV, h5]]
      exact ap11_yes ak an sa bn sb _ rfl h5 w
    · rw [show twoV 11 ⟨ak, an, sa, []⟩ ⟨bk, bn, sb, []⟩ = none by simp only [twoV]; simp [h]]
      exact ap11_no ak an sa bk bn sb (by omega) w
  · by_cases h : ak = 1 ∧ bk = 1
    · obtain ⟨rfl, rfl⟩ := h
      exact ap12_yes an sa bn sb w
    · rw [show twoV 12 ⟨ak, an, sa, []⟩ ⟨bk, bn, sb, []⟩ = none by simp only [twoV]; simp [h]]
      exact ap12_no ak an sa bk bn sb h w
  · by_cases h : ak = 2 ∧ bk = 2
    · obtain ⟨rfl, rfl⟩ := h
      exact ap13_yes an sa bn sb (ha.b rfl) (hb.b rfl) w
    · rw [show twoV 13 ⟨ak, an, sa, []⟩ ⟨bk, bn, sb, []⟩ = none by simp only [twoV]; simp [h]]
      exact ap13_no ak an sa bk bn sb h w
  · by_cases h : ak = 2 ∧ bk = 2
    · obtain ⟨rfl, rfl⟩ := h
      exact ap14_yes an sa bn sb (ha.b rfl) (hb.b rfl) w
    · rw [show twoV 14 ⟨ak, an, sa, []⟩ ⟨bk, bn, sb, []⟩ = none by simp only [twoV]; simp [h]]
      exact ap14_no ak an sa bk bn sb h w
  · by_cases h : ak = 4 ∧ bk = 1
    · obtain ⟨rfl, rfl⟩ := h
      rw [show twoV 17 ⟨4, an, sa, []⟩ ⟨1, bn, sb, []⟩ = none by simp [twoV]]
      exact ap17_yes an sa bn sb w
    · rw [show twoV 17 ⟨ak, an, sa, []⟩ ⟨bk, bn, sb, []⟩ = none by simp only [twoV]; simp [h]]
      exact ap17_no ak an sa bk bn sb h w
  · by_cases h : ak = 4 ∧ bk = 1
    · obtain ⟨rfl, rfl⟩ := h
      rw [show twoV 18 ⟨4, an, sa, []⟩ ⟨1, bn, sb, []⟩ = some ⟨4, 0, e0, [bn]⟩ by simp [twoV]]
      exact ap18_yes an sa bn sb w
    · rw [show twoV 18 ⟨ak, an, sa, []⟩ ⟨bk, bn, sb, []⟩ = none by simp only [twoV]; simp [h]]
      exact ap18_no ak an sa bk bn sb h w
  · by_cases h : ak = 3 ∧ bk = 3
    · obtain ⟨rfl, rfl⟩ := h
      exact ap19_yes an sa bn sb (ha.s rfl) (hb.s rfl) w
    · rw [show twoV 19 ⟨ak, an, sa, []⟩ ⟨bk, bn, sb, []⟩ = none by simp only [twoV]; simp [h]]
      exact ap19_no ak an sa bk bn sb h w
end Go.Proofs.YtbemdcbglpjmiaaGreatDoor
namespace Go.Proofs.YtbemdcbglpjmiaaGreatDoor
open Go.RowKit

/-- The world in which the closure stands. -/
structure EvW (w : World) (l : List Tm) (A : Option Addr) (c : Nat) (E : Option Addr) (en ec bl be bt : Nat) : Prop where
  tms : Tms w A l
  hbl : Blk w bl #[.slice A l.length c] 22
  hbe : Blk w be #[.slice E en ec] 28
  hbt : Blk w bt #[.func (.func 71) #[] #[.pointer (some ⟨bl, 0, none⟩), .pointer (some ⟨be, 0, none⟩), .pointer (some ⟨bt, 0, none⟩)]] 163
theorem EvW.below {w w' : World} {l : List Tm} {A : Option Addr} {c : Nat} {E : Option Addr} {en ec bl be bt : Nat} (h : EvW w l A c E en ec bl be bt) (hb : Below w.heap.size w w') : EvW w' l A c E en ec bl be bt :=
  ⟨h.tms.below hb, h.hbl.belowS hb, h.hbe.belowS hb, h.hbt.belowS hb⟩
/-- A value without a list, and no error. -/
def OnePost (x : Vl) (w : World) (e : Ending) (w' : World) : Prop := e = .returned (.tuple #[x.val none 0, .int .i64 0]) ∧ Below w.heap.size w w'
theorem lit_n {t : Tm} (hf : fldF t = true) (h : t.kind = 2) : t.n = 0 ∨ t.n = 1 := by
  unfold fldF at hf
  rw [if_neg (by omega), if_neg (by omega), if_pos h] at hf
  simp at hf
  exact hf.2
theorem lit_l (t : Tm) : (litV t).l = [] := by
  unfold litV
  repeat' split
  all_goals rfl
set_option maxRecDepth 100000 in
set_option maxHeartbeats 8000000 in
theorem leaf_one (k : Int) (nm : ByteArray) (n : Int) (tx : ByteArray) (l r : Int) (h : isLit ⟨k, nm, n, tx, l, r⟩ = true) (h2 : k = 2 → n = 0 ∨ n = 1) (A : Option Addr) (m c : Nat) (w : World) :
    Calls Tryz.prog 72 #[.agg #[.int .i64 k, .string nm, .int .i64 n, .string tx, .int .i64 l, .int .i64 r], .slice A m c] w (OnePost (litV ⟨k, nm, n, tx, l, r⟩) w) := by
  rcases lit_cases h with hk | hk | hk | hk | hk
  · have hk : k = 1 := hk
    subst hk
    clear h h2
    rw [litV_1 rfl]
    go_enter Tryz.func72, Tryz.ntmps72
    go_wp2_with fail
    refine bodyPost_ret (v := .tuple #[(numL n).val none 0, .int .i64 0]) (by simp [results, Tryz.results72, go_sem, e0, numL, Vl.val]) rfl ⟨rfl, (below_push (below_new _ _) _)⟩
  · have hk : k = 2 := hk
    subst hk
    rw [litV_2 rfl]
    rcases h2 rfl with rfl | rfl
    · clear h h2
      go_enter Tryz.func72, Tryz.ntmps72
      go_wp2_with fail
      refine bodyPost_ret (v := .tuple #[(tru false).val none 0, .int .i64 0]) (by simp [results, Tryz.results72, go_sem, e0, tru, bI, Vl.val]) rfl ⟨rfl, (below_push (below_new _ _) _)⟩
    · clear h h2
      go_enter Tryz.func72, Tryz.ntmps72
      go_wp2_with fail
      refine bodyPost_ret (v := .tuple #[(tru true).val none 0, .int .i64 0]) (by simp [results, Tryz.results72, go_sem, e0, tru, bI, Vl.val]) rfl ⟨rfl, (below_push (below_new _ _) _)⟩
  · have hk : k = 3 := hk
    subst hk
    clear h h2
    rw [litV_3 rfl]
    go_enter Tryz.func72, Tryz.ntmps72
    go_wp2_with fail
    refine bodyPost_ret (v := .tuple #[(⟨3, 0, tx, []⟩ : Vl).val none 0, .int .i64 0]) (by simp [results, Tryz.results72, go_sem, Vl.val]) rfl ⟨rfl, (below_push (below_new _ _) _)⟩
  · have hk : k = 4 := hk
    subst hk
    clear h h2
    rw [litV_4 rfl]
    go_enter Tryz.func72, Tryz.ntmps72
    go_wp2_with fail
    refine bodyPost_ret (v := .tuple #[(⟨4, 0, e0, []⟩ : Vl).val none 0, .int .i64 0]) (by simp [results, Tryz.results72, go_sem, e0, Vl.val]) rfl ⟨rfl, (below_push (below_new _ _) _)⟩
  · have hk : k = 5 := hk
    subst hk
    clear h h2
    rw [litV_5 rfl]
    go_enter Tryz.func72, Tryz.ntmps72
    go_wp2_with fail
    refine bodyPost_ret (v := .tuple #[(⟨0, 0, e0, []⟩ : Vl).val none 0, .int .i64 0]) (by simp [results, Tryz.results72, go_sem, e0, Vl.val]) rfl ⟨rfl, (below_push (below_new _ _) _)⟩
set_option maxRecDepth 100000 in
set_option maxHeartbeats 8000000 in
theorem tell_lit (l : List Tm) (A : Option Addr) (c : Nat) (E : Option Addr) (en ec bl be bt : Nat) (a : Nat) (t : Tm) (ht : l[a]? = some t) (hl : isLit t = true) (h2 : t.kind = 2 → t.n = 0 ∨ t.n = 1) (w : World) (hW : EvW w l A c E en ec bl be bt) :
    Calls Tryz.prog 71 #[.int .i64 a, .pointer (some ⟨bl, 0, none⟩), .pointer (some ⟨be, 0, none⟩), .pointer (some ⟨bt, 0, none⟩)] w (OnePost (litV t) w) := by
  have hal : a < l.length := (List.getElem?_eq_some_iff.1 ht).1
  have HT := Lib.hid ht
  obtain ⟨b, o, t', rfl, hb, ht', hc⟩ := hW.tms.at_ hal
  obtain rfl : t' = t := Option.some.inj (ht'.symm.trans HT.out)
  obtain ⟨c0, c1, c2, c3, c4, c5⟩ := hc
  have ar := lit_ar hl
  have x1 : w.cell? ⟨bl, 0, none⟩ = some (.slice (some ⟨b, o, none⟩) l.length c) := hW.hbl.cell 0
  have x2 : w.cell? ⟨be, 0, none⟩ = some (.slice E en ec) := hW.hbe.cell 0
  have lt1 := hW.hbl.lt
  have lt2 := hW.hbe.lt
  have CL := Lib.hid (fun W => leaf_one t'.kind t'.name t'.n t'.text t'.l t'.r hl h2 E en ec W)
  have AR := Lib.hid ar
  have B2 := Lib.hid (below_push (below_new w (.cells zeroC 31)) (.cells (tmC t'.kind t'.name t'.n t'.text t'.l t'.r) 51))
  have K0 := Lib.hid ((Blk.new w zeroC 31).alloc (.cells (tmC t'.kind t'.name t'.n t'.text t'.l t'.r) 51))
  clear ht ht' hW hl h2 ar
  go_enter Tryz.func71, Tryz.ntmps71
  go_wp2_with fail
  refine (operands_any _ _).mono ?_
  rintro e w1 ⟨rfl, rfl⟩
  rw [AR.out]
  go_wp2_with fail
  refine (CL.out _).mono ?_
  rintro e w1 ⟨rfl, hb1⟩
  have hll : (litV ⟨t'.kind, t'.name, t'.n, t'.text, t'.l, t'.r⟩).l = [] := lit_l _
  obtain ⟨⟨f0, f1, f2, f3⟩, k0, k1, k2, k3, hz⟩ := blk_facts (K0.out.belowS hb1)
  have B3 := Lib.hid (below_put4 (below_next B2.out hb1) (Nat.le_refl _) (.int .i64 (litV t').kind) (.int .i64 (litV t').n) (.string (litV t').s) (.slice none 0 0))
  unfold Vl.val
  rw [hll]
  clear hb1 hll
  go_wp2_with fail
  refine bodyPost_ret (v := .tuple #[.agg #[.int .i64 (litV t').kind, .int .i64 (litV t').n, .string (litV t').s, .slice none 0 0], .int .i64 0]) (by simp [results, Tryz.results71, go_sem, k0, k1, k2, k3]) rfl ⟨?_, B3.out⟩
  unfold Vl.val
  rw [lit_l]
  rfl
set_option maxRecDepth 100000 in
set_option maxHeartbeats 8000000 in
theorem tell_op1 (l : List Tm) (A : Option Addr) (c : Nat) (E : Option Addr) (en ec bl be bt : Nat) (k : Nat) (t : Tm) (ht : l[k]? = some t) (har : arF t.kind = 1) (j : Nat) (a : Tm) (hj : t.l = j) (ha : l[j]? = some a) (hl : isLit a = true) (hf : fldF a = true) (w : World) (hW : EvW w l A c E en ec bl be bt) :
    Calls Tryz.prog 71 #[.int .i64 k, .pointer (some ⟨bl, 0, none⟩), .pointer (some ⟨be, 0, none⟩), .pointer (some ⟨bt, 0, none⟩)] w (EvPost (oneV t.kind (litV a)) w) := by
  have hal : k < l.length := (List.getElem?_eq_some_iff.1 ht).1
  have HT := Lib.hid ht
  obtain ⟨b, o, t', rfl, hb, ht', hc⟩ := hW.tms.at_ hal
  obtain rfl : t' = t := Option.some.inj (ht'.symm.trans HT.out)
  obtain ⟨c0, c1, c2, c3, c4, c5⟩ := hc
  have x1 : w.cell? ⟨bl, 0, none⟩ = some (.slice (some ⟨b, o, none⟩) l.length c) := hW.hbl.cell 0
  have x2 : w.cell? ⟨be, 0, none⟩ = some (.slice E en ec) := hW.hbe.cell 0
  have x3 : w.cell? ⟨bt, 0, none⟩ = some (.func (.func 71) #[] #[.pointer (some ⟨bl, 0, none⟩), .pointer (some ⟨be, 0, none⟩), .pointer (some ⟨bt, 0, none⟩)]) := hW.hbt.cell 0
  have lt1 := hW.hbl.lt
  have lt2 := hW.hbe.lt
  have lt3 := hW.hbt.lt
  have AR := Lib.hid har
  have hk1 : t'.kind = 15 ∨ t'.kind = 16 := by
    unfold arF at har
    split at har
    · omega
    · split at har
      · omega
      · split at har
        · assumption
        · omega
  have hva := lit_vl hf
  have hll := lit_l a
  obtain ⟨va, hv⟩ : ∃ v, v = litV a := ⟨_, rfl⟩
  have ca : ∀ W, EvW W l (some ⟨b, o, none⟩) c E en ec bl be bt → Calls Tryz.prog 71 #[.int .i64 t'.l, .pointer (some ⟨bl, 0, none⟩), .pointer (some ⟨be, 0, none⟩), .pointer (some ⟨bt, 0, none⟩)] W (OnePost va W) := fun W hw => by
    rw [hj, hv]
    exact tell_lit l _ c E en ec bl be bt j a ha hl (lit_n hf) W hw
  rw [← hv] at hva hll ⊢
  have CA := Lib.hid ca
  obtain ⟨ak, an, sa, La⟩ := va
  have hll : La = [] := hll
  subst hll
  have CO := Lib.hid (fun W => app1_flat t'.kind hk1 ak an sa hva W)
  have HW := Lib.hid hW
  have B2 := Lib.hid (below_push (below_new w (.cells zeroC 31)) (.cells (tmC t'.kind t'.name t'.n t'.text t'.l t'.r) 51))
  have K0 := Lib.hid ((Blk.new w zeroC 31).alloc (.cells (tmC t'.kind t'.name t'.n t'.text t'.l t'.r) 51))
  have K1 := Lib.hid (blk_next (w := w.alloc (.cells zeroC 31)) (n := w.heap.size + 1) (by simp) (tmC t'.kind t'.name t'.n t'.text t'.l t'.r) 51)
  have e2 : ((1 : Int) == 2) = false := rfl
  clear ht ht' hW hl har ha hf hk1 hva hv ca hj
  go_enter Tryz.func71, Tryz.ntmps71
  go_wp2_with fail
  refine (operands_any _ _).mono ?_
  rintro e w1 ⟨rfl, rfl⟩
  rw [AR.out]
  go_wp2_with fail
  refine (CA.out _ (HW.out.below B2.out)).mono ?_
  rintro e w1 ⟨rfl, hb1⟩
  unfold Vl.val
  have B3 := Lib.hid (below_next B2.out hb1)
  have J0 := Lib.hid (K0.out.belowS hb1)
  have J1 := K1.out.belowS hb1
  have d0 : w1.cell? ⟨w.heap.size + 1, 0, none⟩ = some (.int .i64 t'.kind) := J1.cell 0
  have d1 : w1.cell? ⟨w.heap.size + 1, 1, none⟩ = some (.string t'.name) := J1.cell 1
  have d2 : w1.cell? ⟨w.heap.size + 1, 2, none⟩ = some (.int .i64 t'.n) := J1.cell 2
  have d3 : w1.cell? ⟨w.heap.size + 1, 3, none⟩ = some (.string t'.text) := J1.cell 3
  have d4 : w1.cell? ⟨w.heap.size + 1, 4, none⟩ = some (.int .i64 t'.l) := J1.cell 4
  have d5 : w1.cell? ⟨w.heap.size + 1, 5, none⟩ = some (.int .i64 t'.r) := J1.cell 5
  have hn1 : w.heap.size + 1 < w1.heap.size := J1.lt
  have hz0 : w.heap.size < w1.heap.size := by omega
  clear hb1 J1
  go_wp2_with fail
  refine (CO.out _).mono ?_
  rintro e w2 ⟨j0, j1, s2, Q2, m2, c2, k2', rfl, hb2, hi2⟩
  obtain ⟨⟨f0, f1, f2, f3⟩, k0, k1, k2, k3, hz⟩ := blk_facts (((J0.out.alloc _).alloc _).belowS hb2)
  have HI2 := Lib.hid hi2
  have HB2 := Lib.hid hb2
  clear hi2 hb2
  go_wp2_with fail
  refine bodyPost_ret (v := .tuple #[.agg #[.int .i64 j0, .int .i64 j1, .string s2, .slice Q2 m2 c2], .int .i64 k2']) (by simp [results, Tryz.results71, go_sem, k0, k1, k2, k3]) rfl ?_
  exact ev_pass (below_push (below_push B3.out _) _) HB2.out HI2.out (Nat.le_refl _) (by simp; omega)
set_option maxRecDepth 100000 in
set_option maxHeartbeats 8000000 in
theorem tell_op2 (l : List Tm) (A : Option Addr) (c : Nat) (E : Option Addr) (en ec bl be bt : Nat) (k : Nat) (t : Tm) (ht : l[k]? = some t) (har : arF t.kind = 2) (j : Nat) (a : Tm) (hj : t.l = j) (ha : l[j]? = some a) (hl : isLit a = true) (hf : fldF a = true) (j2 : Nat) (a2 : Tm) (hj2 : t.r = j2) (ha2 : l[j2]? = some a2) (hl2 : isLit a2 = true) (hf2 : fldF a2 = true) (w : World) (hW : EvW w l A c E en ec bl be bt) :
    Calls Tryz.prog 71 #[.int .i64 k, .pointer (some ⟨bl, 0, none⟩), .pointer (some ⟨be, 0, none⟩), .pointer (some ⟨bt, 0, none⟩)] w (EvPost (twoV t.kind (litV a) (litV a2)) w) := by
  have hal : k < l.length := (List.getElem?_eq_some_iff.1 ht).1
  have HT := Lib.hid ht
  obtain ⟨b, o, t', rfl, hb, ht', hc⟩ := hW.tms.at_ hal
  obtain rfl : t' = t := Option.some.inj (ht'.symm.trans HT.out)
  obtain ⟨c0, c1, c2, c3, c4, c5⟩ := hc
  have x1 : w.cell? ⟨bl, 0, none⟩ = some (.slice (some ⟨b, o, none⟩) l.length c) := hW.hbl.cell 0
  have x2 : w.cell? ⟨be, 0, none⟩ = some (.slice E en ec) := hW.hbe.cell 0
  have x3 : w.cell? ⟨bt, 0, none⟩ = some (.func (.func 71) #[] #[.pointer (some ⟨bl, 0, none⟩), .pointer (some ⟨be, 0, none⟩), .pointer (some ⟨bt, 0, none⟩)]) := hW.hbt.cell 0
  have lt1 := hW.hbl.lt
  have lt2 := hW.hbe.lt
  have lt3 := hW.hbt.lt
  have AR := Lib.hid har
  have hva := lit_vl hf
  have hll := lit_l a
  obtain ⟨va, hv⟩ : ∃ v, v = litV a := ⟨_, rfl⟩
  have hvb := lit_vl hf2
  have hll2 := lit_l a2
  obtain ⟨vb, hv2⟩ : ∃ v, v = litV a2 := ⟨_, rfl⟩
  have cb : ∀ W, EvW W l (some ⟨b, o, none⟩) c E en ec bl be bt → Calls Tryz.prog 71 #[.int .i64 t'.r, .pointer (some ⟨bl, 0, none⟩), .pointer (some ⟨be, 0, none⟩), .pointer (some ⟨bt, 0, none⟩)] W (OnePost vb W) := fun W hw => by
    rw [hj2, hv2]
    exact tell_lit l _ c E en ec bl be bt j2 a2 ha2 hl2 (lit_n hf2) W hw
  have ca : ∀ W, EvW W l (some ⟨b, o, none⟩) c E en ec bl be bt → Calls Tryz.prog 71 #[.int .i64 t'.l, .pointer (some ⟨bl, 0, none⟩), .pointer (some ⟨be, 0, none⟩), .pointer (some ⟨bt, 0, none⟩)] W (OnePost va W) := fun W hw => by
    rw [hj, hv]
    exact tell_lit l _ c E en ec bl be bt j a ha hl (lit_n hf) W hw
  rw [← hv] at hva hll ⊢
  rw [← hv2] at hvb hll2 ⊢
  have CA := Lib.hid ca
  have CB := Lib.hid cb
  obtain ⟨ak, an, sa, La⟩ := va
  have hll : La = [] := hll
  subst hll
  obtain ⟨bk, bn, sb, Lb⟩ := vb
  have hll2 : Lb = [] := hll2
  subst hll2
  have CO := Lib.hid (fun W => app2_flat t'.kind har ak an sa bk bn sb hva hvb W)
  have HW := Lib.hid hW
  have B2 := Lib.hid (below_push (below_new w (.cells zeroC 31)) (.cells (tmC t'.kind t'.name t'.n t'.text t'.l t'.r) 51))
  have K0 := Lib.hid ((Blk.new w zeroC 31).alloc (.cells (tmC t'.kind t'.name t'.n t'.text t'.l t'.r) 51))
  have K1 := Lib.hid (blk_next (w := w.alloc (.cells zeroC 31)) (n := w.heap.size + 1) (by simp) (tmC t'.kind t'.name t'.n t'.text t'.l t'.r) 51)
  clear ht ht' hW hl har ha hf hva hv ca hj hl2 ha2 hf2 hvb hv2 cb hj2
  go_enter Tryz.func71, Tryz.ntmps71
  go_wp2_with fail
  refine (operands_any _ _).mono ?_
  rintro e w1 ⟨rfl, rfl⟩
  rw [AR.out]
  go_wp2_with fail
  refine (CA.out _ (HW.out.below B2.out)).mono ?_
  rintro e w1 ⟨rfl, hb1⟩
  unfold Vl.val
  have B3 := Lib.hid (below_next B2.out hb1)
  have J0 := Lib.hid (K0.out.belowS hb1)
  have J1 := Lib.hid (K1.out.belowS hb1)
  have d0 : w1.cell? ⟨w.heap.size + 1, 0, none⟩ = some (.int .i64 t'.kind) := J1.out.cell 0
  have d1 : w1.cell? ⟨w.heap.size + 1, 1, none⟩ = some (.string t'.name) := J1.out.cell 1
  have d2 : w1.cell? ⟨w.heap.size + 1, 2, none⟩ = some (.int .i64 t'.n) := J1.out.cell 2
  have d3 : w1.cell? ⟨w.heap.size + 1, 3, none⟩ = some (.string t'.text) := J1.out.cell 3
  have d4 : w1.cell? ⟨w.heap.size + 1, 4, none⟩ = some (.int .i64 t'.l) := J1.out.cell 4
  have d5 : w1.cell? ⟨w.heap.size + 1, 5, none⟩ = some (.int .i64 t'.r) := J1.out.cell 5
  have hn1 : w.heap.size + 1 < w1.heap.size := J1.out.lt
  have hz0 : w.heap.size < w1.heap.size := by omega
  clear hb1
  have y3 : w1.cell? ⟨bt, 0, none⟩ = some (.func (.func 71) #[] #[.pointer (some ⟨bl, 0, none⟩), .pointer (some ⟨be, 0, none⟩), .pointer (some ⟨bt, 0, none⟩)]) := (HW.out.below B3.out).hbt.cell 0
  have hlt3 : bt < w1.heap.size := (HW.out.below B3.out).hbt.lt
  have J2 := Lib.hid (Blk.new w1 (cellsC ak an sa) 31)
  have J3 := Lib.hid (blk_next (w := w1.alloc (.cells (cellsC ak an sa) 31)) (n := w1.heap.size + 1) (by simp) zeroC 31)
  have B4 := Lib.hid (below_push (below_push B3.out (.cells (cellsC ak an sa) 31)) (.cells zeroC 31))
  go_wp2_with fail
  refine (CB.out _ (HW.out.below B4.out)).mono ?_
  rintro e w2 ⟨rfl, hb2⟩
  unfold Vl.val
  have M0 := Lib.hid (((J0.out.alloc _).alloc _).belowS hb2)
  have M2 := (J2.out.alloc _).belowS hb2
  have M3 := J3.out.belowS hb2
  have hle2 := hb2.size
  simp only [World.size_alloc] at hle2
  have g0 : w2.cell? ⟨w.heap.size + 1, 0, none⟩ = some (.int .i64 t'.kind) := (((J1.out.alloc _).alloc _).belowS hb2).cell 0
  have q0 : w2.cell? ⟨w1.heap.size, 0, none⟩ = some (.int .i64 ak) := M2.cell 0
  have q1 : w2.cell? ⟨w1.heap.size, 1, none⟩ = some (.int .i64 an) := M2.cell 1
  have q2 : w2.cell? ⟨w1.heap.size, 2, none⟩ = some (.string sa) := M2.cell 2
  have q3 : w2.cell? ⟨w1.heap.size, 3, none⟩ = some (.slice none 0 0) := M2.cell 3
  obtain ⟨⟨v0, v1, v2, v3⟩, u0, u1, u2, u3, hz3⟩ := blk_facts M3
  have B5 := Lib.hid (below_next B4.out hb2)
  clear hb2 M2 M3 d0 d1 d2 d3 d4 d5
  have M4 := Lib.hid ((((M0.out.far (p := ⟨w1.heap.size + 1, 0, none⟩) (by simp; omega) (.int .i64 bk)).far (p := ⟨w1.heap.size + 1, 1, none⟩) (by simp; omega) (.int .i64 bn)).far (p := ⟨w1.heap.size + 1, 2, none⟩) (by simp; omega) (.string sb)).far (p := ⟨w1.heap.size + 1, 3, none⟩) (by simp; omega) (.slice none 0 0))
  have B6 := Lib.hid (below_put4 (n := w1.heap.size + 1) B5.out (by omega) (.int .i64 bk) (.int .i64 bn) (.string sb) (.slice none 0 0))
  go_wp2_with fail
  refine (CO.out _).mono ?_
  rintro e w3 ⟨i0, i1, s3, Q3, m3, c3', k3', rfl, hb3, hi3⟩
  obtain ⟨⟨f0, f1, f2, f3⟩, k0, k1, k2, k3, hz⟩ := blk_facts (M4.out.belowS hb3)
  have HI3 := Lib.hid hi3
  have HB3 := Lib.hid hb3
  clear hi3 hb3
  go_wp2_with fail
  refine bodyPost_ret (v := .tuple #[.agg #[.int .i64 i0, .int .i64 i1, .string s3, .slice Q3 m3 c3'], .int .i64 k3']) (by simp [results, Tryz.results71, go_sem, k0, k1, k2, k3]) rfl ?_
  exact ev_pass B6.out HB3.out HI3.out (Nat.le_refl _) (by simp; omega)
set_option maxRecDepth 100000 in
set_option maxHeartbeats 8000000 in
theorem termEval_any (l : List Tm) (A : Option Addr) (c : Nat) (root : Int) (r : Option Vl) (w : World) (hT : Tms w A l) (hm : tmF l root = true) (hl : l.length ≤ 1000000)
    (HC : ∀ w1 bl be bt, EvW w1 l A c none 0 0 bl be bt → Calls Tryz.prog 71 #[.int .i64 root, .pointer (some ⟨bl, 0, none⟩), .pointer (some ⟨be, 0, none⟩), .pointer (some ⟨bt, 0, none⟩)] w1 (EvPost r w1)) :
    Calls Tryz.prog 44 #[.slice A l.length c, .int .i64 root, .slice none 0 0] w (EvPost r w) := by
  have CM := Lib.hid (fun W h => may_any l A c root W h hl)
  have CE := Lib.hid HC
  have HM := Lib.hid hm
  have HTM := Lib.hid hT
  have B0 := Lib.hid (below_push (below_push (below_new w (.cells #[.slice A l.length c] 22)) (.cells #[.slice none 0 0] 28)) (.cells zeroC 31))
  have K1 := Lib.hid (((Blk.new w #[.slice A l.length c] 22).alloc (.cells #[.slice none 0 0] 28)).alloc (.cells zeroC 31))
  have K2 := Lib.hid ((blk_next (w := w.alloc (.cells #[.slice A l.length c] 22)) (n := w.heap.size + 1) (by simp) #[.slice none 0 0] 28).alloc (.cells zeroC 31))
  have K3 := Lib.hid (blk_next (w := (w.alloc (.cells #[.slice A l.length c] 22)).alloc (.cells #[.slice none 0 0] 28)) (n := w.heap.size + 1 + 1) (by simp) zeroC 31)
  clear HC hT hm
  go_enter Tryz.func44, Tryz.ntmps44
  go_wp2_with fail
  refine (CM.out _ (HTM.out.below B0.out)).mono ?_
  rintro e w1 ⟨rfl, hb1⟩
  rw [HM.out]
  have B1 := Lib.hid (below_next B0.out hb1)
  have J1 := Lib.hid (K1.out.belowS hb1)
  have J2 := Lib.hid (K2.out.belowS hb1)
  have J3 := Lib.hid (K3.out.belowS hb1)
  have hz1 : w.heap.size + 1 + 1 < w1.heap.size := J3.out.lt
  clear hb1
  have F1 : Hid (Below w1.heap.size w1 (w1.alloc (.cells #[.func (.func 71) #[] #[.pointer (some ⟨w.heap.size, 0, none⟩), .pointer (some ⟨w.heap.size + 1, 0, none⟩), .pointer (some ⟨w1.heap.size, 0, none⟩)]] 163))) := Lib.hid (below_new _ _)
  have W1 : Hid (EvW (w1.alloc (.cells #[.func (.func 71) #[] #[.pointer (some ⟨w.heap.size, 0, none⟩), .pointer (some ⟨w.heap.size + 1, 0, none⟩), .pointer (some ⟨w1.heap.size, 0, none⟩)]] 163)) l A c none 0 0 w.heap.size (w.heap.size + 1) w1.heap.size) :=
    Lib.hid ⟨(HTM.out.below B1.out).below F1.out, J1.out.alloc _, J2.out.alloc _, Blk.new _ _ _⟩
  go_wp2_with fail
  refine (CE.out _ _ _ _ W1.out).mono ?_
  rintro e w2 ⟨i0, i1, s, Q, m', c', k, rfl, hb2, hi⟩
  obtain ⟨⟨f0, f1, f2, f3⟩, k0, k1, k2, k3, hz⟩ := blk_facts ((J3.out.alloc _).belowS hb2)
  have HI := Lib.hid hi
  have HB2 := Lib.hid hb2
  clear hi hb2
  go_wp2_with fail
  refine bodyPost_ret (v := .tuple #[.agg #[.int .i64 i0, .int .i64 i1, .string s, .slice Q m' c'], .int .i64 k]) (by simp [results, Tryz.results44, go_sem, k0, k1, k2, k3]) rfl ?_
  exact ev_pass (below_push B1.out _) HB2.out HI.out (by omega) (by simp; omega)
end Go.Proofs.YtbemdcbglpjmiaaGreatDoor
namespace Go.Proofs.YtbemdcbglpjmiaaGreatDoor
open Go.RowKit

def lfL (t : Tm) : Option Vl := if isLit t && fldF t then some (litV t) else none
theorem lfL_at (t : Tm) (a b : Int) : lfL (t.at_ a b) = lfL t := rfl
theorem lfL_lit {t : Tm} (h : isLit t = true) (hf : fldF t = true) : lfL t = some (litV t) := by unfold lfL; rw [h, hf]; rfl
theorem lfL_ok : ∀ t u, lfL t = some u → VlOk u := fun t u h => by
  unfold lfL at h
  split at h
  · rename_i hh
    simp only [Bool.and_eq_true] at hh
    cases h
    exact lit_vl hh.2
  · cases h
theorem all_lay {P : Tm → Prop} (hP : ∀ t a b, P t → P (t.at_ a b)) : ∀ {x : Tr} {n : Nat}, x.All P → (layT x n).All P
  | .nil, _, _ => trivial
  | .node _ _ _, _, ⟨h1, h2, h3⟩ => ⟨fun h => hP _ _ _ (h1 h), all_lay hP h2, all_lay hP h3⟩
theorem ev_lit {a : Tm} (h : isLit a = true) (hf : fldF a = true) : evF lfL (.node a .nil .nil) = some (litV a) := by rw [evF, if_pos (lit_ar h), lfL_lit h hf]
theorem eval_node (t : Tm) (X Y : Tr) (hN : (Tr.node t X Y).Ok) (hX : X ≠ .nil) (h1 : X.lit = true) (h2 : Y.lit = true) :
    ∃ r, opT t X Y = r.bind writV ∧ ∀ (A : Option Addr) (c : Nat) (w : World), Tms w A (layF (.node t X Y) []).1 →
      Calls Tryz.prog 44 #[.slice A (layF (.node t X Y) []).1.length c, .int .i64 (layF (.node t X Y) []).2, .slice none 0 0] w (EvPost r w) ∧
      Calls Tryz.prog 13 #[.slice A (layF (.node t X Y) []).1.length c, .int .i64 (layF (.node t X Y) []).2, .slice none 0 0] w (EvPost r w) := by
  obtain ⟨hf, hor, hx, hy⟩ := hN
  have hN : (Tr.node t X Y).Ok := ⟨hf, hor, hx, hy⟩
  have href : ∀ (r : Option Vl), (Tr.node t X Y).All (fun u => isLit u = true ∧ fldF u = true) → (Tr.node t X Y).size ≤ 160 → (Tr.node t X Y).deep ≤ 24 → evF lfL (.node t X Y) = r → ∀ (A : Option Addr) (c : Nat) (w : World), Tms w A (layF (.node t X Y) []).1 →
      Calls Tryz.prog 13 #[.slice A (layF (.node t X Y) []).1.length c, .int .i64 (layF (.node t X Y) []).2, .slice none 0 0] w (EvPost r w) := by
    intro r ha hs hd hr A c w hT
    have hlen := lay_len (.node t X Y) []
    have := rEval_any (fun u => isLit u = true ∧ fldF u = true) lfL _ A c (layF (.node t X Y) []).2 none 0 0 w
      (fun u w' hu _ => by
        rw [lfL_lit hu.1 hu.2]
        exact rleaf_lit u.kind u.name u.n u.text u.l u.r hu.1 (fun h => lit_n hu.2 h) none 0 0 w') lfL_ok (layT (.node t X Y) 0) (by simp [layT]) (layT_ok hN) (all_lay (fun _ _ _ h => h) ha)
      (lay_gr (.node t X Y) [] _ (List.prefix_refl _)) hT (lay_may hN (by simp) hs hd) (by rw [hlen]; simp; omega)
    rwa [lay_ev lfL_at, hr] at this
  cases X with
  | nil => exact absurd rfl hX
  | node a xa ya =>
    have la : isLit a = true := h1
    obtain ⟨rfl, rfl⟩ := hx.lit la
    have hfa := hx.1
    cases Y with
    | nil =>
      have ha : arF t.kind = 1 := by
        rcases hor with ⟨_, q, _⟩ | ⟨q, _⟩ | ⟨_, _, q⟩
        · exact absurd q hX
        · exact q
        · exact absurd rfl q
      refine ⟨oneV t.kind (litV a), by simp only [opT]; rw [if_pos la], fun A c w hT => ⟨?_, ?_⟩⟩
      · refine termEval_any _ A c _ _ w hT (lay_may hN (by simp) (by simp [Tr.size]) (by simp [Tr.deep])) (by simp [layF]) fun w1 bl be bt hW => ?_
        exact tell_op1 _ A c none 0 0 bl be bt 1 (t.at_ 0 (-1)) rfl ha 0 (a.at_ (-1) (-1)) rfl rfl la hfa w1 hW
      · refine href _ ⟨fun q => ?_, ⟨fun _ => ⟨la, hfa⟩, trivial, trivial⟩, trivial⟩ (by simp [Tr.size]) (by simp [Tr.deep]) ?_ A c w hT
        · omega
        · rw [evF, if_neg (by omega), ev_lit la hfa]
          simp [ha]
    | node b xb yb =>
      have lb : isLit b = true := h2
      obtain ⟨rfl, rfl⟩ := hy.lit lb
      have hfb := hy.1
      have ha : arF t.kind = 2 := by
        rcases hor with ⟨_, q, _⟩ | ⟨_, _, q⟩ | ⟨q, _, _⟩
        · exact absurd q hX
        · cases q
        · exact q
      refine ⟨twoV t.kind (litV a) (litV b), by simp only [opT]; rw [if_pos (by rw [la, lb]; rfl)], fun A c w hT => ⟨?_, ?_⟩⟩
      · refine termEval_any _ A c _ _ w hT (lay_may hN (by simp) (by simp [Tr.size]) (by simp [Tr.deep])) (by simp [layF]) fun w1 bl be bt hW => ?_
        exact tell_op2 _ A c none 0 0 bl be bt 2 (t.at_ 0 1) rfl ha 0 (a.at_ (-1) (-1)) rfl rfl la hfa 1 (b.at_ (-1) (-1)) rfl rfl lb hfb w1 hW
      · refine href _ ⟨fun q => ?_, ⟨fun _ => ⟨la, hfa⟩, trivial, trivial⟩, ⟨fun _ => ⟨lb, hfb⟩, trivial, trivial⟩⟩ (by simp [Tr.size]) (by simp [Tr.deep]) ?_ A c w hT
        · omega
        · rw [evF, if_neg (by omega), ev_lit la hfa, ev_lit lb hfb]
          simp [ha]
end Go.Proofs.YtbemdcbglpjmiaaGreatDoor
