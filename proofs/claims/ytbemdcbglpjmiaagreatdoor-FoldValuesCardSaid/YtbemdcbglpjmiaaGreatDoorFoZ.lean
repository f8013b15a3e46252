/- Contracts: reparteeref1.two where it calls SameValue, listed. reparteeref1.one, two: what they answer, all kinds together; well-formed values. What an evaluation tells, plain; values stay well-formed. -/
import Derived.Test.YtbemdcbglpjmiaaGreatDoorFoW
namespace Go.Proofs.YtbemdcbglpjmiaaGreatDoor
open Go.RowKit

set_option maxRecDepth 100000 in
set_option maxHeartbeats 8000000 in
theorem tw17_yes (nm : ByteArray) (n : Int) (tx : ByteArray) (l r : Int) (an bn : Int) (sa sb : ByteArray) (La : List Int) (A : Option Addr) (c : Nat) (B : Option Addr) (p d : Nat) (w : World) (hA : Ints w A La) (hl : La.length ≤ 1000000) (ev : Option Vl) (hr : ev = (if bn < 0 ∨ (La.length : Int) ≤ bn then none else some (numL (La.getD bn.toNat 0)))) : Calls Tryz.prog 52 #[.agg (tmC 17 nm n tx l r), .agg (vlC 4 an sa A La.length c), .agg (vlC 1 bn sb B p d)] w (EvPost ev w) := by
  have HIA := Lib.hid (((((Rd.alloc hA (.cells (tmC 17 nm n tx l r) 51)).alloc (.cells (vlC 4 an sa A La.length c) 31)).alloc (.cells (vlC 1 bn sb B p d) 31)).alloc (.cells zeroC 31)))
  have CL := listed_at La bn A c _ HIA.out
  rw [← hr] at CL
  have HCL := Lib.hid CL
  clear CL hr
  go_enter Tryz.func52, Tryz.ntmps52
  go_wp2_with fail
  refine (HCL.out).mono ?_
  rintro e w1 ⟨i0, i1, s, Q, m', c', k, rfl, hb1, hi⟩
  obtain ⟨⟨f0, f1, f2, f3⟩, k0, k1, k2, k3, hz⟩ := zf (W := (twW w (17) nm n tx l r (4) (an) sa A La.length c (1) (bn) sb B p d)) (n := w.heap.size + 1 + 1 + 1) (by simp) hb1
  have HI := Lib.hid hi
  have HB1 := Lib.hid hb1
  clear hi hb1
  go_wp2_with fail
  refine bodyPost_ret (v := .tuple #[.agg #[.int .i64 i0, .int .i64 i1, .string s, .slice Q m' c'], .int .i64 k]) (by simp [results, Tryz.results52, go_sem, k0, k1, k2, k3]) rfl ?_
  exact ev_pass (tw_below w _ _ _ _) HB1.out HI.out (by omega) (by simp)
set_option maxRecDepth 100000 in
set_option maxHeartbeats 8000000 in
theorem tw18_yes (nm : ByteArray) (n : Int) (tx : ByteArray) (l r : Int) (an bn : Int) (sa sb : ByteArray) (La : List Int) (A : Option Addr) (c : Nat) (B : Option Addr) (p d : Nat) (w : World) (hA : Ints w A La) (hl : La.length ≤ 1000000) (ev : Option Vl) (hr : ev = (if 16 ≤ La.length then none else some ⟨4, 0, e0, La ++ [bn]⟩)) : Calls Tryz.prog 52 #[.agg (tmC 18 nm n tx l r), .agg (vlC 4 an sa A La.length c), .agg (vlC 1 bn sb B p d)] w (EvPost ev w) := by
  have HIA := Lib.hid (((((Rd.alloc hA (.cells (tmC 18 nm n tx l r) 51)).alloc (.cells (vlC 4 an sa A La.length c) 31)).alloc (.cells (vlC 1 bn sb B p d) 31)).alloc (.cells zeroC 31)))
  have CL := listed_push La bn A c _ HIA.out hl
  rw [← hr] at CL
  have HCL := Lib.hid CL
  clear CL hr
  go_enter Tryz.func52, Tryz.ntmps52
  go_wp2_with fail
  refine (HCL.out).mono ?_
  rintro e w1 ⟨i0, i1, s, Q, m', c', k, rfl, hb1, hi⟩
  obtain ⟨⟨f0, f1, f2, f3⟩, k0, k1, k2, k3, hz⟩ := zf (W := (twW w (18) nm n tx l r (4) (an) sa A La.length c (1) (bn) sb B p d)) (n := w.heap.size + 1 + 1 + 1) (by simp) hb1
  have HI := Lib.hid hi
  have HB1 := Lib.hid hb1
  clear hi hb1
  go_wp2_with fail
  refine bodyPost_ret (v := .tuple #[.agg #[.int .i64 i0, .int .i64 i1, .string s, .slice Q m' c'], .int .i64 k]) (by simp [results, Tryz.results52, go_sem, k0, k1, k2, k3]) rfl ?_
  exact ev_pass (tw_below w _ _ _ _) HB1.out HI.out (by omega) (by simp)
set_option maxRecDepth 100000 in
set_option maxHeartbeats 8000000 in
theorem tw11_yes (nm : ByteArray) (n : Int) (tx : ByteArray) (l r : Int) (ak an bn : Int) (sa sb : ByteArray) (La Lb : List Int) (A : Option Addr) (c : Nat) (B : Option Addr) (d : Nat) (w : World) (hA : Ints w A La) (hB : Ints w B Lb) (hl : La.length ≤ 1000000000) (hk : ak ≠ 5) (rb : Bool) (hr : rb = decide ((⟨ak, an, sa, La⟩ : Vl) = ⟨ak, bn, sb, Lb⟩)) : Calls Tryz.prog 52 #[.agg (tmC 11 nm n tx l r), .agg (vlC ak an sa A La.length c), .agg (vlC ak bn sb B Lb.length d)] w (EvPost (some (tru rb)) w) := by
  have HIA := Lib.hid (((((Rd.alloc hA (.cells (tmC 11 nm n tx l r) 51)).alloc (.cells (vlC ak an sa A La.length c) 31)).alloc (.cells (vlC ak bn sb B Lb.length d) 31)).alloc (.cells zeroC 31)))
  have HIB := Lib.hid (((((Rd.alloc hB (.cells (tmC 11 nm n tx l r) 51)).alloc (.cells (vlC ak an sa A La.length c) 31)).alloc (.cells (vlC ak bn sb B Lb.length d) 31)).alloc (.cells zeroC 31)))
  have CT := Lib.hid (fun b w => rtruth_any b w)
  have CS := sameValue_any ⟨ak, an, sa, La⟩ ⟨ak, bn, sb, Lb⟩ A B c d _ HIA.out HIB.out hl
  rw [← hr] at CS
  have HCS := Lib.hid CS
  have e5 : (ak != 5) = true := by simpa using hk
  clear CS hr hk
  go_enter Tryz.func52, Tryz.ntmps52
  go_wp2_with fail
  refine HCS.out.mono ?_
  rintro e w1 ⟨rfl, hb1⟩
  obtain ⟨⟨f0, f1, f2, f3⟩, k0, k1, k2, k3, hz⟩ := zf (W := (twW w (11) nm n tx l r (ak) (an) sa A La.length c (ak) (bn) sb B Lb.length d)) (n := w.heap.size + 1 + 1 + 1) (by simp) hb1
  have HB1 := Lib.hid hb1
  clear hb1 f0 f1 f2 f3 k0 k1 k2 k3 hz
  go_wp2_with fail
  refine (CT.out rb w1).mono ?_
  rintro e w2 ⟨rfl, hb2⟩
  obtain ⟨⟨f0, f1, f2, f3⟩, k0, k1, k2, k3, hz⟩ := zf (W := (twW w (11) nm n tx l r (ak) (an) sa A La.length c (ak) (bn) sb B Lb.length d)) (n := w.heap.size + 1 + 1 + 1) (by simp) (below_next HB1.out hb2)
  have B1 := Lib.hid (below_next (tw_below w _ _ _ _) (below_next HB1.out hb2))
  clear hb2
  go_wp2_with fail
  refine bodyPost_ret (v := .tuple #[(tru rb).val none 0, .int .i64 0]) (by simp [results, Tryz.results52, go_sem, e0, tru, Vl.val, k0, k1, k2, k3]) rfl (ev_one (x := tru rb) rfl rfl rfl (below_put4 B1.out (by omega) _ _ _ _))
end Go.Proofs.YtbemdcbglpjmiaaGreatDoor
namespace Go.Proofs.YtbemdcbglpjmiaaGreatDoor
open Go.RowKit

/-- A value as an evaluation makes it. -/
structure VlOk (v : Vl) : Prop where
  b : v.kind = 2 → v.n = 0 ∨ v.n = 1
  s : v.kind = 3 → v.s.size ≤ 24
  l : v.l.length ≤ 16
theorem ok_num (n : Int) : VlOk (numL n) := ⟨fun h => by simp [numL] at h, fun _ => show (0 : Nat) ≤ 24 by decide, by simp [numL]⟩
theorem ok_tru (b : Bool) : VlOk (tru b) := ⟨fun _ => by cases b <;> simp [tru, bI], fun _ => show (0 : Nat) ≤ 24 by decide, by simp [tru]⟩
theorem one_all (k : Int) (hk : k = 15 ∨ k = 16) (a : Vl) (nm : ByteArray) (n : Int) (tx : ByteArray) (l r : Int) (A : Option Addr) (c : Nat) (w : World) :
    Calls Tryz.prog 51 #[.agg (tmC k nm n tx l r), a.val A c] w (EvPost (oneV k a) w) := by
  obtain ⟨ak, an, sa, La⟩ := a
  rcases hk with rfl | rfl
  · by_cases h : ak = 2
    · subst h
      exact on15_yes nm n tx l r an sa A La.length c w
    · rw [show oneV 15 ⟨ak, an, sa, La⟩ = none by simp [oneV, h]]
      exact on15_no nm n tx l r ak an sa h A La.length c w
  · by_cases h : ak = 3
    · subst h
      exact on16_text nm n tx l r an sa A La.length c w
    · by_cases h4 : ak = 4
      · subst h4
        exact on16_list nm n tx l r an sa A La.length c w
      · rw [show oneV 16 ⟨ak, an, sa, La⟩ = none by simp [oneV, h, h4]]
        exact on16_no nm n tx l r ak an sa ⟨h, h4⟩ A La.length c w
theorem two_all (k : Int) (hk : arF k = 2) (a b : Vl) (ha : VlOk a) (hb : VlOk b) (nm : ByteArray) (n : Int) (tx : ByteArray) (l r : Int) (A : Option Addr) (c : Nat) (B : Option Addr) (d : Nat) (w : World) (hA : Ints w A a.l) (hB : Ints w B b.l) :
    Calls Tryz.prog 52 #[.agg (tmC k nm n tx l r), a.val A c, b.val B d] w (EvPost (twoV k a b) w) := by
  obtain ⟨ak, an, sa, La⟩ := a
  obtain ⟨bk, bn, sb, Lb⟩ := b
  have hlA : La.length ≤ 16 := ha.l
  have hk : k = 6 ∨ k = 7 ∨ k = 8 ∨ k = 9 ∨ k = 10 ∨ k = 11 ∨ k = 12 ∨ k = 13 ∨ k = 14 ∨ k = 17 ∨ k = 18 ∨ k = 19 := by
    unfold arF at hk
    split at hk
    · omega
    · split at hk
      · omega
      · split at hk <;> omega
  rcases hk with rfl | rfl | rfl | rfl | rfl | rfl | rfl | rfl | rfl | rfl | rfl | rfl
  · by_cases h : ak = 1 ∧ bk = 1
    · obtain ⟨rfl, rfl⟩ := h
      exact tw6_yes nm n tx l r an bn sa sb A La.length c B Lb.length d w
    · rw [show twoV 6 ⟨ak, an, sa, La⟩ ⟨bk, bn, sb, Lb⟩ = none by simp only [twoV]; simp [h]]
      exact tw6_no nm n tx l r ak an bk bn sa sb h A La.length c B Lb.length d w
  · by_cases h : ak = 1 ∧ bk = 1
    · obtain ⟨rfl, rfl⟩ := h
      exact tw7_yes nm n tx l r an bn sa sb A La.length c B Lb.length d w
    · rw [show twoV 7 ⟨ak, an, sa, La⟩ ⟨bk, bn, sb, Lb⟩ = none by simp only [twoV]; simp [h]]
      exact tw7_no nm n tx l r ak an bk bn sa sb h A La.length c B Lb.length d w
  · by_cases h : ak = 1 ∧ bk = 1
    · obtain ⟨rfl, rfl⟩ := h
      exact tw8_yes nm n tx l r an bn sa sb A La.length c B Lb.length d w
    · rw [show twoV 8 ⟨ak, an, sa, La⟩ ⟨bk, bn, sb, Lb⟩ = none by simp only [twoV]; simp [h]]
      exact tw8_no nm n tx l r ak an bk bn sa sb h A La.length c B Lb.length d w
  · by_cases h : ak = 1 ∧ bk = 1
    · obtain ⟨rfl, rfl⟩ := h
      exact tw9_yes nm n tx l r an bn sa sb A La.length c B Lb.length d w
    · rw [show twoV 9 ⟨ak, an, sa, La⟩ ⟨bk, bn, sb, Lb⟩ = none by simp only [twoV]; simp [h]]
      exact tw9_no nm n tx l r ak an bk bn sa sb h A La.length c B Lb.length d w
  · by_cases h : ak = 1 ∧ bk = 1
    · obtain ⟨rfl, rfl⟩ := h
      exact tw10_yes nm n tx l r an bn sa sb A La.length c B Lb.length d w
    · rw [show twoV 10 ⟨ak, an, sa, La⟩ ⟨bk, bn, sb, Lb⟩ = none by simp only [twoV]; simp [h]]
      exact tw10_no nm n tx l r ak an bk bn sa sb h A La.length c B Lb.length d w
  · by_cases h : ak = bk ∧ ak ≠ 5
    · obtain ⟨rfl, h5⟩ := h
      rw [show twoV 11 ⟨ak, an, sa, La⟩ ⟨ak, bn, sb, Lb⟩ = some (tru (decide ((⟨ak, an, sa, La⟩ : Vl) = ⟨ak, bn, sb, Lb⟩))) by simp [twoV, h5]]
      exact tw11_yes nm n tx l r ak an bn sa sb La Lb A c B d w hA hB (by omega) h5 _ rfl
    · rw [show twoV 11 ⟨ak, an, sa, La⟩ ⟨bk, bn, sb, Lb⟩ = none by simp only [twoV]; simp [h]]
      exact tw11_no nm n tx l r ak an bk bn sa sb (by omega) A La.length c B Lb.length d w
  · by_cases h : ak = 1 ∧ bk = 1
    · obtain ⟨rfl, rfl⟩ := h
      exact tw12_yes nm n tx l r an bn sa sb A La.length c B Lb.length d w
    · rw [show twoV 12 ⟨ak, an, sa, La⟩ ⟨bk, bn, sb, Lb⟩ = none by simp only [twoV]; simp [h]]
      exact tw12_no nm n tx l r ak an bk bn sa sb h A La.length c B Lb.length d w
  · by_cases h : ak = 2 ∧ bk = 2
    · obtain ⟨rfl, rfl⟩ := h
      exact tw13_yes nm n tx l r an bn sa sb (ha.b rfl) (hb.b rfl) A La.length c B Lb.length d w
    · rw [show twoV 13 ⟨ak, an, sa, La⟩ ⟨bk, bn, sb, Lb⟩ = none by simp only [twoV]; simp [h]]
      exact tw13_no nm n tx l r ak an bk bn sa sb h A La.length c B Lb.length d w
  · by_cases h : ak = 2 ∧ bk = 2
    · obtain ⟨rfl, rfl⟩ := h
      exact tw14_yes nm n tx l r an bn sa sb (ha.b rfl) (hb.b rfl) A La.length c B Lb.length d w
    · rw [show twoV 14 ⟨ak, an, sa, La⟩ ⟨bk, bn, sb, Lb⟩ = none by simp only [twoV]; simp [h]]
      exact tw14_no nm n tx l r ak an bk bn sa sb h A La.length c B Lb.length d w
  · by_cases h : ak = 4 ∧ bk = 1
    · obtain ⟨rfl, rfl⟩ := h
      exact tw17_yes nm n tx l r an bn sa sb La A c B Lb.length d w hA (by omega) _ (by simp [twoV])
    · rw [show twoV 17 ⟨ak, an, sa, La⟩ ⟨bk, bn, sb, Lb⟩ = none by simp only [twoV]; simp [h]]
      exact tw17_no nm n tx l r ak an bk bn sa sb h A La.length c B Lb.length d w
  · by_cases h : ak = 4 ∧ bk = 1
    · obtain ⟨rfl, rfl⟩ := h
      exact tw18_yes nm n tx l r an bn sa sb La A c B Lb.length d w hA (by omega) _ (by simp [twoV])
    · rw [show twoV 18 ⟨ak, an, sa, La⟩ ⟨bk, bn, sb, Lb⟩ = none by simp only [twoV]; simp [h]]
      exact tw18_no nm n tx l r ak an bk bn sa sb h A La.length c B Lb.length d w
  · by_cases h : ak = 3 ∧ bk = 3
    · obtain ⟨rfl, rfl⟩ := h
      exact tw19_yes nm n tx l r an bn sa sb (ha.s rfl) (hb.s rfl) A La.length c B Lb.length d w
    · rw [show twoV 19 ⟨ak, an, sa, La⟩ ⟨bk, bn, sb, Lb⟩ = none by simp only [twoV]; simp [h]]
      exact tw19_no nm n tx l r ak an bk bn sa sb h A La.length c B Lb.length d w
end Go.Proofs.YtbemdcbglpjmiaaGreatDoor
namespace Go.Proofs.YtbemdcbglpjmiaaGreatDoor
open Go.RowKit

/-- What a tree tells, where lf tells what a leaf tells. -/
def evF (lf : Tm → Option Vl) : Tr → Option Vl
  | .nil => none
  | .node t x y =>
    if arF t.kind = 0 then lf t
    else match evF lf x with
      | none => none
      | some a => if arF t.kind = 1 then oneV t.kind a
        else match evF lf y with
          | none => none
          | some b => twoV t.kind a b
theorem numV_ok {k a b : Int} {v : Vl} (h : numV k a b = some v) : VlOk v := by
  unfold numV at h
  repeat' split at h
  all_goals first
    | cases h; done
    | (cases h; first | exact ok_num _ | exact ok_tru _)
theorem oneV_ok {k : Int} {a v : Vl} (h : oneV k a = some v) : VlOk v := by
  unfold oneV at h
  repeat' split at h
  all_goals first
    | cases h; done
    | (cases h; first | exact ok_num _ | exact ok_tru _)
theorem twoV_ok {k : Int} {a b v : Vl} (h : twoV k a b = some v) : VlOk v := by
  unfold twoV at h
  repeat' split at h
  all_goals first
    | exact numV_ok h
    | (cases h; done)
    | (cases h; exact ok_num _)
    | (cases h; exact ok_tru _)
    | (cases h; refine ⟨fun q => by simp at q, fun _ => ?_, by simp⟩; simp only [ByteArray.size_append]; omega)
    | (cases h; refine ⟨fun q => by simp at q, (fun _ => by show (0 : Nat) ≤ 24; decide), ?_⟩; simp only [List.length_append, List.length_singleton]; omega)
theorem evF_ok {lf : Tm → Option Vl} : ∀ {x : Tr} {v : Vl}, (∀ t u, lf t = some u → VlOk u) → evF lf x = some v → VlOk v
  | .nil, _, _, h => by cases h
  | .node t x y, v, hl, h => by
    rw [evF] at h
    split at h
    · exact hl _ _ h
    · split at h
      · cases h
      · split at h
        · exact oneV_ok h
        · split at h
          · cases h
          · exact twoV_ok h
end Go.Proofs.YtbemdcbglpjmiaaGreatDoor
