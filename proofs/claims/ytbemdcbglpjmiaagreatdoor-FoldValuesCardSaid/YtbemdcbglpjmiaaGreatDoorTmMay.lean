/- Contracts: term.May$1 (the walk), term.May. -/
import Derived.Test.YtbemdcbglpjmiaaGreatDoorTmOps
import Derived.Test.YtbemdcbglpjmiaaGreatDoorTmRow
import Derived.Deep.RegionHeld3
import Derived.Deep.DrawnRows
import Derived.LoopN
import Derived.Laws.EntriesVeiled
namespace Go.Proofs.YtbemdcbglpjmiaaGreatDoor
open Go.RowKit
attribute [local go_sem ↓] Go.wp_at_zero Go.wp_at_succ

/-- The world in which the walk stands. -/
structure MayW (w : World) (l : List Tm) (A : Option Addr) (c bl bm bw g : Nat) (met : Nat → Bool) (tb : TypeId) : Prop where
  tms : Tms w A l
  hbl : Blk w bl #[.slice A l.length c] 22
  hbm : Blk w bm #[.slice (some ⟨g, 0, none⟩) l.length l.length] 95
  hbw : Blk w bw #[.func (.func 40) #[] #[.pointer (some ⟨bl, 0, none⟩), .pointer (some ⟨bm, 0, none⟩), .pointer (some ⟨bw, 0, none⟩)]] 96
  hg : Blk w g (bools l.length met) tb
  ga : ∀ b o, A = some ⟨b, o, none⟩ → b ≠ g
  gd : bl ≠ g ∧ bm ≠ g ∧ bw ≠ g
theorem MayW.kb {w w' : World} {l : List Tm} {A : Option Addr} {c bl bm bw g : Nat} {met : Nat → Bool} {tb : TypeId} (h : MayW w l A c bl bm bw g met tb) (hk : Kb (fun _ => False) w w') : MayW w' l A c bl bm bw g met tb :=
  ⟨h.tms.kb hk fun _ _ _ q => q, h.hbl.kb hk fun q => q, h.hbm.kb hk fun q => q, h.hbw.kb hk fun q => q, h.hg.kb hk fun q => q, h.ga, h.gd⟩
theorem MayW.kbg {w w' : World} {l : List Tm} {A : Option Addr} {c bl bm bw g : Nat} {met met' : Nat → Bool} {tb : TypeId} (h : MayW w l A c bl bm bw g met tb) (hk : Kb (fun i => i = g) w w') (hg : Blk w' g (bools l.length met') tb) : MayW w' l A c bl bm bw g met' tb :=
  ⟨h.tms.kb hk fun b o e q => h.ga b o e q, h.hbl.kb hk h.gd.1, h.hbm.kb hk h.gd.2.1, h.hbw.kb hk h.gd.2.2, hg, h.ga, h.gd⟩
theorem MayW.mark {w : World} {l : List Tm} {A : Option Addr} {c bl bm bw g : Nat} {met : Nat → Bool} {tb : TypeId} (h : MayW w l A c bl bm bw g met tb) (a : Nat) : MayW (w.setCell ⟨g, a, none⟩ (.bool true)) l A c bl bm bw g (fun j => j == a || met j) tb :=
  h.kbg (Kb.set_ (S := fun i => i = g) (Kb.refl _ _) (p := ⟨g, a, none⟩) (.inr rfl) _) (by have := h.hg.set_ a (.bool true); rwa [bools_set] at this)
def WalkPost (l : List Tm) (g f : Nat) (met : Nat → Bool) (a d : Nat) (tb : TypeId) (w : World) (e : Ending) (w' : World) : Prop :=
  Kb (fun i => i = g) w w' ∧ match Tm.walk (kidsF l) 24 f met a d with
    | some m' => e = .returned (.bool true) ∧ Blk w' g (bools l.length m') tb
    | none => e = .returned (.bool false)
section
variable {l : List Tm} {f a d : Nat} {met : Nat → Bool} {t : Tm}
theorem walk_early (h : met a = true ∨ 24 < d) : Tm.walk (kidsF l) 24 (f + 1) met a d = none := by rw [Tm.walk, if_pos h]
theorem walk_nokids (h : kidsF l a = none) : Tm.walk (kidsF l) 24 (f + 1) met a d = none := by
  rw [Tm.walk]
  split
  · rfl
  · rw [h]
theorem walk_kids {cs : List Nat} (h1 : met a = false) (h2 : ¬ 24 < d) (h : kidsF l a = some cs) : Tm.walk (kidsF l) 24 (f + 1) met a d = cs.foldlM (fun m c => Tm.walk (kidsF l) 24 f m c (d + 1)) (fun j => j == a || met j) := by
  rw [Tm.walk, if_neg (by rw [h1]; simp; omega), h]
theorem kids_bad (ht : l[a]? = some t) (h : arF t.kind < 0 ∨ fldF t = false) : kidsF l a = none := by
  unfold kidsF; rw [ht]; simp only [if_pos h]
theorem kids_0 (ht : l[a]? = some t) (h0 : arF t.kind = 0) (h1 : fldF t = true) : kidsF l a = if t.l = -1 ∧ t.r = -1 then some [] else none := by
  unfold kidsF; rw [ht]; simp only [h0, h1]; rfl
theorem kids_1 (ht : l[a]? = some t) (h0 : arF t.kind = 1) (h1 : fldF t = true) : kidsF l a = if 0 ≤ t.l ∧ t.l < a ∧ t.r = -1 then some [t.l.toNat] else none := by
  unfold kidsF; rw [ht]; simp only [h0, h1]; rfl
theorem kids_2 (ht : l[a]? = some t) (h0 : arF t.kind = 2) (h1 : fldF t = true) : kidsF l a = if 0 ≤ t.l ∧ t.l < a ∧ 0 ≤ t.r ∧ t.r < a then some [t.l.toNat, t.r.toNat] else none := by
  unfold kidsF; rw [ht]; simp only [h0, h1]; rfl
end
theorem wpost_none {l : List Tm} {g f a d : Nat} {met : Nat → Bool} {tb : TypeId} {w w' : World} {e : Ending} (hk : Kb (fun i => i = g) w w') (h : Tm.walk (kidsF l) 24 f met a d = none) (he : e = .returned (.bool false)) : WalkPost l g f met a d tb w e w' :=
  ⟨hk, by rw [h]; exact he⟩
theorem wpost_some {l : List Tm} {g f a d : Nat} {met m' : Nat → Bool} {tb : TypeId} {w w' : World} {e : Ending} (hk : Kb (fun i => i = g) w w') (h : Tm.walk (kidsF l) 24 f met a d = some m') (he : e = .returned (.bool true)) (hb : Blk w' g (bools l.length m') tb) : WalkPost l g f met a d tb w e w' :=
  ⟨hk, by rw [h]; exact ⟨he, hb⟩⟩
set_option maxRecDepth 100000 in
set_option maxHeartbeats 8000000 in
theorem may1_any (l : List Tm) (A : Option Addr) (c bl bm bw g : Nat) (tb : TypeId) : ∀ (f a d : Nat) (met : Nat → Bool) (w : World), a < f → a < l.length → d ≤ 25 → MayW w l A c bl bm bw g met tb →
    Calls Tryz.prog 40 #[.int .i64 a, .int .i64 d, .pointer (some ⟨bl, 0, none⟩), .pointer (some ⟨bm, 0, none⟩), .pointer (some ⟨bw, 0, none⟩)] w (WalkPost l g f met a d tb w) := by
  intro f
  induction f with
  | zero => intro a d met w h; omega
  | succ f ih =>
    intro a d met w haf hal hd hW
    obtain ⟨b, o, t, rfl, hb, ht, hc⟩ := hW.tms.at_ hal
    obtain ⟨c0, c1, c2, c3, c4, c5⟩ := hc
    have HT := Lib.hid ht
    clear ht
    have x1 : w.cell? ⟨bl, 0, none⟩ = some (.slice (some ⟨b, o, none⟩) l.length c) := hW.hbl.cell 0
    have x2 : w.cell? ⟨bm, 0, none⟩ = some (.slice (some ⟨g, 0, none⟩) l.length l.length) := hW.hbm.cell 0
    have x3 : w.cell? ⟨bw, 0, none⟩ = some (.func (.func 40) #[] #[.pointer (some ⟨bl, 0, none⟩), .pointer (some ⟨bm, 0, none⟩), .pointer (some ⟨bw, 0, none⟩)]) := hW.hbw.cell 0
    have x4 : w.cell? ⟨g, a, none⟩ = some (.bool (met a)) := (hW.hg.cell a).trans (bools_get hal)
    have lt1 := hW.hbl.lt
    have lt2 := hW.hbm.lt
    have lt3 := hW.hbw.lt
    have lt4 := hW.hg.lt
    have HW := Lib.hid hW
    clear hW
    go_enter Tryz.func40, Tryz.ntmps40
    go_wp2_with fail
    refine (operands_any _ _).mono ?_
    rintro e w1 ⟨rfl, rfl⟩
    rcases hm : met a with _ | _
    rotate_left
    · rw [hm] at x4
      have HM := Lib.hid hm
      clear hm
      go_wp2_with fail
      go_ret
      exact wpost_none ((Kb.refl _ _).alloc _) (walk_early (.inl HM.out)) rfl
    rw [hm] at x4
    have HM := Lib.hid hm
    clear hm
    by_cases hd24 : 24 < d
    · have e24 : decide ((24 : Int) < d) = true := decide_eq_true (by omega)
      go_wp2_with fail
      go_ret
      exact wpost_none ((Kb.refl _ _).alloc _) (walk_early (.inr hd24)) rfl
    have e24 : decide ((24 : Int) < d) = false := decide_eq_false (by omega)
    by_cases hk : arF t.kind < 0
    · have ek : decide (arF t.kind < 0) = true := decide_eq_true hk
      have HK := Lib.hid hk
      clear hk
      go_wp2_with fail
      go_ret
      exact wpost_none ((Kb.refl _ _).alloc _) (walk_nokids (kids_bad HT.out (.inl HK.out))) rfl
    have ek : decide (arF t.kind < 0) = false := decide_eq_false hk
    have CF := Lib.hid (fun W => fields_any t.kind t.name t.n t.text t.l t.r W)
    go_wp2_with fail
    refine (CF.out _).mono ?_
    rintro e w1 ⟨rfl, hb1⟩
    have hK1 : Kb (fun i => i = g) w w1 := ((Kb.refl _ _).alloc _).trans (Kb.of_below hb1)
    have hB0 := Lib.hid (Blk.belowS (Blk.new w #[.int .i64 t.kind, .string t.name, .int .i64 t.n, .string t.text, .int .i64 t.l, .int .i64 t.r] 51) hb1)
    have HB1 := Lib.hid hb1
    have HK1 := Lib.hid hK1
    have hsz := hb1.size
    simp only [World.size_alloc] at hsz
    clear hb1 hK1
    rcases hf : fldF t with _ | _
    · have HF := Lib.hid hf
      have hf' : fldF ⟨t.kind, t.name, t.n, t.text, t.l, t.r⟩ = false := hf
      clear hf
      go_wp2_with fail
      go_ret
      exact wpost_none HK1.out (walk_nokids (kids_bad HT.out (.inr HF.out))) rfl
    have hf' : fldF ⟨t.kind, t.name, t.n, t.text, t.l, t.r⟩ = true := hf
    have HF := Lib.hid hf
    clear hf
    have hW1 : MayW w1 l (some ⟨b, o, none⟩) c bl bm bw g met tb := HW.out.kb (((Kb.refl _ _).alloc _).trans (Kb.of_below HB1.out))
    clear c0 c1 c2 c3 c4 c5 x1 x2 x3 x4
    have y2 : w1.cell? ⟨bm, 0, none⟩ = some (.slice (some ⟨g, 0, none⟩) l.length l.length) := hW1.hbm.cell 0
    have y4 : w1.cell? ⟨g, a, none⟩ = some (.bool (met a)) := (hW1.hg.cell a).trans (bools_get hal)
    have z4 : w1.frozen? ⟨g, a, none⟩ = false := hW1.hg.frozen a
    have d4 : w1.cell? ⟨w.heap.size, 4, none⟩ = some (.int .i64 t.l) := hB0.out.cell 4
    have d5 : w1.cell? ⟨w.heap.size, 5, none⟩ = some (.int .i64 t.r) := hB0.out.cell 5
    have hne : ¬ (g = w.heap.size) := by omega
    have hW2 := Lib.hid (((hW1.mark a).kb ((Kb.refl _ _).alloc (.cells #[.int .i64 t.l, .int .i64 t.r] 3))))
    clear hW1
    have hA := Lib.hid (Blk.new (w1.setCell ⟨g, a, none⟩ (.bool true)) #[.int .i64 t.l, .int .i64 t.r] 3)
    have hQ : w1.heap.size = (w1.setCell ⟨g, a, none⟩ (.bool true)).heap.size := by simp
    rw [← hQ] at hA
    have hK2 := Lib.hid ((HK1.out.set_ (p := ⟨g, a, none⟩) (.inr rfl) (.bool true)).alloc (.cells #[.int .i64 t.l, .int .i64 t.r] 3))
    clear hQ
    have HL : Hid (Tm.walk (kidsF l) 24 (f + 1) met a d = (kidsF l a).bind fun cs => cs.foldlM (fun m c => Tm.walk (kidsF l) 24 f m c (d + 1)) (fun j => j == a || met j)) := by
      cases hq : kidsF l a with
      | none => exact Lib.hid (walk_nokids hq)
      | some cs => exact Lib.hid (walk_kids HM.out hd24 hq)
    go_wp2_with fail
    clear y2 y4 z4 d4 d5 lt1 lt2 lt3 hne hf'
    generalize (w1.setCell ⟨g, a, none⟩ (.bool true)).alloc (.cells #[.int .i64 t.l, .int .i64 t.r] 3) = W at hA hW2 hK2 ⊢
    have hqg : w1.heap.size ≠ g := by omega
    generalize w1.heap.size = q at hA hqg ⊢
    have q0 : W.cell? ⟨q, 0, none⟩ = some (.int .i64 t.l) := hA.out.cell 0
    have q1 : W.cell? ⟨q, 1, none⟩ = some (.int .i64 t.r) := hA.out.cell 1
    have x3 : W.cell? ⟨bw, 0, none⟩ = some (.func (.func 40) #[] #[.pointer (some ⟨bl, 0, none⟩), .pointer (some ⟨bm, 0, none⟩), .pointer (some ⟨bw, 0, none⟩)]) := hW2.out.hbw.cell 0
    clear hsz lt4 hb
    have HI : Hid (∀ (k : Nat) (m : Nat → Bool) (W' : World), k < a → MayW W' l (some ⟨b, o, none⟩) c bl bm bw g m tb → Calls Tryz.prog 40 #[.int .i64 k, .int .i64 ((d : Int) + 1), .pointer (some ⟨bl, 0, none⟩), .pointer (some ⟨bm, 0, none⟩), .pointer (some ⟨bw, 0, none⟩)] W' (WalkPost l g f m k (d + 1) tb W')) := Lib.hid fun k m W' hk hm => ih k (d + 1) m W' (by omega) (by omega) (by omega) hm
    clear ih
    rcases ar_cases t.kind with ha | ha | ha | ha
    · omega
    · rw [kids_0 HT.out ha HF.out] at HL
      rw [ha]
      clear ek hk ha
      refine wp_loop_rounds 3 ?_
      rw [rounds_succ]
      by_cases hl1 : t.l = -1
      · rw [hl1] at q0
        by_cases hr1 : t.r = -1
        · rw [hr1] at q1
          have HL1 := Lib.hid (And.intro hl1 hr1)
          clear hl1 hr1
          go_wp2_with fail
          rw [rounds_succ]
          go_wp2_with fail
          rw [rounds_succ]
          go_wp2_with fail
          go_ret
          exact wpost_some hK2.out (by rw [HL.out, if_pos HL1.out]; rfl) rfl hW2.out.hg
        · have er : (t.r == -1) = false := by simpa using hr1
          have HL1 := Lib.hid (And.intro hl1 hr1)
          clear hl1 hr1
          go_wp2_with fail
          rw [rounds_succ]
          go_wp2_with fail
          go_ret
          exact wpost_none (hK2.out) (by rw [HL.out, if_neg (fun h => HL1.out.2 h.2)]; rfl) rfl
      · have er : (t.l == -1) = false := by simpa using hl1
        have HL1 := Lib.hid hl1
        clear hl1
        go_wp2_with fail
        go_ret
        exact wpost_none (hK2.out) (by rw [HL.out, if_neg (fun h => HL1.out h.1)]; rfl) rfl
    · rw [kids_1 HT.out ha HF.out] at HL
      rw [ha]
      clear ek hk ha
      refine wp_loop_rounds 3 ?_
      rw [rounds_succ]
      by_cases hl0 : t.l < 0
      · have e0 : decide (t.l < 0) = true := decide_eq_true hl0
        have HL1 := Lib.hid hl0
        clear hl0
        go_wp2_with fail
        go_ret
        exact wpost_none (hK2.out) (by rw [HL.out, if_neg (fun h => by have := HL1.out; omega)]; rfl) rfl
      have e0 : decide (t.l < 0) = false := decide_eq_false hl0
      by_cases hla : (a : Int) ≤ t.l
      · have e1 : decide ((a : Int) ≤ t.l) = true := decide_eq_true hla
        have HL1 := Lib.hid hla
        clear hla
        go_wp2_with fail
        go_ret
        exact wpost_none (hK2.out) (by rw [HL.out, if_neg (fun h => by have := HL1.out; omega)]; rfl) rfl
      have e1 : decide ((a : Int) ≤ t.l) = false := decide_eq_false hla
      obtain ⟨k, hk⟩ : ∃ k : Nat, t.l = k := ⟨t.l.toNat, by omega⟩
      have hka : k < a := by omega
      rw [hk] at q0 e0 e1
      have HL1 := Lib.hid hk
      have HT1 : t.l.toNat = k := by omega
      have HT2 := Lib.hid HT1
      clear hk hl0 hla HT1
      go_wp2_with fail
      refine (HI.out k _ _ hka hW2.out).mono ?_
      rintro e w3 ⟨hK3, hM⟩
      rcases hw : Tm.walk (kidsF l) 24 f (fun j => j == a || met j) k (d + 1) with _ | m1
      · rw [hw] at hM
        have hM : e = .returned (.bool false) := hM
        subst hM
        have HK3 := Lib.hid (Kb.trans hK2.out hK3)
        have HWK := Lib.hid hw
        clear hw hK3
        go_wp2_with fail
        go_ret
        exact wpost_none HK3.out (by
          rw [HL.out]
          split
          · simp only [Option.bind_some, List.foldlM_cons, HT2.out, HWK.out]; rfl
          · rfl) rfl
      rw [hw] at hM
      obtain ⟨rfl, hB3⟩ : e = .returned (.bool true) ∧ Blk w3 g (bools l.length m1) tb := hM
      have HK3 := Lib.hid (Kb.trans hK2.out hK3)
      have HW3 := Lib.hid (hW2.out.kbg hK3 hB3)
      have HA3 := Lib.hid (hA.out.kb hK3 hqg)
      have HWK := Lib.hid hw
      clear hw hK3 hB3 q0 q1 x3
      have q0 : w3.cell? ⟨q, 0, none⟩ = some (.int .i64 t.l) := HA3.out.cell 0
      have q1 : w3.cell? ⟨q, 1, none⟩ = some (.int .i64 t.r) := HA3.out.cell 1
      have x3 : w3.cell? ⟨bw, 0, none⟩ = some (.func (.func 40) #[] #[.pointer (some ⟨bl, 0, none⟩), .pointer (some ⟨bm, 0, none⟩), .pointer (some ⟨bw, 0, none⟩)]) := HW3.out.hbw.cell 0
      by_cases hr1 : t.r = -1
      · rw [hr1] at q1
        have HR1 := Lib.hid hr1
        clear hr1
        go_wp2_with fail
        rw [rounds_succ]
        go_wp2_with fail
        rw [rounds_succ]
        go_wp2_with fail
        go_ret
        exact wpost_some HK3.out (by rw [HL.out, if_pos ⟨by have := HL1.out; omega, by have := HL1.out; omega, HR1.out⟩]; simp only [Option.bind_some, List.foldlM_cons, HT2.out, HWK.out]; rfl) rfl HW3.out.hg
      · have er : (t.r == -1) = false := by simpa using hr1
        have HR1 := Lib.hid hr1
        clear hr1
        go_wp2_with fail
        rw [rounds_succ]
        go_wp2_with fail
        go_ret
        exact wpost_none (HK3.out) (by rw [HL.out, if_neg (fun h => HR1.out h.2.2)]; rfl) rfl
    · rw [kids_2 HT.out ha HF.out] at HL
      rw [ha]
      clear ek hk ha
      refine wp_loop_rounds 3 ?_
      rw [rounds_succ]
      by_cases hl0 : t.l < 0
      · have e0 : decide (t.l < 0) = true := decide_eq_true hl0
        have HL1 := Lib.hid hl0
        clear hl0
        go_wp2_with fail
        go_ret
        exact wpost_none (hK2.out) (by rw [HL.out, if_neg (fun h => by have := HL1.out; omega)]; rfl) rfl
      have e0 : decide (t.l < 0) = false := decide_eq_false hl0
      by_cases hla : (a : Int) ≤ t.l
      · have e1 : decide ((a : Int) ≤ t.l) = true := decide_eq_true hla
        have HL1 := Lib.hid hla
        clear hla
        go_wp2_with fail
        go_ret
        exact wpost_none (hK2.out) (by rw [HL.out, if_neg (fun h => by have := HL1.out; omega)]; rfl) rfl
      have e1 : decide ((a : Int) ≤ t.l) = false := decide_eq_false hla
      obtain ⟨k, hk⟩ : ∃ k : Nat, t.l = k := ⟨t.l.toNat, by omega⟩
      have hka : k < a := by omega
      rw [hk] at q0 e0 e1
      have HL1 := Lib.hid hk
      have HT1 : t.l.toNat = k := by omega
      have HT2 := Lib.hid HT1
      clear hk hl0 hla HT1
      go_wp2_with fail
      refine (HI.out k _ _ hka hW2.out).mono ?_
      rintro e w3 ⟨hK3, hM⟩
      rcases hw : Tm.walk (kidsF l) 24 f (fun j => j == a || met j) k (d + 1) with _ | m1
      · rw [hw] at hM
        have hM : e = .returned (.bool false) := hM
        subst hM
        have HK3 := Lib.hid (Kb.trans hK2.out hK3)
        have HWK := Lib.hid hw
        clear hw hK3
        go_wp2_with fail
        go_ret
        exact wpost_none HK3.out (by
          rw [HL.out]
          split
          · simp only [Option.bind_some, List.foldlM_cons, HT2.out, HWK.out]; rfl
          · rfl) rfl
      rw [hw] at hM
      obtain ⟨rfl, hB3⟩ : e = .returned (.bool true) ∧ Blk w3 g (bools l.length m1) tb := hM
      have HK3 := Lib.hid (Kb.trans hK2.out hK3)
      have HW3 := Lib.hid (hW2.out.kbg hK3 hB3)
      have HA3 := Lib.hid (hA.out.kb hK3 hqg)
      have HWK := Lib.hid hw
      clear hw hK3 hB3 q0 q1 x3
      have q0 : w3.cell? ⟨q, 0, none⟩ = some (.int .i64 t.l) := HA3.out.cell 0
      have q1 : w3.cell? ⟨q, 1, none⟩ = some (.int .i64 t.r) := HA3.out.cell 1
      have x3 : w3.cell? ⟨bw, 0, none⟩ = some (.func (.func 40) #[] #[.pointer (some ⟨bl, 0, none⟩), .pointer (some ⟨bm, 0, none⟩), .pointer (some ⟨bw, 0, none⟩)]) := HW3.out.hbw.cell 0
      clear e0 e1
      by_cases hr0 : t.r < 0
      · have e0 : decide (t.r < 0) = true := decide_eq_true hr0
        have HR1 := Lib.hid hr0
        clear hr0
        go_wp2_with fail
        rw [rounds_succ]
        go_wp2_with fail
        go_ret
        exact wpost_none (HK3.out) (by rw [HL.out, if_neg (fun h => by have := HR1.out; omega)]; rfl) rfl
      have e0 : decide (t.r < 0) = false := decide_eq_false hr0
      by_cases hra : (a : Int) ≤ t.r
      · have e1 : decide ((a : Int) ≤ t.r) = true := decide_eq_true hra
        have HR1 := Lib.hid hra
        clear hra
        go_wp2_with fail
        rw [rounds_succ]
        go_wp2_with fail
        go_ret
        exact wpost_none (HK3.out) (by rw [HL.out, if_neg (fun h => by have := HR1.out; omega)]; rfl) rfl
      have e1 : decide ((a : Int) ≤ t.r) = false := decide_eq_false hra
      obtain ⟨n, hn⟩ : ∃ n : Nat, t.r = n := ⟨t.r.toNat, by omega⟩
      have hna : n < a := by omega
      rw [hn] at q1 e0 e1
      have HR1 := Lib.hid hn
      have HT3 := Lib.hid (show t.r.toNat = n by omega)
      clear hn hr0 hra
      have HKN : Hid (k < a) := Lib.hid hka
      go_wp2_with fail
      rw [rounds_succ]
      go_wp2_with fail
      refine (HI.out n _ _ hna HW3.out).mono ?_
      rintro e w4 ⟨hK4, hM⟩
      have hL2 : (if 0 ≤ t.l ∧ t.l < a ∧ 0 ≤ t.r ∧ t.r < a then some [t.l.toNat, t.r.toNat] else none) = some [k, n] := by rw [if_pos (by have := HL1.out; have := HR1.out; omega), HT2.out, HT3.out]
      rw [hL2] at HL
      clear hL2
      rcases hw : Tm.walk (kidsF l) 24 f m1 n (d + 1) with _ | m2
      · rw [hw] at hM
        have hM : e = .returned (.bool false) := hM
        subst hM
        have HK4 := Lib.hid (Kb.trans HK3.out hK4)
        have HWN := Lib.hid hw
        clear hw hK4
        go_wp2_with fail
        go_ret
        exact wpost_none HK4.out (by rw [HL.out]; simp only [bind, Option.bind_some, List.foldlM_cons, HWK.out, HWN.out]; rfl) rfl
      rw [hw] at hM
      obtain ⟨rfl, hB4⟩ : e = .returned (.bool true) ∧ Blk w4 g (bools l.length m2) tb := hM
      have HK4 := Lib.hid (Kb.trans HK3.out hK4)
      have HB4 := Lib.hid hB4
      have HWN := Lib.hid hw
      clear hw hK4 hB4
      go_wp2_with fail
      rw [rounds_succ]
      go_wp2_with fail
      go_ret
      exact wpost_some HK4.out (by rw [HL.out]; simp only [bind, Option.bind_some, List.foldlM_cons, HWK.out, HWN.out]; rfl) rfl HB4.out
theorem infoBool : (Tryz.prog.info? 4).map (fun i => (i.zero, i.size, i.bytes)) = some (some (.bool false), 1, 1) := by kernel_rfl
theorem run_bools (w : World) (n : Nat) (hn : n ≤ 1000000) :
    (Instr.makeSlice 95 (.int .i64 n) (.int .i64 n)).run Tryz.prog w = .ok (.slice (some ⟨w.heap.size, 0, none⟩) n n) (w.alloc (.cells (bools n fun _ => false) 4)) := by
  obtain ⟨i0, hi0, hz0, hz1, hz2⟩ := info_parts infoBool
  have h := run_make (P := Tryz.prog) w 95 4 i0 _ Tryz.underlying95 hi0 hz0 .i64 .i64 n n (by omega) (by omega) (by rw [hz2]; omega) (by omega)
  rw [h]
  simp only [Int.toNat_natCast, hz1, Nat.mul_one]
  rw [bools_false]
  have e : madeCells (Value.bool false).cells n = Array.replicate n (.bool false) := by
    apply Array.toList_inj.1
    rw [show (Value.bool false).cells = #[.bool false] from rfl, toList_madeCells_one, Array.toList_replicate]
  rw [e]
theorem blk_next {w : World} {n : Nat} (h : w.heap.size = n) (cs : Array Value) (t : TypeId) : Blk (w.alloc (.cells cs t)) n cs t := h ▸ Blk.new w cs t
theorem mayW_start (w : World) (l : List Tm) (A : Option Addr) (c : Nat) (hr : Tms w A l) (h0 : 0 < l.length) :
    MayW ((((w.alloc (.cells #[.slice A l.length c] 22)).alloc (.cells (bools l.length fun _ => false) 4)).alloc (.cells #[.slice (some ⟨w.heap.size + 1, 0, none⟩) l.length l.length] 95)).alloc
      (.cells #[.func (.func 40) #[] #[.pointer (some ⟨w.heap.size, 0, none⟩), .pointer (some ⟨w.heap.size + 1 + 1, 0, none⟩), .pointer (some ⟨w.heap.size + 1 + 1 + 1, 0, none⟩)]] 96))
      l A c w.heap.size (w.heap.size + 1 + 1) (w.heap.size + 1 + 1 + 1) (w.heap.size + 1) (fun _ => false) 4 :=
  ⟨(((Rd.alloc hr _).alloc _).alloc _).alloc _, (((Blk.new w _ _).alloc _).alloc _).alloc _, (blk_next (by simp) _ _).alloc _, blk_next (by simp) _ _, ((blk_next (by simp) _ _).alloc _).alloc _, fun b o e => by
    subst e
    obtain ⟨b', o', e, hb, _⟩ := Rd.at_ hr (i := 0) (by rw [flat_len _ 6 tm_len]; omega)
    injection e with e; injection e with e; omega, by omega, by omega, by omega⟩
set_option maxRecDepth 100000 in
set_option maxHeartbeats 8000000 in
theorem may_any (l : List Tm) (A : Option Addr) (c : Nat) (root : Int) (w : World) (hr : Tms w A l) (hl : l.length ≤ 1000000) :
    Calls Tryz.prog 20 #[.slice A l.length c, .int .i64 root] w fun e w' => e = .returned (.bool (tmF l root)) ∧ Below w.heap.size w w' := by
  by_cases h1 : 160 < l.length
  · have e1 : decide ((160 : Int) < (l.length : Int)) = true := decide_eq_true (by omega)
    have HR := Lib.hid h1
    clear h1
    go_enter Tryz.func20, Tryz.ntmps20
    go_wp2_with fail
    go_ret
    refine ⟨ret_bool ?_, (Below.refl _ _).alloc (Nat.le_refl _) _⟩
    unfold tmF
    rw [decide_eq_false (by have := HR.out; omega)]
    rfl
  have e1 : decide ((160 : Int) < (l.length : Int)) = false := decide_eq_false (by omega)
  by_cases h2 : root < 0
  · have e2 : decide (root < 0) = true := decide_eq_true h2
    have HR := Lib.hid h2
    clear h2
    go_enter Tryz.func20, Tryz.ntmps20
    go_wp2_with fail
    go_ret
    refine ⟨ret_bool ?_, (Below.refl _ _).alloc (Nat.le_refl _) _⟩
    unfold tmF
    rw [decide_eq_false (by have := HR.out; omega)]
    rfl
  obtain ⟨k, rfl⟩ : ∃ k : Nat, root = k := ⟨root.toNat, by omega⟩
  have e2 : decide ((k : Int) < 0) = false := decide_eq_false h2
  by_cases h3 : l.length ≤ k
  · have e3 : decide ((l.length : Int) ≤ (k : Int)) = true := decide_eq_true (by omega)
    have HR := Lib.hid h3
    clear h3
    go_enter Tryz.func20, Tryz.ntmps20
    go_wp2_with fail
    go_ret
    refine ⟨ret_bool ?_, (Below.refl _ _).alloc (Nat.le_refl _) _⟩
    unfold tmF
    rw [decide_eq_false (by have := HR.out; omega)]
    rfl
  have e3 : decide ((l.length : Int) ≤ (k : Int)) = false := decide_eq_false (by omega)
  have HR := Lib.hid hr
  have HM := Lib.hid (fun W => run_bools W l.length hl)
  have hmk := HM.out (w.alloc (.cells #[.slice A l.length c] 22))
  clear HM hr
  go_enter Tryz.func20, Tryz.ntmps20
  go_wp2_with fail
  have hW := mayW_start w l A c HR.out (by omega)
  refine (may1_any l A c _ _ _ _ _ (k + 1) k 1 (fun _ => false) _ (by omega) (by omega) (by omega) hW).mono ?_
  rintro e w3 ⟨hK, hM⟩
  have hB : Below w.heap.size w w3 := (((((Below.refl _ w).alloc (Nat.le_refl _) _).alloc (by simp) _).alloc (by simp <;> omega) _).alloc (by simp <;> omega) _).trans (hK.below (by omega) (by simp; omega))
  have HB := Lib.hid hB
  have ht : tmF l k = (Tm.walk (kidsF l) 24 (k + 1) (fun _ => false) k 1).isSome := by
    unfold tmF
    rw [decide_eq_true (by omega)]
    rfl
  have HT := Lib.hid ht
  clear hK hB hW hmk ht
  rcases hw : Tm.walk (kidsF l) 24 (k + 1) (fun _ => false) k 1 with _ | m1
  · rw [hw] at hM
    have hM : e = .returned (.bool false) := hM
    subst hM
    have HWK := Lib.hid hw
    clear hw
    go_wp2_with fail
    go_ret
    exact ⟨ret_bool (by rw [HT.out, HWK.out]; rfl), HB.out⟩
  · rw [hw] at hM
    obtain ⟨rfl, hB3⟩ : e = .returned (.bool true) ∧ Blk w3 (w.heap.size + 1) (bools l.length m1) 4 := hM
    have HWK := Lib.hid hw
    clear hw hB3
    go_wp2_with fail
    go_ret
    exact ⟨ret_bool (by rw [HT.out, HWK.out]; rfl), HB.out⟩
end Go.Proofs.YtbemdcbglpjmiaaGreatDoor
