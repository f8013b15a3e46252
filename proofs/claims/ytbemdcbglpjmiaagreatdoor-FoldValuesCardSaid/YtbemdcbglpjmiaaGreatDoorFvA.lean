/- Values of names: contracts: reparteeref1.DataMay, CopyValue, hold, leaf. (Env as in the notes' texts.) -/
import Derived.Test.YtbemdcbglpjmiaaGreatDoorFoJ
import Derived.Test.YtbemdcbglpjmiaaGreatDoorFoU
namespace Go.Proofs.YtbemdcbglpjmiaaGreatDoor
open Go.RowKit

/-- May a value of the kind k be, with the number n, the text s, a list of so many? -/
def dataF (k n : Int) (s : ByteArray) (len : Nat) : Bool :=
  if k = 0 then decide (n = 0) && (s.toList == []) && decide (len = 0)
  else if k = 1 then (s.toList == []) && decide (len = 0)
  else if k = 2 then (decide (n = 0) || decide (n = 1)) && (s.toList == []) && decide (len = 0)
  else if k = 3 then decide (s.size ≤ 24) && decide (n = 0) && decide (len = 0)
  else if k = 4 then decide (len ≤ 16) && decide (n = 0) && (s.toList == [])
  else if k = 5 then !(s.toList == []) && decide (0 ≤ n) && decide (n < 5) && decide (len = 0)
  else false
set_option maxRecDepth 100000 in
set_option maxHeartbeats 8000000 in
theorem rdataMay_any (k m : Int) (s : ByteArray) (A : Option Addr) (len c : Nat) (w : World) :
    Calls Tryz.prog 126 #[.agg #[.int .i64 k, .int .i64 m, .string s, .slice A len c]] w fun e w' => e = .returned (.bool (dataF k m s len)) ∧ Below w.heap.size w w' := by
  have BF := Lib.hid (below_allocS (Below.refl _ _) (.cells #[.int .i64 k, .int .i64 m, .string s, .slice A len c] 31) : Below w.heap.size w _)
  by_cases h0 : k = 0
  · subst h0
    go_enter Tryz.func126, Tryz.ntmps126
    go_wp2
    all_goals
      go_ret
      refine ⟨ret_bool ?_, below_allocS (Below.refl _ _) _⟩
      simp only [dataF, Int.reduceEq, if_true, if_false]
      simp_all
      try first
        | omega
        | (rw [Bool.eq_iff_iff]; simp <;> omega)
  by_cases h1 : k = 1
  · subst h1
    go_enter Tryz.func126, Tryz.ntmps126
    go_wp2
    all_goals
      go_ret
      refine ⟨ret_bool ?_, below_allocS (Below.refl _ _) _⟩
      simp only [dataF, Int.reduceEq, if_true, if_false]
      simp_all
      try first
        | omega
        | (rw [Bool.eq_iff_iff]; simp <;> omega)
  by_cases h2 : k = 2
  · subst h2
    go_enter Tryz.func126, Tryz.ntmps126
    go_wp2
    all_goals
      go_ret
      refine ⟨ret_bool ?_, below_allocS (Below.refl _ _) _⟩
      simp only [dataF, Int.reduceEq, if_true, if_false]
      simp_all
      try first
        | omega
        | (rw [Bool.eq_iff_iff]; simp <;> omega)
  by_cases h3 : k = 3
  · subst h3
    go_enter Tryz.func126, Tryz.ntmps126
    go_wp2
    all_goals
      go_ret
      refine ⟨ret_bool ?_, below_allocS (Below.refl _ _) _⟩
      simp only [dataF, Int.reduceEq, if_true, if_false]
      simp_all
      try first
        | omega
        | (rw [Bool.eq_iff_iff]; simp <;> omega)
  by_cases h4 : k = 4
  · subst h4
    go_enter Tryz.func126, Tryz.ntmps126
    go_wp2
    all_goals
      go_ret
      refine ⟨ret_bool ?_, below_allocS (Below.refl _ _) _⟩
      simp only [dataF, Int.reduceEq, if_true, if_false]
      simp_all
      try first
        | omega
        | (rw [Bool.eq_iff_iff]; simp <;> omega)
  by_cases h5 : k = 5
  · subst h5
    go_enter Tryz.func126, Tryz.ntmps126
    go_wp2
    all_goals
      go_ret
      refine ⟨ret_bool ?_, below_allocS (Below.refl _ _) _⟩
      simp only [dataF, Int.reduceEq, if_true, if_false]
      simp_all
      try first
        | omega
        | (rw [Bool.eq_iff_iff]; simp <;> omega)
  have k0 : (k == 0) = false := by simp; exact h0
  have k1 : (k == 1) = false := by simp; exact h1
  have k2 : (k == 2) = false := by simp; exact h2
  have k3 : (k == 3) = false := by simp; exact h3
  have k4 : (k == 4) = false := by simp; exact h4
  have k5 : (k == 5) = false := by simp; exact h5
  have hd : dataF k m s len = false := by unfold dataF; rw [if_neg h0, if_neg h1, if_neg h2, if_neg h3, if_neg h4, if_neg h5]
  have HD := Lib.hid hd
  clear hd
  go_enter Tryz.func126, Tryz.ntmps126
  go_wp2
  go_ret
  exact ⟨ret_bool HD.out.symm, BF.out⟩
/-- A variable and its value. -/
structure Bd where
  name : ByteArray
  v : Vl
deriving DecidableEq
def bdCells (b : Bd) (r : Option Addr × Nat) : List Value := [.string b.name, .int .i64 b.v.kind, .int .i64 b.v.n, .string b.v.s, .slice r.1 b.v.l.length r.2]
def bdRow (l : List Bd) (R : List (Option Addr × Nat)) : List Value := (l.zip R).flatMap fun x => bdCells x.1 x.2
/-- A row of variables lies there. -/
def Env (w : World) (A : Option Addr) (l : List Bd) : Prop :=
  ∃ R : List (Option Addr × Nat), R.length = l.length ∧ Rd w A (bdRow l R) ∧ ∀ (i : Nat) b r, l[i]? = some b → R[i]? = some r → Ints w r.1 b.v.l
theorem bdRow_len (l : List Bd) (R : List (Option Addr × Nat)) (h : R.length = l.length) : (bdRow l R).length = l.length * 5 := by
  induction l generalizing R with
  | nil => rfl
  | cons a t ih =>
    cases R with
    | nil => simp at h
    | cons r R =>
      have e : bdRow (a :: t) (r :: R) = bdCells a r ++ bdRow t R := rfl
      rw [e, List.length_append, ih R (by simpa using h), List.length_cons]
      show 5 + _ = _
      omega
theorem bdRow_get (l : List Bd) (R : List (Option Addr × Nat)) (h : R.length = l.length) (k m : Nat) (hk : k < l.length) (hm : m < 5) : (bdRow l R)[k * 5 + m]? = (bdCells l[k] (R[k]'(by omega)))[m]? := by
  induction l generalizing R k with
  | nil => simp at hk
  | cons a t ih =>
    cases R with
    | nil => simp at h
    | cons r R =>
      have e : bdRow (a :: t) (r :: R) = bdCells a r ++ bdRow t R := rfl
      have el : (bdCells a r).length = 5 := rfl
      rw [e]
      cases k with
      | zero => rw [List.getElem?_append_left (by omega)]; simp
      | succ k =>
        rw [List.getElem?_append_right (by omega), el, show (k + 1) * 5 + m - 5 = k * 5 + m by omega]
        exact ih R (by simpa using h) k (by simpa using hk)
theorem Env.below {w w' : World} {A : Option Addr} {l : List Bd} (h : Env w A l) (hb : Below w.heap.size w w') : Env w' A l := by
  obtain ⟨R, h1, h2, h3⟩ := h
  exact ⟨R, h1, h2.below hb, fun i b r hi hr => (h3 i b r hi hr).below hb⟩
theorem env_at {w : World} {A : Option Addr} {l : List Bd} (h : Env w A l) : ∃ F : Nat → Option Addr × Nat, ∀ k, (hk : k < l.length) → ∃ bb off, A = some ⟨bb, off, none⟩ ∧ bb < w.heap.size ∧ Ints w (F k).1 l[k].v.l ∧
      ∀ j, (hj : j < l.length) → w.cell? ⟨bb, off + j * 5, none⟩ = some (.string l[j].name) ∧ w.cell? ⟨bb, off + j * 5 + 1, none⟩ = some (.int .i64 l[j].v.kind) ∧ w.cell? ⟨bb, off + j * 5 + 2, none⟩ = some (.int .i64 l[j].v.n) ∧
        w.cell? ⟨bb, off + j * 5 + 3, none⟩ = some (.string l[j].v.s) ∧ w.cell? ⟨bb, off + j * 5 + 4, none⟩ = some (.slice (F j).1 l[j].v.l.length (F j).2) := by
  obtain ⟨R, h1, h2, h3⟩ := h
  refine ⟨fun j => R[j]?.getD (none, 0), fun k hk => ?_⟩
  obtain ⟨bb, off, e, hb, hc⟩ := h2.at_ (i := k * 5) (by rw [bdRow_len l R h1]; omega)
  have hR : ∀ j, (hj : j < l.length) → R[j]?.getD (none, 0) = R[j]'(by omega) := fun j hj => by rw [List.getElem?_eq_getElem (by omega)]; rfl
  refine ⟨bb, off, e, hb, ?_, fun j hj => ?_⟩
  · show Ints w (R[k]?.getD (none, 0)).1 l[k].v.l
    rw [hR k hk]
    exact h3 k _ _ (List.getElem?_eq_getElem hk) (List.getElem?_eq_getElem (by omega))
  · dsimp only
    rw [hR j hj]
    have g := fun m hm => bdRow_get l R h1 j m hj hm
    have k0 := hc (j * 5 + 0) _ ((g 0 (by omega)).trans rfl)
    have k1 := hc (j * 5 + 1) _ ((g 1 (by omega)).trans rfl)
    have k2 := hc (j * 5 + 2) _ ((g 2 (by omega)).trans rfl)
    have k3 := hc (j * 5 + 3) _ ((g 3 (by omega)).trans rfl)
    have k4 := hc (j * 5 + 4) _ ((g 4 (by omega)).trans rfl)
    rw [← Nat.add_assoc] at k0 k1 k2 k3 k4
    exact ⟨k0, k1, k2, k3, k4⟩
theorem data_ok {v : Vl} (h : dataF v.kind v.n v.s v.l.length = true) : VlOk v := by
  unfold dataF at h
  refine ⟨fun q => ?_, fun q => ?_, ?_⟩
  · rw [if_neg (by omega), if_neg (by omega), if_pos q] at h
    simp at h
    exact h.1.1
  · rw [if_neg (by omega), if_neg (by omega), if_neg (by omega), if_pos q] at h
    simp at h
    omega
  · repeat' split at h
    all_goals first
      | (cases h; done)
      | (simp at h; rw [h.2]; simp; done)
      | (simp at h; omega)
/-- What a name holds. -/
def holdF (l : List Bd) (nm : ByteArray) : Option Vl := match l.find? (fun b => decide (b.name = nm)) with
  | none => none
  | some b => if dataF b.v.kind b.v.n b.v.s b.v.l.length then some b.v else none
theorem hold_none {l : List Bd} {nm : ByteArray} (h : ∀ (j : Nat) (b : Bd), l[j]? = some b → b.name ≠ nm) : holdF l nm = none := by
  unfold holdF
  have : l.find? (fun b => decide (b.name = nm)) = none := by
    rw [List.find?_eq_none]
    intro b hb
    obtain ⟨j, hj, rfl⟩ := List.getElem_of_mem hb
    simpa using h j _ (List.getElem?_eq_getElem hj)
  rw [this]
theorem hold_some {l : List Bd} {nm : ByteArray} {k : Nat} {b : Bd} (hk : l[k]? = some b) (h : ∀ (j : Nat) (b : Bd), j < k → l[j]? = some b → b.name ≠ nm) (hn : b.name = nm) : holdF l nm = if dataF b.v.kind b.v.n b.v.s b.v.l.length then some b.v else none := by
  unfold holdF
  obtain ⟨hk2, rfl⟩ := List.getElem?_eq_some_iff.1 hk
  have : l.find? (fun b => decide (b.name = nm)) = some l[k] := by
    rw [List.find?_eq_some_iff_getElem]
    exact ⟨by simpa using hn, k, hk2, rfl, fun j hj => by simpa using h j _ hj (List.getElem?_eq_getElem (by omega))⟩
  rw [this]
theorem env_one {w : World} {A : Option Addr} {l : List Bd} (h : Env w A l) {k : Nat} (hk : k < l.length) : ∃ (b : Bd) (bb off : Nat) (r : Option Addr) (c : Nat), l[k]? = some b ∧ A = some ⟨bb, off, none⟩ ∧ bb < w.heap.size ∧ Ints w r b.v.l ∧
    w.cell? ⟨bb, off + k * 5, none⟩ = some (.string b.name) ∧ w.cell? ⟨bb, off + k * 5 + 1, none⟩ = some (.int .i64 b.v.kind) ∧ w.cell? ⟨bb, off + k * 5 + 2, none⟩ = some (.int .i64 b.v.n) ∧
    w.cell? ⟨bb, off + k * 5 + 3, none⟩ = some (.string b.v.s) ∧ w.cell? ⟨bb, off + k * 5 + 4, none⟩ = some (.slice r b.v.l.length c) := by
  obtain ⟨F, hF⟩ := env_at h
  obtain ⟨bb, off, h1, h2, h3, h4⟩ := hF k hk
  exact ⟨l[k], bb, off, (F k).1, (F k).2, List.getElem?_eq_getElem hk, h1, h2, h3, h4 k hk⟩
theorem hold_ok {l : List Bd} {nm : ByteArray} {v : Vl} (h : holdF l nm = some v) : VlOk v := by
  unfold holdF at h
  split at h
  · cases h
  · split at h
    · cases h
      exact data_ok ‹_›
    · cases h
def CopyPost (x : Vl) (w : World) (e : Ending) (w' : World) : Prop :=
  ∃ A c, e = .returned (.agg #[.int .i64 x.kind, .int .i64 x.n, .string x.s, .slice A x.l.length c]) ∧ Below w.heap.size w w' ∧ EvIs (some x) w w' x.kind x.n x.s A x.l.length c 0
theorem cp_mid {w w2 : World} {cs : Array Value} {L : List Int} {A2 : Option Addr} {c2 : Nat} (ho : w2.ownsRow (w.heap.size + 2) 2 1 (.slice A2 (0 + L.length) c2) (0 + L.length) ([] ++ L.map (Value.int .i64)))
    (hg : ((w.alloc (.cells cs 31)).alloc (.cells zeroC 31)).grownBy w2 (Value.slice none 0 0).ownBlock) :
    Blk w2 w.heap.size cs 31 ∧ Blk w2 (w.heap.size + 1) zeroC 31 ∧ Below w.heap.size w w2 ∧ w2.ownsRow (w.heap.size + 2) 2 1 (.slice A2 L.length c2) L.length (L.map (Value.int .i64)) := by
  have hb : Below ((w.alloc (.cells cs 31)).alloc (.cells zeroC 31)).heap.size ((w.alloc (.cells cs 31)).alloc (.cells zeroC 31)) w2 := (Below.refl _ _).grown hg (Nat.le_refl _) (by simp [Value.ownBlock])
  exact ⟨((Blk.new w cs 31).alloc (.cells zeroC 31)).belowS hb, (blk_next (w := w.alloc (.cells cs 31)) (n := w.heap.size + 1) (by simp) zeroC 31).belowS hb,
    below_next (below_push (below_new w _) _) hb, by simpa using ho⟩
theorem cp_end {w w2 : World} {x : Vl} {A2 : Option Addr} {c2 : Nat} (hb : Below w.heap.size w w2) (ho : w2.ownsRow (w.heap.size + 2) 2 1 (.slice A2 x.l.length c2) x.l.length (x.l.map (Value.int .i64))) :
    CopyPost x w (.returned (.agg #[.int .i64 x.kind, .int .i64 x.n, .string x.s, .slice A2 x.l.length c2])) (((((w2.setCell ⟨w.heap.size, 3, none⟩ (.slice A2 x.l.length c2)).setCell ⟨w.heap.size + 1, 0, none⟩ (.int .i64 x.kind)).setCell ⟨w.heap.size + 1, 1, none⟩ (.int .i64 x.n)).setCell ⟨w.heap.size + 1, 2, none⟩ (.string x.s)).setCell ⟨w.heap.size + 1, 3, none⟩ (.slice A2 x.l.length c2)) := by
  have hk : Kb (fun j => j = w.heap.size ∨ j = w.heap.size + 1) w2 (((((w2.setCell ⟨w.heap.size, 3, none⟩ (.slice A2 x.l.length c2)).setCell ⟨w.heap.size + 1, 0, none⟩ (.int .i64 x.kind)).setCell ⟨w.heap.size + 1, 1, none⟩ (.int .i64 x.n)).setCell ⟨w.heap.size + 1, 2, none⟩ (.string x.s)).setCell ⟨w.heap.size + 1, 3, none⟩ (.slice A2 x.l.length c2)) :=
    kb_put (kb_put (kb_put (kb_put (kb_put (S := fun j => j = w.heap.size ∨ j = w.heap.size + 1) (Kb.refl _ _) (.inl rfl) _ _) (.inr rfl) _ _) (.inr rfl) _ _) (.inr rfl) _ _) (.inr rfl) _ _
  obtain ⟨_, _, e2, hc⟩ := own_shape ho
  cases e2
  refine ⟨A2, c2, rfl, below_put4 (below_put hb (Nat.le_refl _) 3 _) (by omega) _ _ _ _, rfl, rfl, rfl, rfl, rfl, ?_, hc, fun _ b o e => ?_⟩
  · refine ints_kb (own_rd ho) hk fun _ b o e q => ?_
    have := own_base ho e
    simp at this
    omega
  · have := own_base ho e
    simp at this
    omega
set_option maxRecDepth 100000 in
set_option maxHeartbeats 8000000 in
theorem copyVal_any (x : Vl) (A : Option Addr) (c : Nat) (w : World) (h : Ints w A x.l) (hl : x.l.length ≤ 1000000) : Calls Tryz.prog 127 #[.agg (vlC x.kind x.n x.s A x.l.length c)] w (CopyPost x w) := by
  obtain ⟨i0, hi0, hz0, hz1, hz2⟩ := info_parts infoI64
  have HR := Lib.hid (show Rd ((w.alloc (.cells (vlC x.kind x.n x.s A x.l.length c) 31)).alloc (.cells zeroC 31)) A (x.l.map (Value.int .i64)) from Rd.alloc (Rd.alloc h _) _)
  have HB := Lib.hid (below_push (below_new w (.cells (vlC x.kind x.n x.s A x.l.length c) 31)) (.cells zeroC 31))
  clear h
  go_enter Tryz.func127, Tryz.ntmps127
  go_wp2_with (at_builtin; refine wpList_app _ rfl _ _ _ rfl (w.heap.size + 2) 2 i0 _ 1 8 Tryz.underlying29 hi0 hz0 hz1 hz2 rfl (by omega) (.slice none 0 0) 0 [] rfl (World.ownsRow_nil _ _ _ _) A x.l.length c (x.l.map (Value.int .i64)) rfl HR.out (by simp) (by simp [Value.oneCell']) (by omega) (by unfold maxLen; omega) (by simp) ?_; intro A2 c2 w2 hle2 hown2 hg2 hat2; obtain ⟨hp1, hp2, hp3, hp4⟩ := cp_mid hown2 hg2; have k0 : w2.cell? ⟨w.heap.size, 0, none⟩ = some (.int .i64 x.kind) := hp1.cell 0; have k1 : w2.cell? ⟨w.heap.size, 1, none⟩ = some (.int .i64 x.n) := hp1.cell 1; have k2 : w2.cell? ⟨w.heap.size, 2, none⟩ = some (.string x.s) := hp1.cell 2; have k3 : w2.cell? ⟨w.heap.size, 3, none⟩ = some (.slice A x.l.length c) := hp1.cell 3; have f3 : w2.frozen? ⟨w.heap.size, 3, none⟩ = false := hp1.frozen 3; obtain ⟨⟨v0, v1, v2, v3⟩, u0, u1, u2, u3, hz⟩ := blk_facts hp2; have hz0 : w.heap.size < w2.heap.size := hp1.lt; have HE := Lib.hid (cp_end hp3 hp4); clear hown2 hg2 hat2 hle2 hp1 hp2 hp3 hp4)
  refine bodyPost_ret (v := .agg #[.int .i64 x.kind, .int .i64 x.n, .string x.s, .slice A2 x.l.length c2]) (by simp [results, Tryz.results127, go_sem, u0, u1, u2, u3]) rfl HE.out
set_option maxRecDepth 100000 in
set_option maxHeartbeats 8000000 in
theorem hold_any (l : List Bd) (E : Option Addr) (ec : Nat) (nm : ByteArray) (w : World) (h : Env w E l) (hl : l.length ≤ 1000) :
    Calls Tryz.prog 75 #[.slice E l.length ec, .string nm] w (EvPost (holdF l nm) w) := by
  have HF := Lib.hid (h.below (below_new w (.cells zeroC 31)))
  have K0 := Lib.hid (Blk.new w zeroC 31)
  clear h
  go_enter Tryz.func75, Tryz.ntmps75
  go_wp2_with fail
  go_loopw [6] (fun i wr => ∃ k : Nat, k ≤ l.length ∧ i = .int .i64 k ∧ wr = w.alloc (.cells zeroC 31) ∧ Hid (∀ (j : Nat) (b : Bd), j < k → l[j]? = some b → b.name ≠ nm)) (fun i _ => l.length - (intOf i).toNat)
  case atStart => exact ⟨0, by omega, rfl, rfl, Lib.hid fun j b hj => by omega⟩
  case round =>
    obtain ⟨k, hk, rfl, rfl, HNO⟩ := hrel
    by_cases hlt : k < l.length
    · obtain ⟨b, bb, off, r, cr, hbk, rfl, hbb, hints, c0, c1, c2, c3, c4⟩ := env_one HF.out hlt
      have HI := Lib.hid hints
      have HBK := Lib.hid hbk
      clear hints hbk
      by_cases hn : b.name = nm
      · have e1 : (b.name.toList == nm.toList) = true := by rw [hn]; simp
        have HH := Lib.hid (hold_some HBK.out HNO.out hn)
        have CD := Lib.hid (rdataMay_any b.v.kind b.v.n b.v.s r b.v.l.length cr (w.alloc (.cells zeroC 31)))
        clear hn
        go_wp2_with fail
        refine CD.out.mono ?_
        rintro e w1 ⟨rfl, hb1⟩
        have B1 := Lib.hid (below_next (below_new w (.cells zeroC 31)) hb1)
        have HI1 := Lib.hid (Rd.below HI.out hb1)
        obtain ⟨⟨f0, f1, f2, f3⟩, k0, k1, k2, k3, hz⟩ := blk_facts (K0.out.belowS hb1)
        have hbb1 : bb < w1.heap.size := Nat.lt_of_lt_of_le hbb hb1.size
        have d1 := (hb1.cell (p := ⟨bb, off + k * 5 + 1, none⟩) hbb).trans c1
        have d2 := (hb1.cell (p := ⟨bb, off + k * 5 + 2, none⟩) hbb).trans c2
        have d3 := (hb1.cell (p := ⟨bb, off + k * 5 + 3, none⟩) hbb).trans c3
        have d4 := (hb1.cell (p := ⟨bb, off + k * 5 + 4, none⟩) hbb).trans c4
        have J0 := Lib.hid (K0.out.belowS hb1)
        clear hb1 c0 c1 c2 c3 c4
        rcases hd : dataF b.v.kind b.v.n b.v.s b.v.l.length with _ | _
        · rw [hd] at HH
          have HH2 := Lib.hid HH.out
          clear hd HH
          go_wp2_with fail
          refine bodyPost_ret (v := .tuple #[.agg #[.int .i64 0, .int .i64 0, .string e0, .slice none 0 0], .int .i64 402]) (by simp [results, Tryz.results75, go_sem, e0, k0, k1, k2, k3]) rfl (ev_err 402 HH2.out rfl (by decide) (below_put4 B1.out (Nat.le_refl _) _ _ _ _))
        · have CC := Lib.hid (copyVal_any b.v r cr w1 HI1.out (by have := (data_ok hd).l; omega))
          rw [hd] at HH
          have HH2 := Lib.hid HH.out
          clear hd HH
          go_wp2_with fail
          refine CC.out.mono ?_
          rintro e w2 ⟨A2, c2, rfl, hb2, hev⟩
          have HB2 := Lib.hid hb2
          have HEV := Lib.hid hev
          clear f0 f1 f2 f3 k0 k1 k2 k3 hz
          obtain ⟨⟨f0, f1, f2, f3⟩, k0, k1, k2, k3, hz⟩ := blk_facts (J0.out.belowS hb2)
          clear hb2 hev d1 d2 d3 d4
          go_wp2_with fail
          refine bodyPost_ret (v := .tuple #[.agg #[.int .i64 b.v.kind, .int .i64 b.v.n, .string b.v.s, .slice A2 b.v.l.length c2], .int .i64 0]) (by simp [results, Tryz.results75, go_sem, k0, k1, k2, k3]) rfl ?_
          rw [HH2.out]
          exact ev_pass B1.out HB2.out HEV.out (Nat.le_refl _) J0.out.lt
      · have e1 : (b.name.toList == nm.toList) = false := by rw [toList_beq]; exact decide_eq_false hn
        have HN2 := Lib.hid hn
        clear hn
        go_wp2_with fail
        go_roundw
        case rel => exact ⟨k + 1, by omega, by go_num, by trivial, Lib.hid fun j b' hj hb' => by
          rcases Nat.lt_or_ge j k with h1 | h1
          · exact HNO.out j b' h1 hb'
          · obtain rfl : j = k := by omega
            obtain rfl : b' = b := Option.some.inj (hb'.symm.trans HBK.out)
            exact HN2.out⟩
        case measure => simp [intOf]; omega
    · have HH := Lib.hid (hold_none (l := l) (nm := nm) (fun j b hj => by
        have := (List.getElem?_eq_some_iff.1 hj).1
        exact HNO.out j b (by omega) hj))
      go_wp2_with fail
      refine bodyPost_ret (v := .tuple #[.agg #[.int .i64 0, .int .i64 0, .string e0, .slice none 0 0], .int .i64 401]) (by simp [results, Tryz.results75, go_sem, e0]) rfl (ev_err 401 HH.out rfl (by decide) (below_new _ _))
/-- What a leaf tells. -/
def lfE (l : List Bd) (t : Tm) : Option Vl := if t.kind = 0 then holdF l t.name else some (litV t)
set_option maxRecDepth 100000 in
set_option maxHeartbeats 8000000 in
theorem rleaf_any (l : List Bd) (E : Option Addr) (ec : Nat) (t : Tm) (hf : fldF t = true) (ha : arF t.kind = 0) (w : World) (h : Env w E l) (hl : l.length ≤ 1000) :
    Calls Tryz.prog 50 #[.agg (tmC t.kind t.name t.n t.text t.l t.r), .slice E l.length ec] w (EvPost (lfE l t) w) := by
  by_cases h0 : t.kind = 0
  · have HL := Lib.hid (show lfE l t = holdF l t.name by unfold lfE; rw [if_pos h0])
    have HE := Lib.hid (h.below (below_push (below_new w (.cells (tmC 0 t.name t.n t.text t.l t.r) 51)) (.cells zeroC 31)))
    have CH := Lib.hid (fun W hw => hold_any l E ec t.name W hw hl)
    have K0 := Lib.hid (blk_next (w := w.alloc (.cells (tmC 0 t.name t.n t.text t.l t.r) 51)) (n := w.heap.size + 1) (by simp) zeroC 31)
    have B2 := Lib.hid (below_push (below_new w (.cells (tmC 0 t.name t.n t.text t.l t.r) 51)) (.cells zeroC 31))
    rw [h0, HL.out]
    clear h0 h hf ha
    go_enter Tryz.func50, Tryz.ntmps50
    go_wp2_with fail
    refine (CH.out _ HE.out).mono ?_
    rintro e w1 ⟨i0, i1, s, Q, m', c', k, rfl, hb1, hi⟩
    obtain ⟨⟨f0, f1, f2, f3⟩, k0, k1, k2, k3, hz⟩ := blk_facts (K0.out.belowS hb1)
    have HI := Lib.hid hi
    have HB1 := Lib.hid hb1
    clear hi hb1
    go_wp2_with fail
    refine bodyPost_ret (v := .tuple #[.agg #[.int .i64 i0, .int .i64 i1, .string s, .slice Q m' c'], .int .i64 k]) (by simp [results, Tryz.results50, go_sem, k0, k1, k2, k3]) rfl ?_
    exact ev_pass B2.out HB1.out HI.out (by omega) (by simp)
  · have hli : isLit t = true := by
      unfold arF at ha
      unfold isLit
      split at ha
      · omega
      · split at ha
        · simp; omega
        · split at ha <;> omega
    rw [show lfE l t = some (litV t) by unfold lfE; rw [if_neg h0]]
    exact rleaf_lit t.kind t.name t.n t.text t.l t.r hli (fun h => by
      unfold fldF at hf
      rw [if_neg (by omega), if_neg (by omega), if_pos h] at hf
      simp at hf
      exact hf.2) E l.length ec w
theorem ok_all : ∀ {x : Tr}, x.Ok → x.All (fun t => fldF t = true ∧ arF t.kind = 0)
  | .nil, _ => trivial
  | .node _ _ _, ⟨h1, _, hx, hy⟩ => ⟨fun h => ⟨h1, h⟩, ok_all hx, ok_all hy⟩
/-- The same, none where the fields may not be. -/
def lfV (l : List Bd) (t : Tm) : Option Vl := if fldF t then lfE l t else none
theorem lfV_ok (l : List Bd) (t : Tm) (u : Vl) (h : lfV l t = some u) : VlOk u := by
  unfold lfV at h
  split at h
  · rename_i hf
    unfold lfE at h
    split at h
    · exact hold_ok h
    · cases h
      exact lit_vl hf
  · cases h
theorem lfV_at (l : List Bd) (t : Tm) (a b : Int) : lfV l (t.at_ a b) = lfV l t := rfl
theorem lfV_lit (l : List Bd) (t : Tm) (h : isLit t = true) (hf : fldF t = true) : lfV l t = some (litV t) := by
  unfold lfV lfE
  rw [if_pos hf]
  unfold isLit at h
  simp at h
  rw [if_neg (by omega)]
theorem lfV_eq (l : List Bd) (t : Tm) (hf : fldF t = true) : lfV l t = lfE l t := by unfold lfV; rw [if_pos hf]
end Go.Proofs.YtbemdcbglpjmiaaGreatDoor
