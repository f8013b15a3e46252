/- Contracts: packet.env, reparteeref36.envMay. -/
import Derived.Test.YtfaophiaiflecaaNtSame
import Derived.Test.YtfaophiaiflecaaHeld
import Derived.Deep.DeepCutAuto
namespace Go.Proofs.Ytfaophiaiflecaa
open Go.RowKit

/-- A variable and its value. -/
structure Bd where
  name : ByteArray
  v : Vl
deriving DecidableEq
def bdCells (b : Bd) (r : Option Addr × Nat) : List Value := [.string b.name, .int .i64 b.v.kind, .int .i64 b.v.n, .string b.v.s, .slice r.1 b.v.l.length r.2]
def bdRow (l : List Bd) (R : List (Option Addr × Nat)) : List Value := (l.zip R).flatMap fun x => bdCells x.1 x.2
/-- A row of variables lies there. -/
def Env (w : World) (A : Option Addr) (l : List Bd) : Prop :=
  ∃ R : List (Option Addr × Nat), R.length = l.length ∧ Rd w A (bdRow l R) ∧ ∀ (i : Nat) b r, l[i]? = some b → R[i]? = some r → Ints w r.1 b.v.l
theorem bdRow_len (l : List Bd) (R : List (Option Addr × Nat)) (h : R.length = l.length) : (bdRow l R).length = l.length * 5 := by
  induction l generalizing R with
  | nil => rfl
  | cons a t ih =>
    cases R with
    | nil => simp at h
    | cons r R =>
      have e : bdRow (a :: t) (r :: R) = bdCells a r ++ bdRow t R := rfl
      rw [e, List.length_append, ih R (by simpa using h), List.length_cons]
      show 5 + _ = _
      omega
theorem bdRow_get (l : List Bd) (R : List (Option Addr × Nat)) (h : R.length = l.length) (k m : Nat) (hk : k < l.length) (hm : m < 5) : (bdRow l R)[k * 5 + m]? = (bdCells l[k] (R[k]'(by omega)))[m]? := by
  induction l generalizing R k with
  | nil => simp at hk
  | cons a t ih =>
    cases R with
    | nil => simp at h
    | cons r R =>
      have e : bdRow (a :: t) (r :: R) = bdCells a r ++ bdRow t R := rfl
      have el : (bdCells a r).length = 5 := rfl
      rw [e]
      cases k with
      | zero => rw [List.getElem?_append_left (by omega)]; simp
      | succ k =>
        rw [List.getElem?_append_right (by omega), el, show (k + 1) * 5 + m - 5 = k * 5 + m by omega]
        exact ih R (by simpa using h) k (by simpa using hk)
theorem Env.below {w w' : World} {A : Option Addr} {l : List Bd} (h : Env w A l) (hb : Below w.heap.size w w') : Env w' A l := by
  obtain ⟨R, h1, h2, h3⟩ := h
  exact ⟨R, h1, h2.below hb, fun i b r hi hr => (h3 i b r hi hr).below hb⟩
theorem env_at {w : World} {A : Option Addr} {l : List Bd} (h : Env w A l) : ∃ F : Nat → Option Addr × Nat, ∀ k, (hk : k < l.length) → ∃ bb off, A = some ⟨bb, off, none⟩ ∧ bb < w.heap.size ∧ Ints w (F k).1 l[k].v.l ∧
      ∀ j, (hj : j < l.length) → w.cell? ⟨bb, off + j * 5, none⟩ = some (.string l[j].name) ∧ w.cell? ⟨bb, off + j * 5 + 1, none⟩ = some (.int .i64 l[j].v.kind) ∧ w.cell? ⟨bb, off + j * 5 + 2, none⟩ = some (.int .i64 l[j].v.n) ∧
        w.cell? ⟨bb, off + j * 5 + 3, none⟩ = some (.string l[j].v.s) ∧ w.cell? ⟨bb, off + j * 5 + 4, none⟩ = some (.slice (F j).1 l[j].v.l.length (F j).2) := by
  obtain ⟨R, h1, h2, h3⟩ := h
  refine ⟨fun j => R[j]?.getD (none, 0), fun k hk => ?_⟩
  obtain ⟨bb, off, e, hb, hc⟩ := h2.at_ (i := k * 5) (by rw [bdRow_len l R h1]; omega)
  have hR : ∀ j, (hj : j < l.length) → R[j]?.getD (none, 0) = R[j]'(by omega) := fun j hj => by rw [List.getElem?_eq_getElem (by omega)]; rfl
  refine ⟨bb, off, e, hb, ?_, fun j hj => ?_⟩
  · show Ints w (R[k]?.getD (none, 0)).1 l[k].v.l
    rw [hR k hk]
    exact h3 k _ _ (List.getElem?_eq_getElem hk) (List.getElem?_eq_getElem (by omega))
  · dsimp only
    rw [hR j hj]
    have g := fun m hm => bdRow_get l R h1 j m hj hm
    have k0 := hc (j * 5 + 0) _ ((g 0 (by omega)).trans rfl)
    have k1 := hc (j * 5 + 1) _ ((g 1 (by omega)).trans rfl)
    have k2 := hc (j * 5 + 2) _ ((g 2 (by omega)).trans rfl)
    have k3 := hc (j * 5 + 3) _ ((g 3 (by omega)).trans rfl)
    have k4 := hc (j * 5 + 4) _ ((g 4 (by omega)).trans rfl)
    rw [← Nat.add_assoc] at k0 k1 k2 k3 k4
    exact ⟨k0, k1, k2, k3, k4⟩
/-- Is the variable number k as it may be, behind the one ahead of it? -/
def envOk (l : List Bd) (k : Nat) : Bool := match l[k]? with
  | none => true
  | some b => nameF b.name && dataF b.v.kind b.v.n b.v.s b.v.l.length && (decide (k = 0) || match l[k - 1]? with | none => true | some a => Op.bytesLess a.name.toList b.name.toList)
def envF (l : List Bd) : Bool := (List.range l.length).all (envOk l) && decide (l.length ≤ 6)
theorem envF_true {l : List Bd} (h : ∀ j, j < l.length → envOk l j = true) : envF l = decide (l.length ≤ 6) := by
  unfold envF
  rw [List.all_eq_true.2 (fun j hj => h j (by simpa using hj))]
  rfl
theorem envF_false {l : List Bd} {k : Nat} (hk : k < l.length) (h : envOk l k = false) : envF l = false := by
  unfold envF
  rw [List.all_eq_false.2 ⟨k, by simpa using hk, by rw [h]; simp⟩]
  rfl
set_option maxRecDepth 100000 in
set_option maxHeartbeats 8000000 in
theorem env_any (A : Option Addr) (l : List Bd) (c : Nat) (w : World) (he : Env w A l) (hl : l.length ≤ 1000000000) :
    Calls Try.prog 37 #[.slice A l.length c] w fun e w' => e = .returned (.bool (envF l)) ∧ Below w.heap.size w w' := by
  have HE := Lib.hid he
  have CN := Lib.hid (fun s W => name_any s W)
  have CD := Lib.hid (fun k m s A len c W => dataMay_any k m s A len c W)
  clear he
  go_enter Try.func37, Try.ntmps37
  go_wp2_with fail
  go_loopw [7] (fun i wr => ∃ k : Nat, k ≤ l.length ∧ i = .int .i64 k ∧ Hid (∀ j, j < k → envOk l j = true) ∧ Hid (Below w.heap.size w wr)) (fun i _ => l.length - (intOf i).toNat)
  case atStart => exact ⟨0, by omega, rfl, Lib.hid (fun j h => by omega), Lib.hid (Below.refl _ _)⟩
  case round =>
    obtain ⟨k, hk, rfl, hok, hB⟩ := hrel
    by_cases hlt : k < l.length
    · obtain ⟨F, hF⟩ := env_at (HE.out.below hB.out)
      obtain ⟨bb, off, rfl, hbb, _, hcs⟩ := hF k hlt
      obtain ⟨c0, c1, c2, c3, c4⟩ := hcs k hlt
      have HCS := Lib.hid hcs
      have HOK := Lib.hid (show envOk l k = (nameF l[k].name && dataF l[k].v.kind l[k].v.n l[k].v.s l[k].v.l.length && (decide (k = 0) || match l[k - 1]? with | none => true | some a => Op.bytesLess a.name.toList l[k].name.toList)) by unfold envOk; rw [List.getElem?_eq_getElem hlt])
      have HNX := Lib.hid (fun (h : envOk l k = true) j (hj : j < k + 1) => show envOk l j = true by
        by_cases e : j = k
        · subst e; exact h
        · exact hok.out j (by omega))
      have HFALSE := Lib.hid (fun (h : envOk l k = false) => envF_false hlt h)
      have HAB := Lib.hid (show 0 < k → ∃ m a, k = m + 1 ∧ l[k - 1]? = some a ∧ wr.cell? ⟨bb, off + m * 5, none⟩ = some (.string a.name) from fun h => ⟨k - 1, l[k - 1]'(by omega), by omega, List.getElem?_eq_getElem (by omega), (hcs (k - 1) (by omega)).1⟩)
      clear hcs hF hok
      generalize l[k] = b at *
      generalize (F k).1 = vA at *
      generalize (F k).2 = vc at *
      have CNb := Lib.hid (fun W => CN.out b.name W)
      have CDb := Lib.hid (fun W => CD.out b.v.kind b.v.n b.v.s vA b.v.l.length vc W)
      rcases hn : nameF b.name with _ | _
      · have hr : envF l = false := HFALSE.out (by rw [HOK.out, hn]; rfl)
        have HR := Lib.hid hr
        rw [hn] at CNb
        clear hr HOK HFALSE HNX hn
        have HBX := Lib.hid (Blk.new wr #[.string b.name, .int .i64 b.v.kind, .int .i64 b.v.n, .string b.v.s, .slice vA b.v.l.length vc] 62)
        have BW1 := Lib.hid (below_allocS hB.out (.cells #[.string b.name, .int .i64 b.v.kind, .int .i64 b.v.n, .string b.v.s, .slice vA b.v.l.length vc] 62))
        have HBB := Lib.hid (show bb < (wr.alloc (.cells #[.string b.name, .int .i64 b.v.kind, .int .i64 b.v.n, .string b.v.s, .slice vA b.v.l.length vc] 62)).heap.size by simp; omega)
        go_upto_region 4 with fail
        generalize wr.alloc (.cells #[.string b.name, .int .i64 b.v.kind, .int .i64 b.v.n, .string b.v.s, .slice vA b.v.l.length vc] 62) = W1 at *
        have KS := Lib.hid (fun W (hb : Below W1.heap.size W1 W) => show Below W1.heap.size W1 W ∧ W.cell? ⟨wr.heap.size, 0, none⟩ = some (.string b.name) ∧ W.cell? ⟨wr.heap.size, 1, none⟩ = some (.int .i64 b.v.kind) ∧ W.cell? ⟨wr.heap.size, 2, none⟩ = some (.int .i64 b.v.n) ∧ W.cell? ⟨wr.heap.size, 3, none⟩ = some (.string b.v.s) ∧ W.cell? ⟨wr.heap.size, 4, none⟩ = some (.slice vA b.v.l.length vc) by
          obtain ⟨y0, y1, y2, y3, y4⟩ := blk5 (HBX.out.belowS hb)
          exact ⟨hb, y0, y1, y2, y3, y4⟩)
        obtain ⟨_, y0, y1, y2, y3, y4⟩ := KS.out W1 (Below.refl _ _)
        clear c0 c1 c2 c3 c4
        refine wp_region_noPanic ?_
        refine wp_region_held_drew (S := fun W => Below W1.heap.size W1 W ∧ W.cell? ⟨wr.heap.size, 0, none⟩ = some (.string b.name) ∧ W.cell? ⟨wr.heap.size, 1, none⟩ = some (.int .i64 b.v.kind) ∧ W.cell? ⟨wr.heap.size, 2, none⟩ = some (.int .i64 b.v.n) ∧ W.cell? ⟨wr.heap.size, 3, none⟩ = some (.string b.v.s) ∧ W.cell? ⟨wr.heap.size, 4, none⟩ = some (.slice vA b.v.l.length vc)) (by kernel_rfl) (KS.out _ ((Below.refl _ _).drew)) (fun hHeld => ?_)
        refine held_take (v := ?v1) 0 rfl (by kernel_rfl) (by kernel_rfl) (by kernel_rfl) (fun _ _ _ h => h) (by rfl) ?hy1 (by assumption) ?rest1
        case hy1 => (intro w hSw; (try dsimp only at hSw); go_simp; try with_reducible rfl)
        simp only [Act.put, List.setIfInBounds_toArray, List.set_cons_zero, List.set_cons_succ]
        refine held_take (v := ?v2) 1 rfl (by kernel_rfl) (by kernel_rfl) (by kernel_rfl) (fun _ _ _ h => h) (by rfl) ?hy2 (by assumption) ?rest2
        case hy2 => (intro w hSw; (try dsimp only at hSw); go_simp; try with_reducible rfl)
        simp only [Act.put, List.setIfInBounds_toArray, List.set_cons_zero, List.set_cons_succ]
        refine held_call 2 rfl (by kernel_rfl) (by rfl) (fun K hK => ?_)
        go_simp
        go_at_call 34
        refine (CNb.out _).mono ?_
        rintro e w' ⟨rfl, rfl⟩
        go_simp
        have hHeld := hHeld
        refine hK _ _ (by assumption) ?_
        clear hK K
        try simp only [Act.put, List.setIfInBounds_toArray, List.set_cons_zero, List.set_cons_succ]
        refine held_take (v := ?v4) 3 rfl (by kernel_rfl) (by kernel_rfl) (by kernel_rfl) (fun _ _ _ h => h) (by rfl) ?hy4 (by assumption) ?rest4
        case hy4 => (intro w hSw; (try dsimp only at hSw); go_simp; try with_reducible rfl)
        simp only [Act.put, List.setIfInBounds_toArray, List.set_cons_zero, List.set_cons_succ]
        refine held_take (v := ?v5) 4 rfl (by kernel_rfl) (by kernel_rfl) (by kernel_rfl) (fun _ _ _ h => h) (by rfl) ?hy5 (by assumption) ?rest5
        case hy5 => (intro w hSw; (try dsimp only at hSw); go_simp; try with_reducible rfl)
        simp only [Act.put, List.setIfInBounds_toArray, List.set_cons_zero, List.set_cons_succ]
        refine held_skip 5 rfl (by kernel_rfl) (by kernel_rfl) (by kernel_rfl) (fun _ _ _ h => h) (by rfl) (by assumption) ?_
        simp only [Act.put, List.setIfInBounds_toArray, List.set_cons_zero, List.set_cons_succ]
        refine held_skip 6 rfl (by kernel_rfl) (by kernel_rfl) (by kernel_rfl) (fun _ _ _ h => h) (by rfl) (by assumption) ?_
        simp only [Act.put, List.setIfInBounds_toArray, List.set_cons_zero, List.set_cons_succ]
        refine held_skip 7 rfl (by kernel_rfl) (by kernel_rfl) (by kernel_rfl) (fun _ _ _ h => h) (by rfl) (by assumption) ?_
        simp only [Act.put, List.setIfInBounds_toArray, List.set_cons_zero, List.set_cons_succ]
        refine held_skip 8 rfl (by kernel_rfl) (by kernel_rfl) (by kernel_rfl) (fun _ _ _ h => h) (by rfl) (by assumption) ?_
        simp only [Act.put, List.setIfInBounds_toArray, List.set_cons_zero, List.set_cons_succ]
        refine held_take (v := ?v10) 9 rfl (by kernel_rfl) (by kernel_rfl) (by kernel_rfl) (fun _ _ _ h => h) (by rfl) ?hy10 (by assumption) ?rest10
        case hy10 => (intro w hSw; (try dsimp only at hSw); go_simp; try with_reducible rfl)
        simp only [Act.put, List.setIfInBounds_toArray, List.set_cons_zero, List.set_cons_succ]
        refine held_take (v := ?v11) 10 rfl (by kernel_rfl) (by kernel_rfl) (by kernel_rfl) (fun _ _ _ h => h) (by rfl) ?hy11 (by assumption) ?rest11
        case hy11 => (intro w hSw; (try dsimp only at hSw); go_simp; try with_reducible rfl)
        simp only [Act.put, List.setIfInBounds_toArray, List.set_cons_zero, List.set_cons_succ]
        refine held_skip 11 rfl (by kernel_rfl) (by kernel_rfl) (by kernel_rfl) (fun _ _ _ h => h) (by rfl) (by assumption) ?_
        simp only [Act.put, List.setIfInBounds_toArray, List.set_cons_zero, List.set_cons_succ]
        refine held_skip 12 rfl (by kernel_rfl) (by kernel_rfl) (by kernel_rfl) (fun _ _ _ h => h) (by rfl) (by assumption) ?_
        simp only [Act.put, List.setIfInBounds_toArray, List.set_cons_zero, List.set_cons_succ]
        refine held_skip 13 rfl (by kernel_rfl) (by kernel_rfl) (by kernel_rfl) (fun _ _ _ h => h) (by rfl) (by assumption) ?_
        simp only [Act.put, List.setIfInBounds_toArray, List.set_cons_zero, List.set_cons_succ]
        refine held_skip 14 rfl (by kernel_rfl) (by kernel_rfl) (by kernel_rfl) (fun _ _ _ h => h) (by rfl) (by assumption) ?_
        simp only [Act.put, List.setIfInBounds_toArray, List.set_cons_zero, List.set_cons_succ]
        refine held_skip 15 rfl (by kernel_rfl) (by kernel_rfl) (by kernel_rfl) (fun _ _ _ h => h) (by rfl) (by assumption) ?_
        simp only [Act.put, List.setIfInBounds_toArray, List.set_cons_zero, List.set_cons_succ]
        refine held_skip 16 rfl (by kernel_rfl) (by kernel_rfl) (by kernel_rfl) (fun _ _ _ h => h) (by rfl) (by assumption) ?_
        simp only [Act.put, List.setIfInBounds_toArray, List.set_cons_zero, List.set_cons_succ]
        refine held_skip 17 rfl (by kernel_rfl) (by kernel_rfl) (by kernel_rfl) (fun _ _ _ h => h) (by rfl) (by assumption) ?_
        simp only [Act.put, List.setIfInBounds_toArray, List.set_cons_zero, List.set_cons_succ]
        refine held_skip 18 rfl (by kernel_rfl) (by kernel_rfl) (by kernel_rfl) (fun _ _ _ h => h) (by rfl) (by assumption) ?_
        simp only [Act.put, List.setIfInBounds_toArray, List.set_cons_zero, List.set_cons_succ]
        refine held_skip 19 rfl (by kernel_rfl) (by kernel_rfl) (by kernel_rfl) (fun _ _ _ h => h) (by rfl) (by assumption) ?_
        simp only [Act.put, List.setIfInBounds_toArray, List.set_cons_zero, List.set_cons_succ]
        refine held_skip 20 rfl (by kernel_rfl) (by kernel_rfl) (by kernel_rfl) (fun _ _ _ h => h) (by rfl) (by assumption) ?_
        simp only [Act.put, List.setIfInBounds_toArray, List.set_cons_zero, List.set_cons_succ]
        refine held_skip 21 rfl (by kernel_rfl) (by kernel_rfl) (by kernel_rfl) (fun _ _ _ h => h) (by rfl) (by assumption) ?_
        simp only [Act.put, List.setIfInBounds_toArray, List.set_cons_zero, List.set_cons_succ]
        refine held_skip 22 rfl (by kernel_rfl) (by kernel_rfl) (by kernel_rfl) (fun _ _ _ h => h) (by rfl) (by assumption) ?_
        simp only [Act.put, List.setIfInBounds_toArray, List.set_cons_zero, List.set_cons_succ]
        refine held_skip 23 rfl (by kernel_rfl) (by kernel_rfl) (by kernel_rfl) (fun _ _ _ h => h) (by rfl) (by assumption) ?_
        simp only [Act.put, List.setIfInBounds_toArray, List.set_cons_zero, List.set_cons_succ]
        refine held_take (v := ?v25) 24 rfl (by kernel_rfl) (by kernel_rfl) (by kernel_rfl) (fun _ _ _ h => h) (by rfl) ?hy25 (by assumption) ?rest25
        case hy25 => (intro w hSw; (try dsimp only at hSw); go_simp; try with_reducible rfl)
        simp only [Act.put, List.setIfInBounds_toArray, List.set_cons_zero, List.set_cons_succ]
        refine wpAnyH_done (by kernel_rfl) ?_ _
        refine NoPanic.normal ?_
        all_goals
          go_wp2_with fail
          go_ret
          exact ⟨ret_bool HR.out.symm, below_next BW1.out (And.left (by assumption))⟩
      · rw [hn] at CNb
        rcases hd : dataF b.v.kind b.v.n b.v.s b.v.l.length with _ | _
        · have hr : envF l = false := HFALSE.out (by rw [HOK.out, hn, hd]; rfl)
          have HR := Lib.hid hr
          rw [hd] at CDb
          clear hr HOK HFALSE HNX hn hd
          have HBX := Lib.hid (Blk.new wr #[.string b.name, .int .i64 b.v.kind, .int .i64 b.v.n, .string b.v.s, .slice vA b.v.l.length vc] 62)
          have BW1 := Lib.hid (below_allocS hB.out (.cells #[.string b.name, .int .i64 b.v.kind, .int .i64 b.v.n, .string b.v.s, .slice vA b.v.l.length vc] 62))
          have HBB := Lib.hid (show bb < (wr.alloc (.cells #[.string b.name, .int .i64 b.v.kind, .int .i64 b.v.n, .string b.v.s, .slice vA b.v.l.length vc] 62)).heap.size by simp; omega)
          go_upto_region 4 with fail
          generalize wr.alloc (.cells #[.string b.name, .int .i64 b.v.kind, .int .i64 b.v.n, .string b.v.s, .slice vA b.v.l.length vc] 62) = W1 at *
          have KS := Lib.hid (fun W (hb : Below W1.heap.size W1 W) => show Below W1.heap.size W1 W ∧ W.cell? ⟨wr.heap.size, 0, none⟩ = some (.string b.name) ∧ W.cell? ⟨wr.heap.size, 1, none⟩ = some (.int .i64 b.v.kind) ∧ W.cell? ⟨wr.heap.size, 2, none⟩ = some (.int .i64 b.v.n) ∧ W.cell? ⟨wr.heap.size, 3, none⟩ = some (.string b.v.s) ∧ W.cell? ⟨wr.heap.size, 4, none⟩ = some (.slice vA b.v.l.length vc) by
            obtain ⟨y0, y1, y2, y3, y4⟩ := blk5 (HBX.out.belowS hb)
            exact ⟨hb, y0, y1, y2, y3, y4⟩)
          obtain ⟨_, y0, y1, y2, y3, y4⟩ := KS.out W1 (Below.refl _ _)
          clear c0 c1 c2 c3 c4
          refine wp_region_noPanic ?_
          refine wp_region_held_drew (S := fun W => Below W1.heap.size W1 W ∧ W.cell? ⟨wr.heap.size, 0, none⟩ = some (.string b.name) ∧ W.cell? ⟨wr.heap.size, 1, none⟩ = some (.int .i64 b.v.kind) ∧ W.cell? ⟨wr.heap.size, 2, none⟩ = some (.int .i64 b.v.n) ∧ W.cell? ⟨wr.heap.size, 3, none⟩ = some (.string b.v.s) ∧ W.cell? ⟨wr.heap.size, 4, none⟩ = some (.slice vA b.v.l.length vc)) (by kernel_rfl) (KS.out _ ((Below.refl _ _).drew)) (fun hHeld => ?_)
          refine held_take (v := ?v26) 0 rfl (by kernel_rfl) (by kernel_rfl) (by kernel_rfl) (fun _ _ _ h => h) (by rfl) ?hy26 (by assumption) ?rest26
          case hy26 => (intro w hSw; (try dsimp only at hSw); go_simp; try with_reducible rfl)
          simp only [Act.put, List.setIfInBounds_toArray, List.set_cons_zero, List.set_cons_succ]
          refine held_take (v := ?v27) 1 rfl (by kernel_rfl) (by kernel_rfl) (by kernel_rfl) (fun _ _ _ h => h) (by rfl) ?hy27 (by assumption) ?rest27
          case hy27 => (intro w hSw; (try dsimp only at hSw); go_simp; try with_reducible rfl)
          simp only [Act.put, List.setIfInBounds_toArray, List.set_cons_zero, List.set_cons_succ]
          refine held_call 2 rfl (by kernel_rfl) (by rfl) (fun K hK => ?_)
          go_simp
          go_at_call 34
          refine (CNb.out _).mono ?_
          rintro e w' ⟨rfl, rfl⟩
          go_simp
          have hHeld := hHeld
          refine hK _ _ (by assumption) ?_
          clear hK K
          try simp only [Act.put, List.setIfInBounds_toArray, List.set_cons_zero, List.set_cons_succ]
          refine held_take (v := ?v29) 3 rfl (by kernel_rfl) (by kernel_rfl) (by kernel_rfl) (fun _ _ _ h => h) (by rfl) ?hy29 (by assumption) ?rest29
          case hy29 => (intro w hSw; (try dsimp only at hSw); go_simp; try with_reducible rfl)
          simp only [Act.put, List.setIfInBounds_toArray, List.set_cons_zero, List.set_cons_succ]
          refine held_take (v := ?v30) 4 rfl (by kernel_rfl) (by kernel_rfl) (by kernel_rfl) (fun _ _ _ h => h) (by rfl) ?hy30 (by assumption) ?rest30
          case hy30 => (intro w hSw; (try dsimp only at hSw); go_simp; try with_reducible rfl)
          simp only [Act.put, List.setIfInBounds_toArray, List.set_cons_zero, List.set_cons_succ]
          refine held_take (v := ?v31) 5 rfl (by kernel_rfl) (by kernel_rfl) (by kernel_rfl) (fun _ _ _ h => h) (by rfl) ?hy31 (by assumption) ?rest31
          case hy31 => (intro w hSw; (try dsimp only at hSw); go_simp; try with_reducible rfl)
          simp only [Act.put, List.setIfInBounds_toArray, List.set_cons_zero, List.set_cons_succ]
          refine held_take (v := ?v32) 6 rfl (by kernel_rfl) (by kernel_rfl) (by kernel_rfl) (fun _ _ _ h => h) (by rfl) ?hy32 (by assumption) ?rest32
          case hy32 => (intro w hSw; (try dsimp only at hSw); go_simp; try with_reducible rfl)
          simp only [Act.put, List.setIfInBounds_toArray, List.set_cons_zero, List.set_cons_succ]
          refine held_call 7 rfl (by kernel_rfl) (by rfl) (fun K hK => ?_)
          go_simp
          go_at_call 36
          refine (CDb.out _).mono ?_
          rintro e wf ⟨rfl, hbf⟩
          go_simp
          have hHeld := KS.out _ (below_next (And.left (by assumption)) hbf)
          refine hK _ _ (by assumption) ?_
          clear hK K
          try simp only [Act.put, List.setIfInBounds_toArray, List.set_cons_zero, List.set_cons_succ]
          refine held_take (v := ?v34) 8 rfl (by kernel_rfl) (by kernel_rfl) (by kernel_rfl) (fun _ _ _ h => h) (by rfl) ?hy34 (by assumption) ?rest34
          case hy34 => (intro w hSw; (try dsimp only at hSw); go_simp; try with_reducible rfl)
          simp only [Act.put, List.setIfInBounds_toArray, List.set_cons_zero, List.set_cons_succ]
          refine held_take (v := ?v35) 9 rfl (by kernel_rfl) (by kernel_rfl) (by kernel_rfl) (fun _ _ _ h => h) (by rfl) ?hy35 (by assumption) ?rest35
          case hy35 => (intro w hSw; (try dsimp only at hSw); go_simp; try with_reducible rfl)
          simp only [Act.put, List.setIfInBounds_toArray, List.set_cons_zero, List.set_cons_succ]
          refine held_take (v := ?v36) 10 rfl (by kernel_rfl) (by kernel_rfl) (by kernel_rfl) (fun _ _ _ h => h) (by rfl) ?hy36 (by assumption) ?rest36
          case hy36 => (intro w hSw; (try dsimp only at hSw); go_simp; try with_reducible rfl)
          simp only [Act.put, List.setIfInBounds_toArray, List.set_cons_zero, List.set_cons_succ]
          refine held_skip 11 rfl (by kernel_rfl) (by kernel_rfl) (by kernel_rfl) (fun _ _ _ h => h) (by rfl) (by assumption) ?_
          simp only [Act.put, List.setIfInBounds_toArray, List.set_cons_zero, List.set_cons_succ]
          refine held_skip 12 rfl (by kernel_rfl) (by kernel_rfl) (by kernel_rfl) (fun _ _ _ h => h) (by rfl) (by assumption) ?_
          simp only [Act.put, List.setIfInBounds_toArray, List.set_cons_zero, List.set_cons_succ]
          refine held_skip 13 rfl (by kernel_rfl) (by kernel_rfl) (by kernel_rfl) (fun _ _ _ h => h) (by rfl) (by assumption) ?_
          simp only [Act.put, List.setIfInBounds_toArray, List.set_cons_zero, List.set_cons_succ]
          refine held_skip 14 rfl (by kernel_rfl) (by kernel_rfl) (by kernel_rfl) (fun _ _ _ h => h) (by rfl) (by assumption) ?_
          simp only [Act.put, List.setIfInBounds_toArray, List.set_cons_zero, List.set_cons_succ]
          refine held_skip 15 rfl (by kernel_rfl) (by kernel_rfl) (by kernel_rfl) (fun _ _ _ h => h) (by rfl) (by assumption) ?_
          simp only [Act.put, List.setIfInBounds_toArray, List.set_cons_zero, List.set_cons_succ]
          refine held_skip 16 rfl (by kernel_rfl) (by kernel_rfl) (by kernel_rfl) (fun _ _ _ h => h) (by rfl) (by assumption) ?_
          simp only [Act.put, List.setIfInBounds_toArray, List.set_cons_zero, List.set_cons_succ]
          refine held_skip 17 rfl (by kernel_rfl) (by kernel_rfl) (by kernel_rfl) (fun _ _ _ h => h) (by rfl) (by assumption) ?_
          simp only [Act.put, List.setIfInBounds_toArray, List.set_cons_zero, List.set_cons_succ]
          refine held_skip 18 rfl (by kernel_rfl) (by kernel_rfl) (by kernel_rfl) (fun _ _ _ h => h) (by rfl) (by assumption) ?_
          simp only [Act.put, List.setIfInBounds_toArray, List.set_cons_zero, List.set_cons_succ]
          refine held_skip 19 rfl (by kernel_rfl) (by kernel_rfl) (by kernel_rfl) (fun _ _ _ h => h) (by rfl) (by assumption) ?_
          simp only [Act.put, List.setIfInBounds_toArray, List.set_cons_zero, List.set_cons_succ]
          refine held_skip 20 rfl (by kernel_rfl) (by kernel_rfl) (by kernel_rfl) (fun _ _ _ h => h) (by rfl) (by assumption) ?_
          simp only [Act.put, List.setIfInBounds_toArray, List.set_cons_zero, List.set_cons_succ]
          refine held_skip 21 rfl (by kernel_rfl) (by kernel_rfl) (by kernel_rfl) (fun _ _ _ h => h) (by rfl) (by assumption) ?_
          simp only [Act.put, List.setIfInBounds_toArray, List.set_cons_zero, List.set_cons_succ]
          refine held_skip 22 rfl (by kernel_rfl) (by kernel_rfl) (by kernel_rfl) (fun _ _ _ h => h) (by rfl) (by assumption) ?_
          simp only [Act.put, List.setIfInBounds_toArray, List.set_cons_zero, List.set_cons_succ]
          refine held_skip 23 rfl (by kernel_rfl) (by kernel_rfl) (by kernel_rfl) (fun _ _ _ h => h) (by rfl) (by assumption) ?_
          simp only [Act.put, List.setIfInBounds_toArray, List.set_cons_zero, List.set_cons_succ]
          refine held_take (v := ?v50) 24 rfl (by kernel_rfl) (by kernel_rfl) (by kernel_rfl) (fun _ _ _ h => h) (by rfl) ?hy50 (by assumption) ?rest50
          case hy50 => (intro w hSw; (try dsimp only at hSw); go_simp; try with_reducible rfl)
          simp only [Act.put, List.setIfInBounds_toArray, List.set_cons_zero, List.set_cons_succ]
          refine wpAnyH_done (by kernel_rfl) ?_ _
          refine NoPanic.normal ?_
          all_goals
            go_wp2_with fail
            go_ret
            exact ⟨ret_bool HR.out.symm, below_next BW1.out (And.left (by assumption))⟩
        · rw [hd] at CDb
          by_cases hk0 : k = 0
          · have HNX2 := Lib.hid (HNX.out (by rw [HOK.out, hn, hd, decide_eq_true hk0]; rfl))
            have hmp : decide ((0 : Int) < (k : Int)) = false := decide_eq_false (by omega)
            have hmp2 : decide (0 < k) = false := decide_eq_false (by omega)
            clear HOK HFALSE HNX hk0 hn hd
            have HBX := Lib.hid (Blk.new wr #[.string b.name, .int .i64 b.v.kind, .int .i64 b.v.n, .string b.v.s, .slice vA b.v.l.length vc] 62)
            have BW1 := Lib.hid (below_allocS hB.out (.cells #[.string b.name, .int .i64 b.v.kind, .int .i64 b.v.n, .string b.v.s, .slice vA b.v.l.length vc] 62))
            have HBB := Lib.hid (show bb < (wr.alloc (.cells #[.string b.name, .int .i64 b.v.kind, .int .i64 b.v.n, .string b.v.s, .slice vA b.v.l.length vc] 62)).heap.size by simp; omega)
            go_upto_region 4 with fail
            generalize wr.alloc (.cells #[.string b.name, .int .i64 b.v.kind, .int .i64 b.v.n, .string b.v.s, .slice vA b.v.l.length vc] 62) = W1 at *
            have KS := Lib.hid (fun W (hb : Below W1.heap.size W1 W) => show Below W1.heap.size W1 W ∧ W.cell? ⟨wr.heap.size, 0, none⟩ = some (.string b.name) ∧ W.cell? ⟨wr.heap.size, 1, none⟩ = some (.int .i64 b.v.kind) ∧ W.cell? ⟨wr.heap.size, 2, none⟩ = some (.int .i64 b.v.n) ∧ W.cell? ⟨wr.heap.size, 3, none⟩ = some (.string b.v.s) ∧ W.cell? ⟨wr.heap.size, 4, none⟩ = some (.slice vA b.v.l.length vc) by
              obtain ⟨y0, y1, y2, y3, y4⟩ := blk5 (HBX.out.belowS hb)
              exact ⟨hb, y0, y1, y2, y3, y4⟩)
            obtain ⟨_, y0, y1, y2, y3, y4⟩ := KS.out W1 (Below.refl _ _)
            clear c0 c1 c2 c3 c4
            refine wp_region_noPanic ?_
            refine wp_region_held_drew (S := fun W => Below W1.heap.size W1 W ∧ W.cell? ⟨wr.heap.size, 0, none⟩ = some (.string b.name) ∧ W.cell? ⟨wr.heap.size, 1, none⟩ = some (.int .i64 b.v.kind) ∧ W.cell? ⟨wr.heap.size, 2, none⟩ = some (.int .i64 b.v.n) ∧ W.cell? ⟨wr.heap.size, 3, none⟩ = some (.string b.v.s) ∧ W.cell? ⟨wr.heap.size, 4, none⟩ = some (.slice vA b.v.l.length vc)) (by kernel_rfl) (KS.out _ ((Below.refl _ _).drew)) (fun hHeld => ?_)
            refine held_take (v := ?v51) 0 rfl (by kernel_rfl) (by kernel_rfl) (by kernel_rfl) (fun _ _ _ h => h) (by rfl) ?hy51 (by assumption) ?rest51
            case hy51 => (intro w hSw; (try dsimp only at hSw); go_simp; try with_reducible rfl)
            simp only [Act.put, List.setIfInBounds_toArray, List.set_cons_zero, List.set_cons_succ]
            refine held_take (v := ?v52) 1 rfl (by kernel_rfl) (by kernel_rfl) (by kernel_rfl) (fun _ _ _ h => h) (by rfl) ?hy52 (by assumption) ?rest52
            case hy52 => (intro w hSw; (try dsimp only at hSw); go_simp; try with_reducible rfl)
            simp only [Act.put, List.setIfInBounds_toArray, List.set_cons_zero, List.set_cons_succ]
            refine held_call 2 rfl (by kernel_rfl) (by rfl) (fun K hK => ?_)
            go_simp
            go_at_call 34
            refine (CNb.out _).mono ?_
            rintro e w' ⟨rfl, rfl⟩
            go_simp
            have hHeld := hHeld
            refine hK _ _ (by assumption) ?_
            clear hK K
            try simp only [Act.put, List.setIfInBounds_toArray, List.set_cons_zero, List.set_cons_succ]
            refine held_take (v := ?v54) 3 rfl (by kernel_rfl) (by kernel_rfl) (by kernel_rfl) (fun _ _ _ h => h) (by rfl) ?hy54 (by assumption) ?rest54
            case hy54 => (intro w hSw; (try dsimp only at hSw); go_simp; try with_reducible rfl)
            simp only [Act.put, List.setIfInBounds_toArray, List.set_cons_zero, List.set_cons_succ]
            refine held_take (v := ?v55) 4 rfl (by kernel_rfl) (by kernel_rfl) (by kernel_rfl) (fun _ _ _ h => h) (by rfl) ?hy55 (by assumption) ?rest55
            case hy55 => (intro w hSw; (try dsimp only at hSw); go_simp; try with_reducible rfl)
            simp only [Act.put, List.setIfInBounds_toArray, List.set_cons_zero, List.set_cons_succ]
            refine held_take (v := ?v56) 5 rfl (by kernel_rfl) (by kernel_rfl) (by kernel_rfl) (fun _ _ _ h => h) (by rfl) ?hy56 (by assumption) ?rest56
            case hy56 => (intro w hSw; (try dsimp only at hSw); go_simp; try with_reducible rfl)
            simp only [Act.put, List.setIfInBounds_toArray, List.set_cons_zero, List.set_cons_succ]
            refine held_take (v := ?v57) 6 rfl (by kernel_rfl) (by kernel_rfl) (by kernel_rfl) (fun _ _ _ h => h) (by rfl) ?hy57 (by assumption) ?rest57
            case hy57 => (intro w hSw; (try dsimp only at hSw); go_simp; try with_reducible rfl)
            simp only [Act.put, List.setIfInBounds_toArray, List.set_cons_zero, List.set_cons_succ]
            refine held_call 7 rfl (by kernel_rfl) (by rfl) (fun K hK => ?_)
            go_simp
            go_at_call 36
            refine (CDb.out _).mono ?_
            rintro e wf ⟨rfl, hbf⟩
            go_simp
            have hHeld := KS.out _ (below_next (And.left (by assumption)) hbf)
            refine hK _ _ (by assumption) ?_
            clear hK K
            try simp only [Act.put, List.setIfInBounds_toArray, List.set_cons_zero, List.set_cons_succ]
            refine held_take (v := ?v59) 8 rfl (by kernel_rfl) (by kernel_rfl) (by kernel_rfl) (fun _ _ _ h => h) (by rfl) ?hy59 (by assumption) ?rest59
            case hy59 => (intro w hSw; (try dsimp only at hSw); go_simp; try with_reducible rfl)
            simp only [Act.put, List.setIfInBounds_toArray, List.set_cons_zero, List.set_cons_succ]
            refine held_take (v := ?v60) 9 rfl (by kernel_rfl) (by kernel_rfl) (by kernel_rfl) (fun _ _ _ h => h) (by rfl) ?hy60 (by assumption) ?rest60
            case hy60 => (intro w hSw; (try dsimp only at hSw); go_simp; try with_reducible rfl)
            simp only [Act.put, List.setIfInBounds_toArray, List.set_cons_zero, List.set_cons_succ]
            refine held_take (v := ?v61) 10 rfl (by kernel_rfl) (by kernel_rfl) (by kernel_rfl) (fun _ _ _ h => h) (by rfl) ?hy61 (by assumption) ?rest61
            case hy61 => (intro w hSw; (try dsimp only at hSw); go_simp; try with_reducible rfl)
            simp only [Act.put, List.setIfInBounds_toArray, List.set_cons_zero, List.set_cons_succ]
            refine held_take (v := ?v62) 11 rfl (by kernel_rfl) (by kernel_rfl) (by kernel_rfl) (fun _ _ _ h => h) (by rfl) ?hy62 (by assumption) ?rest62
            case hy62 => (intro w hSw; (try dsimp only at hSw); go_simp; try with_reducible rfl)
            simp only [Act.put, List.setIfInBounds_toArray, List.set_cons_zero, List.set_cons_succ]
            refine held_take (v := ?v63) 12 rfl (by kernel_rfl) (by kernel_rfl) (by kernel_rfl) (fun _ _ _ h => h) (by rfl) ?hy63 (by assumption) ?rest63
            case hy63 => (intro w hSw; (try dsimp only at hSw); go_simp; try with_reducible rfl)
            simp only [Act.put, List.setIfInBounds_toArray, List.set_cons_zero, List.set_cons_succ]
            refine held_take (v := ?v64) 13 rfl (by kernel_rfl) (by kernel_rfl) (by kernel_rfl) (fun _ _ _ h => h) (by rfl) ?hy64 (by assumption) ?rest64
            case hy64 => (intro w hSw; (try dsimp only at hSw); go_simp; try with_reducible rfl)
            simp only [Act.put, List.setIfInBounds_toArray, List.set_cons_zero, List.set_cons_succ]
            refine held_skip 14 rfl (by kernel_rfl) (by kernel_rfl) (by kernel_rfl) (fun _ _ _ h => h) (by rfl) (by assumption) ?_
            simp only [Act.put, List.setIfInBounds_toArray, List.set_cons_zero, List.set_cons_succ]
            refine held_skip 15 rfl (by kernel_rfl) (by kernel_rfl) (by kernel_rfl) (fun _ _ _ h => h) (by rfl) (by assumption) ?_
            simp only [Act.put, List.setIfInBounds_toArray, List.set_cons_zero, List.set_cons_succ]
            refine held_skip 16 rfl (by kernel_rfl) (by kernel_rfl) (by kernel_rfl) (fun _ _ _ h => h) (by rfl) (by assumption) ?_
            simp only [Act.put, List.setIfInBounds_toArray, List.set_cons_zero, List.set_cons_succ]
            refine held_skip 17 rfl (by kernel_rfl) (by kernel_rfl) (by kernel_rfl) (fun _ _ _ h => h) (by rfl) (by assumption) ?_
            simp only [Act.put, List.setIfInBounds_toArray, List.set_cons_zero, List.set_cons_succ]
            refine held_skip 18 rfl (by kernel_rfl) (by kernel_rfl) (by kernel_rfl) (fun _ _ _ h => h) (by rfl) (by assumption) ?_
            simp only [Act.put, List.setIfInBounds_toArray, List.set_cons_zero, List.set_cons_succ]
            refine held_skip 19 rfl (by kernel_rfl) (by kernel_rfl) (by kernel_rfl) (fun _ _ _ h => h) (by rfl) (by assumption) ?_
            simp only [Act.put, List.setIfInBounds_toArray, List.set_cons_zero, List.set_cons_succ]
            refine held_skip 20 rfl (by kernel_rfl) (by kernel_rfl) (by kernel_rfl) (fun _ _ _ h => h) (by rfl) (by assumption) ?_
            simp only [Act.put, List.setIfInBounds_toArray, List.set_cons_zero, List.set_cons_succ]
            refine held_skip 21 rfl (by kernel_rfl) (by kernel_rfl) (by kernel_rfl) (fun _ _ _ h => h) (by rfl) (by assumption) ?_
            simp only [Act.put, List.setIfInBounds_toArray, List.set_cons_zero, List.set_cons_succ]
            refine held_skip 22 rfl (by kernel_rfl) (by kernel_rfl) (by kernel_rfl) (fun _ _ _ h => h) (by rfl) (by assumption) ?_
            simp only [Act.put, List.setIfInBounds_toArray, List.set_cons_zero, List.set_cons_succ]
            refine held_take (v := ?v74) 23 rfl (by kernel_rfl) (by kernel_rfl) (by kernel_rfl) (fun _ _ _ h => h) (by rfl) ?hy74 (by assumption) ?rest74
            case hy74 => (intro w hSw; (try dsimp only at hSw); go_simp; try with_reducible rfl)
            simp only [Act.put, List.setIfInBounds_toArray, List.set_cons_zero, List.set_cons_succ]
            refine held_take (v := ?v75) 24 rfl (by kernel_rfl) (by kernel_rfl) (by kernel_rfl) (fun _ _ _ h => h) (by rfl) ?hy75 (by assumption) ?rest75
            case hy75 => (intro w hSw; (try dsimp only at hSw); go_simp; try with_reducible rfl)
            simp only [Act.put, List.setIfInBounds_toArray, List.set_cons_zero, List.set_cons_succ]
            refine wpAnyH_done (by kernel_rfl) ?_ _
            refine NoPanic.normal ?_
            all_goals
              go_wp2_with fail
              exact ⟨⟨k + 1, by omega, by go_num, HNX2, Lib.hid (below_next BW1.out (And.left (by assumption)))⟩, by simp [intOf]; omega⟩
          · obtain ⟨m, a, hkm, hl1, p0⟩ := HAB.out (by omega)
            have q1 : IntKind.i64.wrap ((k : Int) - 1) = (m : Int) := by rw [IntWalk.i64_in _ (by omega)]; omega
            have hmp : decide ((0 : Int) < (k : Int)) = true := decide_eq_true (by omega)
            have hmp2 : decide (0 < k) = true := decide_eq_true (by omega)
            have hml : m < l.length := by omega
            rw [hn, hd, decide_eq_false hk0, hl1] at HOK
            clear hk0 hkm hl1 hn hd
            rcases hlss : Op.bytesLess a.name.toList b.name.toList with _ | _
            · have hr : envF l = false := HFALSE.out (by rw [HOK.out]; simp only [hlss]; rfl)
              have HR := Lib.hid hr
              clear hr HOK HFALSE HNX
              have HP1 := Lib.hid ((World.cell?_alloc_lt wr (.cells #[.string b.name, .int .i64 b.v.kind, .int .i64 b.v.n, .string b.v.s, .slice vA b.v.l.length vc] 62) ⟨bb, off + m * 5, none⟩ hbb).trans p0)
              have HBX := Lib.hid (Blk.new wr #[.string b.name, .int .i64 b.v.kind, .int .i64 b.v.n, .string b.v.s, .slice vA b.v.l.length vc] 62)
              have BW1 := Lib.hid (below_allocS hB.out (.cells #[.string b.name, .int .i64 b.v.kind, .int .i64 b.v.n, .string b.v.s, .slice vA b.v.l.length vc] 62))
              have HBB := Lib.hid (show bb < (wr.alloc (.cells #[.string b.name, .int .i64 b.v.kind, .int .i64 b.v.n, .string b.v.s, .slice vA b.v.l.length vc] 62)).heap.size by simp; omega)
              go_upto_region 4 with fail
              generalize wr.alloc (.cells #[.string b.name, .int .i64 b.v.kind, .int .i64 b.v.n, .string b.v.s, .slice vA b.v.l.length vc] 62) = W1 at *
              have KS := Lib.hid (fun W (hb : Below W1.heap.size W1 W) => show Below W1.heap.size W1 W ∧ W.cell? ⟨wr.heap.size, 0, none⟩ = some (.string b.name) ∧ W.cell? ⟨wr.heap.size, 1, none⟩ = some (.int .i64 b.v.kind) ∧ W.cell? ⟨wr.heap.size, 2, none⟩ = some (.int .i64 b.v.n) ∧ W.cell? ⟨wr.heap.size, 3, none⟩ = some (.string b.v.s) ∧ W.cell? ⟨wr.heap.size, 4, none⟩ = some (.slice vA b.v.l.length vc) ∧ W.cell? ⟨bb, off + m * 5, none⟩ = some (.string a.name) by
                obtain ⟨y0, y1, y2, y3, y4⟩ := blk5 (HBX.out.belowS hb)
                exact ⟨hb, y0, y1, y2, y3, y4, (hb.cell (p := ⟨bb, off + m * 5, none⟩) HBB.out).trans HP1.out⟩)
              obtain ⟨_, y0, y1, y2, y3, y4, y5⟩ := KS.out W1 (Below.refl _ _)
              clear c0 c1 c2 c3 c4 p0
              refine wp_region_noPanic ?_
              refine wp_region_held_drew (S := fun W => Below W1.heap.size W1 W ∧ W.cell? ⟨wr.heap.size, 0, none⟩ = some (.string b.name) ∧ W.cell? ⟨wr.heap.size, 1, none⟩ = some (.int .i64 b.v.kind) ∧ W.cell? ⟨wr.heap.size, 2, none⟩ = some (.int .i64 b.v.n) ∧ W.cell? ⟨wr.heap.size, 3, none⟩ = some (.string b.v.s) ∧ W.cell? ⟨wr.heap.size, 4, none⟩ = some (.slice vA b.v.l.length vc) ∧ W.cell? ⟨bb, off + m * 5, none⟩ = some (.string a.name)) (by kernel_rfl) (KS.out _ ((Below.refl _ _).drew)) (fun hHeld => ?_)
              refine held_take (v := ?v76) 0 rfl (by kernel_rfl) (by kernel_rfl) (by kernel_rfl) (fun _ _ _ h => h) (by rfl) ?hy76 (by assumption) ?rest76
              case hy76 => (intro w hSw; (try dsimp only at hSw); go_simp; try with_reducible rfl)
              simp only [Act.put, List.setIfInBounds_toArray, List.set_cons_zero, List.set_cons_succ]
              refine held_take (v := ?v77) 1 rfl (by kernel_rfl) (by kernel_rfl) (by kernel_rfl) (fun _ _ _ h => h) (by rfl) ?hy77 (by assumption) ?rest77
              case hy77 => (intro w hSw; (try dsimp only at hSw); go_simp; try with_reducible rfl)
              simp only [Act.put, List.setIfInBounds_toArray, List.set_cons_zero, List.set_cons_succ]
              refine held_call 2 rfl (by kernel_rfl) (by rfl) (fun K hK => ?_)
              go_simp
              go_at_call 34
              refine (CNb.out _).mono ?_
              rintro e w' ⟨rfl, rfl⟩
              go_simp
              have hHeld := hHeld
              refine hK _ _ (by assumption) ?_
              clear hK K
              try simp only [Act.put, List.setIfInBounds_toArray, List.set_cons_zero, List.set_cons_succ]
              refine held_take (v := ?v79) 3 rfl (by kernel_rfl) (by kernel_rfl) (by kernel_rfl) (fun _ _ _ h => h) (by rfl) ?hy79 (by assumption) ?rest79
              case hy79 => (intro w hSw; (try dsimp only at hSw); go_simp; try with_reducible rfl)
              simp only [Act.put, List.setIfInBounds_toArray, List.set_cons_zero, List.set_cons_succ]
              refine held_take (v := ?v80) 4 rfl (by kernel_rfl) (by kernel_rfl) (by kernel_rfl) (fun _ _ _ h => h) (by rfl) ?hy80 (by assumption) ?rest80
              case hy80 => (intro w hSw; (try dsimp only at hSw); go_simp; try with_reducible rfl)
              simp only [Act.put, List.setIfInBounds_toArray, List.set_cons_zero, List.set_cons_succ]
              refine held_take (v := ?v81) 5 rfl (by kernel_rfl) (by kernel_rfl) (by kernel_rfl) (fun _ _ _ h => h) (by rfl) ?hy81 (by assumption) ?rest81
              case hy81 => (intro w hSw; (try dsimp only at hSw); go_simp; try with_reducible rfl)
              simp only [Act.put, List.setIfInBounds_toArray, List.set_cons_zero, List.set_cons_succ]
              refine held_take (v := ?v82) 6 rfl (by kernel_rfl) (by kernel_rfl) (by kernel_rfl) (fun _ _ _ h => h) (by rfl) ?hy82 (by assumption) ?rest82
              case hy82 => (intro w hSw; (try dsimp only at hSw); go_simp; try with_reducible rfl)
              simp only [Act.put, List.setIfInBounds_toArray, List.set_cons_zero, List.set_cons_succ]
              refine held_call 7 rfl (by kernel_rfl) (by rfl) (fun K hK => ?_)
              go_simp
              go_at_call 36
              refine (CDb.out _).mono ?_
              rintro e wf ⟨rfl, hbf⟩
              go_simp
              have hHeld := KS.out _ (below_next (And.left (by assumption)) hbf)
              refine hK _ _ (by assumption) ?_
              clear hK K
              try simp only [Act.put, List.setIfInBounds_toArray, List.set_cons_zero, List.set_cons_succ]
              refine held_take (v := ?v84) 8 rfl (by kernel_rfl) (by kernel_rfl) (by kernel_rfl) (fun _ _ _ h => h) (by rfl) ?hy84 (by assumption) ?rest84
              case hy84 => (intro w hSw; (try dsimp only at hSw); go_simp; try with_reducible rfl)
              simp only [Act.put, List.setIfInBounds_toArray, List.set_cons_zero, List.set_cons_succ]
              refine held_take (v := ?v85) 9 rfl (by kernel_rfl) (by kernel_rfl) (by kernel_rfl) (fun _ _ _ h => h) (by rfl) ?hy85 (by assumption) ?rest85
              case hy85 => (intro w hSw; (try dsimp only at hSw); go_simp; try with_reducible rfl)
              simp only [Act.put, List.setIfInBounds_toArray, List.set_cons_zero, List.set_cons_succ]
              refine held_take (v := ?v86) 10 rfl (by kernel_rfl) (by kernel_rfl) (by kernel_rfl) (fun _ _ _ h => h) (by rfl) ?hy86 (by assumption) ?rest86
              case hy86 => (intro w hSw; (try dsimp only at hSw); go_simp; try with_reducible rfl)
              simp only [Act.put, List.setIfInBounds_toArray, List.set_cons_zero, List.set_cons_succ]
              refine held_take (v := ?v87) 11 rfl (by kernel_rfl) (by kernel_rfl) (by kernel_rfl) (fun _ _ _ h => h) (by rfl) ?hy87 (by assumption) ?rest87
              case hy87 => (intro w hSw; (try dsimp only at hSw); go_simp; try with_reducible rfl)
              simp only [Act.put, List.setIfInBounds_toArray, List.set_cons_zero, List.set_cons_succ]
              refine held_take (v := ?v88) 12 rfl (by kernel_rfl) (by kernel_rfl) (by kernel_rfl) (fun _ _ _ h => h) (by rfl) ?hy88 (by assumption) ?rest88
              case hy88 => (intro w hSw; (try dsimp only at hSw); go_simp; try with_reducible rfl)
              simp only [Act.put, List.setIfInBounds_toArray, List.set_cons_zero, List.set_cons_succ]
              refine held_take (v := ?v89) 13 rfl (by kernel_rfl) (by kernel_rfl) (by kernel_rfl) (fun _ _ _ h => h) (by rfl) ?hy89 (by assumption) ?rest89
              case hy89 => (intro w hSw; (try dsimp only at hSw); go_simp; try with_reducible rfl)
              simp only [Act.put, List.setIfInBounds_toArray, List.set_cons_zero, List.set_cons_succ]
              refine held_take (v := ?v90) 14 rfl (by kernel_rfl) (by kernel_rfl) (by kernel_rfl) (fun _ _ _ h => h) (by rfl) ?hy90 (by assumption) ?rest90
              case hy90 => (intro w hSw; (try dsimp only at hSw); go_simp; try with_reducible rfl)
              simp only [Act.put, List.setIfInBounds_toArray, List.set_cons_zero, List.set_cons_succ]
              refine held_take (v := ?v91) 15 rfl (by kernel_rfl) (by kernel_rfl) (by kernel_rfl) (fun _ _ _ h => h) (by rfl) ?hy91 (by assumption) ?rest91
              case hy91 => (intro w hSw; (try dsimp only at hSw); go_simp; try with_reducible rfl)
              simp only [Act.put, List.setIfInBounds_toArray, List.set_cons_zero, List.set_cons_succ]
              refine held_take (v := ?v92) 16 rfl (by kernel_rfl) (by kernel_rfl) (by kernel_rfl) (fun _ _ _ h => h) (by rfl) ?hy92 (by assumption) ?rest92
              case hy92 => (intro w hSw; (try dsimp only at hSw); go_simp; try with_reducible rfl)
              simp only [Act.put, List.setIfInBounds_toArray, List.set_cons_zero, List.set_cons_succ]
              refine held_take (v := ?v93) 17 rfl (by kernel_rfl) (by kernel_rfl) (by kernel_rfl) (fun _ _ _ h => h) (by rfl) ?hy93 (by assumption) ?rest93
              case hy93 => (intro w hSw; (try dsimp only at hSw); go_simp; try with_reducible rfl)
              simp only [Act.put, List.setIfInBounds_toArray, List.set_cons_zero, List.set_cons_succ]
              refine held_take (v := ?v94) 18 rfl (by kernel_rfl) (by kernel_rfl) (by kernel_rfl) (fun _ _ _ h => h) (by rfl) ?hy94 (by assumption) ?rest94
              case hy94 => (intro w hSw; (try dsimp only at hSw); go_simp; try with_reducible rfl)
              simp only [Act.put, List.setIfInBounds_toArray, List.set_cons_zero, List.set_cons_succ]
              refine held_take (v := ?v95) 19 rfl (by kernel_rfl) (by kernel_rfl) (by kernel_rfl) (fun _ _ _ h => h) (by rfl) ?hy95 (by assumption) ?rest95
              case hy95 => (intro w hSw; (try dsimp only at hSw); go_simp; try with_reducible rfl)
              simp only [Act.put, List.setIfInBounds_toArray, List.set_cons_zero, List.set_cons_succ]
              refine held_take (v := ?v96) 20 rfl (by kernel_rfl) (by kernel_rfl) (by kernel_rfl) (fun _ _ _ h => h) (by rfl) ?hy96 (by assumption) ?rest96
              case hy96 => (intro w hSw; (try dsimp only at hSw); go_simp; try with_reducible rfl)
              simp only [Act.put, List.setIfInBounds_toArray, List.set_cons_zero, List.set_cons_succ]
              refine held_take (v := ?v97) 21 rfl (by kernel_rfl) (by kernel_rfl) (by kernel_rfl) (fun _ _ _ h => h) (by rfl) ?hy97 (by assumption) ?rest97
              case hy97 => (intro w hSw; (try dsimp only at hSw); go_simp; try with_reducible rfl)
              simp only [Act.put, List.setIfInBounds_toArray, List.set_cons_zero, List.set_cons_succ]
              refine held_take (v := ?v98) 22 rfl (by kernel_rfl) (by kernel_rfl) (by kernel_rfl) (fun _ _ _ h => h) (by rfl) ?hy98 (by assumption) ?rest98
              case hy98 => (intro w hSw; (try dsimp only at hSw); go_simp; try with_reducible rfl)
              simp only [Act.put, List.setIfInBounds_toArray, List.set_cons_zero, List.set_cons_succ]
              refine held_take (v := ?v99) 23 rfl (by kernel_rfl) (by kernel_rfl) (by kernel_rfl) (fun _ _ _ h => h) (by rfl) ?hy99 (by assumption) ?rest99
              case hy99 => (intro w hSw; (try dsimp only at hSw); go_simp; try with_reducible rfl)
              simp only [Act.put, List.setIfInBounds_toArray, List.set_cons_zero, List.set_cons_succ]
              refine held_take (v := ?v100) 24 rfl (by kernel_rfl) (by kernel_rfl) (by kernel_rfl) (fun _ _ _ h => h) (by rfl) ?hy100 (by assumption) ?rest100
              case hy100 => (intro w hSw; (try dsimp only at hSw); go_simp; try with_reducible rfl)
              simp only [Act.put, List.setIfInBounds_toArray, List.set_cons_zero, List.set_cons_succ]
              refine wpAnyH_done (by kernel_rfl) ?_ _
              refine NoPanic.normal ?_
              all_goals
                go_wp2_with fail
                go_ret
                exact ⟨ret_bool HR.out.symm, below_next BW1.out (And.left (by assumption))⟩
            · have HNX2 := Lib.hid (HNX.out (by rw [HOK.out]; simp only [hlss]; rfl))
              clear HOK HFALSE HNX
              have HP1 := Lib.hid ((World.cell?_alloc_lt wr (.cells #[.string b.name, .int .i64 b.v.kind, .int .i64 b.v.n, .string b.v.s, .slice vA b.v.l.length vc] 62) ⟨bb, off + m * 5, none⟩ hbb).trans p0)
              have HBX := Lib.hid (Blk.new wr #[.string b.name, .int .i64 b.v.kind, .int .i64 b.v.n, .string b.v.s, .slice vA b.v.l.length vc] 62)
              have BW1 := Lib.hid (below_allocS hB.out (.cells #[.string b.name, .int .i64 b.v.kind, .int .i64 b.v.n, .string b.v.s, .slice vA b.v.l.length vc] 62))
              have HBB := Lib.hid (show bb < (wr.alloc (.cells #[.string b.name, .int .i64 b.v.kind, .int .i64 b.v.n, .string b.v.s, .slice vA b.v.l.length vc] 62)).heap.size by simp; omega)
              go_upto_region 4 with fail
              generalize wr.alloc (.cells #[.string b.name, .int .i64 b.v.kind, .int .i64 b.v.n, .string b.v.s, .slice vA b.v.l.length vc] 62) = W1 at *
              have KS := Lib.hid (fun W (hb : Below W1.heap.size W1 W) => show Below W1.heap.size W1 W ∧ W.cell? ⟨wr.heap.size, 0, none⟩ = some (.string b.name) ∧ W.cell? ⟨wr.heap.size, 1, none⟩ = some (.int .i64 b.v.kind) ∧ W.cell? ⟨wr.heap.size, 2, none⟩ = some (.int .i64 b.v.n) ∧ W.cell? ⟨wr.heap.size, 3, none⟩ = some (.string b.v.s) ∧ W.cell? ⟨wr.heap.size, 4, none⟩ = some (.slice vA b.v.l.length vc) ∧ W.cell? ⟨bb, off + m * 5, none⟩ = some (.string a.name) by
                obtain ⟨y0, y1, y2, y3, y4⟩ := blk5 (HBX.out.belowS hb)
                exact ⟨hb, y0, y1, y2, y3, y4, (hb.cell (p := ⟨bb, off + m * 5, none⟩) HBB.out).trans HP1.out⟩)
              obtain ⟨_, y0, y1, y2, y3, y4, y5⟩ := KS.out W1 (Below.refl _ _)
              clear c0 c1 c2 c3 c4 p0
              refine wp_region_noPanic ?_
              refine wp_region_held_drew (S := fun W => Below W1.heap.size W1 W ∧ W.cell? ⟨wr.heap.size, 0, none⟩ = some (.string b.name) ∧ W.cell? ⟨wr.heap.size, 1, none⟩ = some (.int .i64 b.v.kind) ∧ W.cell? ⟨wr.heap.size, 2, none⟩ = some (.int .i64 b.v.n) ∧ W.cell? ⟨wr.heap.size, 3, none⟩ = some (.string b.v.s) ∧ W.cell? ⟨wr.heap.size, 4, none⟩ = some (.slice vA b.v.l.length vc) ∧ W.cell? ⟨bb, off + m * 5, none⟩ = some (.string a.name)) (by kernel_rfl) (KS.out _ ((Below.refl _ _).drew)) (fun hHeld => ?_)
              refine held_take (v := ?v101) 0 rfl (by kernel_rfl) (by kernel_rfl) (by kernel_rfl) (fun _ _ _ h => h) (by rfl) ?hy101 (by assumption) ?rest101
              case hy101 => (intro w hSw; (try dsimp only at hSw); go_simp; try with_reducible rfl)
              simp only [Act.put, List.setIfInBounds_toArray, List.set_cons_zero, List.set_cons_succ]
              refine held_take (v := ?v102) 1 rfl (by kernel_rfl) (by kernel_rfl) (by kernel_rfl) (fun _ _ _ h => h) (by rfl) ?hy102 (by assumption) ?rest102
              case hy102 => (intro w hSw; (try dsimp only at hSw); go_simp; try with_reducible rfl)
              simp only [Act.put, List.setIfInBounds_toArray, List.set_cons_zero, List.set_cons_succ]
              refine held_call 2 rfl (by kernel_rfl) (by rfl) (fun K hK => ?_)
              go_simp
              go_at_call 34
              refine (CNb.out _).mono ?_
              rintro e w' ⟨rfl, rfl⟩
              go_simp
              have hHeld := hHeld
              refine hK _ _ (by assumption) ?_
              clear hK K
              try simp only [Act.put, List.setIfInBounds_toArray, List.set_cons_zero, List.set_cons_succ]
              refine held_take (v := ?v104) 3 rfl (by kernel_rfl) (by kernel_rfl) (by kernel_rfl) (fun _ _ _ h => h) (by rfl) ?hy104 (by assumption) ?rest104
              case hy104 => (intro w hSw; (try dsimp only at hSw); go_simp; try with_reducible rfl)
              simp only [Act.put, List.setIfInBounds_toArray, List.set_cons_zero, List.set_cons_succ]
              refine held_take (v := ?v105) 4 rfl (by kernel_rfl) (by kernel_rfl) (by kernel_rfl) (fun _ _ _ h => h) (by rfl) ?hy105 (by assumption) ?rest105
              case hy105 => (intro w hSw; (try dsimp only at hSw); go_simp; try with_reducible rfl)
              simp only [Act.put, List.setIfInBounds_toArray, List.set_cons_zero, List.set_cons_succ]
              refine held_take (v := ?v106) 5 rfl (by kernel_rfl) (by kernel_rfl) (by kernel_rfl) (fun _ _ _ h => h) (by rfl) ?hy106 (by assumption) ?rest106
              case hy106 => (intro w hSw; (try dsimp only at hSw); go_simp; try with_reducible rfl)
              simp only [Act.put, List.setIfInBounds_toArray, List.set_cons_zero, List.set_cons_succ]
              refine held_take (v := ?v107) 6 rfl (by kernel_rfl) (by kernel_rfl) (by kernel_rfl) (fun _ _ _ h => h) (by rfl) ?hy107 (by assumption) ?rest107
              case hy107 => (intro w hSw; (try dsimp only at hSw); go_simp; try with_reducible rfl)
              simp only [Act.put, List.setIfInBounds_toArray, List.set_cons_zero, List.set_cons_succ]
              refine held_call 7 rfl (by kernel_rfl) (by rfl) (fun K hK => ?_)
              go_simp
              go_at_call 36
              refine (CDb.out _).mono ?_
              rintro e wf ⟨rfl, hbf⟩
              go_simp
              have hHeld := KS.out _ (below_next (And.left (by assumption)) hbf)
              refine hK _ _ (by assumption) ?_
              clear hK K
              try simp only [Act.put, List.setIfInBounds_toArray, List.set_cons_zero, List.set_cons_succ]
              refine held_take (v := ?v109) 8 rfl (by kernel_rfl) (by kernel_rfl) (by kernel_rfl) (fun _ _ _ h => h) (by rfl) ?hy109 (by assumption) ?rest109
              case hy109 => (intro w hSw; (try dsimp only at hSw); go_simp; try with_reducible rfl)
              simp only [Act.put, List.setIfInBounds_toArray, List.set_cons_zero, List.set_cons_succ]
              refine held_take (v := ?v110) 9 rfl (by kernel_rfl) (by kernel_rfl) (by kernel_rfl) (fun _ _ _ h => h) (by rfl) ?hy110 (by assumption) ?rest110
              case hy110 => (intro w hSw; (try dsimp only at hSw); go_simp; try with_reducible rfl)
              simp only [Act.put, List.setIfInBounds_toArray, List.set_cons_zero, List.set_cons_succ]
              refine held_take (v := ?v111) 10 rfl (by kernel_rfl) (by kernel_rfl) (by kernel_rfl) (fun _ _ _ h => h) (by rfl) ?hy111 (by assumption) ?rest111
              case hy111 => (intro w hSw; (try dsimp only at hSw); go_simp; try with_reducible rfl)
              simp only [Act.put, List.setIfInBounds_toArray, List.set_cons_zero, List.set_cons_succ]
              refine held_take (v := ?v112) 11 rfl (by kernel_rfl) (by kernel_rfl) (by kernel_rfl) (fun _ _ _ h => h) (by rfl) ?hy112 (by assumption) ?rest112
              case hy112 => (intro w hSw; (try dsimp only at hSw); go_simp; try with_reducible rfl)
              simp only [Act.put, List.setIfInBounds_toArray, List.set_cons_zero, List.set_cons_succ]
              refine held_take (v := ?v113) 12 rfl (by kernel_rfl) (by kernel_rfl) (by kernel_rfl) (fun _ _ _ h => h) (by rfl) ?hy113 (by assumption) ?rest113
              case hy113 => (intro w hSw; (try dsimp only at hSw); go_simp; try with_reducible rfl)
              simp only [Act.put, List.setIfInBounds_toArray, List.set_cons_zero, List.set_cons_succ]
              refine held_take (v := ?v114) 13 rfl (by kernel_rfl) (by kernel_rfl) (by kernel_rfl) (fun _ _ _ h => h) (by rfl) ?hy114 (by assumption) ?rest114
              case hy114 => (intro w hSw; (try dsimp only at hSw); go_simp; try with_reducible rfl)
              simp only [Act.put, List.setIfInBounds_toArray, List.set_cons_zero, List.set_cons_succ]
              refine held_take (v := ?v115) 14 rfl (by kernel_rfl) (by kernel_rfl) (by kernel_rfl) (fun _ _ _ h => h) (by rfl) ?hy115 (by assumption) ?rest115
              case hy115 => (intro w hSw; (try dsimp only at hSw); go_simp; try with_reducible rfl)
              simp only [Act.put, List.setIfInBounds_toArray, List.set_cons_zero, List.set_cons_succ]
              refine held_take (v := ?v116) 15 rfl (by kernel_rfl) (by kernel_rfl) (by kernel_rfl) (fun _ _ _ h => h) (by rfl) ?hy116 (by assumption) ?rest116
              case hy116 => (intro w hSw; (try dsimp only at hSw); go_simp; try with_reducible rfl)
              simp only [Act.put, List.setIfInBounds_toArray, List.set_cons_zero, List.set_cons_succ]
              refine held_take (v := ?v117) 16 rfl (by kernel_rfl) (by kernel_rfl) (by kernel_rfl) (fun _ _ _ h => h) (by rfl) ?hy117 (by assumption) ?rest117
              case hy117 => (intro w hSw; (try dsimp only at hSw); go_simp; try with_reducible rfl)
              simp only [Act.put, List.setIfInBounds_toArray, List.set_cons_zero, List.set_cons_succ]
              refine held_take (v := ?v118) 17 rfl (by kernel_rfl) (by kernel_rfl) (by kernel_rfl) (fun _ _ _ h => h) (by rfl) ?hy118 (by assumption) ?rest118
              case hy118 => (intro w hSw; (try dsimp only at hSw); go_simp; try with_reducible rfl)
              simp only [Act.put, List.setIfInBounds_toArray, List.set_cons_zero, List.set_cons_succ]
              refine held_take (v := ?v119) 18 rfl (by kernel_rfl) (by kernel_rfl) (by kernel_rfl) (fun _ _ _ h => h) (by rfl) ?hy119 (by assumption) ?rest119
              case hy119 => (intro w hSw; (try dsimp only at hSw); go_simp; try with_reducible rfl)
              simp only [Act.put, List.setIfInBounds_toArray, List.set_cons_zero, List.set_cons_succ]
              refine held_take (v := ?v120) 19 rfl (by kernel_rfl) (by kernel_rfl) (by kernel_rfl) (fun _ _ _ h => h) (by rfl) ?hy120 (by assumption) ?rest120
              case hy120 => (intro w hSw; (try dsimp only at hSw); go_simp; try with_reducible rfl)
              simp only [Act.put, List.setIfInBounds_toArray, List.set_cons_zero, List.set_cons_succ]
              refine held_take (v := ?v121) 20 rfl (by kernel_rfl) (by kernel_rfl) (by kernel_rfl) (fun _ _ _ h => h) (by rfl) ?hy121 (by assumption) ?rest121
              case hy121 => (intro w hSw; (try dsimp only at hSw); go_simp; try with_reducible rfl)
              simp only [Act.put, List.setIfInBounds_toArray, List.set_cons_zero, List.set_cons_succ]
              refine held_take (v := ?v122) 21 rfl (by kernel_rfl) (by kernel_rfl) (by kernel_rfl) (fun _ _ _ h => h) (by rfl) ?hy122 (by assumption) ?rest122
              case hy122 => (intro w hSw; (try dsimp only at hSw); go_simp; try with_reducible rfl)
              simp only [Act.put, List.setIfInBounds_toArray, List.set_cons_zero, List.set_cons_succ]
              refine held_take (v := ?v123) 22 rfl (by kernel_rfl) (by kernel_rfl) (by kernel_rfl) (fun _ _ _ h => h) (by rfl) ?hy123 (by assumption) ?rest123
              case hy123 => (intro w hSw; (try dsimp only at hSw); go_simp; try with_reducible rfl)
              simp only [Act.put, List.setIfInBounds_toArray, List.set_cons_zero, List.set_cons_succ]
              refine held_take (v := ?v124) 23 rfl (by kernel_rfl) (by kernel_rfl) (by kernel_rfl) (fun _ _ _ h => h) (by rfl) ?hy124 (by assumption) ?rest124
              case hy124 => (intro w hSw; (try dsimp only at hSw); go_simp; try with_reducible rfl)
              simp only [Act.put, List.setIfInBounds_toArray, List.set_cons_zero, List.set_cons_succ]
              refine held_take (v := ?v125) 24 rfl (by kernel_rfl) (by kernel_rfl) (by kernel_rfl) (fun _ _ _ h => h) (by rfl) ?hy125 (by assumption) ?rest125
              case hy125 => (intro w hSw; (try dsimp only at hSw); go_simp; try with_reducible rfl)
              simp only [Act.put, List.setIfInBounds_toArray, List.set_cons_zero, List.set_cons_succ]
              refine wpAnyH_done (by kernel_rfl) ?_ _
              refine NoPanic.normal ?_
              all_goals
                go_wp2_with fail
                exact ⟨⟨k + 1, by omega, by go_num, HNX2, Lib.hid (below_next BW1.out (And.left (by assumption)))⟩, by simp [intOf]; omega⟩
    · have hr := envF_true (l := l) (fun j hj => hok.out j (by omega))
      have HR := Lib.hid hr
      clear hr
      go_wp2_with fail
      go_ret
      exact ⟨ret_bool (by rw [HR.out]; rw [Bool.eq_iff_iff]; simp <;> omega), hB.out⟩
set_option maxRecDepth 100000 in
set_option maxHeartbeats 8000000 in
theorem renv_any (A : Option Addr) (l : List Bd) (c : Nat) (w : World) (he : Env w A l) (hl : l.length ≤ 1000000000) :
    Calls Try.prog 44 #[.slice A l.length c] w fun e w' => e = .returned (.bool (envF l)) ∧ Below w.heap.size w w' := by
  have HE := Lib.hid he
  have CN := Lib.hid (fun s W => rname_any s W)
  have CD := Lib.hid (fun k m s A len c W => rdataMay_any k m s A len c W)
  clear he
  go_enter Try.func44, Try.ntmps44
  go_wp2_with fail
  go_loopw [3] (fun i wr => ∃ k : Nat, k ≤ l.length ∧ i = .int .i64 k ∧ Hid (∀ j, j < k → envOk l j = true) ∧ Hid (Below w.heap.size w wr)) (fun i _ => l.length - (intOf i).toNat)
  case atStart => exact ⟨0, by omega, rfl, Lib.hid (fun j h => by omega), Lib.hid (Below.refl _ _)⟩
  case round =>
    obtain ⟨k, hk, rfl, hok, hB⟩ := hrel
    by_cases hlt : k < l.length
    · obtain ⟨F, hF⟩ := env_at (HE.out.below hB.out)
      obtain ⟨bb, off, rfl, hbb, _, hcs⟩ := hF k hlt
      obtain ⟨c0, c1, c2, c3, c4⟩ := hcs k hlt
      have HCS := Lib.hid hcs
      have HOK := Lib.hid (show envOk l k = (nameF l[k].name && dataF l[k].v.kind l[k].v.n l[k].v.s l[k].v.l.length && (decide (k = 0) || match l[k - 1]? with | none => true | some a => Op.bytesLess a.name.toList l[k].name.toList)) by unfold envOk; rw [List.getElem?_eq_getElem hlt])
      have HNX := Lib.hid (fun (h : envOk l k = true) j (hj : j < k + 1) => show envOk l j = true by
        by_cases e : j = k
        · subst e; exact h
        · exact hok.out j (by omega))
      have HFALSE := Lib.hid (fun (h : envOk l k = false) => envF_false hlt h)
      have HAB := Lib.hid (show 0 < k → ∃ m a, k = m + 1 ∧ l[k - 1]? = some a ∧ wr.cell? ⟨bb, off + m * 5, none⟩ = some (.string a.name) from fun h => ⟨k - 1, l[k - 1]'(by omega), by omega, List.getElem?_eq_getElem (by omega), (hcs (k - 1) (by omega)).1⟩)
      clear hcs hF hok
      generalize l[k] = b at *
      generalize (F k).1 = vA at *
      generalize (F k).2 = vc at *
      have CNb := Lib.hid (fun W => CN.out b.name W)
      have CDb := Lib.hid (fun W => CD.out b.v.kind b.v.n b.v.s vA b.v.l.length vc W)
      rcases hn : nameF b.name with _ | _
      · have hr : envF l = false := HFALSE.out (by rw [HOK.out, hn]; rfl)
        have HR := Lib.hid hr
        rw [hn] at CNb
        clear hr HOK HFALSE HNX hn
        have HBB := Lib.hid hbb
        have HC := Lib.hid (And.intro c0 (And.intro c1 (And.intro c2 (And.intro c3 c4))))
        have KS := Lib.hid (fun W (hb : Below wr.heap.size wr W) => show Below wr.heap.size wr W ∧ W.cell? ⟨bb, off + k * 5, none⟩ = some (.string b.name) ∧ W.cell? ⟨bb, off + k * 5 + 1, none⟩ = some (.int .i64 b.v.kind) ∧ W.cell? ⟨bb, off + k * 5 + 2, none⟩ = some (.int .i64 b.v.n) ∧ W.cell? ⟨bb, off + k * 5 + 3, none⟩ = some (.string b.v.s) ∧ W.cell? ⟨bb, off + k * 5 + 4, none⟩ = some (.slice vA b.v.l.length vc) from ⟨hb, (hb.cell (p := ⟨bb, off + k * 5, none⟩) HBB.out).trans HC.out.1, (hb.cell (p := ⟨bb, off + k * 5 + 1, none⟩) HBB.out).trans HC.out.2.1, (hb.cell (p := ⟨bb, off + k * 5 + 2, none⟩) HBB.out).trans HC.out.2.2.1, (hb.cell (p := ⟨bb, off + k * 5 + 3, none⟩) HBB.out).trans HC.out.2.2.2.1, (hb.cell (p := ⟨bb, off + k * 5 + 4, none⟩) HBB.out).trans HC.out.2.2.2.2⟩)
        clear c0 c1 c2 c3 c4
        go_upto_region 4 with fail
        refine wp_region_noPanic ?_
        refine wp_region_held_drew (S := fun W => Below wr.heap.size wr W ∧ W.cell? ⟨bb, off + k * 5, none⟩ = some (.string b.name) ∧ W.cell? ⟨bb, off + k * 5 + 1, none⟩ = some (.int .i64 b.v.kind) ∧ W.cell? ⟨bb, off + k * 5 + 2, none⟩ = some (.int .i64 b.v.n) ∧ W.cell? ⟨bb, off + k * 5 + 3, none⟩ = some (.string b.v.s) ∧ W.cell? ⟨bb, off + k * 5 + 4, none⟩ = some (.slice vA b.v.l.length vc)) (by kernel_rfl) (KS.out _ ((Below.refl _ _).drew)) (fun hHeld => ?_)
        refine held_take (v := ?v126) 0 rfl (by kernel_rfl) (by kernel_rfl) (by kernel_rfl) (fun _ _ _ h => h) (by rfl) ?hy126 (by assumption) ?rest126
        case hy126 => (intro w hSw; (try dsimp only at hSw); go_simp; try with_reducible rfl)
        simp only [Act.put, List.setIfInBounds_toArray, List.set_cons_zero, List.set_cons_succ]
        refine held_take (v := ?v127) 1 rfl (by kernel_rfl) (by kernel_rfl) (by kernel_rfl) (fun _ _ _ h => h) (by rfl) ?hy127 (by assumption) ?rest127
        case hy127 => (intro w hSw; (try dsimp only at hSw); go_simp; try with_reducible rfl)
        simp only [Act.put, List.setIfInBounds_toArray, List.set_cons_zero, List.set_cons_succ]
        refine held_take (v := ?v128) 2 rfl (by kernel_rfl) (by kernel_rfl) (by kernel_rfl) (fun _ _ _ h => h) (by rfl) ?hy128 (by assumption) ?rest128
        case hy128 => (intro w hSw; (try dsimp only at hSw); go_simp; try with_reducible rfl)
        simp only [Act.put, List.setIfInBounds_toArray, List.set_cons_zero, List.set_cons_succ]
        refine held_take (v := ?v129) 3 rfl (by kernel_rfl) (by kernel_rfl) (by kernel_rfl) (fun _ _ _ h => h) (by rfl) ?hy129 (by assumption) ?rest129
        case hy129 => (intro w hSw; (try dsimp only at hSw); go_simp; try with_reducible rfl)
        simp only [Act.put, List.setIfInBounds_toArray, List.set_cons_zero, List.set_cons_succ]
        refine held_take (v := ?v130) 4 rfl (by kernel_rfl) (by kernel_rfl) (by kernel_rfl) (fun _ _ _ h => h) (by rfl) ?hy130 (by assumption) ?rest130
        case hy130 => (intro w hSw; (try dsimp only at hSw); go_simp; try with_reducible rfl)
        simp only [Act.put, List.setIfInBounds_toArray, List.set_cons_zero, List.set_cons_succ]
        refine held_call 5 rfl (by kernel_rfl) (by rfl) (fun K hK => ?_)
        go_simp
        go_at_call 41
        refine (CNb.out _).mono ?_
        rintro e w' ⟨rfl, rfl⟩
        go_simp
        have hHeld := hHeld
        refine hK _ _ (by assumption) ?_
        clear hK K
        try simp only [Act.put, List.setIfInBounds_toArray, List.set_cons_zero, List.set_cons_succ]
        refine held_take (v := ?v132) 6 rfl (by kernel_rfl) (by kernel_rfl) (by kernel_rfl) (fun _ _ _ h => h) (by rfl) ?hy132 (by assumption) ?rest132
        case hy132 => (intro w hSw; (try dsimp only at hSw); go_simp; try with_reducible rfl)
        simp only [Act.put, List.setIfInBounds_toArray, List.set_cons_zero, List.set_cons_succ]
        refine held_take (v := ?v133) 7 rfl (by kernel_rfl) (by kernel_rfl) (by kernel_rfl) (fun _ _ _ h => h) (by rfl) ?hy133 (by assumption) ?rest133
        case hy133 => (intro w hSw; (try dsimp only at hSw); go_simp; try with_reducible rfl)
        simp only [Act.put, List.setIfInBounds_toArray, List.set_cons_zero, List.set_cons_succ]
        refine held_skip 8 rfl (by kernel_rfl) (by kernel_rfl) (by kernel_rfl) (fun _ _ _ h => h) (by rfl) (by assumption) ?_
        simp only [Act.put, List.setIfInBounds_toArray, List.set_cons_zero, List.set_cons_succ]
        refine held_skip 9 rfl (by kernel_rfl) (by kernel_rfl) (by kernel_rfl) (fun _ _ _ h => h) (by rfl) (by assumption) ?_
        simp only [Act.put, List.setIfInBounds_toArray, List.set_cons_zero, List.set_cons_succ]
        refine held_skip 10 rfl (by kernel_rfl) (by kernel_rfl) (by kernel_rfl) (fun _ _ _ h => h) (by rfl) (by assumption) ?_
        simp only [Act.put, List.setIfInBounds_toArray, List.set_cons_zero, List.set_cons_succ]
        refine held_skip 11 rfl (by kernel_rfl) (by kernel_rfl) (by kernel_rfl) (fun _ _ _ h => h) (by rfl) (by assumption) ?_
        simp only [Act.put, List.setIfInBounds_toArray, List.set_cons_zero, List.set_cons_succ]
        refine held_skip 12 rfl (by kernel_rfl) (by kernel_rfl) (by kernel_rfl) (fun _ _ _ h => h) (by rfl) (by assumption) ?_
        simp only [Act.put, List.setIfInBounds_toArray, List.set_cons_zero, List.set_cons_succ]
        refine held_skip 13 rfl (by kernel_rfl) (by kernel_rfl) (by kernel_rfl) (fun _ _ _ h => h) (by rfl) (by assumption) ?_
        simp only [Act.put, List.setIfInBounds_toArray, List.set_cons_zero, List.set_cons_succ]
        refine held_skip 14 rfl (by kernel_rfl) (by kernel_rfl) (by kernel_rfl) (fun _ _ _ h => h) (by rfl) (by assumption) ?_
        simp only [Act.put, List.setIfInBounds_toArray, List.set_cons_zero, List.set_cons_succ]
        refine held_take (v := ?v141) 15 rfl (by kernel_rfl) (by kernel_rfl) (by kernel_rfl) (fun _ _ _ h => h) (by rfl) ?hy141 (by assumption) ?rest141
        case hy141 => (intro w hSw; (try dsimp only at hSw); go_simp; try with_reducible rfl)
        simp only [Act.put, List.setIfInBounds_toArray, List.set_cons_zero, List.set_cons_succ]
        refine held_take (v := ?v142) 16 rfl (by kernel_rfl) (by kernel_rfl) (by kernel_rfl) (fun _ _ _ h => h) (by rfl) ?hy142 (by assumption) ?rest142
        case hy142 => (intro w hSw; (try dsimp only at hSw); go_simp; try with_reducible rfl)
        simp only [Act.put, List.setIfInBounds_toArray, List.set_cons_zero, List.set_cons_succ]
        refine held_skip 17 rfl (by kernel_rfl) (by kernel_rfl) (by kernel_rfl) (fun _ _ _ h => h) (by rfl) (by assumption) ?_
        simp only [Act.put, List.setIfInBounds_toArray, List.set_cons_zero, List.set_cons_succ]
        refine held_skip 18 rfl (by kernel_rfl) (by kernel_rfl) (by kernel_rfl) (fun _ _ _ h => h) (by rfl) (by assumption) ?_
        simp only [Act.put, List.setIfInBounds_toArray, List.set_cons_zero, List.set_cons_succ]
        refine held_skip 19 rfl (by kernel_rfl) (by kernel_rfl) (by kernel_rfl) (fun _ _ _ h => h) (by rfl) (by assumption) ?_
        simp only [Act.put, List.setIfInBounds_toArray, List.set_cons_zero, List.set_cons_succ]
        refine held_skip 20 rfl (by kernel_rfl) (by kernel_rfl) (by kernel_rfl) (fun _ _ _ h => h) (by rfl) (by assumption) ?_
        simp only [Act.put, List.setIfInBounds_toArray, List.set_cons_zero, List.set_cons_succ]
        refine held_skip 21 rfl (by kernel_rfl) (by kernel_rfl) (by kernel_rfl) (fun _ _ _ h => h) (by rfl) (by assumption) ?_
        simp only [Act.put, List.setIfInBounds_toArray, List.set_cons_zero, List.set_cons_succ]
        refine held_skip 22 rfl (by kernel_rfl) (by kernel_rfl) (by kernel_rfl) (fun _ _ _ h => h) (by rfl) (by assumption) ?_
        simp only [Act.put, List.setIfInBounds_toArray, List.set_cons_zero, List.set_cons_succ]
        refine held_skip 23 rfl (by kernel_rfl) (by kernel_rfl) (by kernel_rfl) (fun _ _ _ h => h) (by rfl) (by assumption) ?_
        simp only [Act.put, List.setIfInBounds_toArray, List.set_cons_zero, List.set_cons_succ]
        refine held_skip 24 rfl (by kernel_rfl) (by kernel_rfl) (by kernel_rfl) (fun _ _ _ h => h) (by rfl) (by assumption) ?_
        simp only [Act.put, List.setIfInBounds_toArray, List.set_cons_zero, List.set_cons_succ]
        refine held_skip 25 rfl (by kernel_rfl) (by kernel_rfl) (by kernel_rfl) (fun _ _ _ h => h) (by rfl) (by assumption) ?_
        simp only [Act.put, List.setIfInBounds_toArray, List.set_cons_zero, List.set_cons_succ]
        refine held_skip 26 rfl (by kernel_rfl) (by kernel_rfl) (by kernel_rfl) (fun _ _ _ h => h) (by rfl) (by assumption) ?_
        simp only [Act.put, List.setIfInBounds_toArray, List.set_cons_zero, List.set_cons_succ]
        refine held_skip 27 rfl (by kernel_rfl) (by kernel_rfl) (by kernel_rfl) (fun _ _ _ h => h) (by rfl) (by assumption) ?_
        simp only [Act.put, List.setIfInBounds_toArray, List.set_cons_zero, List.set_cons_succ]
        refine held_skip 28 rfl (by kernel_rfl) (by kernel_rfl) (by kernel_rfl) (fun _ _ _ h => h) (by rfl) (by assumption) ?_
        simp only [Act.put, List.setIfInBounds_toArray, List.set_cons_zero, List.set_cons_succ]
        refine held_skip 29 rfl (by kernel_rfl) (by kernel_rfl) (by kernel_rfl) (fun _ _ _ h => h) (by rfl) (by assumption) ?_
        simp only [Act.put, List.setIfInBounds_toArray, List.set_cons_zero, List.set_cons_succ]
        refine held_skip 30 rfl (by kernel_rfl) (by kernel_rfl) (by kernel_rfl) (fun _ _ _ h => h) (by rfl) (by assumption) ?_
        simp only [Act.put, List.setIfInBounds_toArray, List.set_cons_zero, List.set_cons_succ]
        refine held_skip 31 rfl (by kernel_rfl) (by kernel_rfl) (by kernel_rfl) (fun _ _ _ h => h) (by rfl) (by assumption) ?_
        simp only [Act.put, List.setIfInBounds_toArray, List.set_cons_zero, List.set_cons_succ]
        refine held_skip 32 rfl (by kernel_rfl) (by kernel_rfl) (by kernel_rfl) (fun _ _ _ h => h) (by rfl) (by assumption) ?_
        simp only [Act.put, List.setIfInBounds_toArray, List.set_cons_zero, List.set_cons_succ]
        refine held_take (v := ?v159) 33 rfl (by kernel_rfl) (by kernel_rfl) (by kernel_rfl) (fun _ _ _ h => h) (by rfl) ?hy159 (by assumption) ?rest159
        case hy159 => (intro w hSw; (try dsimp only at hSw); go_simp; try with_reducible rfl)
        simp only [Act.put, List.setIfInBounds_toArray, List.set_cons_zero, List.set_cons_succ]
        refine wpAnyH_done (by kernel_rfl) ?_ _
        refine NoPanic.normal ?_
        all_goals
          go_wp2_with fail
          go_ret
          exact ⟨ret_bool HR.out.symm, below_next hB.out (And.left (by assumption))⟩
      · rw [hn] at CNb
        rcases hd : dataF b.v.kind b.v.n b.v.s b.v.l.length with _ | _
        · have hr : envF l = false := HFALSE.out (by rw [HOK.out, hn, hd]; rfl)
          have HR := Lib.hid hr
          rw [hd] at CDb
          clear hr HOK HFALSE HNX hn hd
          have HBB := Lib.hid hbb
          have HC := Lib.hid (And.intro c0 (And.intro c1 (And.intro c2 (And.intro c3 c4))))
          have KS := Lib.hid (fun W (hb : Below wr.heap.size wr W) => show Below wr.heap.size wr W ∧ W.cell? ⟨bb, off + k * 5, none⟩ = some (.string b.name) ∧ W.cell? ⟨bb, off + k * 5 + 1, none⟩ = some (.int .i64 b.v.kind) ∧ W.cell? ⟨bb, off + k * 5 + 2, none⟩ = some (.int .i64 b.v.n) ∧ W.cell? ⟨bb, off + k * 5 + 3, none⟩ = some (.string b.v.s) ∧ W.cell? ⟨bb, off + k * 5 + 4, none⟩ = some (.slice vA b.v.l.length vc) from ⟨hb, (hb.cell (p := ⟨bb, off + k * 5, none⟩) HBB.out).trans HC.out.1, (hb.cell (p := ⟨bb, off + k * 5 + 1, none⟩) HBB.out).trans HC.out.2.1, (hb.cell (p := ⟨bb, off + k * 5 + 2, none⟩) HBB.out).trans HC.out.2.2.1, (hb.cell (p := ⟨bb, off + k * 5 + 3, none⟩) HBB.out).trans HC.out.2.2.2.1, (hb.cell (p := ⟨bb, off + k * 5 + 4, none⟩) HBB.out).trans HC.out.2.2.2.2⟩)
          clear c0 c1 c2 c3 c4
          go_upto_region 4 with fail
          refine wp_region_noPanic ?_
          refine wp_region_held_drew (S := fun W => Below wr.heap.size wr W ∧ W.cell? ⟨bb, off + k * 5, none⟩ = some (.string b.name) ∧ W.cell? ⟨bb, off + k * 5 + 1, none⟩ = some (.int .i64 b.v.kind) ∧ W.cell? ⟨bb, off + k * 5 + 2, none⟩ = some (.int .i64 b.v.n) ∧ W.cell? ⟨bb, off + k * 5 + 3, none⟩ = some (.string b.v.s) ∧ W.cell? ⟨bb, off + k * 5 + 4, none⟩ = some (.slice vA b.v.l.length vc)) (by kernel_rfl) (KS.out _ ((Below.refl _ _).drew)) (fun hHeld => ?_)
          refine held_take (v := ?v160) 0 rfl (by kernel_rfl) (by kernel_rfl) (by kernel_rfl) (fun _ _ _ h => h) (by rfl) ?hy160 (by assumption) ?rest160
          case hy160 => (intro w hSw; (try dsimp only at hSw); go_simp; try with_reducible rfl)
          simp only [Act.put, List.setIfInBounds_toArray, List.set_cons_zero, List.set_cons_succ]
          refine held_take (v := ?v161) 1 rfl (by kernel_rfl) (by kernel_rfl) (by kernel_rfl) (fun _ _ _ h => h) (by rfl) ?hy161 (by assumption) ?rest161
          case hy161 => (intro w hSw; (try dsimp only at hSw); go_simp; try with_reducible rfl)
          simp only [Act.put, List.setIfInBounds_toArray, List.set_cons_zero, List.set_cons_succ]
          refine held_take (v := ?v162) 2 rfl (by kernel_rfl) (by kernel_rfl) (by kernel_rfl) (fun _ _ _ h => h) (by rfl) ?hy162 (by assumption) ?rest162
          case hy162 => (intro w hSw; (try dsimp only at hSw); go_simp; try with_reducible rfl)
          simp only [Act.put, List.setIfInBounds_toArray, List.set_cons_zero, List.set_cons_succ]
          refine held_take (v := ?v163) 3 rfl (by kernel_rfl) (by kernel_rfl) (by kernel_rfl) (fun _ _ _ h => h) (by rfl) ?hy163 (by assumption) ?rest163
          case hy163 => (intro w hSw; (try dsimp only at hSw); go_simp; try with_reducible rfl)
          simp only [Act.put, List.setIfInBounds_toArray, List.set_cons_zero, List.set_cons_succ]
          refine held_take (v := ?v164) 4 rfl (by kernel_rfl) (by kernel_rfl) (by kernel_rfl) (fun _ _ _ h => h) (by rfl) ?hy164 (by assumption) ?rest164
          case hy164 => (intro w hSw; (try dsimp only at hSw); go_simp; try with_reducible rfl)
          simp only [Act.put, List.setIfInBounds_toArray, List.set_cons_zero, List.set_cons_succ]
          refine held_call 5 rfl (by kernel_rfl) (by rfl) (fun K hK => ?_)
          go_simp
          go_at_call 41
          refine (CNb.out _).mono ?_
          rintro e w' ⟨rfl, rfl⟩
          go_simp
          have hHeld := hHeld
          refine hK _ _ (by assumption) ?_
          clear hK K
          try simp only [Act.put, List.setIfInBounds_toArray, List.set_cons_zero, List.set_cons_succ]
          refine held_take (v := ?v166) 6 rfl (by kernel_rfl) (by kernel_rfl) (by kernel_rfl) (fun _ _ _ h => h) (by rfl) ?hy166 (by assumption) ?rest166
          case hy166 => (intro w hSw; (try dsimp only at hSw); go_simp; try with_reducible rfl)
          simp only [Act.put, List.setIfInBounds_toArray, List.set_cons_zero, List.set_cons_succ]
          refine held_take (v := ?v167) 7 rfl (by kernel_rfl) (by kernel_rfl) (by kernel_rfl) (fun _ _ _ h => h) (by rfl) ?hy167 (by assumption) ?rest167
          case hy167 => (intro w hSw; (try dsimp only at hSw); go_simp; try with_reducible rfl)
          simp only [Act.put, List.setIfInBounds_toArray, List.set_cons_zero, List.set_cons_succ]
          refine held_take (v := ?v168) 8 rfl (by kernel_rfl) (by kernel_rfl) (by kernel_rfl) (fun _ _ _ h => h) (by rfl) ?hy168 (by assumption) ?rest168
          case hy168 => (intro w hSw; (try dsimp only at hSw); go_simp; try with_reducible rfl)
          simp only [Act.put, List.setIfInBounds_toArray, List.set_cons_zero, List.set_cons_succ]
          refine held_take (v := ?v169) 9 rfl (by kernel_rfl) (by kernel_rfl) (by kernel_rfl) (fun _ _ _ h => h) (by rfl) ?hy169 (by assumption) ?rest169
          case hy169 => (intro w hSw; (try dsimp only at hSw); go_simp; try with_reducible rfl)
          simp only [Act.put, List.setIfInBounds_toArray, List.set_cons_zero, List.set_cons_succ]
          refine held_take (v := ?v170) 10 rfl (by kernel_rfl) (by kernel_rfl) (by kernel_rfl) (fun _ _ _ h => h) (by rfl) ?hy170 (by assumption) ?rest170
          case hy170 => (intro w hSw; (try dsimp only at hSw); go_simp; try with_reducible rfl)
          simp only [Act.put, List.setIfInBounds_toArray, List.set_cons_zero, List.set_cons_succ]
          refine held_take (v := ?v171) 11 rfl (by kernel_rfl) (by kernel_rfl) (by kernel_rfl) (fun _ _ _ h => h) (by rfl) ?hy171 (by assumption) ?rest171
          case hy171 => (intro w hSw; (try dsimp only at hSw); go_simp; try with_reducible rfl)
          simp only [Act.put, List.setIfInBounds_toArray, List.set_cons_zero, List.set_cons_succ]
          refine held_take (v := ?v172) 12 rfl (by kernel_rfl) (by kernel_rfl) (by kernel_rfl) (fun _ _ _ h => h) (by rfl) ?hy172 (by assumption) ?rest172
          case hy172 => (intro w hSw; (try dsimp only at hSw); go_simp; try with_reducible rfl)
          simp only [Act.put, List.setIfInBounds_toArray, List.set_cons_zero, List.set_cons_succ]
          refine held_call 13 rfl (by kernel_rfl) (by rfl) (fun K hK => ?_)
          go_simp
          go_at_call 69
          refine (CDb.out _).mono ?_
          rintro e wf ⟨rfl, hbf⟩
          go_simp
          have hHeld := KS.out _ (below_next (And.left (by assumption)) hbf)
          refine hK _ _ (by assumption) ?_
          clear hK K
          try simp only [Act.put, List.setIfInBounds_toArray, List.set_cons_zero, List.set_cons_succ]
          refine held_take (v := ?v174) 14 rfl (by kernel_rfl) (by kernel_rfl) (by kernel_rfl) (fun _ _ _ h => h) (by rfl) ?hy174 (by assumption) ?rest174
          case hy174 => (intro w hSw; (try dsimp only at hSw); go_simp; try with_reducible rfl)
          simp only [Act.put, List.setIfInBounds_toArray, List.set_cons_zero, List.set_cons_succ]
          refine held_take (v := ?v175) 15 rfl (by kernel_rfl) (by kernel_rfl) (by kernel_rfl) (fun _ _ _ h => h) (by rfl) ?hy175 (by assumption) ?rest175
          case hy175 => (intro w hSw; (try dsimp only at hSw); go_simp; try with_reducible rfl)
          simp only [Act.put, List.setIfInBounds_toArray, List.set_cons_zero, List.set_cons_succ]
          refine held_take (v := ?v176) 16 rfl (by kernel_rfl) (by kernel_rfl) (by kernel_rfl) (fun _ _ _ h => h) (by rfl) ?hy176 (by assumption) ?rest176
          case hy176 => (intro w hSw; (try dsimp only at hSw); go_simp; try with_reducible rfl)
          simp only [Act.put, List.setIfInBounds_toArray, List.set_cons_zero, List.set_cons_succ]
          refine held_skip 17 rfl (by kernel_rfl) (by kernel_rfl) (by kernel_rfl) (fun _ _ _ h => h) (by rfl) (by assumption) ?_
          simp only [Act.put, List.setIfInBounds_toArray, List.set_cons_zero, List.set_cons_succ]
          refine held_skip 18 rfl (by kernel_rfl) (by kernel_rfl) (by kernel_rfl) (fun _ _ _ h => h) (by rfl) (by assumption) ?_
          simp only [Act.put, List.setIfInBounds_toArray, List.set_cons_zero, List.set_cons_succ]
          refine held_skip 19 rfl (by kernel_rfl) (by kernel_rfl) (by kernel_rfl) (fun _ _ _ h => h) (by rfl) (by assumption) ?_
          simp only [Act.put, List.setIfInBounds_toArray, List.set_cons_zero, List.set_cons_succ]
          refine held_skip 20 rfl (by kernel_rfl) (by kernel_rfl) (by kernel_rfl) (fun _ _ _ h => h) (by rfl) (by assumption) ?_
          simp only [Act.put, List.setIfInBounds_toArray, List.set_cons_zero, List.set_cons_succ]
          refine held_skip 21 rfl (by kernel_rfl) (by kernel_rfl) (by kernel_rfl) (fun _ _ _ h => h) (by rfl) (by assumption) ?_
          simp only [Act.put, List.setIfInBounds_toArray, List.set_cons_zero, List.set_cons_succ]
          refine held_skip 22 rfl (by kernel_rfl) (by kernel_rfl) (by kernel_rfl) (fun _ _ _ h => h) (by rfl) (by assumption) ?_
          simp only [Act.put, List.setIfInBounds_toArray, List.set_cons_zero, List.set_cons_succ]
          refine held_skip 23 rfl (by kernel_rfl) (by kernel_rfl) (by kernel_rfl) (fun _ _ _ h => h) (by rfl) (by assumption) ?_
          simp only [Act.put, List.setIfInBounds_toArray, List.set_cons_zero, List.set_cons_succ]
          refine held_skip 24 rfl (by kernel_rfl) (by kernel_rfl) (by kernel_rfl) (fun _ _ _ h => h) (by rfl) (by assumption) ?_
          simp only [Act.put, List.setIfInBounds_toArray, List.set_cons_zero, List.set_cons_succ]
          refine held_skip 25 rfl (by kernel_rfl) (by kernel_rfl) (by kernel_rfl) (fun _ _ _ h => h) (by rfl) (by assumption) ?_
          simp only [Act.put, List.setIfInBounds_toArray, List.set_cons_zero, List.set_cons_succ]
          refine held_skip 26 rfl (by kernel_rfl) (by kernel_rfl) (by kernel_rfl) (fun _ _ _ h => h) (by rfl) (by assumption) ?_
          simp only [Act.put, List.setIfInBounds_toArray, List.set_cons_zero, List.set_cons_succ]
          refine held_skip 27 rfl (by kernel_rfl) (by kernel_rfl) (by kernel_rfl) (fun _ _ _ h => h) (by rfl) (by assumption) ?_
          simp only [Act.put, List.setIfInBounds_toArray, List.set_cons_zero, List.set_cons_succ]
          refine held_skip 28 rfl (by kernel_rfl) (by kernel_rfl) (by kernel_rfl) (fun _ _ _ h => h) (by rfl) (by assumption) ?_
          simp only [Act.put, List.setIfInBounds_toArray, List.set_cons_zero, List.set_cons_succ]
          refine held_skip 29 rfl (by kernel_rfl) (by kernel_rfl) (by kernel_rfl) (fun _ _ _ h => h) (by rfl) (by assumption) ?_
          simp only [Act.put, List.setIfInBounds_toArray, List.set_cons_zero, List.set_cons_succ]
          refine held_skip 30 rfl (by kernel_rfl) (by kernel_rfl) (by kernel_rfl) (fun _ _ _ h => h) (by rfl) (by assumption) ?_
          simp only [Act.put, List.setIfInBounds_toArray, List.set_cons_zero, List.set_cons_succ]
          refine held_skip 31 rfl (by kernel_rfl) (by kernel_rfl) (by kernel_rfl) (fun _ _ _ h => h) (by rfl) (by assumption) ?_
          simp only [Act.put, List.setIfInBounds_toArray, List.set_cons_zero, List.set_cons_succ]
          refine held_skip 32 rfl (by kernel_rfl) (by kernel_rfl) (by kernel_rfl) (fun _ _ _ h => h) (by rfl) (by assumption) ?_
          simp only [Act.put, List.setIfInBounds_toArray, List.set_cons_zero, List.set_cons_succ]
          refine held_take (v := ?v193) 33 rfl (by kernel_rfl) (by kernel_rfl) (by kernel_rfl) (fun _ _ _ h => h) (by rfl) ?hy193 (by assumption) ?rest193
          case hy193 => (intro w hSw; (try dsimp only at hSw); go_simp; try with_reducible rfl)
          simp only [Act.put, List.setIfInBounds_toArray, List.set_cons_zero, List.set_cons_succ]
          refine wpAnyH_done (by kernel_rfl) ?_ _
          refine NoPanic.normal ?_
          all_goals
            go_wp2_with fail
            go_ret
            exact ⟨ret_bool HR.out.symm, below_next hB.out (And.left (by assumption))⟩
        · rw [hd] at CDb
          by_cases hk0 : k = 0
          · have HNX2 := Lib.hid (HNX.out (by rw [HOK.out, hn, hd, decide_eq_true hk0]; rfl))
            have hmp : decide ((0 : Int) < (k : Int)) = false := decide_eq_false (by omega)
            have hmp2 : decide (0 < k) = false := decide_eq_false (by omega)
            clear HOK HFALSE HNX hk0 hn hd
            have HBB := Lib.hid hbb
            have HC := Lib.hid (And.intro c0 (And.intro c1 (And.intro c2 (And.intro c3 c4))))
            have KS := Lib.hid (fun W (hb : Below wr.heap.size wr W) => show Below wr.heap.size wr W ∧ W.cell? ⟨bb, off + k * 5, none⟩ = some (.string b.name) ∧ W.cell? ⟨bb, off + k * 5 + 1, none⟩ = some (.int .i64 b.v.kind) ∧ W.cell? ⟨bb, off + k * 5 + 2, none⟩ = some (.int .i64 b.v.n) ∧ W.cell? ⟨bb, off + k * 5 + 3, none⟩ = some (.string b.v.s) ∧ W.cell? ⟨bb, off + k * 5 + 4, none⟩ = some (.slice vA b.v.l.length vc) from ⟨hb, (hb.cell (p := ⟨bb, off + k * 5, none⟩) HBB.out).trans HC.out.1, (hb.cell (p := ⟨bb, off + k * 5 + 1, none⟩) HBB.out).trans HC.out.2.1, (hb.cell (p := ⟨bb, off + k * 5 + 2, none⟩) HBB.out).trans HC.out.2.2.1, (hb.cell (p := ⟨bb, off + k * 5 + 3, none⟩) HBB.out).trans HC.out.2.2.2.1, (hb.cell (p := ⟨bb, off + k * 5 + 4, none⟩) HBB.out).trans HC.out.2.2.2.2⟩)
            clear c0 c1 c2 c3 c4
            go_upto_region 4 with fail
            refine wp_region_noPanic ?_
            refine wp_region_held_drew (S := fun W => Below wr.heap.size wr W ∧ W.cell? ⟨bb, off + k * 5, none⟩ = some (.string b.name) ∧ W.cell? ⟨bb, off + k * 5 + 1, none⟩ = some (.int .i64 b.v.kind) ∧ W.cell? ⟨bb, off + k * 5 + 2, none⟩ = some (.int .i64 b.v.n) ∧ W.cell? ⟨bb, off + k * 5 + 3, none⟩ = some (.string b.v.s) ∧ W.cell? ⟨bb, off + k * 5 + 4, none⟩ = some (.slice vA b.v.l.length vc)) (by kernel_rfl) (KS.out _ ((Below.refl _ _).drew)) (fun hHeld => ?_)
            refine held_take (v := ?v194) 0 rfl (by kernel_rfl) (by kernel_rfl) (by kernel_rfl) (fun _ _ _ h => h) (by rfl) ?hy194 (by assumption) ?rest194
            case hy194 => (intro w hSw; (try dsimp only at hSw); go_simp; try with_reducible rfl)
            simp only [Act.put, List.setIfInBounds_toArray, List.set_cons_zero, List.set_cons_succ]
            refine held_take (v := ?v195) 1 rfl (by kernel_rfl) (by kernel_rfl) (by kernel_rfl) (fun _ _ _ h => h) (by rfl) ?hy195 (by assumption) ?rest195
            case hy195 => (intro w hSw; (try dsimp only at hSw); go_simp; try with_reducible rfl)
            simp only [Act.put, List.setIfInBounds_toArray, List.set_cons_zero, List.set_cons_succ]
            refine held_take (v := ?v196) 2 rfl (by kernel_rfl) (by kernel_rfl) (by kernel_rfl) (fun _ _ _ h => h) (by rfl) ?hy196 (by assumption) ?rest196
            case hy196 => (intro w hSw; (try dsimp only at hSw); go_simp; try with_reducible rfl)
            simp only [Act.put, List.setIfInBounds_toArray, List.set_cons_zero, List.set_cons_succ]
            refine held_take (v := ?v197) 3 rfl (by kernel_rfl) (by kernel_rfl) (by kernel_rfl) (fun _ _ _ h => h) (by rfl) ?hy197 (by assumption) ?rest197
            case hy197 => (intro w hSw; (try dsimp only at hSw); go_simp; try with_reducible rfl)
            simp only [Act.put, List.setIfInBounds_toArray, List.set_cons_zero, List.set_cons_succ]
            refine held_take (v := ?v198) 4 rfl (by kernel_rfl) (by kernel_rfl) (by kernel_rfl) (fun _ _ _ h => h) (by rfl) ?hy198 (by assumption) ?rest198
            case hy198 => (intro w hSw; (try dsimp only at hSw); go_simp; try with_reducible rfl)
            simp only [Act.put, List.setIfInBounds_toArray, List.set_cons_zero, List.set_cons_succ]
            refine held_call 5 rfl (by kernel_rfl) (by rfl) (fun K hK => ?_)
            go_simp
            go_at_call 41
            refine (CNb.out _).mono ?_
            rintro e w' ⟨rfl, rfl⟩
            go_simp
            have hHeld := hHeld
            refine hK _ _ (by assumption) ?_
            clear hK K
            try simp only [Act.put, List.setIfInBounds_toArray, List.set_cons_zero, List.set_cons_succ]
            refine held_take (v := ?v200) 6 rfl (by kernel_rfl) (by kernel_rfl) (by kernel_rfl) (fun _ _ _ h => h) (by rfl) ?hy200 (by assumption) ?rest200
            case hy200 => (intro w hSw; (try dsimp only at hSw); go_simp; try with_reducible rfl)
            simp only [Act.put, List.setIfInBounds_toArray, List.set_cons_zero, List.set_cons_succ]
            refine held_take (v := ?v201) 7 rfl (by kernel_rfl) (by kernel_rfl) (by kernel_rfl) (fun _ _ _ h => h) (by rfl) ?hy201 (by assumption) ?rest201
            case hy201 => (intro w hSw; (try dsimp only at hSw); go_simp; try with_reducible rfl)
            simp only [Act.put, List.setIfInBounds_toArray, List.set_cons_zero, List.set_cons_succ]
            refine held_take (v := ?v202) 8 rfl (by kernel_rfl) (by kernel_rfl) (by kernel_rfl) (fun _ _ _ h => h) (by rfl) ?hy202 (by assumption) ?rest202
            case hy202 => (intro w hSw; (try dsimp only at hSw); go_simp; try with_reducible rfl)
            simp only [Act.put, List.setIfInBounds_toArray, List.set_cons_zero, List.set_cons_succ]
            refine held_take (v := ?v203) 9 rfl (by kernel_rfl) (by kernel_rfl) (by kernel_rfl) (fun _ _ _ h => h) (by rfl) ?hy203 (by assumption) ?rest203
            case hy203 => (intro w hSw; (try dsimp only at hSw); go_simp; try with_reducible rfl)
            simp only [Act.put, List.setIfInBounds_toArray, List.set_cons_zero, List.set_cons_succ]
            refine held_take (v := ?v204) 10 rfl (by kernel_rfl) (by kernel_rfl) (by kernel_rfl) (fun _ _ _ h => h) (by rfl) ?hy204 (by assumption) ?rest204
            case hy204 => (intro w hSw; (try dsimp only at hSw); go_simp; try with_reducible rfl)
            simp only [Act.put, List.setIfInBounds_toArray, List.set_cons_zero, List.set_cons_succ]
            refine held_take (v := ?v205) 11 rfl (by kernel_rfl) (by kernel_rfl) (by kernel_rfl) (fun _ _ _ h => h) (by rfl) ?hy205 (by assumption) ?rest205
            case hy205 => (intro w hSw; (try dsimp only at hSw); go_simp; try with_reducible rfl)
            simp only [Act.put, List.setIfInBounds_toArray, List.set_cons_zero, List.set_cons_succ]
            refine held_take (v := ?v206) 12 rfl (by kernel_rfl) (by kernel_rfl) (by kernel_rfl) (fun _ _ _ h => h) (by rfl) ?hy206 (by assumption) ?rest206
            case hy206 => (intro w hSw; (try dsimp only at hSw); go_simp; try with_reducible rfl)
            simp only [Act.put, List.setIfInBounds_toArray, List.set_cons_zero, List.set_cons_succ]
            refine held_call 13 rfl (by kernel_rfl) (by rfl) (fun K hK => ?_)
            go_simp
            go_at_call 69
            refine (CDb.out _).mono ?_
            rintro e wf ⟨rfl, hbf⟩
            go_simp
            have hHeld := KS.out _ (below_next (And.left (by assumption)) hbf)
            refine hK _ _ (by assumption) ?_
            clear hK K
            try simp only [Act.put, List.setIfInBounds_toArray, List.set_cons_zero, List.set_cons_succ]
            refine held_take (v := ?v208) 14 rfl (by kernel_rfl) (by kernel_rfl) (by kernel_rfl) (fun _ _ _ h => h) (by rfl) ?hy208 (by assumption) ?rest208
            case hy208 => (intro w hSw; (try dsimp only at hSw); go_simp; try with_reducible rfl)
            simp only [Act.put, List.setIfInBounds_toArray, List.set_cons_zero, List.set_cons_succ]
            refine held_take (v := ?v209) 15 rfl (by kernel_rfl) (by kernel_rfl) (by kernel_rfl) (fun _ _ _ h => h) (by rfl) ?hy209 (by assumption) ?rest209
            case hy209 => (intro w hSw; (try dsimp only at hSw); go_simp; try with_reducible rfl)
            simp only [Act.put, List.setIfInBounds_toArray, List.set_cons_zero, List.set_cons_succ]
            refine held_take (v := ?v210) 16 rfl (by kernel_rfl) (by kernel_rfl) (by kernel_rfl) (fun _ _ _ h => h) (by rfl) ?hy210 (by assumption) ?rest210
            case hy210 => (intro w hSw; (try dsimp only at hSw); go_simp; try with_reducible rfl)
            simp only [Act.put, List.setIfInBounds_toArray, List.set_cons_zero, List.set_cons_succ]
            refine held_take (v := ?v211) 17 rfl (by kernel_rfl) (by kernel_rfl) (by kernel_rfl) (fun _ _ _ h => h) (by rfl) ?hy211 (by assumption) ?rest211
            case hy211 => (intro w hSw; (try dsimp only at hSw); go_simp; try with_reducible rfl)
            simp only [Act.put, List.setIfInBounds_toArray, List.set_cons_zero, List.set_cons_succ]
            refine held_take (v := ?v212) 18 rfl (by kernel_rfl) (by kernel_rfl) (by kernel_rfl) (fun _ _ _ h => h) (by rfl) ?hy212 (by assumption) ?rest212
            case hy212 => (intro w hSw; (try dsimp only at hSw); go_simp; try with_reducible rfl)
            simp only [Act.put, List.setIfInBounds_toArray, List.set_cons_zero, List.set_cons_succ]
            refine held_take (v := ?v213) 19 rfl (by kernel_rfl) (by kernel_rfl) (by kernel_rfl) (fun _ _ _ h => h) (by rfl) ?hy213 (by assumption) ?rest213
            case hy213 => (intro w hSw; (try dsimp only at hSw); go_simp; try with_reducible rfl)
            simp only [Act.put, List.setIfInBounds_toArray, List.set_cons_zero, List.set_cons_succ]
            refine held_skip 20 rfl (by kernel_rfl) (by kernel_rfl) (by kernel_rfl) (fun _ _ _ h => h) (by rfl) (by assumption) ?_
            simp only [Act.put, List.setIfInBounds_toArray, List.set_cons_zero, List.set_cons_succ]
            refine held_skip 21 rfl (by kernel_rfl) (by kernel_rfl) (by kernel_rfl) (fun _ _ _ h => h) (by rfl) (by assumption) ?_
            simp only [Act.put, List.setIfInBounds_toArray, List.set_cons_zero, List.set_cons_succ]
            refine held_skip 22 rfl (by kernel_rfl) (by kernel_rfl) (by kernel_rfl) (fun _ _ _ h => h) (by rfl) (by assumption) ?_
            simp only [Act.put, List.setIfInBounds_toArray, List.set_cons_zero, List.set_cons_succ]
            refine held_skip 23 rfl (by kernel_rfl) (by kernel_rfl) (by kernel_rfl) (fun _ _ _ h => h) (by rfl) (by assumption) ?_
            simp only [Act.put, List.setIfInBounds_toArray, List.set_cons_zero, List.set_cons_succ]
            refine held_skip 24 rfl (by kernel_rfl) (by kernel_rfl) (by kernel_rfl) (fun _ _ _ h => h) (by rfl) (by assumption) ?_
            simp only [Act.put, List.setIfInBounds_toArray, List.set_cons_zero, List.set_cons_succ]
            refine held_skip 25 rfl (by kernel_rfl) (by kernel_rfl) (by kernel_rfl) (fun _ _ _ h => h) (by rfl) (by assumption) ?_
            simp only [Act.put, List.setIfInBounds_toArray, List.set_cons_zero, List.set_cons_succ]
            refine held_skip 26 rfl (by kernel_rfl) (by kernel_rfl) (by kernel_rfl) (fun _ _ _ h => h) (by rfl) (by assumption) ?_
            simp only [Act.put, List.setIfInBounds_toArray, List.set_cons_zero, List.set_cons_succ]
            refine held_skip 27 rfl (by kernel_rfl) (by kernel_rfl) (by kernel_rfl) (fun _ _ _ h => h) (by rfl) (by assumption) ?_
            simp only [Act.put, List.setIfInBounds_toArray, List.set_cons_zero, List.set_cons_succ]
            refine held_skip 28 rfl (by kernel_rfl) (by kernel_rfl) (by kernel_rfl) (fun _ _ _ h => h) (by rfl) (by assumption) ?_
            simp only [Act.put, List.setIfInBounds_toArray, List.set_cons_zero, List.set_cons_succ]
            refine held_skip 29 rfl (by kernel_rfl) (by kernel_rfl) (by kernel_rfl) (fun _ _ _ h => h) (by rfl) (by assumption) ?_
            simp only [Act.put, List.setIfInBounds_toArray, List.set_cons_zero, List.set_cons_succ]
            refine held_skip 30 rfl (by kernel_rfl) (by kernel_rfl) (by kernel_rfl) (fun _ _ _ h => h) (by rfl) (by assumption) ?_
            simp only [Act.put, List.setIfInBounds_toArray, List.set_cons_zero, List.set_cons_succ]
            refine held_skip 31 rfl (by kernel_rfl) (by kernel_rfl) (by kernel_rfl) (fun _ _ _ h => h) (by rfl) (by assumption) ?_
            simp only [Act.put, List.setIfInBounds_toArray, List.set_cons_zero, List.set_cons_succ]
            refine held_take (v := ?v226) 32 rfl (by kernel_rfl) (by kernel_rfl) (by kernel_rfl) (fun _ _ _ h => h) (by rfl) ?hy226 (by assumption) ?rest226
            case hy226 => (intro w hSw; (try dsimp only at hSw); go_simp; try with_reducible rfl)
            simp only [Act.put, List.setIfInBounds_toArray, List.set_cons_zero, List.set_cons_succ]
            refine held_take (v := ?v227) 33 rfl (by kernel_rfl) (by kernel_rfl) (by kernel_rfl) (fun _ _ _ h => h) (by rfl) ?hy227 (by assumption) ?rest227
            case hy227 => (intro w hSw; (try dsimp only at hSw); go_simp; try with_reducible rfl)
            simp only [Act.put, List.setIfInBounds_toArray, List.set_cons_zero, List.set_cons_succ]
            refine wpAnyH_done (by kernel_rfl) ?_ _
            refine NoPanic.normal ?_
            all_goals
              go_wp2_with fail
              exact ⟨⟨k + 1, by omega, by go_num, HNX2, Lib.hid (below_next hB.out (And.left (by assumption)))⟩, by simp [intOf]; omega⟩
          · obtain ⟨m, a, hkm, hl1, p0⟩ := HAB.out (by omega)
            have q1 : IntKind.i64.wrap ((k : Int) - 1) = (m : Int) := by rw [IntWalk.i64_in _ (by omega)]; omega
            have hmp : decide ((0 : Int) < (k : Int)) = true := decide_eq_true (by omega)
            have hmp2 : decide (0 < k) = true := decide_eq_true (by omega)
            have hml : m < l.length := by omega
            rw [hn, hd, decide_eq_false hk0, hl1] at HOK
            clear hk0 hkm hl1 hn hd
            rcases hlss : Op.bytesLess a.name.toList b.name.toList with _ | _
            · have hr : envF l = false := HFALSE.out (by rw [HOK.out]; simp only [hlss]; rfl)
              have HR := Lib.hid hr
              clear hr HOK HFALSE HNX
              have HP1 := Lib.hid p0
              have HBB := Lib.hid hbb
              have HC := Lib.hid (And.intro c0 (And.intro c1 (And.intro c2 (And.intro c3 c4))))
              have KS := Lib.hid (fun W (hb : Below wr.heap.size wr W) => show Below wr.heap.size wr W ∧ W.cell? ⟨bb, off + k * 5, none⟩ = some (.string b.name) ∧ W.cell? ⟨bb, off + k * 5 + 1, none⟩ = some (.int .i64 b.v.kind) ∧ W.cell? ⟨bb, off + k * 5 + 2, none⟩ = some (.int .i64 b.v.n) ∧ W.cell? ⟨bb, off + k * 5 + 3, none⟩ = some (.string b.v.s) ∧ W.cell? ⟨bb, off + k * 5 + 4, none⟩ = some (.slice vA b.v.l.length vc) ∧ W.cell? ⟨bb, off + m * 5, none⟩ = some (.string a.name) from ⟨hb, (hb.cell (p := ⟨bb, off + k * 5, none⟩) HBB.out).trans HC.out.1, (hb.cell (p := ⟨bb, off + k * 5 + 1, none⟩) HBB.out).trans HC.out.2.1, (hb.cell (p := ⟨bb, off + k * 5 + 2, none⟩) HBB.out).trans HC.out.2.2.1, (hb.cell (p := ⟨bb, off + k * 5 + 3, none⟩) HBB.out).trans HC.out.2.2.2.1, (hb.cell (p := ⟨bb, off + k * 5 + 4, none⟩) HBB.out).trans HC.out.2.2.2.2, (hb.cell (p := ⟨bb, off + m * 5, none⟩) HBB.out).trans HP1.out⟩)
              clear c0 c1 c2 c3 c4 p0
              go_upto_region 4 with fail
              refine wp_region_noPanic ?_
              refine wp_region_held_drew (S := fun W => Below wr.heap.size wr W ∧ W.cell? ⟨bb, off + k * 5, none⟩ = some (.string b.name) ∧ W.cell? ⟨bb, off + k * 5 + 1, none⟩ = some (.int .i64 b.v.kind) ∧ W.cell? ⟨bb, off + k * 5 + 2, none⟩ = some (.int .i64 b.v.n) ∧ W.cell? ⟨bb, off + k * 5 + 3, none⟩ = some (.string b.v.s) ∧ W.cell? ⟨bb, off + k * 5 + 4, none⟩ = some (.slice vA b.v.l.length vc) ∧ W.cell? ⟨bb, off + m * 5, none⟩ = some (.string a.name)) (by kernel_rfl) (KS.out _ ((Below.refl _ _).drew)) (fun hHeld => ?_)
              refine held_take (v := ?v228) 0 rfl (by kernel_rfl) (by kernel_rfl) (by kernel_rfl) (fun _ _ _ h => h) (by rfl) ?hy228 (by assumption) ?rest228
              case hy228 => (intro w hSw; (try dsimp only at hSw); go_simp; try with_reducible rfl)
              simp only [Act.put, List.setIfInBounds_toArray, List.set_cons_zero, List.set_cons_succ]
              refine held_take (v := ?v229) 1 rfl (by kernel_rfl) (by kernel_rfl) (by kernel_rfl) (fun _ _ _ h => h) (by rfl) ?hy229 (by assumption) ?rest229
              case hy229 => (intro w hSw; (try dsimp only at hSw); go_simp; try with_reducible rfl)
              simp only [Act.put, List.setIfInBounds_toArray, List.set_cons_zero, List.set_cons_succ]
              refine held_take (v := ?v230) 2 rfl (by kernel_rfl) (by kernel_rfl) (by kernel_rfl) (fun _ _ _ h => h) (by rfl) ?hy230 (by assumption) ?rest230
              case hy230 => (intro w hSw; (try dsimp only at hSw); go_simp; try with_reducible rfl)
              simp only [Act.put, List.setIfInBounds_toArray, List.set_cons_zero, List.set_cons_succ]
              refine held_take (v := ?v231) 3 rfl (by kernel_rfl) (by kernel_rfl) (by kernel_rfl) (fun _ _ _ h => h) (by rfl) ?hy231 (by assumption) ?rest231
              case hy231 => (intro w hSw; (try dsimp only at hSw); go_simp; try with_reducible rfl)
              simp only [Act.put, List.setIfInBounds_toArray, List.set_cons_zero, List.set_cons_succ]
              refine held_take (v := ?v232) 4 rfl (by kernel_rfl) (by kernel_rfl) (by kernel_rfl) (fun _ _ _ h => h) (by rfl) ?hy232 (by assumption) ?rest232
              case hy232 => (intro w hSw; (try dsimp only at hSw); go_simp; try with_reducible rfl)
              simp only [Act.put, List.setIfInBounds_toArray, List.set_cons_zero, List.set_cons_succ]
              refine held_call 5 rfl (by kernel_rfl) (by rfl) (fun K hK => ?_)
              go_simp
              go_at_call 41
              refine (CNb.out _).mono ?_
              rintro e w' ⟨rfl, rfl⟩
              go_simp
              have hHeld := hHeld
              refine hK _ _ (by assumption) ?_
              clear hK K
              try simp only [Act.put, List.setIfInBounds_toArray, List.set_cons_zero, List.set_cons_succ]
              refine held_take (v := ?v234) 6 rfl (by kernel_rfl) (by kernel_rfl) (by kernel_rfl) (fun _ _ _ h => h) (by rfl) ?hy234 (by assumption) ?rest234
              case hy234 => (intro w hSw; (try dsimp only at hSw); go_simp; try with_reducible rfl)
              simp only [Act.put, List.setIfInBounds_toArray, List.set_cons_zero, List.set_cons_succ]
              refine held_take (v := ?v235) 7 rfl (by kernel_rfl) (by kernel_rfl) (by kernel_rfl) (fun _ _ _ h => h) (by rfl) ?hy235 (by assumption) ?rest235
              case hy235 => (intro w hSw; (try dsimp only at hSw); go_simp; try with_reducible rfl)
              simp only [Act.put, List.setIfInBounds_toArray, List.set_cons_zero, List.set_cons_succ]
              refine held_take (v := ?v236) 8 rfl (by kernel_rfl) (by kernel_rfl) (by kernel_rfl) (fun _ _ _ h => h) (by rfl) ?hy236 (by assumption) ?rest236
              case hy236 => (intro w hSw; (try dsimp only at hSw); go_simp; try with_reducible rfl)
              simp only [Act.put, List.setIfInBounds_toArray, List.set_cons_zero, List.set_cons_succ]
              refine held_take (v := ?v237) 9 rfl (by kernel_rfl) (by kernel_rfl) (by kernel_rfl) (fun _ _ _ h => h) (by rfl) ?hy237 (by assumption) ?rest237
              case hy237 => (intro w hSw; (try dsimp only at hSw); go_simp; try with_reducible rfl)
              simp only [Act.put, List.setIfInBounds_toArray, List.set_cons_zero, List.set_cons_succ]
              refine held_take (v := ?v238) 10 rfl (by kernel_rfl) (by kernel_rfl) (by kernel_rfl) (fun _ _ _ h => h) (by rfl) ?hy238 (by assumption) ?rest238
              case hy238 => (intro w hSw; (try dsimp only at hSw); go_simp; try with_reducible rfl)
              simp only [Act.put, List.setIfInBounds_toArray, List.set_cons_zero, List.set_cons_succ]
              refine held_take (v := ?v239) 11 rfl (by kernel_rfl) (by kernel_rfl) (by kernel_rfl) (fun _ _ _ h => h) (by rfl) ?hy239 (by assumption) ?rest239
              case hy239 => (intro w hSw; (try dsimp only at hSw); go_simp; try with_reducible rfl)
              simp only [Act.put, List.setIfInBounds_toArray, List.set_cons_zero, List.set_cons_succ]
              refine held_take (v := ?v240) 12 rfl (by kernel_rfl) (by kernel_rfl) (by kernel_rfl) (fun _ _ _ h => h) (by rfl) ?hy240 (by assumption) ?rest240
              case hy240 => (intro w hSw; (try dsimp only at hSw); go_simp; try with_reducible rfl)
              simp only [Act.put, List.setIfInBounds_toArray, List.set_cons_zero, List.set_cons_succ]
              refine held_call 13 rfl (by kernel_rfl) (by rfl) (fun K hK => ?_)
              go_simp
              go_at_call 69
              refine (CDb.out _).mono ?_
              rintro e wf ⟨rfl, hbf⟩
              go_simp
              have hHeld := KS.out _ (below_next (And.left (by assumption)) hbf)
              refine hK _ _ (by assumption) ?_
              clear hK K
              try simp only [Act.put, List.setIfInBounds_toArray, List.set_cons_zero, List.set_cons_succ]
              refine held_take (v := ?v242) 14 rfl (by kernel_rfl) (by kernel_rfl) (by kernel_rfl) (fun _ _ _ h => h) (by rfl) ?hy242 (by assumption) ?rest242
              case hy242 => (intro w hSw; (try dsimp only at hSw); go_simp; try with_reducible rfl)
              simp only [Act.put, List.setIfInBounds_toArray, List.set_cons_zero, List.set_cons_succ]
              refine held_take (v := ?v243) 15 rfl (by kernel_rfl) (by kernel_rfl) (by kernel_rfl) (fun _ _ _ h => h) (by rfl) ?hy243 (by assumption) ?rest243
              case hy243 => (intro w hSw; (try dsimp only at hSw); go_simp; try with_reducible rfl)
              simp only [Act.put, List.setIfInBounds_toArray, List.set_cons_zero, List.set_cons_succ]
              refine held_take (v := ?v244) 16 rfl (by kernel_rfl) (by kernel_rfl) (by kernel_rfl) (fun _ _ _ h => h) (by rfl) ?hy244 (by assumption) ?rest244
              case hy244 => (intro w hSw; (try dsimp only at hSw); go_simp; try with_reducible rfl)
              simp only [Act.put, List.setIfInBounds_toArray, List.set_cons_zero, List.set_cons_succ]
              refine held_take (v := ?v245) 17 rfl (by kernel_rfl) (by kernel_rfl) (by kernel_rfl) (fun _ _ _ h => h) (by rfl) ?hy245 (by assumption) ?rest245
              case hy245 => (intro w hSw; (try dsimp only at hSw); go_simp; try with_reducible rfl)
              simp only [Act.put, List.setIfInBounds_toArray, List.set_cons_zero, List.set_cons_succ]
              refine held_take (v := ?v246) 18 rfl (by kernel_rfl) (by kernel_rfl) (by kernel_rfl) (fun _ _ _ h => h) (by rfl) ?hy246 (by assumption) ?rest246
              case hy246 => (intro w hSw; (try dsimp only at hSw); go_simp; try with_reducible rfl)
              simp only [Act.put, List.setIfInBounds_toArray, List.set_cons_zero, List.set_cons_succ]
              refine held_take (v := ?v247) 19 rfl (by kernel_rfl) (by kernel_rfl) (by kernel_rfl) (fun _ _ _ h => h) (by rfl) ?hy247 (by assumption) ?rest247
              case hy247 => (intro w hSw; (try dsimp only at hSw); go_simp; try with_reducible rfl)
              simp only [Act.put, List.setIfInBounds_toArray, List.set_cons_zero, List.set_cons_succ]
              refine held_take (v := ?v248) 20 rfl (by kernel_rfl) (by kernel_rfl) (by kernel_rfl) (fun _ _ _ h => h) (by rfl) ?hy248 (by assumption) ?rest248
              case hy248 => (intro w hSw; (try dsimp only at hSw); go_simp; try with_reducible rfl)
              simp only [Act.put, List.setIfInBounds_toArray, List.set_cons_zero, List.set_cons_succ]
              refine held_take (v := ?v249) 21 rfl (by kernel_rfl) (by kernel_rfl) (by kernel_rfl) (fun _ _ _ h => h) (by rfl) ?hy249 (by assumption) ?rest249
              case hy249 => (intro w hSw; (try dsimp only at hSw); go_simp; try with_reducible rfl)
              simp only [Act.put, List.setIfInBounds_toArray, List.set_cons_zero, List.set_cons_succ]
              refine held_take (v := ?v250) 22 rfl (by kernel_rfl) (by kernel_rfl) (by kernel_rfl) (fun _ _ _ h => h) (by rfl) ?hy250 (by assumption) ?rest250
              case hy250 => (intro w hSw; (try dsimp only at hSw); go_simp; try with_reducible rfl)
              simp only [Act.put, List.setIfInBounds_toArray, List.set_cons_zero, List.set_cons_succ]
              refine held_take (v := ?v251) 23 rfl (by kernel_rfl) (by kernel_rfl) (by kernel_rfl) (fun _ _ _ h => h) (by rfl) ?hy251 (by assumption) ?rest251
              case hy251 => (intro w hSw; (try dsimp only at hSw); go_simp; try with_reducible rfl)
              simp only [Act.put, List.setIfInBounds_toArray, List.set_cons_zero, List.set_cons_succ]
              refine held_take (v := ?v252) 24 rfl (by kernel_rfl) (by kernel_rfl) (by kernel_rfl) (fun _ _ _ h => h) (by rfl) ?hy252 (by assumption) ?rest252
              case hy252 => (intro w hSw; (try dsimp only at hSw); go_simp; try with_reducible rfl)
              simp only [Act.put, List.setIfInBounds_toArray, List.set_cons_zero, List.set_cons_succ]
              refine held_take (v := ?v253) 25 rfl (by kernel_rfl) (by kernel_rfl) (by kernel_rfl) (fun _ _ _ h => h) (by rfl) ?hy253 (by assumption) ?rest253
              case hy253 => (intro w hSw; (try dsimp only at hSw); go_simp; try with_reducible rfl)
              simp only [Act.put, List.setIfInBounds_toArray, List.set_cons_zero, List.set_cons_succ]
              refine held_take (v := ?v254) 26 rfl (by kernel_rfl) (by kernel_rfl) (by kernel_rfl) (fun _ _ _ h => h) (by rfl) ?hy254 (by assumption) ?rest254
              case hy254 => (intro w hSw; (try dsimp only at hSw); go_simp; try with_reducible rfl)
              simp only [Act.put, List.setIfInBounds_toArray, List.set_cons_zero, List.set_cons_succ]
              refine held_take (v := ?v255) 27 rfl (by kernel_rfl) (by kernel_rfl) (by kernel_rfl) (fun _ _ _ h => h) (by rfl) ?hy255 (by assumption) ?rest255
              case hy255 => (intro w hSw; (try dsimp only at hSw); go_simp; try with_reducible rfl)
              simp only [Act.put, List.setIfInBounds_toArray, List.set_cons_zero, List.set_cons_succ]
              refine held_take (v := ?v256) 28 rfl (by kernel_rfl) (by kernel_rfl) (by kernel_rfl) (fun _ _ _ h => h) (by rfl) ?hy256 (by assumption) ?rest256
              case hy256 => (intro w hSw; (try dsimp only at hSw); go_simp; try with_reducible rfl)
              simp only [Act.put, List.setIfInBounds_toArray, List.set_cons_zero, List.set_cons_succ]
              refine held_take (v := ?v257) 29 rfl (by kernel_rfl) (by kernel_rfl) (by kernel_rfl) (fun _ _ _ h => h) (by rfl) ?hy257 (by assumption) ?rest257
              case hy257 => (intro w hSw; (try dsimp only at hSw); go_simp; try with_reducible rfl)
              simp only [Act.put, List.setIfInBounds_toArray, List.set_cons_zero, List.set_cons_succ]
              refine held_take (v := ?v258) 30 rfl (by kernel_rfl) (by kernel_rfl) (by kernel_rfl) (fun _ _ _ h => h) (by rfl) ?hy258 (by assumption) ?rest258
              case hy258 => (intro w hSw; (try dsimp only at hSw); go_simp; try with_reducible rfl)
              simp only [Act.put, List.setIfInBounds_toArray, List.set_cons_zero, List.set_cons_succ]
              refine held_take (v := ?v259) 31 rfl (by kernel_rfl) (by kernel_rfl) (by kernel_rfl) (fun _ _ _ h => h) (by rfl) ?hy259 (by assumption) ?rest259
              case hy259 => (intro w hSw; (try dsimp only at hSw); go_simp; try with_reducible rfl)
              simp only [Act.put, List.setIfInBounds_toArray, List.set_cons_zero, List.set_cons_succ]
              refine held_take (v := ?v260) 32 rfl (by kernel_rfl) (by kernel_rfl) (by kernel_rfl) (fun _ _ _ h => h) (by rfl) ?hy260 (by assumption) ?rest260
              case hy260 => (intro w hSw; (try dsimp only at hSw); go_simp; try with_reducible rfl)
              simp only [Act.put, List.setIfInBounds_toArray, List.set_cons_zero, List.set_cons_succ]
              refine held_take (v := ?v261) 33 rfl (by kernel_rfl) (by kernel_rfl) (by kernel_rfl) (fun _ _ _ h => h) (by rfl) ?hy261 (by assumption) ?rest261
              case hy261 => (intro w hSw; (try dsimp only at hSw); go_simp; try with_reducible rfl)
              simp only [Act.put, List.setIfInBounds_toArray, List.set_cons_zero, List.set_cons_succ]
              refine wpAnyH_done (by kernel_rfl) ?_ _
              refine NoPanic.normal ?_
              all_goals
                go_wp2_with fail
                go_ret
                exact ⟨ret_bool HR.out.symm, below_next hB.out (And.left (by assumption))⟩
            · have HNX2 := Lib.hid (HNX.out (by rw [HOK.out]; simp only [hlss]; rfl))
              clear HOK HFALSE HNX
              have HP1 := Lib.hid p0
              have HBB := Lib.hid hbb
              have HC := Lib.hid (And.intro c0 (And.intro c1 (And.intro c2 (And.intro c3 c4))))
              have KS := Lib.hid (fun W (hb : Below wr.heap.size wr W) => show Below wr.heap.size wr W ∧ W.cell? ⟨bb, off + k * 5, none⟩ = some (.string b.name) ∧ W.cell? ⟨bb, off + k * 5 + 1, none⟩ = some (.int .i64 b.v.kind) ∧ W.cell? ⟨bb, off + k * 5 + 2, none⟩ = some (.int .i64 b.v.n) ∧ W.cell? ⟨bb, off + k * 5 + 3, none⟩ = some (.string b.v.s) ∧ W.cell? ⟨bb, off + k * 5 + 4, none⟩ = some (.slice vA b.v.l.length vc) ∧ W.cell? ⟨bb, off + m * 5, none⟩ = some (.string a.name) from ⟨hb, (hb.cell (p := ⟨bb, off + k * 5, none⟩) HBB.out).trans HC.out.1, (hb.cell (p := ⟨bb, off + k * 5 + 1, none⟩) HBB.out).trans HC.out.2.1, (hb.cell (p := ⟨bb, off + k * 5 + 2, none⟩) HBB.out).trans HC.out.2.2.1, (hb.cell (p := ⟨bb, off + k * 5 + 3, none⟩) HBB.out).trans HC.out.2.2.2.1, (hb.cell (p := ⟨bb, off + k * 5 + 4, none⟩) HBB.out).trans HC.out.2.2.2.2, (hb.cell (p := ⟨bb, off + m * 5, none⟩) HBB.out).trans HP1.out⟩)
              clear c0 c1 c2 c3 c4 p0
              go_upto_region 4 with fail
              refine wp_region_noPanic ?_
              refine wp_region_held_drew (S := fun W => Below wr.heap.size wr W ∧ W.cell? ⟨bb, off + k * 5, none⟩ = some (.string b.name) ∧ W.cell? ⟨bb, off + k * 5 + 1, none⟩ = some (.int .i64 b.v.kind) ∧ W.cell? ⟨bb, off + k * 5 + 2, none⟩ = some (.int .i64 b.v.n) ∧ W.cell? ⟨bb, off + k * 5 + 3, none⟩ = some (.string b.v.s) ∧ W.cell? ⟨bb, off + k * 5 + 4, none⟩ = some (.slice vA b.v.l.length vc) ∧ W.cell? ⟨bb, off + m * 5, none⟩ = some (.string a.name)) (by kernel_rfl) (KS.out _ ((Below.refl _ _).drew)) (fun hHeld => ?_)
              refine held_take (v := ?v262) 0 rfl (by kernel_rfl) (by kernel_rfl) (by kernel_rfl) (fun _ _ _ h => h) (by rfl) ?hy262 (by assumption) ?rest262
              case hy262 => (intro w hSw; (try dsimp only at hSw); go_simp; try with_reducible rfl)
              simp only [Act.put, List.setIfInBounds_toArray, List.set_cons_zero, List.set_cons_succ]
              refine held_take (v := ?v263) 1 rfl (by kernel_rfl) (by kernel_rfl) (by kernel_rfl) (fun _ _ _ h => h) (by rfl) ?hy263 (by assumption) ?rest263
              case hy263 => (intro w hSw; (try dsimp only at hSw); go_simp; try with_reducible rfl)
              simp only [Act.put, List.setIfInBounds_toArray, List.set_cons_zero, List.set_cons_succ]
              refine held_take (v := ?v264) 2 rfl (by kernel_rfl) (by kernel_rfl) (by kernel_rfl) (fun _ _ _ h => h) (by rfl) ?hy264 (by assumption) ?rest264
              case hy264 => (intro w hSw; (try dsimp only at hSw); go_simp; try with_reducible rfl)
              simp only [Act.put, List.setIfInBounds_toArray, List.set_cons_zero, List.set_cons_succ]
              refine held_take (v := ?v265) 3 rfl (by kernel_rfl) (by kernel_rfl) (by kernel_rfl) (fun _ _ _ h => h) (by rfl) ?hy265 (by assumption) ?rest265
              case hy265 => (intro w hSw; (try dsimp only at hSw); go_simp; try with_reducible rfl)
              simp only [Act.put, List.setIfInBounds_toArray, List.set_cons_zero, List.set_cons_succ]
              refine held_take (v := ?v266) 4 rfl (by kernel_rfl) (by kernel_rfl) (by kernel_rfl) (fun _ _ _ h => h) (by rfl) ?hy266 (by assumption) ?rest266
              case hy266 => (intro w hSw; (try dsimp only at hSw); go_simp; try with_reducible rfl)
              simp only [Act.put, List.setIfInBounds_toArray, List.set_cons_zero, List.set_cons_succ]
              refine held_call 5 rfl (by kernel_rfl) (by rfl) (fun K hK => ?_)
              go_simp
              go_at_call 41
              refine (CNb.out _).mono ?_
              rintro e w' ⟨rfl, rfl⟩
              go_simp
              have hHeld := hHeld
              refine hK _ _ (by assumption) ?_
              clear hK K
              try simp only [Act.put, List.setIfInBounds_toArray, List.set_cons_zero, List.set_cons_succ]
              refine held_take (v := ?v268) 6 rfl (by kernel_rfl) (by kernel_rfl) (by kernel_rfl) (fun _ _ _ h => h) (by rfl) ?hy268 (by assumption) ?rest268
              case hy268 => (intro w hSw; (try dsimp only at hSw); go_simp; try with_reducible rfl)
              simp only [Act.put, List.setIfInBounds_toArray, List.set_cons_zero, List.set_cons_succ]
              refine held_take (v := ?v269) 7 rfl (by kernel_rfl) (by kernel_rfl) (by kernel_rfl) (fun _ _ _ h => h) (by rfl) ?hy269 (by assumption) ?rest269
              case hy269 => (intro w hSw; (try dsimp only at hSw); go_simp; try with_reducible rfl)
              simp only [Act.put, List.setIfInBounds_toArray, List.set_cons_zero, List.set_cons_succ]
              refine held_take (v := ?v270) 8 rfl (by kernel_rfl) (by kernel_rfl) (by kernel_rfl) (fun _ _ _ h => h) (by rfl) ?hy270 (by assumption) ?rest270
              case hy270 => (intro w hSw; (try dsimp only at hSw); go_simp; try with_reducible rfl)
              simp only [Act.put, List.setIfInBounds_toArray, List.set_cons_zero, List.set_cons_succ]
              refine held_take (v := ?v271) 9 rfl (by kernel_rfl) (by kernel_rfl) (by kernel_rfl) (fun _ _ _ h => h) (by rfl) ?hy271 (by assumption) ?rest271
              case hy271 => (intro w hSw; (try dsimp only at hSw); go_simp; try with_reducible rfl)
              simp only [Act.put, List.setIfInBounds_toArray, List.set_cons_zero, List.set_cons_succ]
              refine held_take (v := ?v272) 10 rfl (by kernel_rfl) (by kernel_rfl) (by kernel_rfl) (fun _ _ _ h => h) (by rfl) ?hy272 (by assumption) ?rest272
              case hy272 => (intro w hSw; (try dsimp only at hSw); go_simp; try with_reducible rfl)
              simp only [Act.put, List.setIfInBounds_toArray, List.set_cons_zero, List.set_cons_succ]
              refine held_take (v := ?v273) 11 rfl (by kernel_rfl) (by kernel_rfl) (by kernel_rfl) (fun _ _ _ h => h) (by rfl) ?hy273 (by assumption) ?rest273
              case hy273 => (intro w hSw; (try dsimp only at hSw); go_simp; try with_reducible rfl)
              simp only [Act.put, List.setIfInBounds_toArray, List.set_cons_zero, List.set_cons_succ]
              refine held_take (v := ?v274) 12 rfl (by kernel_rfl) (by kernel_rfl) (by kernel_rfl) (fun _ _ _ h => h) (by rfl) ?hy274 (by assumption) ?rest274
              case hy274 => (intro w hSw; (try dsimp only at hSw); go_simp; try with_reducible rfl)
              simp only [Act.put, List.setIfInBounds_toArray, List.set_cons_zero, List.set_cons_succ]
              refine held_call 13 rfl (by kernel_rfl) (by rfl) (fun K hK => ?_)
              go_simp
              go_at_call 69
              refine (CDb.out _).mono ?_
              rintro e wf ⟨rfl, hbf⟩
              go_simp
              have hHeld := KS.out _ (below_next (And.left (by assumption)) hbf)
              refine hK _ _ (by assumption) ?_
              clear hK K
              try simp only [Act.put, List.setIfInBounds_toArray, List.set_cons_zero, List.set_cons_succ]
              refine held_take (v := ?v276) 14 rfl (by kernel_rfl) (by kernel_rfl) (by kernel_rfl) (fun _ _ _ h => h) (by rfl) ?hy276 (by assumption) ?rest276
              case hy276 => (intro w hSw; (try dsimp only at hSw); go_simp; try with_reducible rfl)
              simp only [Act.put, List.setIfInBounds_toArray, List.set_cons_zero, List.set_cons_succ]
              refine held_take (v := ?v277) 15 rfl (by kernel_rfl) (by kernel_rfl) (by kernel_rfl) (fun _ _ _ h => h) (by rfl) ?hy277 (by assumption) ?rest277
              case hy277 => (intro w hSw; (try dsimp only at hSw); go_simp; try with_reducible rfl)
              simp only [Act.put, List.setIfInBounds_toArray, List.set_cons_zero, List.set_cons_succ]
              refine held_take (v := ?v278) 16 rfl (by kernel_rfl) (by kernel_rfl) (by kernel_rfl) (fun _ _ _ h => h) (by rfl) ?hy278 (by assumption) ?rest278
              case hy278 => (intro w hSw; (try dsimp only at hSw); go_simp; try with_reducible rfl)
              simp only [Act.put, List.setIfInBounds_toArray, List.set_cons_zero, List.set_cons_succ]
              refine held_take (v := ?v279) 17 rfl (by kernel_rfl) (by kernel_rfl) (by kernel_rfl) (fun _ _ _ h => h) (by rfl) ?hy279 (by assumption) ?rest279
              case hy279 => (intro w hSw; (try dsimp only at hSw); go_simp; try with_reducible rfl)
              simp only [Act.put, List.setIfInBounds_toArray, List.set_cons_zero, List.set_cons_succ]
              refine held_take (v := ?v280) 18 rfl (by kernel_rfl) (by kernel_rfl) (by kernel_rfl) (fun _ _ _ h => h) (by rfl) ?hy280 (by assumption) ?rest280
              case hy280 => (intro w hSw; (try dsimp only at hSw); go_simp; try with_reducible rfl)
              simp only [Act.put, List.setIfInBounds_toArray, List.set_cons_zero, List.set_cons_succ]
              refine held_take (v := ?v281) 19 rfl (by kernel_rfl) (by kernel_rfl) (by kernel_rfl) (fun _ _ _ h => h) (by rfl) ?hy281 (by assumption) ?rest281
              case hy281 => (intro w hSw; (try dsimp only at hSw); go_simp; try with_reducible rfl)
              simp only [Act.put, List.setIfInBounds_toArray, List.set_cons_zero, List.set_cons_succ]
              refine held_take (v := ?v282) 20 rfl (by kernel_rfl) (by kernel_rfl) (by kernel_rfl) (fun _ _ _ h => h) (by rfl) ?hy282 (by assumption) ?rest282
              case hy282 => (intro w hSw; (try dsimp only at hSw); go_simp; try with_reducible rfl)
              simp only [Act.put, List.setIfInBounds_toArray, List.set_cons_zero, List.set_cons_succ]
              refine held_take (v := ?v283) 21 rfl (by kernel_rfl) (by kernel_rfl) (by kernel_rfl) (fun _ _ _ h => h) (by rfl) ?hy283 (by assumption) ?rest283
              case hy283 => (intro w hSw; (try dsimp only at hSw); go_simp; try with_reducible rfl)
              simp only [Act.put, List.setIfInBounds_toArray, List.set_cons_zero, List.set_cons_succ]
              refine held_take (v := ?v284) 22 rfl (by kernel_rfl) (by kernel_rfl) (by kernel_rfl) (fun _ _ _ h => h) (by rfl) ?hy284 (by assumption) ?rest284
              case hy284 => (intro w hSw; (try dsimp only at hSw); go_simp; try with_reducible rfl)
              simp only [Act.put, List.setIfInBounds_toArray, List.set_cons_zero, List.set_cons_succ]
              refine held_take (v := ?v285) 23 rfl (by kernel_rfl) (by kernel_rfl) (by kernel_rfl) (fun _ _ _ h => h) (by rfl) ?hy285 (by assumption) ?rest285
              case hy285 => (intro w hSw; (try dsimp only at hSw); go_simp; try with_reducible rfl)
              simp only [Act.put, List.setIfInBounds_toArray, List.set_cons_zero, List.set_cons_succ]
              refine held_take (v := ?v286) 24 rfl (by kernel_rfl) (by kernel_rfl) (by kernel_rfl) (fun _ _ _ h => h) (by rfl) ?hy286 (by assumption) ?rest286
              case hy286 => (intro w hSw; (try dsimp only at hSw); go_simp; try with_reducible rfl)
              simp only [Act.put, List.setIfInBounds_toArray, List.set_cons_zero, List.set_cons_succ]
              refine held_take (v := ?v287) 25 rfl (by kernel_rfl) (by kernel_rfl) (by kernel_rfl) (fun _ _ _ h => h) (by rfl) ?hy287 (by assumption) ?rest287
              case hy287 => (intro w hSw; (try dsimp only at hSw); go_simp; try with_reducible rfl)
              simp only [Act.put, List.setIfInBounds_toArray, List.set_cons_zero, List.set_cons_succ]
              refine held_take (v := ?v288) 26 rfl (by kernel_rfl) (by kernel_rfl) (by kernel_rfl) (fun _ _ _ h => h) (by rfl) ?hy288 (by assumption) ?rest288
              case hy288 => (intro w hSw; (try dsimp only at hSw); go_simp; try with_reducible rfl)
              simp only [Act.put, List.setIfInBounds_toArray, List.set_cons_zero, List.set_cons_succ]
              refine held_take (v := ?v289) 27 rfl (by kernel_rfl) (by kernel_rfl) (by kernel_rfl) (fun _ _ _ h => h) (by rfl) ?hy289 (by assumption) ?rest289
              case hy289 => (intro w hSw; (try dsimp only at hSw); go_simp; try with_reducible rfl)
              simp only [Act.put, List.setIfInBounds_toArray, List.set_cons_zero, List.set_cons_succ]
              refine held_take (v := ?v290) 28 rfl (by kernel_rfl) (by kernel_rfl) (by kernel_rfl) (fun _ _ _ h => h) (by rfl) ?hy290 (by assumption) ?rest290
              case hy290 => (intro w hSw; (try dsimp only at hSw); go_simp; try with_reducible rfl)
              simp only [Act.put, List.setIfInBounds_toArray, List.set_cons_zero, List.set_cons_succ]
              refine held_take (v := ?v291) 29 rfl (by kernel_rfl) (by kernel_rfl) (by kernel_rfl) (fun _ _ _ h => h) (by rfl) ?hy291 (by assumption) ?rest291
              case hy291 => (intro w hSw; (try dsimp only at hSw); go_simp; try with_reducible rfl)
              simp only [Act.put, List.setIfInBounds_toArray, List.set_cons_zero, List.set_cons_succ]
              refine held_take (v := ?v292) 30 rfl (by kernel_rfl) (by kernel_rfl) (by kernel_rfl) (fun _ _ _ h => h) (by rfl) ?hy292 (by assumption) ?rest292
              case hy292 => (intro w hSw; (try dsimp only at hSw); go_simp; try with_reducible rfl)
              simp only [Act.put, List.setIfInBounds_toArray, List.set_cons_zero, List.set_cons_succ]
              refine held_take (v := ?v293) 31 rfl (by kernel_rfl) (by kernel_rfl) (by kernel_rfl) (fun _ _ _ h => h) (by rfl) ?hy293 (by assumption) ?rest293
              case hy293 => (intro w hSw; (try dsimp only at hSw); go_simp; try with_reducible rfl)
              simp only [Act.put, List.setIfInBounds_toArray, List.set_cons_zero, List.set_cons_succ]
              refine held_take (v := ?v294) 32 rfl (by kernel_rfl) (by kernel_rfl) (by kernel_rfl) (fun _ _ _ h => h) (by rfl) ?hy294 (by assumption) ?rest294
              case hy294 => (intro w hSw; (try dsimp only at hSw); go_simp; try with_reducible rfl)
              simp only [Act.put, List.setIfInBounds_toArray, List.set_cons_zero, List.set_cons_succ]
              refine held_take (v := ?v295) 33 rfl (by kernel_rfl) (by kernel_rfl) (by kernel_rfl) (fun _ _ _ h => h) (by rfl) ?hy295 (by assumption) ?rest295
              case hy295 => (intro w hSw; (try dsimp only at hSw); go_simp; try with_reducible rfl)
              simp only [Act.put, List.setIfInBounds_toArray, List.set_cons_zero, List.set_cons_succ]
              refine wpAnyH_done (by kernel_rfl) ?_ _
              refine NoPanic.normal ?_
              all_goals
                go_wp2_with fail
                exact ⟨⟨k + 1, by omega, by go_num, HNX2, Lib.hid (below_next hB.out (And.left (by assumption)))⟩, by simp [intOf]; omega⟩
    · have hr := envF_true (l := l) (fun j hj => hok.out j (by omega))
      have HR := Lib.hid hr
      clear hr
      go_wp2_with fail
      go_ret
      exact ⟨ret_bool (by rw [HR.out]; rw [Bool.eq_iff_iff]; simp <;> omega), hB.out⟩
end Go.Proofs.Ytfaophiaiflecaa
