/- Plain: what is read of a note's bytes. Contract: the reader of a number of 64 bits; packet.read over any fields. -/
import Derived.Test.YtfaophiaiflecaaPkReads
import Derived.Test.YtfaophiaiflecaaNtB2
namespace Go.Proofs.Ytfaophiaiflecaa
open Go.RowKit

def oneN (s : List UInt8) : Option (Int × List UInt8) := match readF s with
  | (n, k, true) => some (n, s.drop k)
  | (_, _, false) => none
def oneT (s : List UInt8) : Option (ByteArray × List UInt8) := match cutT s with
  | (b, r, true) => some (⟨b.toArray⟩, r)
  | (_, _, false) => none
def manyF {α : Type} (f : List UInt8 → Option (α × List UInt8)) : Nat → List UInt8 → Option (List α × List UInt8)
  | 0, s => some ([], s)
  | n + 1, s => match f s with
    | none => none
    | some (x, r) => match manyF f n r with
      | none => none
      | some (l, r') => some (x :: l, r')
def listF {α : Type} (f : List UInt8 → Option (α × List UInt8)) (s : List UInt8) : Option (List α × List UInt8) := match oneN s with
  | none => none
  | some (n, r) => if n < 0 ∨ (r.length : Int) < n then none else manyF f n.toNat r
def oneV (s : List UInt8) : Option (Vl × List UInt8) := match oneN s with
  | none => none
  | some (k, s) => match oneN s with
    | none => none
    | some (n, s) => match oneT s with
      | none => none
      | some (t, s) => match listF oneN s with
        | none => none
        | some (l, s) => some (⟨k, n, t, l⟩, s)
def oneB (s : List UInt8) : Option (Bd × List UInt8) := match oneT s with
  | none => none
  | some (n, s) => match oneV s with
    | none => none
    | some (v, s) => some (⟨n, v⟩, s)
/-- A field's kind; what is read of it. -/
inductive FK
  | num
  | n64
  | txt
  | l64
  | lB
inductive Dt
  | num (n : Int)
  | txt (s : ByteArray)
  | l64 (l : List Int)
  | lB (l : List Bd)
def readK : FK → List UInt8 → Option (Dt × List UInt8)
  | .num, s => match oneN s with | none => none | some (n, r) => some (.num n, r)
  | .n64, s => match oneN s with | none => none | some (n, r) => some (.num n, r)
  | .txt, s => match oneT s with | none => none | some (n, r) => some (.txt n, r)
  | .l64, s => match listF oneN s with | none => none | some (n, r) => some (.l64 n, r)
  | .lB, s => match listF oneB s with | none => none | some (n, r) => some (.lB n, r)
def readsK : List FK → List UInt8 → Option (List Dt × List UInt8)
  | [], s => some ([], s)
  | k :: t, s => match readK k s with
    | none => none
    | some (x, r) => match readsK t r with
      | none => none
      | some (l, r') => some (x :: l, r')
theorem oneN_le {s r : List UInt8} {n : Int} (h : oneN s = some (n, r)) : r.length + 1 ≤ s.length := by
  unfold oneN at h
  split at h
  · rename_i n' k he
    have := readF_le he
    injection h with h; injection h with _ h
    rw [← h, List.length_drop]; omega
  · cases h
theorem oneT_le {s r : List UInt8} {n : ByteArray} (h : oneT s = some (n, r)) : r.length ≤ s.length := by
  unfold oneT at h
  have hc := cutT_le s
  split at h
  · rename_i b r' he
    injection h with h; injection h with _ h
    rw [he] at hc
    rw [← h]; exact hc
  · cases h
theorem manyF_le {α : Type} {f : List UInt8 → Option (α × List UInt8)} (hf : ∀ s x r, f s = some (x, r) → r.length ≤ s.length) : ∀ (n : Nat) (s : List UInt8) (l : List α) (r : List UInt8), manyF f n s = some (l, r) → r.length ≤ s.length := by
  intro n
  induction n with
  | zero => intro s l r h; simp [manyF] at h; rw [h.2]; exact Nat.le_refl _
  | succ n ih =>
    intro s l r h
    unfold manyF at h
    split at h
    · cases h
    · rename_i x r1 h1
      split at h
      · cases h
      · rename_i l2 r2 h2
        injection h with h; injection h with _ h
        have := hf _ _ _ h1
        have := ih _ _ _ h2
        rw [← h]; omega
theorem listF_le {α : Type} {f : List UInt8 → Option (α × List UInt8)} (hf : ∀ s x r, f s = some (x, r) → r.length ≤ s.length) {s r : List UInt8} {l : List α} (h : listF f s = some (l, r)) : r.length ≤ s.length := by
  unfold listF at h
  split at h
  · cases h
  · rename_i n r1 h1
    split at h
    · cases h
    · have := oneN_le h1
      have := manyF_le hf _ _ _ _ h
      omega
theorem oneV_le {s r : List UInt8} {x : Vl} (h : oneV s = some (x, r)) : r.length ≤ s.length := by
  unfold oneV at h
  split at h
  · cases h
  rename_i h1
  split at h
  · cases h
  rename_i h2
  split at h
  · cases h
  rename_i h3
  split at h
  · cases h
  rename_i h4
  injection h with h; injection h with _ h
  subst h
  have := oneN_le h1
  have := oneN_le h2
  have := oneT_le h3
  have := listF_le (fun s x r h => by have := oneN_le h; omega) h4
  omega
theorem oneB_le {s r : List UInt8} {x : Bd} (h : oneB s = some (x, r)) : r.length ≤ s.length := by
  unfold oneB at h
  split at h
  · cases h
  rename_i h1
  split at h
  · cases h
  rename_i h2
  injection h with h; injection h with _ h
  subst h
  have := oneT_le h1
  have := oneV_le h2
  omega
theorem readK_le {K : FK} {s r : List UInt8} {x : Dt} (h : readK K s = some (x, r)) : r.length ≤ s.length := by
  cases K <;> unfold readK at h <;> dsimp only at h <;> split at h <;> first | cases h | skip
  all_goals
    rename_i h1
  · have := oneN_le h1; omega
  · have := oneN_le h1; omega
  · exact oneT_le h1
  · exact listF_le (fun s x r h => by have := oneN_le h; omega) h1
  · exact listF_le (fun s x r h => oneB_le h) h1
/-- The row of bindings lies there, and no part of it in the block h. -/
def EnvX (w : World) (h : Nat) (E : Option Addr) (l : List Bd) : Prop :=
  (∀ a, E = some a → h < a.block ∧ a.block < w.heap.size) ∧ ∃ R : List (Option Addr × Nat), R.length = l.length ∧ Rd w E (bdRow l R) ∧ ∀ (i : Nat) b r, l[i]? = some b → R[i]? = some r → Ints w r.1 b.v.l ∧ ∀ a, r.1 = some a → h < a.block ∧ a.block < w.heap.size
/-- A cell's value is what was read. -/
def Dt.at (w : World) (h : Nat) : Dt → Value → Prop
  | .num n, v => v = .int .i64 n
  | .txt s, v => v = .string s
  | .l64 l, v => ∃ A c, v = .slice A l.length c ∧ Ints w A l ∧ ∀ a, A = some a → h < a.block ∧ a.block < w.heap.size
  | .lB l, v => ∃ E d, v = .slice E l.length d ∧ EnvX w h E l
theorem blkOf_ne {A : Option Addr} {h n : Nat} (H : ∀ a, A = some a → h < a.block ∧ a.block < n) : blkOf A ≠ some h := by
  cases A with
  | none => simp [blkOf]
  | some a => have := (H a rfl).1; simp [blkOf]; omega
theorem Dt.at_grown {x : Dt} {w w' : World} {h : Nat} {v : Value} (hx : x.at w h v) (hg : w.grownBy w' (some h)) : x.at w' h v := by
  have hm : ∀ {A : Option Addr}, (∀ a, A = some a → h < a.block ∧ a.block < w.heap.size) → ∀ a, A = some a → h < a.block ∧ a.block < w'.heap.size := fun H a ha => ⟨(H a ha).1, Nat.lt_of_lt_of_le (H a ha).2 hg.size⟩
  cases x with
  | num n => exact hx
  | txt s => exact hx
  | l64 l =>
    obtain ⟨A, c, h1, h2, h3⟩ := hx
    exact ⟨A, c, h1, rd_grown h2 hg (blkOf_ne h3), hm h3⟩
  | lB l =>
    obtain ⟨E, d, h1, h2, R, h3, h4, h5⟩ := hx
    exact ⟨E, d, h1, hm h2, R, h3, rd_grown h4 hg (blkOf_ne h2), fun i b r hi hr => ⟨rd_grown (h5 i b r hi hr).1 hg (blkOf_ne (h5 i b r hi hr).2), hm (h5 i b r hi hr).2⟩⟩
def FK.zero : FK → Value
  | .num => .int .i64 0
  | .n64 => .int .i64 0
  | .txt => .string ⟨#[]⟩
  | .l64 => .slice none 0 0
  | .lB => .slice none 0 0
def FK.fn : FK → Nat
  | .num => 77
  | .n64 => 90
  | .txt => 80
  | .l64 => 92
  | .lB => 86
def FK.args : FK → Nat → Value → Array Value
  | .num, b, s => #[s, .pointer (some ⟨b, 0, none⟩)]
  | .n64, b, s => #[s, .pointer (some ⟨b, 0, none⟩)]
  | .txt, b, s => #[s, .pointer (some ⟨b, 0, none⟩)]
  | .l64, b, s => #[s, .pointer (some ⟨b + 1, 0, none⟩), .pointer (some ⟨b, 0, none⟩)]
  | .lB, b, s => #[s, .pointer (some ⟨b + 1, 0, none⟩), .pointer (some ⟨b, 0, none⟩)]
def FK.fw : FK → Nat → Value
  | .num, b => numW b
  | .n64, b => n64W b
  | .txt, b => txtW b
  | .l64, b => l64W b
  | .lB, b => lBW b
def FK.fr : FK → Nat → Value
  | .num, b => numR b
  | .n64, b => n64R b
  | .txt, b => txtR b
  | .l64, b => l64R b
  | .lB, b => lBR b
/-- What the reader of a field that lies at the block h, cell j, does. -/
def OutK (K : FK) (h j : Nat) (cs : List Value) (t : TypeId) (s : List UInt8) (W : World) (e : Ending) (W' : World) : Prop :=
  W.grownBy W' (some h) ∧ match readK K s with
    | none => ∃ s' : ByteArray, e = .returned (.tuple #[.string s', .bool false])
    | some (x, r) => e = .returned (.tuple #[.string ⟨r.toArray⟩, .bool true]) ∧ ∃ v, x.at W' h v ∧ Blk W' h (cs.set j v).toArray t
def RdC (K : FK) (b h j : Nat) (w : World) : Prop :=
  ∀ (W : World) (cs : List Value) (t : TypeId) (s : List UInt8), w.grownBy W (some h) → Blk W h cs.toArray t → cs[j]? = some K.zero → s.length ≤ 1000000 → Calls Try.prog K.fn (K.args b (.string ⟨s.toArray⟩)) W (OutK K h j cs t s W)
theorem RdC.grown {K : FK} {b h j : Nat} {w w' : World} (H : RdC K b h j w) (hg : w.grownBy w' (some h)) : RdC K b h j w' := fun W cs t s hW => H W cs t s (grown_trans hg hW)
def rfRow (F : List (FK × Nat)) : List Value := F.flatMap fun x => [x.1.fw x.2, x.1.fr x.2]
theorem rfRow_get (l : List (FK × Nat)) (k : Nat) (h : k < l.length) : (rfRow l)[k * 2]? = some (l[k].1.fw l[k].2) ∧ (rfRow l)[k * 2 + 1]? = some (l[k].1.fr l[k].2) := by
  induction l generalizing k with
  | nil => simp at h
  | cons a t ih =>
    have e : rfRow (a :: t) = a.1.fw a.2 :: a.1.fr a.2 :: rfRow t := rfl
    rw [e]
    cases k with
    | zero => exact ⟨rfl, rfl⟩
    | succ k =>
      have := ih k (by simpa using h)
      rw [show (k + 1) * 2 = k * 2 + 1 + 1 by omega, show k * 2 + 1 + 1 + 1 = (k * 2 + 1) + 1 + 1 by omega]
      simpa using this
theorem rfRow_len (l : List (FK × Nat)) : (rfRow l).length = l.length * 2 := by
  induction l with
  | nil => rfl
  | cons a t ih =>
    have e : rfRow (a :: t) = a.1.fw a.2 :: a.1.fr a.2 :: rfRow t := rfl
    rw [e, List.length_cons, List.length_cons, ih, List.length_cons]; omega
theorem set_snoc (vs cs : List Value) (v : Value) (hk : vs.length < cs.length) : (vs ++ cs.drop vs.length).set vs.length v = (vs ++ [v]) ++ cs.drop (vs ++ [v]).length := by
  rw [List.drop_eq_getElem_cons hk, List.set_append_right _ _ (Nat.le_refl _), Nat.sub_self, List.set_cons_zero, List.length_append, List.length_singleton, List.append_assoc]
  rfl
def OutR (Ks : List FK) (h : Nat) (t : TypeId) (s : List UInt8) (w : World) (e : Ending) (w' : World) : Prop :=
  w.grownBy w' (some h) ∧ match readsK Ks s with
    | none => ∃ s' : ByteArray, e = .returned (.tuple #[.string s', .bool false])
    | some (xs, r) => e = .returned (.tuple #[.string ⟨r.toArray⟩, .bool true]) ∧ ∃ vs : List Value, vs.length = Ks.length ∧ xs.length = Ks.length ∧ (∀ (j : Nat) (x : Dt) (v : Value), xs[j]? = some x → vs[j]? = some v → x.at w' h v) ∧ Blk w' h vs.toArray t
set_option maxRecDepth 100000 in
set_option maxHeartbeats 6400000 in
theorem read_gen (A : Option Addr) (F : List (FK × Nat)) (c h : Nat) (cs : List Value) (t : TypeId) (S : List UInt8) (w : World) (ha : Rd w A (rfRow F)) (hA : blkOf A ≠ some h) (hR : ∀ j (hj : j < F.length), RdC F[j].1 F[j].2 h j w) (hb : Blk w h cs.toArray t) (hz : ∀ j (hj : j < F.length), cs[j]? = some F[j].1.zero) (hcs : cs.length = F.length) (hF : F.length ≤ 1000) (hs : S.length ≤ 1000000) :
    Calls Try.prog 28 #[.slice A F.length c, .string ⟨S.toArray⟩] w (OutR (F.map (·.1)) h t S w) := by
  have HA := Lib.hid (fun W (hg : w.grownBy W (some h)) => rd_grown ha hg hA)
  have HR := Lib.hid (fun W (hg : w.grownBy W (some h)) j (hj : j < F.length) => (hR j hj).grown hg)
  have HB0 := Lib.hid hb
  have HZ := Lib.hid hz
  clear ha hR hA hb hz
  go_enter Try.func28, Try.ntmps28
  go_wp2_with fail
  go_loopw [1, 11] (fun s i wr => ∃ (k : Nat) (R : List UInt8) (vs : List Value) (xs : List Dt), k ≤ F.length ∧ i = .int .i64 k ∧ s = .string ⟨R.toArray⟩ ∧ vs.length = k ∧ R.length ≤ 1000000 ∧ Hid (xs.length = k) ∧
      Hid (readsK (F.map (·.1)) S = match readsK ((F.map (·.1)).drop k) R with | none => none | some (l, r) => some (xs ++ l, r)) ∧ Hid (∀ (j : Nat) (x : Dt) (v : Value), xs[j]? = some x → vs[j]? = some v → x.at wr h v) ∧ Hid (Blk wr h (vs ++ cs.drop vs.length).toArray t) ∧ Hid (w.grownBy wr (some h))) (fun _ i _ => F.length - (intOf i).toNat)
  case atStart =>
    refine ⟨0, S, [], [], Nat.zero_le _, rfl, rfl, rfl, hs, Lib.hid rfl, Lib.hid ?_, Lib.hid (fun j x v h => by simp at h), Lib.hid HB0.out, Lib.hid (World.grownBy.refl _ _)⟩
    rw [List.drop_zero]
    cases readsK (F.map (·.1)) S <;> simp
  case round =>
    obtain ⟨k, R, vs, xs, hk, rfl, rfl, hvs, hR, hxs, hP, hD, hB, hG⟩ := hrel
    by_cases hlt : k < F.length
    · obtain ⟨ib, io, hAe, hib, hcc⟩ := (HA.out _ hG.out).at_ (i := k * 2) (by rw [rfRow_len]; omega)
      subst hAe
      obtain ⟨g0, g1⟩ := rfRow_get F k hlt
      have c0 := hcc (k * 2) _ g0
      have c1 := hcc (k * 2 + 1) _ g1
      rw [← Nat.add_assoc] at c1
      have CK := Lib.hid (HR.out _ hG.out k hlt)
      have hdr : (F.map (·.1)).drop k = F[k].1 :: (F.map (·.1)).drop (k + 1) := by
        rw [List.drop_eq_getElem_cons (by simpa using hlt)]
        simp
      rw [hdr] at hP
      have hne : (vs ++ cs.drop vs.length)[k]? = some F[k].1.zero := by
        rw [List.getElem?_append_right (by omega), hvs, Nat.sub_self, List.getElem?_drop, Nat.add_zero]; exact HZ.out k hlt
      have HNE := Lib.hid hne
      clear hcc g0 g1 hdr hne
      generalize F[k] = x at *
      obtain ⟨x, b⟩ := x
      subst hvs
      have CC := Lib.hid (fun W (hw : wr.grownBy W (some h)) (hB' : Blk W h (vs ++ cs.drop vs.length).toArray t) => CK.out W _ t R hw hB' HNE.out hR)
      have HP2 := Lib.hid (show readsK (F.map (·.1)) S = match (match readK x R with
        | none => none
        | some (y, r) => match readsK ((F.map (·.1)).drop (vs.length + 1)) r with
          | none => none
          | some (l, r') => some (y :: l, r')) with | none => none | some (l, r) => some (xs ++ l, r) from hP.out)
      clear hP CK HNE
      have HLE := Lib.hid (fun y r (e : readK x R = some (y, r)) => readK_le e)
      generalize hrk : readK x R = rk at *
      have HRK := Lib.hid hrk
      clear hrk
      cases x
      all_goals
        dsimp only [FK.fw, FK.fr, FK.fn, FK.args] at *
        go_wp2_with fail
        refine (CC.out _ (grown_alloc _ _ _) (hB.out.alloc _)).mono ?_
        rintro e w1 ⟨hg1, hO⟩
        rw [HRK.out] at hO
        have HG1 := Lib.hid (grown_trans (grown_alloc _ _ _) hg1)
        clear CC hg1
        rcases rk with _ | ⟨y, r⟩
        · obtain ⟨s', rfl⟩ := hO
          clear HLE HRK
          go_wp2_with fail
          go_ret2
          refine ⟨grown_trans hG.out HG1.out, ?_⟩
          rw [HP2.out]
          exact ⟨s', rfl⟩
        · obtain ⟨rfl, v, hv, hBv⟩ := hO
          have hle := HLE.out y r rfl
          have HV := Lib.hid hv
          have HBV := Lib.hid hBv
          clear HLE HRK hv hBv
          go_wp2_with fail
          refine ⟨⟨vs.length + 1, r, vs ++ [v], xs ++ [y], by omega, by go_num, rfl, by simp, by omega, Lib.hid (by have := hxs.out; simp [this]), Lib.hid ?_, Lib.hid ?_, Lib.hid ?_, Lib.hid (grown_trans hG.out HG1.out)⟩, by simp [intOf]; omega⟩
          · rw [HP2.out]
            cases readsK ((F.map (·.1)).drop (vs.length + 1)) r <;> simp
          · intro j x' v' h1 h2
            by_cases hj : j < vs.length
            · rw [List.getElem?_append_left (by have := hxs.out; omega)] at h1
              rw [List.getElem?_append_left hj] at h2
              exact Dt.at_grown (hD.out j x' v' h1 h2) HG1.out
            · rw [List.getElem?_append_right (by have := hxs.out; omega)] at h1
              rw [List.getElem?_append_right (by omega)] at h2
              have e1 := hxs.out
              rw [e1] at h1
              cases hz : j - vs.length with
              | zero => rw [hz] at h1 h2; simp at h1 h2; subst h1; subst h2; exact HV.out
              | succ m => rw [hz] at h1; simp at h1
          · have e := HBV.out
            rw [set_snoc vs cs v (by omega)] at e
            exact e
    · have hke : k = F.length := by omega
      go_wp2_with fail
      go_ret2
      have hd : (F.map (·.1)).drop k = [] := List.drop_of_length_le (by simp; omega)
      refine ⟨hG.out, ?_⟩
      rw [hP.out, hd]
      have e := hB.out
      rw [List.drop_of_length_le (by omega), List.append_nil] at e
      have e1 := hxs.out
      exact ⟨rfl, vs, by simp; omega, by simp; omega, by simpa using hD.out, e⟩
end Go.Proofs.Ytfaophiaiflecaa
