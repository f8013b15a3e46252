/- Contracts: object.Sum, packet.sum. Journals in plain Lean: what is written is read; a prefix yields its whole records; a changed byte behind a length ends the reading. -/
import Derived.Test.YtfaophiaiflecaaNumRead
import Derived.Test.YtfaophiaiflecaaBlk
namespace Go.Proofs.Ytfaophiaiflecaa
open Go.RowKit

/-- One step of the sum, and the sum. -/
def fstep (h : Nat) (c : UInt8) : Nat := ((h ^^^ c.toNat) * 16777619) % 4294967296
def fnv (l : List UInt8) : Nat := l.foldl fstep 2166136261
theorem fstep_lt (h : Nat) (c : UInt8) : fstep h c < 4294967296 := by unfold fstep; omega
theorem fnv_append (l : List UInt8) (c : UInt8) : fnv (l ++ [c]) = fstep (fnv l) c := by unfold fnv; rw [List.foldl_append, List.foldl_cons, List.foldl_nil]
theorem fnv_lt (l : List UInt8) : fnv l < 4294967296 := by
  rcases List.eq_nil_or_concat l with rfl | ⟨m, c, rfl⟩
  · decide
  · rw [List.concat_eq_append, fnv_append]; exact fstep_lt _ _
theorem fstep_core (h : Nat) (c : UInt8) (hh : h < 4294967296) : bits BinOp.xor IntKind.u32 (h : Int) ((c.toNat : Int) % 4294967296) * 16777619 % 4294967296 = ((fstep h c : Nat) : Int) := by
  have hc : c.toNat < 256 := c.toNat_lt
  rw [show (c.toNat : Int) % 4294967296 = (c.toNat : Int) by omega, u32_xor_nat _ _ hh (by omega)]
  unfold fstep
  omega
/-- A number's four bytes, the highest first. -/
def fourB (h : Nat) : List UInt8 := [UInt8.ofNat (h / 16777216), UInt8.ofNat (h / 65536), UInt8.ofNat (h / 256), UInt8.ofNat h]
theorem take_snoc' (s : ByteArray) (k : Nat) (h : k < s.size) : s.data.toList.take (k + 1) = s.data.toList.take k ++ [s[k]] := by
  rw [List.take_succ_eq_append_getElem (by simpa using h)]; rfl
set_option maxHeartbeats 400000 in
theorem sum_any (s : ByteArray) (w : World) (hs : s.size ≤ maxLen) :
    Calls Try.prog 53 #[.string s] w fun e w' => e = .returned (.int .u32 (fnv s.data.toList)) ∧ w = w' := by
  unfold maxLen at hs
  go_enter Try.func53, Try.ntmps53
  go_wp2
  go_loop [3, 7] (fun h i => ∃ k : Nat, k ≤ s.size ∧ i = .int .i64 k ∧ h = .int .u32 (fnv (s.data.toList.take k))) (fun _ i => s.size - (intOf i).toNat)
  case atStart => exact ⟨0, Nat.zero_le _, rfl, rfl⟩
  case round =>
    obtain ⟨k, hk, rfl, rfl⟩ := hrel
    by_cases hlt : k < s.size
    · have hts := take_snoc' s k hlt
      have hf := fnv_append (s.data.toList.take k) s[k]
      have hl := fnv_lt (s.data.toList.take k)
      have hc := fstep_core _ s[k] hl
      rw [← hf, ← hts] at hc
      have HC := Lib.hid hc
      clear hts hf hc
      generalize fnv (s.data.toList.take k) = q at *
      go_wp2
      go_round
      case rel => exact ⟨k + 1, by omega, by go_num, by rw [HC.out]⟩
      case measure => simp [intOf]; omega
    · go_wp2
      go_ret
      have hk2 : s.data.toList.take k = s.data.toList := List.take_of_length_le (by simp; show s.size ≤ k; omega)
      rw [hk2]
      exact ⟨rfl, rfl⟩
theorem byte_core (h : Nat) : (h : Int) % 256 = ((UInt8.ofNat h).toNat : Int) := by
  rw [UInt8.toNat_ofNat']
  omega
theorem byte_top (h : Nat) (hh : h < 4294967296) : (h : Int) / 16777216 = ((UInt8.ofNat (h / 16777216)).toNat : Int) := by
  rw [UInt8.toNat_ofNat']
  omega
theorem four_cells (h : Nat) (hh : h < 4294967296) : (#[.int .u8 ((h : Int) / 16777216), .int .u8 ((h : Int) / 65536 % 256), .int .u8 ((h : Int) / 256 % 256), .int .u8 ((h : Int) % 256)] : Array Value).toList = bytesV (fourB h) := by
  have e1 := byte_core (h / 65536)
  have e2 := byte_core (h / 256)
  rw [Int.natCast_ediv] at e1 e2
  rw [byte_top h hh, byte_core h, show ((h : Int) / 65536) % 256 = _ from e1, show ((h : Int) / 256) % 256 = _ from e2]
  rfl
theorem ba_app (a b : ByteArray) : (a ++ b).data.toList = a.data.toList ++ b.data.toList := by rw [ByteArray.data_append, Array.toList_append]
theorem ba_mk (s : ByteArray) : s = ⟨s.data.toList.toArray⟩ := by cases s; simp
theorem ba_app' (a b : List UInt8) : (⟨a.toArray⟩ : ByteArray) ++ ⟨b.toArray⟩ = ⟨(a ++ b).toArray⟩ := by
  rw [ba_mk ((⟨a.toArray⟩ : ByteArray) ++ ⟨b.toArray⟩), ba_app]
theorem ba_size (s : ByteArray) : s.size = s.data.toList.length := by rw [Array.length_toList]; rfl
set_option maxRecDepth 100000 in
set_option maxHeartbeats 800000 in
theorem pksum_any (s : ByteArray) (w : World) (hs : s.size ≤ maxLen) :
    Calls Try.prog 26 #[.string s] w fun e w' => e = .returned (.string ⟨(fourB (fnv s.data.toList)).toArray⟩) ∧ Below w.heap.size w w' := by
  have hh := fnv_lt s.data.toList
  have HS := Lib.hid (sum_any s w hs)
  generalize fnv s.data.toList = h at *
  have hrd := Rd.new w #[.int .u8 ((h : Int) / 16777216), .int .u8 ((h : Int) / 65536 % 256), .int .u8 ((h : Int) / 256 % 256), .int .u8 ((h : Int) % 256)] 5
  rw [four_cells h hh] at hrd
  have hconv := rd_string (P := Try.prog) (n := 4) (c := 4) Try.underlying32 Try.underlying5 Try.underlying9 hrd rfl
  clear hrd
  go_enter Try.func26, Try.ntmps26
  go_wp2_with fail
  refine HS.out.mono ?_
  rintro e w1 ⟨rfl, rfl⟩
  go_wp2_with fail
  go_ret
  exact ⟨rfl, (Below.refl _ _).alloc (Nat.le_refl _) _⟩
end Go.Proofs.Ytfaophiaiflecaa
namespace Go.Proofs.Ytfaophiaiflecaa
open Go.RowKit

/-- An input. -/
structure In where
  kind : Int
  frm : Int
  body : List UInt8
def txt (l : List UInt8) : List UInt8 := numB l.length ++ l
def payB (x : In) : List UInt8 := numB x.kind ++ (numB x.frm ++ txt x.body)
def rowB (x : In) : List UInt8 := txt (payB x)
def recB (x : In) : List UInt8 := rowB x ++ fourB (fnv (rowB x))
def recsB (l : List In) : List UInt8 := l.flatMap recB
def cutF (s : List UInt8) : List UInt8 × Nat × Bool := match readF s with
  | (n, k, true) => if n < 0 ∨ (s.length : Int) - (k : Int) < n then ([], 0, false) else ((s.drop k).take n.toNat, k + n.toNat, true)
  | (_, _, false) => ([], 0, false)
def inputF (s : List UInt8) : Option In := match readF s with
  | (kd, a, true) => match readF (s.drop a) with
    | (fr, b, true) => match cutF (s.drop (a + b)) with
      | (body, c, true) => if a + b + c = s.length then some ⟨kd, fr, body⟩ else none
      | (_, _, false) => none
    | (_, _, false) => none
  | (_, _, false) => none
def stepF (s : List UInt8) : Option (In × Nat) := match cutF s with
  | (row, n, true) => if s.length < n + 4 then none else if fourB (fnv (s.take n)) = (s.drop n).take 4 then (inputF row).map fun x => (x, n + 4) else none
  | (_, _, false) => none
inductive Reads : List UInt8 → List In → Nat → Prop
  | stop {s : List UInt8} (h : stepF s = none) : Reads s [] 0
  | more {s : List UInt8} {x : In} {n : Nat} {l : List In} {m : Nat} (h : stepF s = some (x, n)) (r : Reads (s.drop n) l m) : Reads s (x :: l) (n + m)
theorem Reads.same {s : List UInt8} {l : List In} {m : Nat} (h : Reads s l m) : ∀ {l' m'}, Reads s l' m' → l' = l ∧ m' = m := by
  induction h with
  | stop h => intro l' m' k; cases k with
    | stop _ => exact ⟨rfl, rfl⟩
    | more h' _ => rw [h] at h'; cases h'
  | more h _ ih => intro l' m' k; cases k with
    | stop h' => rw [h] at h'; cases h'
    | more h' r' =>
      rw [h] at h'
      injection h' with h'
      injection h' with h1 h2
      subst h1 h2
      obtain ⟨rfl, rfl⟩ := ih r'
      exact ⟨rfl, rfl⟩
theorem readFrom_le : ∀ (l : List UInt8) (i u v k : Nat), readFrom i u l = some (v, k) → i < k ∧ k ≤ i + l.length := by
  intro l
  induction l with
  | nil => intro i u v k h; cases h
  | cons c r ih =>
    intro i u v k h
    unfold readFrom at h
    split at h
    · cases h
    · split at h
      · cases h
      · split at h
        · split at h
          · cases h
          · injection h with h; injection h with _ h; subst h; simp
        · have := ih _ _ _ _ h
          simp
          omega
theorem readF_le {s : List UInt8} {n : Int} {k : Nat} (h : readF s = (n, k, true)) : 0 < k ∧ k ≤ s.length := by
  unfold readF at h
  split at h
  · rename_i u k' he
    injection h with _ h
    injection h with h _
    subst h
    have := readFrom_le _ _ _ _ _ he
    omega
  · injection h with _ h
    injection h with _ h
    cases h
theorem cutF_le {s r : List UInt8} {n : Nat} (h : cutF s = (r, n, true)) : 0 < n ∧ n ≤ s.length := by
  unfold cutF at h
  split at h
  · rename_i v k he
    have := readF_le he
    split at h
    · injection h with _ h; injection h with _ h; cases h
    · injection h with _ h
      injection h with h _
      subst h
      omega
  · injection h with _ h; injection h with _ h; cases h
theorem stepF_le {s : List UInt8} {x : In} {n : Nat} (h : stepF s = some (x, n)) : 4 < n ∧ n ≤ s.length := by
  unfold stepF at h
  split at h
  · rename_i r k he
    have := cutF_le he
    split at h
    · cases h
    · split at h
      · simp only [Option.map_eq_some_iff] at h
        obtain ⟨_, _, h⟩ := h
        injection h with _ h
        omega
      · cases h
  · cases h
theorem Reads.total (s : List UInt8) : ∃ l m, Reads s l m := by
  generalize hn : s.length = n
  induction n using Nat.strongRecOn generalizing s with
  | _ n ih =>
    cases hs : stepF s with
    | none => exact ⟨_, _, .stop hs⟩
    | some p =>
      obtain ⟨x, k⟩ := p
      have := stepF_le hs
      obtain ⟨l, m, h⟩ := ih (s.drop k).length (by rw [List.length_drop]; omega) (s.drop k) rfl
      exact ⟨_, _, .more hs h⟩
theorem Reads.le {s : List UInt8} {l : List In} {m : Nat} (h : Reads s l m) : m ≤ s.length := by
  induction h with
  | stop _ => exact Nat.zero_le _
  | more h _ ih => have := stepF_le h; rw [List.length_drop] at ih; omega
/-- May be an input's: numbers of the machine's width, and a body that is not too long. -/
def In.ok (x : In) : Prop := (-9223372036854775808 ≤ x.kind ∧ x.kind ≤ 9223372036854775807) ∧ (-9223372036854775808 ≤ x.frm ∧ x.frm ≤ 9223372036854775807) ∧ x.body.length ≤ 1000000000
theorem fourB_len (h : Nat) : (fourB h).length = 4 := rfl
theorem numB_le (n : Int) : (numB n).length ≤ 10 := by unfold numB; exact vb_len 10 _
theorem payB_len {x : In} (h : x.ok) : (payB x).length ≤ 1000000030 := by
  have := numB_le x.kind
  have := numB_le x.frm
  have := numB_le x.body.length
  obtain ⟨_, _, h⟩ := h
  simp [payB, txt]
  omega
theorem readF_txt (l r : List UInt8) (h : l.length ≤ 9223372036854775807) : readF (txt l ++ r) = ((l.length : Int), (numB l.length).length, true) := by
  unfold txt
  rw [List.append_assoc]
  exact readF_num _ _ (by omega) (by omega)
theorem cutF_txt (l r : List UInt8) (h : l.length ≤ 9223372036854775807) : cutF (txt l ++ r) = (l, (txt l).length, true) := by
  unfold cutF
  rw [readF_txt l r h]
  dsimp only
  rw [if_neg (by simp [txt]; omega)]
  unfold txt
  rw [List.append_assoc, List.drop_left, Int.toNat_natCast, List.take_left, List.length_append]
theorem inputF_pay (x : In) (h : x.ok) : inputF (payB x) = some x := by
  obtain ⟨⟨k1, k2⟩, ⟨f1, f2⟩, hb⟩ := h
  unfold inputF
  have e1 : readF (payB x) = (x.kind, (numB x.kind).length, true) := readF_num _ _ k1 k2
  have d1 : (payB x).drop (numB x.kind).length = numB x.frm ++ txt x.body := List.drop_left
  have e2 : readF ((payB x).drop (numB x.kind).length) = (x.frm, (numB x.frm).length, true) := by rw [d1]; exact readF_num _ _ f1 f2
  have d2 : (payB x).drop ((numB x.kind).length + (numB x.frm).length) = txt x.body := by rw [← List.drop_drop, d1]; exact List.drop_left
  have e3 : cutF ((payB x).drop ((numB x.kind).length + (numB x.frm).length)) = (x.body, (txt x.body).length, true) := by
    rw [d2]
    have := cutF_txt x.body [] (by omega)
    rwa [List.append_nil] at this
  rw [e1]
  dsimp only
  rw [e2]
  dsimp only
  rw [e3]
  dsimp only
  rw [if_pos (by simp [payB]; omega)]
theorem take_app {α : Type} (a b : List α) (n : Nat) (h : n = a.length) : (a ++ b).take n = a := by subst h; exact List.take_left
theorem drop_app {α : Type} (a b : List α) (n : Nat) (h : n = a.length) : (a ++ b).drop n = b := by subst h; exact List.drop_left
theorem stepF_rec (x : In) (r : List UInt8) (h : x.ok) : stepF (recB x ++ r) = some (x, (recB x).length) := by
  have hp := payB_len h
  unfold stepF recB
  rw [List.append_assoc]
  have e : cutF (rowB x ++ (fourB (fnv (rowB x)) ++ r)) = (payB x, (rowB x).length, true) := cutF_txt _ _ (by omega)
  rw [e]
  dsimp only
  rw [if_neg (by simp [fourB_len]), List.take_left, List.drop_left, take_app _ _ _ (fourB_len _).symm, if_pos rfl, inputF_pay x h]
  simp [fourB_len]
theorem recsB_cons (x : In) (l : List In) : recsB (x :: l) = recB x ++ recsB l := rfl
theorem recsB_append (l m : List In) : recsB (l ++ m) = recsB l ++ recsB m := List.flatMap_append
theorem reads_app (l : List In) (h : ∀ x ∈ l, x.ok) {r : List UInt8} {c : List In} {m : Nat} (hr : Reads r c m) : Reads (recsB l ++ r) (l ++ c) ((recsB l).length + m) := by
  induction l with
  | nil => simpa [recsB] using hr
  | cons x t ih =>
    rw [recsB_cons, List.append_assoc, List.length_append, Nat.add_assoc]
    refine .more (stepF_rec x _ (h x (by simp))) ?_
    rw [List.drop_left]
    exact ih fun y hy => h y (by simp [hy])
theorem stepF_nil : stepF [] = none := rfl
/-- What is written is read. -/
theorem reads_recs (l : List In) (h : ∀ x ∈ l, x.ok) : Reads (recsB l) l (recsB l).length := by
  have := reads_app l h (.stop stepF_nil)
  simpa using this
theorem read_take (f : Nat) : ∀ (i u a k : Nat), k < (vb f u).length → readFrom i a ((vb f u).take k) = none := by
  induction f with
  | zero => intro i u a k h; simp [vb] at h
  | succ f ih =>
    intro i u a k hk
    cases k with
    | zero => rfl
    | succ k =>
      unfold vb at hk ⊢
      by_cases hlt : u < 128
      · rw [if_pos hlt] at hk; simp at hk
      · rw [if_neg hlt] at hk ⊢
        have hc : (UInt8.ofNat (u % 128 + 128)).toNat = u % 128 + 128 := by rw [UInt8.toNat_ofNat', Nat.mod_eq_of_lt (by omega)]
        rw [List.take_succ_cons]
        unfold readFrom
        rw [hc]
        split
        · rfl
        · split
          · rfl
          · rw [if_neg (by omega)]
            exact ih _ _ _ _ (by simpa using hk)
theorem readF_take (n : Int) (k : Nat) (h : k < (numB n).length) : readF ((numB n).take k) = (0, 0, false) := by
  unfold readF
  unfold numB at *
  rw [read_take _ _ _ _ _ h]
/-- Of a record that lacks a byte nothing is read. -/
theorem stepF_short (x : In) (h : x.ok) (k : Nat) (hk : k < (recB x).length) : stepF ((recB x).take k) = none := by
  have hp := payB_len h
  have hr : recB x = numB (payB x).length ++ (payB x ++ fourB (fnv (rowB x))) := by simp [recB, rowB, txt]
  have hl : (recB x).length = (numB (payB x).length).length + (payB x).length + 4 := by rw [hr]; simp [fourB_len]; omega
  unfold stepF
  by_cases h1 : k < (numB (payB x).length).length
  · have e : cutF ((recB x).take k) = ([], 0, false) := by
      unfold cutF
      rw [hr, List.take_append_of_le_length (by omega), readF_take _ _ h1]
    rw [e]
  · have e : readF ((recB x).take k) = (((payB x).length : Int), (numB (payB x).length).length, true) := by
      rw [hr, List.take_append]
      rw [List.take_of_length_le (by omega)]
      exact readF_num _ _ (by omega) (by omega)
    by_cases h2 : k < (numB (payB x).length).length + (payB x).length
    · have e2 : cutF ((recB x).take k) = ([], 0, false) := by
        unfold cutF
        rw [e]
        dsimp only
        rw [if_pos (by rw [List.length_take]; omega)]
      rw [e2]
    · have e2 : ∃ r, cutF ((recB x).take k) = (r, (numB (payB x).length).length + (payB x).length, true) := by
        unfold cutF
        rw [e]
        dsimp only
        rw [if_neg (by rw [List.length_take]; omega), Int.toNat_natCast]
        exact ⟨_, rfl⟩
      obtain ⟨r, e2⟩ := e2
      rw [e2]
      dsimp only
      rw [if_pos (by rw [List.length_take]; omega)]
/-- A prefix yields its whole records. -/
theorem reads_prefix (l : List In) (h : ∀ x ∈ l, x.ok) : ∀ k, k ≤ (recsB l).length → ∃ j, j ≤ l.length ∧ Reads ((recsB l).take k) (l.take j) (recsB (l.take j)).length ∧ (recsB (l.take j)).length ≤ k ∧ (j < l.length → k < (recsB (l.take (j + 1))).length) := by
  induction l with
  | nil => intro k _; exact ⟨0, Nat.le_refl _, by simpa [recsB] using Reads.stop stepF_nil, by simp [recsB], fun h => absurd h (by simp)⟩
  | cons x t ih =>
    intro k hk
    by_cases h1 : k < (recB x).length
    · refine ⟨0, Nat.zero_le _, ?_, by simp [recsB], fun _ => by simpa [recsB] using h1⟩
      rw [recsB_cons, List.take_append_of_le_length (by omega)]
      simpa [recsB] using Reads.stop (stepF_short x (h x (by simp)) k h1)
    · rw [recsB_cons, List.length_append] at hk
      obtain ⟨j, hj, hr, hle, hn⟩ := ih (fun y hy => h y (by simp [hy])) (k - (recB x).length) (by omega)
      refine ⟨j + 1, by simpa using hj, ?_, ?_, ?_⟩
      · rw [recsB_cons, List.take_append, List.take_of_length_le (by omega), List.take_succ_cons, recsB_cons]
        have := reads_app [x] (fun y hy => h y (by simp at hy; simp [hy])) hr
        rw [recsB_cons] at this
        simpa [recsB] using this
      · rw [List.take_succ_cons, recsB_cons, List.length_append]; omega
      · intro hl
        have := hn (by simpa using hl)
        rw [List.take_succ_cons, recsB_cons, List.length_append]; omega
end Go.Proofs.Ytfaophiaiflecaa
