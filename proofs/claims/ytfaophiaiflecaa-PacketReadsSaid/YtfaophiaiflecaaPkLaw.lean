/- Frames in plain Lean: what is written is read; a changed byte, or one byte less, is rejected. -/
import Derived.Test.YtfaophiaiflecaaPkBack
import Derived.Test.YtfaophiaiflecaaPkSpoil
namespace Go.Proofs.Ytfaophiaiflecaa
open Go.RowKit

theorem cutT_txt (l r : List UInt8) (h : l.length ≤ 9223372036854775807) : cutT (txt l ++ r) = (l, r, true) := by
  have hr := readF_txt l r h
  unfold cutT
  rw [hr]
  have hl : (txt l).length = (numB l.length).length + l.length := by unfold txt; rw [List.length_append]
  dsimp only
  rw [if_neg (by rw [List.length_append, hl]; omega)]
  have e1 : (txt l ++ r).drop (numB l.length).length = l ++ r := by
    unfold txt; rw [List.append_assoc]; exact List.drop_left' rfl
  have e2 : (txt l ++ r).drop ((numB l.length).length + ((l.length : Nat) : Int).toNat) = r := by
    rw [show ((l.length : Nat) : Int).toNat = l.length from rfl, ← hl]; exact List.drop_left' rfl
  rw [e1, e2]
  show ((l ++ r).take l.length, r, true) = _
  rw [List.take_left' rfl]
theorem readsF_frB (x : Fr) (hx : x.fits) (hb : x.body.size ≤ 1000000) : readsF frKinds (frB x) = ([.int .i64 x.kind, .int .i64 x.from_, .int .i64 x.to, .int .i64 x.seq, .string x.body], [], true) := by
  obtain ⟨f0, f1, f2, f3⟩ := hx
  have h0 := readF_num x.kind (numB x.from_ ++ (numB x.to ++ (numB x.seq ++ txt x.body.data.toList))) f0.1 f0.2
  have h1 := readF_num x.from_ (numB x.to ++ (numB x.seq ++ txt x.body.data.toList)) f1.1 f1.2
  have h2 := readF_num x.to (numB x.seq ++ txt x.body.data.toList) f2.1 f2.2
  have h3 := readF_num x.seq (txt x.body.data.toList) f3.1 f3.2
  have h4 := cutT_txt x.body.data.toList [] (by have := ba_size x.body; omega)
  rw [List.append_nil] at h4
  have step : ∀ (t : List Bool) (a r : List UInt8) (n : Int), readF (a ++ r) = (n, a.length, true) → readsF (false :: t) (a ++ r) = (.int .i64 n :: (readsF t r).1, (readsF t r).2) := fun t a r n h => by
    show (if (readF (a ++ r)).2.2 = true then (Value.int .i64 (readF (a ++ r)).1 :: (readsF t ((a ++ r).drop (readF (a ++ r)).2.1)).1, (readsF t ((a ++ r).drop (readF (a ++ r)).2.1)).2) else ([], a ++ r, false)) = _
    rw [h]
    dsimp only
    rw [if_pos rfl, List.drop_left' rfl]
  unfold frB frKinds
  rw [step _ _ _ _ h0, step _ _ _ _ h1, step _ _ _ _ h2, step _ _ _ _ h3]
  have h5 : readsF [true] (txt x.body.data.toList) = ([.string ⟨x.body.data.toList.toArray⟩], [], true) := by
    show (if (cutT (txt x.body.data.toList)).2.2 = true then (Value.string ⟨(cutT (txt x.body.data.toList)).1.toArray⟩ :: (readsF [] (cutT (txt x.body.data.toList)).2.1).1, (readsF [] (cutT (txt x.body.data.toList)).2.1).2) else ([], (cutT (txt x.body.data.toList)).2.1, false)) = _
    rw [h4]
    rfl
  rw [h5, ← ba_mk]
/-- What is written is read. -/
theorem read_back (x : Fr) (hx : x.fits) (hm : x.may = true) (hb : x.body.size ≤ 4096) : readFrameF ⟨(frB x ++ fourB (fnv (frB x))).toArray⟩ = (x, 0) := by
  have hsz : (⟨(frB x ++ fourB (fnv (frB x))).toArray⟩ : ByteArray).size = (frB x).length + 4 := by
    show (frB x ++ fourB (fnv (frB x))).length = _
    rw [List.length_append, fourB_len]
  have hd : (⟨(frB x ++ fourB (fnv (frB x))).toArray⟩ : ByteArray).data.toList = frB x ++ fourB (fnv (frB x)) := by simp
  unfold readFrameF
  rw [hsz, hd, if_neg (by omega), show (frB x).length + 4 - 4 = (frB x).length by omega, List.take_left' rfl, List.drop_left' rfl, if_pos rfl]
  unfold readFr
  rw [readsF_frB x hx (by omega)]
  dsimp only
  rw [if_pos ⟨hm, hb⟩]
/-- Bytes whose sum does not fit are rejected. -/
theorem read_spoilt (l : List UInt8) (h : ¬ (4 ≤ l.length ∧ fourB (fnv (l.take (l.length - 4))) = l.drop (l.length - 4))) : readFrameF ⟨l.toArray⟩ = (fr0, 3800) := by
  have hd : (⟨l.toArray⟩ : ByteArray).data.toList = l := by simp
  have hs : (⟨l.toArray⟩ : ByteArray).size = l.length := rfl
  unfold readFrameF
  rw [hs, hd]
  by_cases h4 : l.length < 4
  · rw [if_pos h4]
  · rw [if_neg h4, if_neg (fun e => h ⟨by omega, e⟩)]
/-- A changed byte. -/
theorem spoilt_byte (m : List UInt8) (q : Nat) (d : UInt8) (hq : q < (m ++ fourB (fnv m)).length) (hd : (m ++ fourB (fnv m))[q] ≠ d) : readFrameF ⟨((m ++ fourB (fnv m)).set q d).toArray⟩ = (fr0, 3800) := by
  apply read_spoilt
  rintro ⟨_, h⟩
  rw [List.length_set, List.length_append, fourB_len, show m.length + 4 - 4 = m.length by omega] at h
  by_cases hm : q < m.length
  · rw [List.set_append_left _ _ hm, List.take_left' (by rw [List.length_set]), List.drop_left' (by rw [List.length_set])] at h
    have h2 := fourB_inj (fnv_lt _) (fnv_lt _) h
    have h3 := fnv_set m q hm d h2
    rw [List.getElem_append_left hm] at hd
    exact hd h3
  · rw [List.set_append_right _ _ (by omega), List.take_left' rfl, List.drop_left' rfl] at h
    have hl : q - m.length < (fourB (fnv m)).length := by rw [List.length_append] at hq; omega
    have h2 : ((fourB (fnv m)).set (q - m.length) d)[q - m.length]? = (fourB (fnv m))[q - m.length]? := by rw [← h]
    rw [List.getElem?_set_self hl, List.getElem?_eq_getElem hl] at h2
    injection h2 with h2
    rw [List.getElem_append_right (by omega)] at hd
    exact hd h2.symm
theorem cutT_short (l : List UInt8) (h : l.length ≤ 9223372036854775807) : (cutT (txt l).dropLast).2.2 = false := by
  rcases List.eq_nil_or_concat l with rfl | ⟨m, c, rfl⟩
  · rfl
  · have e : (txt (m ++ [c])).dropLast = numB (m ++ [c]).length ++ m := by
      unfold txt
      rw [← List.append_assoc, List.dropLast_concat]
    rw [List.concat_eq_append] at h ⊢
    rw [e]
    have hr := readF_num ((m ++ [c]).length : Int) m (by omega) (by omega)
    unfold cutT
    rw [hr]
    dsimp only
    rw [if_pos (by right; rw [List.length_append]; simp; omega)]
theorem readsF_short (x : Fr) (hx : x.fits) (hb : x.body.size ≤ 1000000) : (readsF frKinds (frB x).dropLast).2.2 = false := by
  obtain ⟨f0, f1, f2, f3⟩ := hx
  have hne : txt x.body.data.toList ≠ [] := by
    intro e
    have h := readF_txt x.body.data.toList [] (by have := ba_size x.body; omega)
    rw [e] at h
    have h2 : false = true := congrArg (fun r : Int × Nat × Bool => r.2.2) h
    cases h2
  have ht : ∀ a : List UInt8, ∀ b : List UInt8, b ≠ [] → (a ++ b).dropLast = a ++ b.dropLast := fun a b hb => List.dropLast_append_of_ne_nil hb
  have e : (frB x).dropLast = numB x.kind ++ (numB x.from_ ++ (numB x.to ++ (numB x.seq ++ (txt x.body.data.toList).dropLast))) := by
    unfold frB
    rw [ht _ _ (by simp [hne]), ht _ _ (by simp [hne]), ht _ _ (by simp [hne]), ht _ _ hne]
  have step : ∀ (t : List Bool) (a r : List UInt8) (n : Int), readF (a ++ r) = (n, a.length, true) → (readsF (false :: t) (a ++ r)).2.2 = (readsF t r).2.2 := fun t a r n h => by
    show (if (readF (a ++ r)).2.2 = true then (Value.int .i64 (readF (a ++ r)).1 :: (readsF t ((a ++ r).drop (readF (a ++ r)).2.1)).1, (readsF t ((a ++ r).drop (readF (a ++ r)).2.1)).2) else ([], a ++ r, false)).2.2 = _
    rw [h]
    dsimp only
    rw [if_pos rfl, List.drop_left' rfl]
  rw [e]
  unfold frKinds
  rw [step _ _ _ _ (readF_num x.kind _ f0.1 f0.2), step _ _ _ _ (readF_num x.from_ _ f1.1 f1.2), step _ _ _ _ (readF_num x.to _ f2.1 f2.2), step _ _ _ _ (readF_num x.seq _ f3.1 f3.2)]
  show (if (cutT (txt x.body.data.toList).dropLast).2.2 = true then (Value.string ⟨(cutT (txt x.body.data.toList).dropLast).1.toArray⟩ :: (readsF [] (cutT (txt x.body.data.toList).dropLast).2.1).1, (readsF [] (cutT (txt x.body.data.toList).dropLast).2.1).2) else ([], (cutT (txt x.body.data.toList).dropLast).2.1, false)).2.2 = false
  rw [if_neg (by rw [cutT_short _ (by have := ba_size x.body; omega)]; simp)]
/-- One byte less. -/
theorem spoilt_short (x : Fr) (hx : x.fits) (hb : x.body.size ≤ 1000000) : readFrameF ⟨(frB x ++ fourB (fnv (frB x))).dropLast.toArray⟩ = (fr0, 3800) := by
  have hd : (⟨(frB x ++ fourB (fnv (frB x))).dropLast.toArray⟩ : ByteArray).data.toList = (frB x ++ fourB (fnv (frB x))).dropLast := by simp
  have hl : (frB x ++ fourB (fnv (frB x))).dropLast.length = (frB x).length + 3 := by rw [List.length_dropLast, List.length_append, fourB_len]; omega
  have hs : (⟨(frB x ++ fourB (fnv (frB x))).dropLast.toArray⟩ : ByteArray).size = (frB x).length + 3 := hl
  unfold readFrameF
  rw [hs, hd]
  split
  · rfl
  · rename_i h4
    split
    · have e : (frB x ++ fourB (fnv (frB x))).dropLast.take ((frB x).length + 3 - 4) = (frB x).dropLast := by
        rw [List.dropLast_eq_take, List.take_take, List.dropLast_eq_take, List.length_append, fourB_len, Nat.min_eq_left (by omega), show (frB x).length + 3 - 4 = (frB x).length - 1 by omega, List.take_append_of_le_length (by omega)]
      rw [e]
      have h := readsF_short x hx hb
      unfold readFr
      rcases hr : readsF frKinds (frB x).dropLast with ⟨vs, rest, ok⟩
      rw [hr] at h
      dsimp only at h
      subst h
      split
      · rename_i h1
        split at h1
        · rename_i h2; cases h2
        · cases h1
      · rfl
    · rfl
end Go.Proofs.Ytfaophiaiflecaa
