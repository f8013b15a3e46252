/- The plain law: a note's bytes read back. -/
import Derived.Test.YtfaophiaiflecaaNtD4
import Derived.Test.YtfaophiaiflecaaPkLaw
namespace Go.Proofs.Ytfaophiaiflecaa
open Go.RowKit

theorem numB_pos (n : Int) : 0 < (numB n).length := by unfold numB; exact vb_pos 9 _
theorem oneN_back (n : Int) (r : List UInt8) (h : I64 n) : oneN (numB n ++ r) = some (n, r) := by
  unfold oneN
  rw [readF_num n r h.1 h.2]
  simp
theorem oneT_back (s : ByteArray) (r : List UInt8) (h : s.size ≤ 1000000) : oneT (txt s.data.toList ++ r) = some (s, r) := by
  unfold oneT
  rw [cutT_txt s.data.toList r (by have := ba_size s; omega)]
theorem manyN_back (l : List Int) (r : List UInt8) (h : ∀ x ∈ l, I64 x) : manyF oneN l.length (nums64 l ++ r) = some (l, r) := by
  induction l with
  | nil => rfl
  | cons a t ih =>
    have e : nums64 (a :: t) = numB a ++ nums64 t := rfl
    rw [e, List.append_assoc, List.length_cons]
    unfold manyF
    rw [oneN_back a _ (h a List.mem_cons_self)]
    dsimp only
    rw [ih fun x hx => h x (List.mem_cons_of_mem _ hx)]
theorem nums64_ge (l : List Int) : l.length ≤ (nums64 l).length := by
  induction l with
  | nil => simp
  | cons a t ih =>
    have h := numB_pos a
    have e : nums64 (a :: t) = numB a ++ nums64 t := rfl
    rw [e, List.length_append, List.length_cons]; omega
theorem listN_back (l : List Int) (r : List UInt8) (h : ∀ x ∈ l, I64 x) (hl : l.length ≤ 1000000) : listF oneN (l64B l ++ r) = some (l, r) := by
  unfold listF l64B
  rw [List.append_assoc, oneN_back _ _ ⟨by omega, by omega⟩]
  dsimp only
  rw [if_neg (by have := nums64_ge l; rw [List.length_append]; omega)]
  exact manyN_back l r h
theorem oneV_back (v : Vl) (r : List UInt8) (h : VlOk v) : oneV (vlB v ++ r) = some (v, r) := by
  unfold oneV vlB
  simp only [List.append_assoc]
  rw [oneN_back _ _ h.k]
  dsimp only
  rw [oneN_back _ _ h.n]
  dsimp only
  rw [oneT_back _ _ h.s]
  dsimp only
  rw [listN_back _ _ h.i h.l]
theorem oneB_back (b : Bd) (r : List UInt8) (h : BdOk b) : oneB (bdB b ++ r) = some (b, r) := by
  unfold oneB bdB
  rw [List.append_assoc, oneT_back _ _ h.nm]
  dsimp only
  rw [oneV_back _ _ h.v]
theorem manyB_back (l : List Bd) (r : List UInt8) (h : ∀ x ∈ l, BdOk x) : manyF oneB l.length (bdsB l ++ r) = some (l, r) := by
  induction l with
  | nil => rfl
  | cons a t ih =>
    have e : bdsB (a :: t) = bdB a ++ bdsB t := rfl
    rw [e, List.append_assoc, List.length_cons]
    unfold manyF
    rw [oneB_back a _ (h a List.mem_cons_self)]
    dsimp only
    rw [ih fun x hx => h x (List.mem_cons_of_mem _ hx)]
theorem bdsB_ge (l : List Bd) : l.length ≤ (bdsB l).length := by
  induction l with
  | nil => simp
  | cons a t ih =>
    have h := numB_pos a.v.kind
    have e : bdsB (a :: t) = bdB a ++ bdsB t := rfl
    rw [e, List.length_append, List.length_cons]
    have : 0 < (bdB a).length := by unfold bdB vlB; simp only [List.length_append]; omega
    omega
theorem listB_back (l : List Bd) (r : List UInt8) (h : ∀ x ∈ l, BdOk x) (hl : l.length ≤ 1000000) : listF oneB (envB l ++ r) = some (l, r) := by
  unfold listF envB
  rw [List.append_assoc, oneN_back _ _ ⟨by omega, by omega⟩]
  dsimp only
  rw [if_neg (by have := bdsB_ge l; rw [List.length_append]; omega)]
  exact manyB_back l r h
theorem oneNt_back (x : Nt) (r : List UInt8) (h : NtOk x) (hp : x.peer.size ≤ 12 ∧ x.label.size ≤ 12) : oneNt (noteB x ++ r) = some (x, r) := by
  unfold oneNt noteB
  simp only [List.append_assoc]
  rw [oneN_back _ _ h.k]
  dsimp only
  rw [oneT_back _ _ h.ag]
  dsimp only
  rw [oneT_back _ _ h.se]
  dsimp only
  rw [oneN_back _ _ h.seat]
  dsimp only
  rw [oneT_back _ _ (by omega)]
  dsimp only
  rw [oneT_back _ _ (by omega)]
  dsimp only
  rw [oneV_back _ _ h.v]
  dsimp only
  rw [oneN_back _ _ h.proc]
  dsimp only
  rw [listB_back _ _ h.env (by have := h.le; omega)]
theorem readNote_nil : readNoteF eS = (zNt, 3800) := rfl
theorem readNote_back (x : Nt) (h : NtOk x) (hm : mayF x = true) (hl : (noteB x).length ≤ 4096) : readNoteF ⟨(noteB x).toArray⟩ = (x, 0) := by
  unfold readNoteF
  rw [if_neg (by show ¬ 4096 < (noteB x).length; omega)]
  have e := oneNt_back x [] h (may_sizes hm)
  rw [List.append_nil] at e
  rw [show (⟨(noteB x).toArray⟩ : ByteArray).data.toList = noteB x by simp, e]
  dsimp only
  rw [if_pos ⟨rfl, hm⟩]
/-- The law of a note: what packet.Note gives, ReadNote reads. -/
theorem note_law (x : Nt) (h : NtOk x) : readNoteF (noteTF x).1 = if (noteTF x).2 = 0 then (x, 0) else (zNt, 3800) := by
  unfold noteTF
  cases hm : mayF x
  · rfl
  · rw [if_pos rfl]
    by_cases hl : 4096 < (noteB x).length
    · rw [if_pos hl]; rfl
    · rw [if_neg hl]
      exact readNote_back x h hm (by omega)
end Go.Proofs.Ytfaophiaiflecaa
