/- The link in plain Lean: two sides, what befalls them, and what stays true. -/
import Derived.Test.YtnjfphfkjapemaaFyFrames
import Derived.Test.YtnjfphfkjapemaaFy2Send
import Derived.Test.YtnjfphfkjapemaaFy2Hear
namespace Go.Proofs.Ytnjfphfkjapemaa
open Go.RowKit

/-- One of two sides: its ferry, what it sent and heard, the frames on the way to it. -/
structure Sd where
  fy : Fy
  sent : List ByteArray
  heard : List ByteArray
  way : List Fm
/-- The body that is sent in the event number i. -/
def bodyOf (i : Nat) : ByteArray := ⟨#[UInt8.ofNat (97 + i % 26), UInt8.ofNat i]⟩
def cutAt (l : List Fm) (at_ : Nat) : List Fm := l.take at_ ++ l.drop (at_ + 1)
def atOf (n : Nat) (me : Sd) : Nat := if me.way.length = 0 then 0 else n / 16 % me.way.length
def hearAt (n : Nat) (me : Sd) : Sd := match me.way[atOf n me]? with
  | none => me
  | some m =>
    let r := hearF me.fy m
    ⟨r.1, me.sent, if r.2.2 then me.heard ++ [r.2.1] else me.heard, if n / 1024 % 2 = 0 then cutAt me.way (atOf n me) else me.way⟩
/-- What the event number i, with the number n, does to the side that it befalls and to the other one. -/
def evF (i n : Nat) (k : Int) (me other : Sd) : Sd × Sd :=
  if n / 2 % 8 < 2 then (⟨(sendF me.fy (bodyOf i)).1, me.sent ++ [bodyOf i], me.heard, me.way⟩, other)
  else if n / 2 % 8 < 4 then (me, { other with way := other.way ++ framesF me.fy k (1 - k) })
  else if n / 2 % 8 < 7 then (hearAt n me, other)
  else ({ me with way := cutAt me.way (atOf n me) }, other)
def stepL (i n : Nat) (x : Sd × Sd) : Sd × Sd :=
  if n % 2 = 0 then evF i n 0 x.1 x.2 else let r := evF i n 1 x.2 x.1; (r.2, r.1)
/-- What stays true of a side and the side that hears it. -/
structure Lk (a b : Sd) : Prop where
  len : b.heard.length ≤ a.sent.length
  pre : b.heard = a.sent.take b.heard.length
  want : b.fy.want = b.heard.length
  base : ∃ m : Nat, a.fy.base = m ∧ m ≤ b.heard.length ∧ m + a.fy.sent.length = a.sent.length ∧ a.fy.sent = a.sent.drop m
  data : ∀ m ∈ b.way, m.kind = 1 → ∃ q : Nat, m.seq = q ∧ a.sent[q]? = some m.body
  acks : ∀ m ∈ a.way, m.kind = 2 → ∃ q : Nat, m.seq = q ∧ q ≤ b.heard.length
theorem mem_cut {l : List Fm} {at_ : Nat} {m : Fm} (h : m ∈ cutAt l at_) : m ∈ l := by
  unfold cutAt at h
  rcases List.mem_append.1 h with h | h
  · exact List.mem_of_mem_take h
  · exact List.mem_of_mem_drop h
theorem Lk.may {a b : Sd} (h : Lk a b) (g : Lk b a) (ha : a.sent.length ≤ 1000) (hb : b.sent.length ≤ 1000) : a.fy.may = true := by
  obtain ⟨m, h1, h2, h3, _⟩ := h.base
  have hw := g.want
  have hl := g.len
  unfold Fy.may
  simp only [Bool.and_eq_true, decide_eq_true_iff]
  omega
theorem framesF_kind {f : Fy} (hm : f.may = true) {m : Fm} {k t : Int} (h : m ∈ framesF f k t) : (m.kind = 2 ∧ m.seq = f.want) ∨ (m.kind = 1 ∧ ∃ i : Nat, m.seq = f.base + i ∧ f.sent[i]? = some m.body) := by
  unfold framesF at h
  rw [if_pos hm] at h
  rcases List.mem_cons.1 h with rfl | h
  · exact .inl ⟨rfl, rfl⟩
  · right
    unfold dataOf at h
    obtain ⟨i, hi, rfl⟩ := List.mem_map.1 h
    rw [List.mem_range] at hi
    have hi2 : i < f.sent.length := by omega
    exact ⟨rfl, i, rfl, by simp [hi2]⟩
/-- A body is sent. -/
theorem Lk.send {a b : Sd} (h : Lk a b) (s : ByteArray) (hm : a.fy.may = true) : Lk ⟨(sendF a.fy s).1, a.sent ++ [s], a.heard, a.way⟩ b := by
  obtain ⟨m, h1, h2, h3, h4⟩ := h.base
  have hl := h.len
  have e : (sendF a.fy s).1 = ⟨a.fy.base, a.fy.sent ++ [s], a.fy.want⟩ := by unfold sendF; rw [if_pos hm]
  rw [e]
  refine ⟨by simp; omega, ?_, h.want, ⟨m, h1, h2, by simp; omega, ?_⟩, fun x hx hk => ?_, h.acks⟩
  · have := h.pre
    rw [List.take_append_of_le_length hl]
    exact this
  · show a.fy.sent ++ [s] = _
    rw [h4, List.drop_append_of_le_length (by omega)]
  · obtain ⟨q, hq, hs⟩ := h.data x hx hk
    refine ⟨q, hq, ?_⟩
    rw [List.getElem?_append_left (by exact (List.getElem?_eq_some_iff.1 hs).1)]
    exact hs
theorem Lk.send' {a b : Sd} (h : Lk a b) (s : ByteArray) (hm : b.fy.may = true) : Lk a ⟨(sendF b.fy s).1, b.sent ++ [s], b.heard, b.way⟩ := by
  have e : (sendF b.fy s).1 = ⟨b.fy.base, b.fy.sent ++ [s], b.fy.want⟩ := by unfold sendF; rw [if_pos hm]
  rw [e]
  exact ⟨h.len, h.pre, h.want, h.base, h.data, h.acks⟩
/-- Frames are put on the way to the other one. -/
theorem Lk.frames {a b : Sd} (h : Lk a b) (hm : a.fy.may = true) (k t : Int) : Lk a { b with way := b.way ++ framesF a.fy k t } := by
  refine ⟨h.len, h.pre, h.want, h.base, fun m hx hk => ?_, h.acks⟩
  rcases List.mem_append.1 hx with hx | hx
  · exact h.data m hx hk
  · rcases framesF_kind hm hx with ⟨h1, _⟩ | ⟨_, i, hs, hb⟩
    · rw [h1] at hk; cases hk
    · obtain ⟨n, h1, h2, h3, h4⟩ := h.base
      rw [h1] at hs
      refine ⟨n + i, by rw [hs]; simp, ?_⟩
      rw [h4, List.getElem?_drop] at hb
      exact hb
theorem Lk.frames' {a b : Sd} (h : Lk b a) (hm : a.fy.may = true) (k t : Int) : Lk { b with way := b.way ++ framesF a.fy k t } a := by
  refine ⟨h.len, h.pre, h.want, h.base, h.data, fun m hx hk => ?_⟩
  rcases List.mem_append.1 hx with hx | hx
  · exact h.acks m hx hk
  · rcases framesF_kind hm hx with ⟨_, hs⟩ | ⟨h1, _⟩
    · exact ⟨a.heard.length, by rw [hs, h.want], Nat.le_refl _⟩
    · rw [h1] at hk; cases hk
/-- Frames are lost. -/
theorem Lk.less {a b : Sd} (h : Lk a b) {l : List Fm} (hl : ∀ m ∈ l, m ∈ b.way) : Lk a { b with way := l } :=
  ⟨h.len, h.pre, h.want, h.base, fun m hm hk => h.data m (hl m hm) hk, h.acks⟩
theorem Lk.less' {a b : Sd} (h : Lk a b) {l : List Fm} (hl : ∀ m ∈ l, m ∈ a.way) : Lk { a with way := l } b :=
  ⟨h.len, h.pre, h.want, h.base, h.data, fun m hm hk => h.acks m (hl m hm) hk⟩
/-- What hearing one frame does to a side. -/
def hearS (b : Sd) (m : Fm) : Sd := ⟨(hearF b.fy m).1, b.sent, if (hearF b.fy m).2.2 then b.heard ++ [(hearF b.fy m).2.1] else b.heard, b.way⟩
theorem hearS_keep {b : Sd} {m : Fm} (hm : b.fy.may = true) (h1 : ¬ (m.kind = 1 ∧ m.seq = b.fy.want)) (h2 : ¬ (m.kind = 2 ∧ b.fy.base < m.seq ∧ m.seq ≤ b.fy.base + b.fy.sent.length)) : hearS b m = b := by
  have e : hearF b.fy m = (b.fy, ⟨#[]⟩, false) := by
    unfold hearF
    rw [if_pos hm]
    by_cases hk : m.kind = 1
    · rw [if_pos hk, if_neg (fun h => h1 ⟨hk, h⟩)]
    · rw [if_neg hk, if_neg h2]
  unfold hearS
  rw [e]
  rfl
theorem hearS_data {b : Sd} {m : Fm} (hm : b.fy.may = true) (h1 : m.kind = 1) (h2 : m.seq = b.fy.want) : hearS b m = ⟨⟨b.fy.base, b.fy.sent, b.fy.want + 1⟩, b.sent, b.heard ++ [m.body], b.way⟩ := by
  have e : hearF b.fy m = (⟨b.fy.base, b.fy.sent, b.fy.want + 1⟩, m.body, true) := by
    unfold hearF
    rw [if_pos hm, if_pos h1, if_pos h2]
  unfold hearS
  rw [e]
  rfl
theorem hearS_ack {b : Sd} {m : Fm} (hm : b.fy.may = true) (h1 : m.kind = 2) (h2 : b.fy.base < m.seq) (h3 : m.seq ≤ b.fy.base + b.fy.sent.length) : hearS b m = ⟨⟨m.seq, b.fy.sent.drop (m.seq.toNat - b.fy.base.toNat), b.fy.want⟩, b.sent, b.heard, b.way⟩ := by
  have e : hearF b.fy m = (⟨m.seq, b.fy.sent.drop (m.seq.toNat - b.fy.base.toNat), b.fy.want⟩, ⟨#[]⟩, false) := by
    unfold hearF
    rw [if_pos hm, if_neg (by rw [h1]; decide), if_pos ⟨h1, h2, h3⟩]
  unfold hearS
  rw [e]
  rfl
/-- A frame that may be on the way to b comes: both directions stay true. -/
theorem Lk.hear {a b : Sd} (h : Lk a b) (g : Lk b a) (hm : b.fy.may = true) (m : Fm) (hd : m.kind = 1 → ∃ q : Nat, m.seq = q ∧ a.sent[q]? = some m.body) (hk : m.kind = 2 → ∃ q : Nat, m.seq = q ∧ q ≤ a.heard.length) :
    Lk a (hearS b m) ∧ Lk (hearS b m) a := by
  by_cases h1 : m.kind = 1 ∧ m.seq = b.fy.want
  · rw [hearS_data hm h1.1 h1.2]
    obtain ⟨q, hq, hs⟩ := hd h1.1
    have hw := h.want
    have hql : q = b.heard.length := by have := h1.2; omega
    subst hql
    have hlt := (List.getElem?_eq_some_iff.1 hs).1
    have e : b.heard ++ [m.body] = a.sent.take (b.heard ++ [m.body]).length := by
      rw [List.length_append, List.length_singleton, List.take_add_one, ← h.pre, hs]
      rfl
    obtain ⟨n, b1, b2, b3, b4⟩ := h.base
    refine ⟨⟨by simp; omega, e, by simp [hw], ⟨n, b1, by simp; omega, b3, b4⟩, h.data, fun x hx hx2 => ?_⟩, ⟨g.len, g.pre, g.want, g.base, g.data, g.acks⟩⟩
    obtain ⟨q, hq, hle⟩ := h.acks x hx hx2
    exact ⟨q, hq, by simp; omega⟩
  · by_cases h2 : m.kind = 2 ∧ b.fy.base < m.seq ∧ m.seq ≤ b.fy.base + b.fy.sent.length
    · rw [hearS_ack hm h2.1 h2.2.1 h2.2.2]
      obtain ⟨q, hq, hle⟩ := hk h2.1
      obtain ⟨n, b1, b2, b3, b4⟩ := g.base
      have h22 := h2.2.1
      have h23 := h2.2.2
      rw [hq, b1] at h22 h23
      refine ⟨⟨h.len, h.pre, h.want, h.base, h.data, h.acks⟩, ⟨g.len, g.pre, g.want, ⟨q, hq, hle, ?_, ?_⟩, g.data, g.acks⟩⟩
      · show q + (b.fy.sent.drop (m.seq.toNat - b.fy.base.toNat)).length = b.sent.length
        rw [hq, b1, List.length_drop]
        simp
        omega
      · show b.fy.sent.drop (m.seq.toNat - b.fy.base.toNat) = b.sent.drop q
        rw [hq, b1, b4, List.drop_drop]
        congr 1
        simp
        omega
    · rw [hearS_keep hm h1 h2]
      exact ⟨h, g⟩
/-- Both directions. -/
def LkB (x : Sd × Sd) : Prop := Lk x.1 x.2 ∧ Lk x.2 x.1
theorem evF_keeps {i n : Nat} {k : Int} {me other : Sd} (h : Lk me other) (g : Lk other me) (h1 : me.sent.length ≤ 1000) (h2 : other.sent.length ≤ 1000) : Lk (evF i n k me other).1 (evF i n k me other).2 ∧ Lk (evF i n k me other).2 (evF i n k me other).1 := by
  have hm := h.may g h1 h2
  unfold evF
  split
  · exact ⟨h.send _ hm, g.send' _ hm⟩
  · split
    · exact ⟨h.frames hm _ _, g.frames' hm _ _⟩
    · split
      · unfold hearAt
        rcases hw : me.way[atOf n me]? with _ | m
        · exact ⟨h, g⟩
        · have hmem := List.mem_of_getElem? hw
          obtain ⟨r1, r2⟩ := g.hear h hm m (g.data m hmem) (h.acks m hmem)
          by_cases h0 : n / 1024 % 2 = 0
          · have e : (⟨(hearF me.fy m).1, me.sent, if (hearF me.fy m).2.2 then me.heard ++ [(hearF me.fy m).2.1] else me.heard, if n / 1024 % 2 = 0 then cutAt me.way (atOf n me) else me.way⟩ : Sd) = { hearS me m with way := cutAt me.way (atOf n me) } := by rw [if_pos h0]; rfl
            dsimp only
            rw [e]
            exact ⟨r2.less' (fun x hx => mem_cut hx), r1.less (fun x hx => mem_cut hx)⟩
          · have e : (⟨(hearF me.fy m).1, me.sent, if (hearF me.fy m).2.2 then me.heard ++ [(hearF me.fy m).2.1] else me.heard, if n / 1024 % 2 = 0 then cutAt me.way (atOf n me) else me.way⟩ : Sd) = hearS me m := by rw [if_neg h0]; rfl
            dsimp only
            rw [e]
            exact ⟨r2, r1⟩
      · exact ⟨h.less' (fun x hx => mem_cut hx), g.less (fun x hx => mem_cut hx)⟩
theorem stepL_keeps {i n : Nat} {x : Sd × Sd} (h : LkB x) (h1 : x.1.sent.length ≤ 1000) (h2 : x.2.sent.length ≤ 1000) : LkB (stepL i n x) := by
  unfold stepL
  split
  · exact evF_keeps h.1 h.2 h1 h2
  · exact (evF_keeps h.2 h.1 h2 h1).symm
theorem evF_len (i n : Nat) (k : Int) (me other : Sd) : (evF i n k me other).1.sent.length ≤ me.sent.length + 1 ∧ (evF i n k me other).2.sent.length ≤ other.sent.length + 1 := by
  unfold evF
  split
  · simp
  · split
    · simp
    · split
      · unfold hearAt
        split <;> simp
      · simp
theorem stepL_len (i n : Nat) (x : Sd × Sd) : (stepL i n x).1.sent.length ≤ x.1.sent.length + 1 ∧ (stepL i n x).2.sent.length ≤ x.2.sent.length + 1 := by
  unfold stepL
  split
  · exact evF_len _ _ _ _ _
  · exact (evF_len i n 1 x.2 x.1).symm
theorem framesF_le (x : Fy) (f t : Int) : (framesF x f t).length ≤ 9 := by
  unfold framesF
  split <;> simp [dataOf]; omega
theorem cutAt_le (l : List Fm) (a : Nat) : (cutAt l a).length ≤ l.length := by
  unfold cutAt
  rw [List.length_append, List.length_take, List.length_drop]
  omega
theorem evF_way (i n : Nat) (k : Int) (me other : Sd) : (evF i n k me other).1.way.length ≤ me.way.length + 9 ∧ (evF i n k me other).2.way.length ≤ other.way.length + 9 := by
  have hf := framesF_le me.fy k (1 - k)
  have hc := cutAt_le me.way (atOf n me)
  unfold evF
  split
  · simp
  · split
    · simp; omega
    · split
      · unfold hearAt
        split
        · simp
        · dsimp only
          split
          · constructor <;> omega
          · simp
      · simp only
        constructor <;> omega
theorem stepL_way (i n : Nat) (x : Sd × Sd) : (stepL i n x).1.way.length ≤ x.1.way.length + 9 ∧ (stepL i n x).2.way.length ≤ x.2.way.length + 9 := by
  unfold stepL
  split
  · exact evF_way _ _ _ _ _
  · exact (evF_way i n 1 x.2 x.1).symm
def sd0 : Sd := ⟨⟨0, [], 0⟩, [], [], []⟩
/-- The two sides behind the first i events. -/
def playF (ns : Nat → Nat) : Nat → Sd × Sd
  | 0 => (sd0, sd0)
  | i + 1 => stepL i (ns i) (playF ns i)
theorem playF_ok (ns : Nat → Nat) (i : Nat) (hi : i ≤ 1000) : LkB (playF ns i) ∧ (playF ns i).1.sent.length ≤ i ∧ (playF ns i).2.sent.length ≤ i := by
  induction i with
  | zero =>
    have h0 : Lk sd0 sd0 := ⟨Nat.le_refl _, rfl, rfl, ⟨0, rfl, Nat.le_refl _, rfl, rfl⟩, (fun m hm => by cases hm), (fun m hm => by cases hm)⟩
    exact ⟨⟨h0, h0⟩, Nat.le_refl _, Nat.le_refl _⟩
  | succ i ih =>
    obtain ⟨h, h1, h2⟩ := ih (by omega)
    have hl := stepL_len i (ns i) (playF ns i)
    refine ⟨stepL_keeps h (by omega) (by omega), ?_, ?_⟩
    · show (stepL i (ns i) (playF ns i)).1.sent.length ≤ i + 1
      omega
    · show (stepL i (ns i) (playF ns i)).2.sent.length ≤ i + 1
      omega
theorem playF_way (ns : Nat → Nat) (i : Nat) : (playF ns i).1.way.length ≤ 9 * i ∧ (playF ns i).2.way.length ≤ 9 * i := by
  induction i with
  | zero => exact ⟨Nat.le_refl _, Nat.le_refl _⟩
  | succ i ih =>
    have hl := stepL_way i (ns i) (playF ns i)
    constructor
    · show (stepL i (ns i) (playF ns i)).1.way.length ≤ 9 * (i + 1)
      omega
    · show (stepL i (ns i) (playF ns i)).2.way.length ≤ 9 * (i + 1)
      omega
end Go.Proofs.Ytnjfphfkjapemaa
