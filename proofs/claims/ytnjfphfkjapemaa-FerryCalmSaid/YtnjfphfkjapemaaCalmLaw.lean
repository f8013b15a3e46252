/- The link when all frames arrive, in plain Lean: after as many rounds as bodies are kept, and one more, all was received. -/
import Derived.Test.YtnjfphfkjapemaaLink
namespace Go.Proofs.Ytnjfphfkjapemaa
open Go.RowKit

/-- A frame that says nothing false about what a sent and heard. -/
def FmOk (a : Sd) (m : Fm) : Prop := (m.kind = 1 → ∃ q : Nat, m.seq = q ∧ a.sent[q]? = some m.body) ∧ (m.kind = 2 → ∃ q : Nat, m.seq = q ∧ q ≤ a.heard.length)
theorem framesF_ok {a b : Sd} (h : Lk a b) (g : Lk b a) (hm : a.fy.may = true) {k t : Int} {m : Fm} (hf : m ∈ framesF a.fy k t) : FmOk a m := by
  rcases framesF_kind hm hf with ⟨h1, h2⟩ | ⟨h1, i, h2, h3⟩
  · refine ⟨fun e => ?_, fun _ => ⟨a.heard.length, by rw [h2, g.want], Nat.le_refl _⟩⟩
    rw [h1] at e; cases e
  · refine ⟨fun _ => ?_, fun e => ?_⟩
    · obtain ⟨n, b1, b2, b3, b4⟩ := h.base
      rw [b1] at h2
      refine ⟨n + i, by rw [h2]; simp, ?_⟩
      rw [b4, List.getElem?_drop] at h3
      exact h3
    · rw [h1] at e; cases e
theorem hearS_heard (b : Sd) (m : Fm) : b.heard.length ≤ (hearS b m).heard.length := by
  unfold hearS
  dsimp only
  split
  · simp
  · exact Nat.le_refl _
theorem hearS_base1 (b : Sd) (m : Fm) (hk : m.kind ≠ 2) : (hearS b m).fy.base = b.fy.base := by
  unfold hearS hearF
  dsimp only
  split
  · split
    · split <;> rfl
    · rw [if_neg (fun h => hk h.1)]
  · rfl
/-- Frames that say nothing false come, one behind the other. -/
theorem hears (a : Sd) (ha : a.sent.length ≤ 1000) : ∀ (l : List Fm) (b : Sd), (∀ m ∈ l, FmOk a m) → b.sent.length ≤ 1000 → Lk a b → Lk b a →
    Lk a (l.foldl hearS b) ∧ Lk (l.foldl hearS b) a ∧ (l.foldl hearS b).sent = b.sent ∧ b.heard.length ≤ (l.foldl hearS b).heard.length ∧ ((∀ m ∈ l, m.kind ≠ 2) → (l.foldl hearS b).fy.base = b.fy.base) := by
  intro l
  induction l with
  | nil => intro b _ _ h g; exact ⟨h, g, rfl, Nat.le_refl _, fun _ => rfl⟩
  | cons m t ih =>
    intro b hl hb h g
    have hm := g.may h hb ha
    obtain ⟨h1, h2⟩ := hl m (by simp)
    obtain ⟨r1, r2⟩ := h.hear g hm m h1 h2
    obtain ⟨s1, s2, s3, s4, s5⟩ := ih (hearS b m) (fun x hx => hl x (by simp [hx])) hb r1 r2
    refine ⟨s1, s2, s3, Nat.le_trans (hearS_heard b m) s4, fun hk => ?_⟩
    rw [List.foldl_cons, s5 (fun x hx => hk x (by simp [hx])), hearS_base1 b m (hk m (by simp))]
theorem heard_fold (l : List Fm) (b : Sd) : b.heard.length ≤ (l.foldl hearS b).heard.length := by
  induction l generalizing b with
  | nil => exact Nat.le_refl _
  | cons m t ih => exact Nat.le_trans (hearS_heard b m) (ih _)
theorem data_kind {b f t : Int} {l : List ByteArray} {k : Nat} {m : Fm} (h : m ∈ dataOf b f t l k) : m.kind = 1 := by
  unfold dataOf at h
  obtain ⟨i, _, rfl⟩ := List.mem_map.1 h
  rfl
theorem ack_base {a b : Sd} (g : Lk b a) (hmb : b.fy.may = true) (f t : Int) (s : ByteArray) : (hearS b ⟨2, f, t, a.fy.want, s⟩).fy.base = a.heard.length ∧ (hearS b ⟨2, f, t, a.fy.want, s⟩).heard = b.heard ∧ (hearS b ⟨2, f, t, a.fy.want, s⟩).fy.want = b.fy.want := by
  obtain ⟨mb, e1, e2, e3, e4⟩ := g.base
  have hw := g.want
  have hl := g.len
  by_cases h : b.fy.base < a.fy.want
  · rw [hearS_ack hmb rfl h (by show a.fy.want ≤ _; rw [hw, e1]; omega)]
    exact ⟨hw, rfl, rfl⟩
  · rw [hearS_keep hmb (by simp) (by simp; omega)]
    exact ⟨by rw [e1]; rw [hw, e1] at h; omega, rfl, rfl⟩
/-- All frames of a come to b. -/
def half (k : Int) (a b : Sd) : Sd := (framesF a.fy k (1 - k)).foldl hearS b
theorem half_ok (k : Int) (a b : Sd) (ha : a.sent.length ≤ 1000) (hb : b.sent.length ≤ 1000) (h : Lk a b) (g : Lk b a) :
    Lk a (half k a b) ∧ Lk (half k a b) a ∧ (half k a b).sent = b.sent ∧ b.heard.length ≤ (half k a b).heard.length ∧ (half k a b).fy.base = a.heard.length ∧
      ∀ m : Nat, a.fy.base = m → m < a.sent.length → m + 1 ≤ (half k a b).heard.length := by
  have hm := h.may g ha hb
  have hmb := g.may h hb ha
  have hok : ∀ m ∈ framesF a.fy k (1 - k), FmOk a m := fun m hf => framesF_ok h g hm hf
  obtain ⟨s1, s2, s3, s4, _⟩ := hears a ha _ b hok hb h g
  refine ⟨s1, s2, s3, s4, ?_, ?_⟩
  · have hb0 := (ack_base g hmb k (1 - k) ⟨#[]⟩).1
    have hr := (hears a ha [⟨2, k, 1 - k, a.fy.want, ⟨#[]⟩⟩] b (fun x hx => hok x (by unfold framesF; rw [if_pos hm]; simp at hx; simp [hx])) hb h g)
    have e : half k a b = (dataOf a.fy.base k (1 - k) a.fy.sent (min a.fy.sent.length 8)).foldl hearS (hearS b ⟨2, k, 1 - k, a.fy.want, ⟨#[]⟩⟩) := by
      unfold half framesF
      rw [if_pos hm]
      rfl
    rw [e]
    have h2 := hears a ha (dataOf a.fy.base k (1 - k) a.fy.sent (min a.fy.sent.length 8)) (hearS b ⟨2, k, 1 - k, a.fy.want, ⟨#[]⟩⟩) (fun x hx => hok x (by unfold framesF; rw [if_pos hm]; exact List.mem_cons_of_mem _ hx)) hb hr.1 hr.2.1
    rw [h2.2.2.2.2 (fun x hx => by rw [data_kind hx]; decide), hb0]
  · intro m hmm hlt
    have hb0 := ack_base g hmb k (1 - k) ⟨#[]⟩
    obtain ⟨n, e1, e2, e3, e4⟩ := h.base
    have hnm : n = m := by omega
    subst hnm
    have hlen : ∃ q, min a.fy.sent.length 8 = q + 1 := ⟨min a.fy.sent.length 8 - 1, by omega⟩
    obtain ⟨q, hq⟩ := hlen
    have hdat : dataOf a.fy.base k (1 - k) a.fy.sent (q + 1) = ⟨1, k, 1 - k, a.fy.base + ((0 : Nat) : Int), a.fy.sent.getD 0 ⟨#[]⟩⟩ :: ((List.range q).map Nat.succ).map fun (i : Nat) => ⟨1, k, 1 - k, a.fy.base + (i : Int), a.fy.sent.getD i ⟨#[]⟩⟩ := by
      unfold dataOf
      rw [List.range_succ_eq_map, List.map_cons]
    have e : half k a b = (((List.range q).map Nat.succ).map fun (i : Nat) => (⟨1, k, 1 - k, a.fy.base + (i : Int), a.fy.sent.getD i ⟨#[]⟩⟩ : Fm)).foldl hearS (hearS (hearS b ⟨2, k, 1 - k, a.fy.want, ⟨#[]⟩⟩) ⟨1, k, 1 - k, a.fy.base + ((0 : Nat) : Int), a.fy.sent.getD 0 ⟨#[]⟩⟩) := by
      unfold half framesF
      rw [if_pos hm, hq, hdat]
      rfl
    rw [e]
    refine Nat.le_trans ?_ (heard_fold _ _)
    have hr := (hears a ha [⟨2, k, 1 - k, a.fy.want, ⟨#[]⟩⟩] b (fun x hx => hok x (by unfold framesF; rw [if_pos hm]; simp at hx; simp [hx])) hb h g)
    have hmb2 : (hearS b ⟨2, k, 1 - k, a.fy.want, ⟨#[]⟩⟩).fy.may = true := hr.2.1.may hr.1 hb ha
    have hw2 := h.want
    by_cases hh : b.heard.length = n
    · rw [hearS_data hmb2 rfl (by show a.fy.base + ((0 : Nat) : Int) = _; rw [hb0.2.2, hw2, e1, hh]; simp)]
      show n + 1 ≤ ((hearS b ⟨2, k, 1 - k, a.fy.want, ⟨#[]⟩⟩).heard ++ _).length
      rw [hb0.2.1, List.length_append, List.length_singleton, hh]
      exact Nat.le_refl _
    · refine Nat.le_trans ?_ (hearS_heard _ _)
      rw [hb0.2.1]
      omega
/-- A round: the frames of the first one arrive, then those of the second one. -/
def round (x : Sd × Sd) : Sd × Sd := (half 1 (half 0 x.1 x.2) x.1, half 0 x.1 x.2)
def rounds : Nat → Sd × Sd → Sd × Sd
  | 0, x => x
  | r + 1, x => round (rounds r x)
/-- What is true behind r rounds, r not nought, where m and n were the first numbers kept at the start. -/
structure Calm (m n r : Nat) (x y : Sd × Sd) : Prop where
  a : Lk y.1 y.2
  b : Lk y.2 y.1
  s1 : y.1.sent = x.1.sent
  s2 : y.2.sent = x.2.sent
  p1 : y.1.fy.base = y.2.heard.length
  p2 : r = 0 ∨ min x.1.sent.length (m + r) ≤ y.2.heard.length
  p3 : min x.2.sent.length (n + r) ≤ y.1.heard.length
  p4 : ∃ b : Nat, y.2.fy.base = b ∧ min x.2.sent.length (n + r - 1) ≤ b
theorem calm_first (x : Sd × Sd) (m n : Nat) (ha : x.1.sent.length ≤ 1000) (hb : x.2.sent.length ≤ 1000) (h : Lk x.1 x.2) (g : Lk x.2 x.1) (hm : x.1.fy.base = m) (hn : x.2.fy.base = n) : Calm m n 1 x (round x) := by
  obtain ⟨a1, a2, a3, a4, a5, a6⟩ := half_ok 0 x.1 x.2 ha hb h g
  obtain ⟨b1, b2, b3, b4, b5, b6⟩ := half_ok 1 (half 0 x.1 x.2) x.1 (by rw [a3]; exact hb) ha a2 a1
  obtain ⟨n', c1, c2, c3, _⟩ := g.base
  have hnn : n' = n := by omega
  subst hnn
  refine ⟨b2, b1, b3, a3, b5, .inr ?_, ?_, ⟨x.1.heard.length, a5, ?_⟩⟩
  · show min x.1.sent.length (m + 1) ≤ (half 0 x.1 x.2).heard.length
    rcases Nat.lt_or_ge m x.1.sent.length with hlt | hge
    · have := a6 m hm hlt; omega
    · obtain ⟨m', d1, d2, d3, _⟩ := h.base
      have := a1.len
      omega
  · show min x.2.sent.length (n' + 1) ≤ (half 1 (half 0 x.1 x.2) x.1).heard.length
    have hq := b6 x.1.heard.length a5
    rw [a3] at hq
    have := g.len
    rcases Nat.lt_or_ge x.1.heard.length x.2.sent.length with hlt | hge
    · have := hq hlt; omega
    · omega
  · omega
theorem calm_next (x y : Sd × Sd) (m n r : Nat) (hr : 0 < r) (ha : x.1.sent.length ≤ 1000) (hb : x.2.sent.length ≤ 1000) (c : Calm m n r x y) : Calm m n (r + 1) x (round y) := by
  obtain ⟨h, g, s1, s2, p1, p2, p3, p4⟩ := c
  obtain ⟨a1, a2, a3, a4, a5, a6⟩ := half_ok 0 y.1 y.2 (by rw [s1]; exact ha) (by rw [s2]; exact hb) h g
  obtain ⟨b1, b2, b3, b4, b5, b6⟩ := half_ok 1 (half 0 y.1 y.2) y.1 (by rw [a3, s2]; exact hb) (by rw [s1]; exact ha) a2 a1
  refine ⟨b2, b1, by rw [← s1]; exact b3, by rw [← s2]; exact a3, b5, .inr ?_, ?_, ⟨y.1.heard.length, a5, ?_⟩⟩
  · show min x.1.sent.length (m + (r + 1)) ≤ (half 0 y.1 y.2).heard.length
    have hq := a6 _ p1
    rw [s1] at hq
    rcases Nat.lt_or_ge y.2.heard.length x.1.sent.length with hlt | hge
    · have := hq hlt; omega
    · omega
  · show min x.2.sent.length (n + (r + 1)) ≤ (half 1 (half 0 y.1 y.2) y.1).heard.length
    have hq := b6 y.1.heard.length a5
    rw [a3, s2] at hq
    rcases Nat.lt_or_ge y.1.heard.length x.2.sent.length with hlt | hge
    · have := hq hlt; omega
    · omega
  · omega
theorem calm_all (x : Sd × Sd) (m n : Nat) (ha : x.1.sent.length ≤ 1000) (hb : x.2.sent.length ≤ 1000) (h : Lk x.1 x.2) (g : Lk x.2 x.1) (hm : x.1.fy.base = m) (hn : x.2.fy.base = n) : ∀ r, Calm m n (r + 1) x (rounds (r + 1) x) := by
  intro r
  induction r with
  | zero => exact calm_first x m n ha hb h g hm hn
  | succ r ih => exact calm_next x _ m n (r + 1) (by omega) ha hb ih
/-- As many rounds as bodies are kept, and one more: all is received, and none is kept. -/
theorem calm_end (x : Sd × Sd) (ha : x.1.sent.length ≤ 1000) (hb : x.2.sent.length ≤ 1000) (h : Lk x.1 x.2) (g : Lk x.2 x.1) :
    let y := rounds (x.1.fy.sent.length + x.2.fy.sent.length + 1) x
    y.1.heard = y.2.sent ∧ y.2.heard = y.1.sent ∧ y.1.fy.sent = [] ∧ y.2.fy.sent = [] := by
  obtain ⟨m, m1, m2, m3, _⟩ := h.base
  obtain ⟨n, n1, n2, n3, _⟩ := g.base
  obtain ⟨c1, c2, s1, s2, p1, p2, p3, ⟨b, p4, p5⟩⟩ := calm_all x m n ha hb h g m1 n1 (x.1.fy.sent.length + x.2.fy.sent.length)
  intro y
  have e1 : (rounds (x.1.fy.sent.length + x.2.fy.sent.length + 1) x) = y := rfl
  rw [e1] at c1 c2 s1 s2 p1 p2 p3 p4
  have l1 := c1.len
  have l2 := c2.len
  rw [s1] at l1
  rw [s2] at l2
  obtain ⟨u, u1, u2, u3, u4⟩ := c1.base
  obtain ⟨v, v1, v2, v3, v4⟩ := c2.base
  have q2 : y.2.heard.length = x.1.sent.length := by rcases p2 with p2 | p2 <;> omega
  have q1 : y.1.heard.length = x.2.sent.length := by omega
  refine ⟨?_, ?_, ?_, ?_⟩
  · rw [c2.pre, List.take_of_length_le (by rw [s2, q1]; exact Nat.le_refl _)]
  · rw [c1.pre, List.take_of_length_le (by rw [s1, q2]; exact Nat.le_refl _)]
  · rw [u4, List.drop_of_length_le (by rw [s1]; omega)]
  · rw [v4, List.drop_of_length_le (by rw [s2]; omega)]
theorem round_ok (y : Sd × Sd) (ha : y.1.sent.length ≤ 1000) (hb : y.2.sent.length ≤ 1000) (h : LkB y) : LkB (round y) ∧ (round y).1.sent = y.1.sent ∧ (round y).2.sent = y.2.sent := by
  obtain ⟨a1, a2, a3, _⟩ := half_ok 0 y.1 y.2 ha hb h.1 h.2
  obtain ⟨b1, b2, b3, _⟩ := half_ok 1 (half 0 y.1 y.2) y.1 (by rw [a3]; exact hb) ha a2 a1
  exact ⟨⟨b2, b1⟩, b3, a3⟩
theorem rounds_ok (x : Sd × Sd) (ha : x.1.sent.length ≤ 1000) (hb : x.2.sent.length ≤ 1000) (h : LkB x) (r : Nat) : LkB (rounds r x) ∧ (rounds r x).1.sent = x.1.sent ∧ (rounds r x).2.sent = x.2.sent := by
  induction r with
  | zero => exact ⟨h, rfl, rfl⟩
  | succ r ih =>
    obtain ⟨h1, h2, h3⟩ := round_ok (rounds r x) (by rw [ih.2.1]; exact ha) (by rw [ih.2.2]; exact hb) ih.1
    exact ⟨h1, h2.trans ih.2.1, h3.trans ih.2.2⟩
end Go.Proofs.Ytnjfphfkjapemaa
