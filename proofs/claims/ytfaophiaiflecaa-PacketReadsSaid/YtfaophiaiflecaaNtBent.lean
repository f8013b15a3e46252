/- Contract: reparteelaw38.bent: what comes out is a note, its lists lie there. -/
import Derived.Test.YtfaophiaiflecaaNtFew
import Derived.Test.YtfaophiaiflecaaLow
import Derived.Deep.DeepCutAuto
import Derived.Deep.CutBlock
namespace Go.Proofs.Ytfaophiaiflecaa
open Go.RowKit
set_option linter.unusedVariables false

/-- A note's lists lie there, and in no block of B. -/
structure NtN (B : List Nat) (w : World) (x : Nt) (A E : Option Addr) : Prop where
  a : Ints w A x.v.l
  an : x.v.l ≠ [] → ∀ g ∈ B, blkOf A ≠ some g
  e : ∃ R : List (Option Addr × Nat), R.length = x.env.length ∧ Rd w E (bdRow x.env R) ∧ (x.env ≠ [] → ∀ g ∈ B, blkOf E ≠ some g) ∧ ∀ (i : Nat) b r, x.env[i]? = some b → R[i]? = some r → Ints w r.1 b.v.l ∧ (b.v.l ≠ [] → ∀ g ∈ B, blkOf r.1 ≠ some g)
theorem rd_nil_any (w : World) (A : Option Addr) : Rd w A [] := fun h => absurd rfl h
theorem ints_grown {w w' : World} {A : Option Addr} {l : List Int} {g : Nat} (h : Ints w A l) (hn : l ≠ [] → blkOf A ≠ some g) (hg : w.grownBy w' (some g)) : Ints w' A l := by
  cases l with
  | nil => exact rd_nil_any _ _
  | cons a t => exact rd_grown h hg (hn (by simp))
theorem NtN.grown {B : List Nat} {g : Nat} {w w' : World} {x : Nt} {A E : Option Addr} (h : NtN B w x A E) (hB : g ∈ B) (hg : w.grownBy w' (some g)) : NtN B w' x A E := by
  obtain ⟨h1, h2, R, h3, h4, h5, h6⟩ := h
  refine ⟨ints_grown h1 (fun hn => h2 hn g hB) hg, h2, R, h3, ?_, h5, fun i b r hi hr => ⟨ints_grown (h6 i b r hi hr).1 (fun hn => (h6 i b r hi hr).2 hn g hB) hg, (h6 i b r hi hr).2⟩⟩
  cases hq : x.env with
  | nil =>
    rw [hq] at h3
    rw [show R = [] from List.eq_nil_of_length_eq_zero (by simpa using h3)]
    exact rd_nil_any _ _
  | cons b t => rw [← hq]; exact rd_grown h4 hg (h5 (by rw [hq]; simp) g hB)
theorem NtN.set {B : List Nat} {g i : Nat} {u : Value} {w : World} {x : Nt} {A E : Option Addr} (h : NtN B w x A E) (hB : g ∈ B) : NtN B (w.setCell ⟨g, i, none⟩ u) x A E := h.grown hB (grown_setCell w ⟨g, i, none⟩ u)
theorem NtN.below {B : List Nat} {w w' : World} {x : Nt} {A E : Option Addr} (h : NtN B w x A E) (hb : Below w.heap.size w w') : NtN B w' x A E := by
  obtain ⟨h1, h2, R, h3, h4, h5, h6⟩ := h
  exact ⟨Rd.below h1 hb, h2, R, h3, h4.below hb, h5, fun i b r hi hr => ⟨Rd.below (h6 i b r hi hr).1 hb, (h6 i b r hi hr).2⟩⟩
theorem NtN.at {B : List Nat} {w : World} {x : Nt} {A E : Option Addr} (h : NtN B w x A E) : NtL w x A E := by
  obtain ⟨h1, h2, R, h3, h4, h5, h6⟩ := h
  exact ⟨h1, R, h3, h4, fun i b r hi hr => (h6 i b r hi hr).1⟩
theorem rd_block {w : World} {A : Option Addr} {xs : List Value} (h : Rd w A xs) (hn : xs ≠ []) {g : Nat} (hg : w.heap.size ≤ g) : blkOf A ≠ some g := by
  obtain ⟨b, off, e, hb, _⟩ := h hn
  rw [e]; simp [blkOf]; omega
/-- One block more, that is newer. -/
theorem NtN.more {B : List Nat} {w w' : World} {x : Nt} {A E : Option Addr} (h : NtN B w x A E) (hb : Below w.heap.size w w') {g : Nat} (hg : w.heap.size ≤ g) : NtN (g :: B) w' x A E := by
  obtain ⟨h1, h2, R, h3, h4, h5, h6⟩ := h
  have all : ∀ {P : Nat → Prop}, P g → (∀ k ∈ B, P k) → ∀ k ∈ g :: B, P k := fun h1 h2 k hk => by
    rcases List.mem_cons.1 hk with rfl | hk
    · exact h1
    · exact h2 k hk
  have ha : ∀ {A : Option Addr} {l : List Int}, Ints w A l → (l ≠ [] → ∀ k ∈ B, blkOf A ≠ some k) → l ≠ [] → ∀ k ∈ g :: B, blkOf A ≠ some k := fun h k hn => all (rd_block h (by simpa using hn) hg) (k hn)
  refine ⟨Rd.below h1 hb, ha h1 h2, R, h3, h4.below hb, fun hn => all (rd_block h4 ?_ hg) (h5 hn), fun i b r hi hr => ⟨Rd.below (h6 i b r hi hr).1 hb, ha (h6 i b r hi hr).1 (h6 i b r hi hr).2⟩⟩
  intro e
  have := bdRow_len x.env R h3
  rw [e] at this
  cases hq : x.env with
  | nil => exact hn hq
  | cons b t => rw [hq] at this; simp at this
theorem NtL.none_ {w : World} {x : Nt} {A E : Option Addr} (h : NtL w x A E) : NtN [] w x A E := by
  obtain ⟨h1, R, h3, h4, h6⟩ := h
  exact ⟨h1, fun _ g hg => absurd hg (by simp), R, h3, h4, fun _ g hg => absurd hg (by simp), fun i b r hi hr => ⟨h6 i b r hi hr, fun _ g hg => absurd hg (by simp)⟩⟩
abbrev env2 : List Bd := [⟨⟨#[99]⟩, ⟨5, 0, ⟨#[48, 47, 49]⟩, []⟩⟩, ⟨⟨#[110]⟩, ⟨1, 5, ⟨#[]⟩, []⟩⟩]
/-- A row of bindings in the note that is made. -/
def EnvM (N : Nat) (w : World) (en : List Bd) (E : Option Addr) (d : Nat) : Prop := (en = [] ∧ E = none ∧ d = 0) ∨ ∃ g, N + 3 ≤ g ∧ E = some ⟨g, 0, none⟩ ∧ d = 2 ∧ en = env2 ∧ Blk w g #[.string ⟨#[99]⟩, .int .i64 5, .int .i64 0, .string ⟨#[48, 47, 49]⟩, .slice none 0 0, .string ⟨#[110]⟩, .int .i64 1, .int .i64 5, .string ⟨#[]⟩, .slice none 0 0] 62
theorem EnvM.keep {N : Nat} {w w' : World} {en : List Bd} {E : Option Addr} {d : Nat} (h : EnvM N w en E d) (hg : w.grownBy w' (some (N + 2))) : EnvM N w' en E d := by
  rcases h with h | ⟨g, h1, h2, h3, h4, h5⟩
  · exact .inl h
  · exact .inr ⟨g, h1, h2, h3, h4, h5.grown hg (by simp; omega)⟩
theorem EnvM.env {N G : Nat} {w : World} {en : List Bd} {E : Option Addr} {d : Nat} (h : EnvM N w en E d) (hG : G < N) (k : Int) (ag se : ByteArray) (st : Int) (pe la : ByteArray) (v : Vl) (pr : Int) {A : Option Addr} (hA : Ints w A v.l) (hn : v.l ≠ [] → ∀ g ∈ [N + 1, G], blkOf A ≠ some g) : NtN [N + 1, G] w ⟨k, ag, se, st, pe, la, v, pr, en⟩ A E := by
  rcases h with ⟨rfl, rfl, rfl⟩ | ⟨g, h1, rfl, rfl, rfl, h5⟩
  · exact ⟨hA, hn, [], rfl, rd_nil_any _ _, fun h => absurd rfl h, fun i b r hi => by simp at hi⟩
  · refine ⟨hA, hn, [(none, 0), (none, 0)], rfl, h5.rd, fun _ k hk => by simp at hk; simp [blkOf]; omega, fun i b r hi hr => ?_⟩
    rcases i with _ | _ | i
    · cases hi; cases hr; exact ⟨rd_nil_any _ _, fun h => absurd rfl h⟩
    · cases hi; cases hr; exact ⟨rd_nil_any _ _, fun h => absurd rfl h⟩
    · simp at hi
/-- How long a note's parts are. -/
structure Sz (x : Nt) : Prop where
  ag : x.agent.size ≤ 10000
  se : x.session.size ≤ 10000
  s : x.v.s.size ≤ 1000
  l : x.v.l.length ≤ 1000
  le : x.env.length ≤ 20
  env : ∀ b ∈ x.env, b.name.size ≤ 1000 ∧ b.v.s.size ≤ 1000 ∧ b.v.l.length ≤ 1000
theorem Few.sz {x : Nt} (h : Few x) : Sz x := ⟨by have := h.ag; omega, by have := h.se; omega, by have := h.s; omega, by have := h.l; omega, by have := h.le; omega, fun b hb => by have := h.env b hb; omega⟩
theorem Sz.ok {x : Nt} (h : Sz x) (r : NtI x) : NtOk x :=
  ⟨r.k, r.seat, r.proc, by have := h.ag; omega, by have := h.se; omega, ⟨r.vk, r.vn, by have := h.s; omega, by have := h.l; omega, r.vi⟩, h.le,
    fun b hb => ⟨by have := (h.env b hb).1; omega, ⟨(r.env b hb).1, (r.env b hb).2.1, by have := (h.env b hb).2.1; omega, by have := (h.env b hb).2.2; omega, (r.env b hb).2.2⟩⟩⟩
theorem Sz.at {x : Nt} {w : World} {A E : Option Addr} (h : Sz x) (l : NtL w x A E) : NtAt w x A E :=
  ⟨l.a, l.e, by have := h.l; omega, by have := h.le; omega, fun b hb => by have := (h.env b hb).2.2; omega⟩
theorem cat47 (a : ByteArray) (c : UInt8) : ((⟨#[48, c, 49]⟩ : ByteArray) ++ a).size = 3 + a.size := by rw [ByteArray.size_append]; rfl
theorem env2_sz : ∀ b ∈ env2, b.name.size ≤ 1000 ∧ b.v.s.size ≤ 1000 ∧ b.v.l.length ≤ 1000 := by
  intro b hb
  simp only [env2, List.mem_cons, List.not_mem_nil, or_false] at hb
  rcases hb with rfl | rfl <;> decide
theorem i64_1 : I64 1 := by decide
theorem i64_0 : I64 0 := by decide
theorem env2_ok : ∀ b ∈ env2, I64 b.v.kind ∧ I64 b.v.n ∧ ∀ n ∈ b.v.l, I64 n := by
  intro b hb
  simp only [env2, List.mem_cons, List.not_mem_nil, or_false] at hb
  rcases hb with rfl | rfl
  · exact ⟨by decide, by decide, by simp⟩
  · exact ⟨by decide, by decide, by simp⟩
def BentPost (G : Nat) (S : Prop) (w : World) (e : Ending) (w' : World) : Prop := ∃ y A c E d, e = .returned (.agg (Nt.cells y A c E d)) ∧ NtN [G] w' y A E ∧ NtI y ∧ (S → Sz y) ∧ Below w.heap.size w w'
/-- The note that is made, on the way. -/
structure Made (S : Prop) (w : World) (wr : World) (xc : Array Value) (y : Nt) (E' : Option Addr) (d' : Nat) : Prop where
  vl : y.v.l = []
  blk : Blk wr (w.heap.size + 2) (y.cells none 0 E' d') 41
  r : NtI y
  sz : S → Sz y
  e : EnvM w.heap.size wr y.env E' d'
  x : Blk wr w.heap.size xc 41
  z : Blk wr (w.heap.size + 1) #[.int .i64 0, .string ⟨#[]⟩, .string ⟨#[]⟩, .int .i64 0, .string ⟨#[]⟩, .string ⟨#[]⟩, .int .i64 0, .int .i64 0, .string ⟨#[]⟩, .slice none 0 0, .int .i64 0, .slice none 0 0] 41
  b : Below w.heap.size w wr
theorem Made.set {S : Prop} {w wr : World} {xc : Array Value} {y : Nt} {E' : Option Addr} {d' : Nat} (h : Made S w wr xc y E' d') (i : Nat) (u : Value) (y' : Nt) (hc : y'.cells none 0 E' d' = (y.cells none 0 E' d').setIfInBounds i u) (hv : y'.v.l = []) (he : y'.env = y.env) (hi : NtI y') (hs : S → Sz y → Sz y') : Made S w (wr.setCell ⟨w.heap.size + 2, i, none⟩ u) xc y' E' d' := by
  refine ⟨hv, ?_, hi, fun q => hs q (h.sz q), ?_, h.x.far (p := ⟨w.heap.size + 2, i, none⟩) (by show _ ≠ w.heap.size + 2; omega) u, h.z.far (p := ⟨w.heap.size + 2, i, none⟩) (by show _ ≠ w.heap.size + 2; omega) u, h.b.setCell (by show _ ≤ w.heap.size + 2; omega) u⟩
  · rw [hc]; exact h.blk.set_ i u
  · rw [he]; exact h.e.keep (grown_setCell _ ⟨w.heap.size + 2, i, none⟩ u)
theorem Made.env {S : Prop} {w wr : World} {xc : Array Value} {yk : Int} {yag yse : ByteArray} {yst : Int} {ype yla : ByteArray} {yv : Vl} {ypr : Int} {yen : List Bd} {E' : Option Addr} {d' : Nat} (h : Made S w wr xc ⟨yk, yag, yse, yst, ype, yla, yv, ypr, yen⟩ E' d') :
    Made S w ((wr.setCell ⟨w.heap.size + 2, 11, none⟩ (.slice (some ⟨wr.heap.size, 0, none⟩) 2 2)).alloc (.cells #[.string ⟨#[99]⟩, .int .i64 5, .int .i64 0, .string ⟨#[48, 47, 49]⟩, .slice none 0 0, .string ⟨#[110]⟩, .int .i64 1, .int .i64 5, .string ⟨#[]⟩, .slice none 0 0] 62)) xc ⟨yk, yag, yse, yst, ype, yla, yv, ypr, env2⟩ (some ⟨wr.heap.size, 0, none⟩) 2 := by
  have hl := h.blk.lt
  have hz : (wr.setCell ⟨w.heap.size + 2, 11, none⟩ (.slice (some ⟨wr.heap.size, 0, none⟩) 2 2)).heap.size = wr.heap.size := by simp
  refine ⟨h.vl, ?_, ⟨h.r.k, h.r.seat, h.r.proc, h.r.vk, h.r.vn, h.r.vi, env2_ok⟩, fun q => ⟨(h.sz q).ag, (h.sz q).se, (h.sz q).s, (h.sz q).l, by show (2 : Nat) ≤ 20; omega, env2_sz⟩, .inr ⟨wr.heap.size, by omega, rfl, rfl, rfl, ?_⟩, (h.x.far (p := ⟨w.heap.size + 2, 11, none⟩) (by show _ ≠ w.heap.size + 2; omega) _).alloc _, (h.z.far (p := ⟨w.heap.size + 2, 11, none⟩) (by show _ ≠ w.heap.size + 2; omega) _).alloc _, below_allocS (h.b.setCell (by show _ ≤ w.heap.size + 2; omega) _) _⟩
  · exact (h.blk.set_ 11 (.slice (some ⟨wr.heap.size, 0, none⟩) 2 2)).alloc _
  · have e := Blk.new (wr.setCell ⟨w.heap.size + 2, 11, none⟩ (.slice (some ⟨wr.heap.size, 0, none⟩) 2 2)) #[.string ⟨#[99]⟩, .int .i64 5, .int .i64 0, .string ⟨#[48, 47, 49]⟩, .slice none 0 0, .string ⟨#[110]⟩, .int .i64 1, .int .i64 5, .string ⟨#[]⟩, .slice none 0 0] 62
    rw [hz] at e
    exact e
/-- The note that is made, at the end. -/
structure Fin1 (S : Prop) (G : Nat) (w wx : World) (y : Nt) (A' : Option Addr) (c' : Nat) (E' : Option Addr) (d' : Nat) : Prop where
  blk : Blk wx (w.heap.size + 2) (y.cells A' c' E' d') 41
  n : NtN [w.heap.size + 1, G] wx y A' E'
  i : NtI y
  sz : S → Sz y
  z : Blk wx (w.heap.size + 1) #[.int .i64 0, .string ⟨#[]⟩, .string ⟨#[]⟩, .int .i64 0, .string ⟨#[]⟩, .string ⟨#[]⟩, .int .i64 0, .int .i64 0, .string ⟨#[]⟩, .slice none 0 0, .int .i64 0, .slice none 0 0] 41
  b : Below w.heap.size w wx
theorem NtN.tail {B : List Nat} {g : Nat} {w : World} {x : Nt} {A E : Option Addr} (h : NtN (g :: B) w x A E) : NtN B w x A E := by
  obtain ⟨h1, h2, R, h3, h4, h5, h6⟩ := h
  exact ⟨h1, fun hn k hk => h2 hn k (List.mem_cons_of_mem _ hk), R, h3, h4, fun hn k hk => h5 hn k (List.mem_cons_of_mem _ hk), fun i b r hi hr => ⟨(h6 i b r hi hr).1, fun hn k hk => (h6 i b r hi hr).2 hn k (List.mem_cons_of_mem _ hk)⟩⟩
theorem Made.fin {S : Prop} {G : Nat} {w wr : World} {xc : Array Value} {y : Nt} {E' : Option Addr} {d' : Nat} (h : Made S w wr xc y E' d') (hG : G < w.heap.size) : Fin1 S G w wr y none 0 E' d' := by
  obtain ⟨k, ag, se, st, pe, la, v, pr, en⟩ := y
  refine ⟨h.blk, h.e.env hG k ag se st pe la v pr ?_ ?_, h.r, h.sz, h.z, h.b⟩
  · rw [show v.l = [] from h.vl]; exact rd_nil_any _ _
  · intro hn; exact absurd h.vl hn
theorem Made.finL {S : Prop} {G : Nat} {w wr : World} {xc : Array Value} {yk : Int} {yag yse : ByteArray} {yst : Int} {ype yla : ByteArray} {vk vn : Int} {vs : ByteArray} {ypr : Int} {yen : List Bd} {E' : Option Addr} {d' : Nat} (h : Made S w wr xc ⟨yk, yag, yse, yst, ype, yla, ⟨vk, vn, vs, []⟩, ypr, yen⟩ E' d') (hG : G < w.heap.size) (x : Nt) (A E : Option Addr) (c : Nat) (hA : NtN [G] w x A E) (hi : ∀ n ∈ x.v.l, I64 n) (hs : S → x.v.l.length ≤ 1000) :
    Fin1 S G w (wr.setCell ⟨w.heap.size + 2, 9, none⟩ (.slice A x.v.l.length c)) ⟨yk, yag, yse, yst, ype, yla, ⟨vk, vn, vs, x.v.l⟩, ypr, yen⟩ A c E' d' := by
  have hb : Below w.heap.size w (wr.setCell ⟨w.heap.size + 2, 9, none⟩ (.slice A x.v.l.length c)) := h.b.setCell (by show _ ≤ w.heap.size + 2; omega) _
  have ha := hA.more hb (g := w.heap.size + 1) (by omega)
  exact ⟨h.blk.set_ 9 _, (h.e.keep (grown_setCell _ ⟨w.heap.size + 2, 9, none⟩ _)).env hG yk yag yse yst ype yla ⟨vk, vn, vs, x.v.l⟩ ypr ha.a ha.an, ⟨h.r.k, h.r.seat, h.r.proc, h.r.vk, h.r.vn, hi, h.r.env⟩, fun q => ⟨(h.sz q).ag, (h.sz q).se, (h.sz q).s, hs q, (h.sz q).le, (h.sz q).env⟩, h.z.far (p := ⟨w.heap.size + 2, 9, none⟩) (by show _ ≠ w.heap.size + 2; omega) _, hb⟩
theorem Made.finE {S : Prop} {G : Nat} {w wr : World} {xc : Array Value} {yk : Int} {yag yse : ByteArray} {yst : Int} {ype yla : ByteArray} {vk vn : Int} {vs : ByteArray} {ypr : Int} {yen : List Bd} {E' : Option Addr} {d' : Nat} (h : Made S w wr xc ⟨yk, yag, yse, yst, ype, yla, ⟨vk, vn, vs, []⟩, ypr, yen⟩ E' d') (x : Nt) (A E : Option Addr) (d : Nat) (hA : NtN [G] w x A E) (hi : ∀ b ∈ x.env, I64 b.v.kind ∧ I64 b.v.n ∧ ∀ n ∈ b.v.l, I64 n) (hs : S → Sz x) :
    Fin1 S G w (wr.setCell ⟨w.heap.size + 2, 11, none⟩ (.slice E x.env.length d)) ⟨yk, yag, yse, yst, ype, yla, ⟨vk, vn, vs, []⟩, ypr, x.env⟩ none 0 E d := by
  have hb : Below w.heap.size w (wr.setCell ⟨w.heap.size + 2, 11, none⟩ (.slice E x.env.length d)) := h.b.setCell (by show _ ≤ w.heap.size + 2; omega) _
  exact ⟨h.blk.set_ 11 _, ⟨rd_nil_any _ _, fun h => absurd rfl h, (hA.more hb (g := w.heap.size + 1) (by omega)).e⟩, ⟨h.r.k, h.r.seat, h.r.proc, h.r.vk, h.r.vn, h.r.vi, hi⟩, fun q => ⟨(h.sz q).ag, (h.sz q).se, (h.sz q).s, (h.sz q).l, (hs q).le, (hs q).env⟩, h.z.far (p := ⟨w.heap.size + 2, 11, none⟩) (by show _ ≠ w.heap.size + 2; omega) _, hb⟩
set_option maxRecDepth 100000 in
set_option maxHeartbeats 16000000 in
theorem bent_any (G : Nat) (x : Nt) (A : Option Addr) (c : Nat) (E : Option Addr) (d : Nat) (kind what : Int) (w : World) (hG : G < w.heap.size) (hL : NtN [G] w x A E) (hR : NtI x) (hag : x.agent.size ≤ 1000000000000000) (hse : x.session.size ≤ 1000000000000000) :
    Calls Try.prog 12 #[.agg (x.cells A c E d), .int .i64 kind, .int .i64 what] w (BentPost G (Few x) w) := by
  have HG := Lib.hid hG
  clear hG
  have CL := Lib.hid (fun x n W hn => low_any x n W hn)
  have HL := Lib.hid hL
  have HR := Lib.hid hR
  have hmf := mf Try.prog
  clear hL hR
  obtain ⟨S, hS⟩ : ∃ S, S = Few x := ⟨_, rfl⟩
  rw [← hS]
  have HX := Lib.hid (show S → Few x from fun q => by rw [hS] at q; exact q)
  clear hS
  obtain ⟨k, ag, se, st, pe, la, v, pr, en⟩ := x
  have HAG := Lib.hid (show ag.size ≤ 1000000000000000 from hag)
  have HSE := Lib.hid (show se.size ≤ 1000000000000000 from hse)
  clear hag hse
  simp only [Nt.cells]
  have hk8 := lowF_lt kind 8 (by omega)
  obtain ⟨kk, hkk⟩ : ∃ kk, kk = 1 + lowF kind 8 := ⟨_, rfl⟩
  have q1 : IntKind.i64.wrap (1 + lowF kind 8) = kk := by rw [hkk]; exact IntWalk.i64_in _ (by omega)
  have hkb : 1 ≤ kk ∧ kk ≤ 8 := by omega
  clear hk8 hkk
  obtain ⟨W0, hW0⟩ : ∃ W0, W0 = (w.alloc (.cells #[.int .i64 k, .string ag, .string se, .int .i64 st, .string pe, .string la, .int .i64 v.kind, .int .i64 v.n, .string v.s, .slice A v.l.length c, .int .i64 pr, .slice E en.length d] 41)).alloc (.cells #[.int .i64 0, .string ⟨#[]⟩, .string ⟨#[]⟩, .int .i64 0, .string ⟨#[]⟩, .string ⟨#[]⟩, .int .i64 0, .int .i64 0, .string ⟨#[]⟩, .slice none 0 0, .int .i64 0, .slice none 0 0] 41) := ⟨_, rfl⟩
  obtain ⟨W1, hW1⟩ : ∃ W1, W1 = W0.alloc (.cells #[.int .i64 kk, .string ⟨#[]⟩, .string ⟨#[]⟩, .int .i64 0, .string ⟨#[]⟩, .string ⟨#[]⟩, .int .i64 0, .int .i64 0, .string ⟨#[]⟩, .slice none 0 0, .int .i64 0, .slice none 0 0] 41) := ⟨_, rfl⟩
  have e0 : W0.heap.size = w.heap.size + 2 := by rw [hW0]; simp
  have HM := Lib.hid (show Made S w W1 #[.int .i64 k, .string ag, .string se, .int .i64 st, .string pe, .string la, .int .i64 v.kind, .int .i64 v.n, .string v.s, .slice A v.l.length c, .int .i64 pr, .slice E en.length d] ⟨kk, eS, eS, 0, eS, eS, zVl, 0, []⟩ none 0 from
    ⟨rfl, by have h := Blk.new W0 #[.int .i64 kk, .string ⟨#[]⟩, .string ⟨#[]⟩, .int .i64 0, .string ⟨#[]⟩, .string ⟨#[]⟩, .int .i64 0, .int .i64 0, .string ⟨#[]⟩, .slice none 0 0, .int .i64 0, .slice none 0 0] 41; rw [e0] at h; rw [hW1]; exact h,
      ⟨⟨by show _ ≤ kk; omega, by show kk ≤ _; omega⟩, i64_0, i64_0, i64_0, i64_0, by simp, by simp⟩,
      fun _ => ⟨Nat.zero_le _, Nat.zero_le _, Nat.zero_le _, Nat.zero_le _, Nat.zero_le _, by simp⟩, .inl ⟨rfl, rfl, rfl⟩, by rw [hW1, hW0]; exact ((Blk.new w _ _).alloc _).alloc _,
      by
        have h := Blk.new (w.alloc (.cells #[.int .i64 k, .string ag, .string se, .int .i64 st, .string pe, .string la, .int .i64 v.kind, .int .i64 v.n, .string v.s, .slice A v.l.length c, .int .i64 pr, .slice E en.length d] 41)) #[.int .i64 0, .string ⟨#[]⟩, .string ⟨#[]⟩, .int .i64 0, .string ⟨#[]⟩, .string ⟨#[]⟩, .int .i64 0, .int .i64 0, .string ⟨#[]⟩, .slice none 0 0, .int .i64 0, .slice none 0 0] 41
        rw [World.size_alloc] at h
        rw [hW1, hW0]; exact h.alloc _,
      by rw [hW1, hW0]; exact below_allocS (below_allocS (below_allocS (Below.refl _ _) _) _) _⟩)
  have HW0 := Lib.hid hW0
  have HW1 := Lib.hid hW1
  have HE0 := Lib.hid e0
  clear hW0 hW1 e0
  go_enter Try.func12, Try.ntmps12
  go_upto_region 1 with fail
  rw [← HW0.out]
  go_wp2_with fail
  refine (CL.out kind 8 _ (by omega)).mono ?_
  rintro e w1 ⟨rfl, rfl⟩
  go_upto_region 3 with fail
  rw [← HW1.out, HE0.out]
  clear HW0 HW1 HE0 q1
  obtain ⟨hs, hhs, hx⟩ : ∃ hs : ByteArray, hs.size ≤ 5 ∧ ∀ W, (Instr.index 60 (.agg #[.string ⟨#[]⟩, .string ⟨#[65, 83, 69, 80, 76]⟩, .string ⟨#[65, 83, 69, 80]⟩, .string ⟨#[65]⟩, .string ⟨#[65, 76]⟩, .string ⟨#[65]⟩, .string ⟨#[83, 69]⟩, .string ⟨#[83, 69]⟩, .string ⟨#[65, 82, 86]⟩]) (.int .i64 kk)).run Try.prog W = .ok (.string hs) W := by
    have h8 : kk = 1 ∨ kk = 2 ∨ kk = 3 ∨ kk = 4 ∨ kk = 5 ∨ kk = 6 ∨ kk = 7 ∨ kk = 8 := by omega
    rcases h8 with rfl | rfl | rfl | rfl | rfl | rfl | rfl | rfl
    · exact ⟨⟨#[65, 83, 69, 80, 76]⟩, by decide, fun _ => by kernel_rfl⟩
    · exact ⟨⟨#[65, 83, 69, 80]⟩, by decide, fun _ => by kernel_rfl⟩
    · exact ⟨⟨#[65]⟩, by decide, fun _ => by kernel_rfl⟩
    · exact ⟨⟨#[65, 76]⟩, by decide, fun _ => by kernel_rfl⟩
    · exact ⟨⟨#[65]⟩, by decide, fun _ => by kernel_rfl⟩
    · exact ⟨⟨#[83, 69]⟩, by decide, fun _ => by kernel_rfl⟩
    · exact ⟨⟨#[83, 69]⟩, by decide, fun _ => by kernel_rfl⟩
    · exact ⟨⟨#[65, 82, 86]⟩, by decide, fun _ => by kernel_rfl⟩
  clear hkb
  have HM2 := Lib.hid (show ∃ y E' d', Made S w W1 #[.int .i64 k, .string ag, .string se, .int .i64 st, .string pe, .string la, .int .i64 v.kind, .int .i64 v.n, .string v.s, .slice A v.l.length c, .int .i64 pr, .slice E en.length d] y E' d' from ⟨_, _, _, HM.out⟩)
  clear HM
  go_wp2_with fail
  clear hx
  go_loopw [10] (fun i wr => ∃ j : Nat, j ≤ hs.size ∧ i = .int .i64 j ∧ Hid (∃ y E' d', Made S w wr #[.int .i64 k, .string ag, .string se, .int .i64 st, .string pe, .string la, .int .i64 v.kind, .int .i64 v.n, .string v.s, .slice A v.l.length c, .int .i64 pr, .slice E en.length d] y E' d')) (fun i _ => hs.size - (intOf i).toNat)
  case atStart => exact ⟨0, Nat.zero_le _, rfl, HM2⟩
  case round =>
    obtain ⟨j, hj, rfl, hM⟩ := hrel
    obtain ⟨⟨yk, yag, yse, yst, ype, yla, ⟨vk2, vn2, vs2, vl2⟩, ypr, yen⟩, E', d', hM⟩ := hM.out
    obtain rfl : vl2 = [] := hM.vl
    have HMD := Lib.hid hM
    have t0 : wr.cell? ⟨w.heap.size + 2, 0, none⟩ = some (.int .i64 yk) := hM.blk.cell 0
    have f0 : wr.frozen? ⟨w.heap.size + 2, 0, none⟩ = false := hM.blk.frozen 0
    have t1 : wr.cell? ⟨w.heap.size + 2, 1, none⟩ = some (.string yag) := hM.blk.cell 1
    have f1 : wr.frozen? ⟨w.heap.size + 2, 1, none⟩ = false := hM.blk.frozen 1
    have t2 : wr.cell? ⟨w.heap.size + 2, 2, none⟩ = some (.string yse) := hM.blk.cell 2
    have f2 : wr.frozen? ⟨w.heap.size + 2, 2, none⟩ = false := hM.blk.frozen 2
    have t3 : wr.cell? ⟨w.heap.size + 2, 3, none⟩ = some (.int .i64 yst) := hM.blk.cell 3
    have f3 : wr.frozen? ⟨w.heap.size + 2, 3, none⟩ = false := hM.blk.frozen 3
    have t4 : wr.cell? ⟨w.heap.size + 2, 4, none⟩ = some (.string ype) := hM.blk.cell 4
    have f4 : wr.frozen? ⟨w.heap.size + 2, 4, none⟩ = false := hM.blk.frozen 4
    have t5 : wr.cell? ⟨w.heap.size + 2, 5, none⟩ = some (.string yla) := hM.blk.cell 5
    have f5 : wr.frozen? ⟨w.heap.size + 2, 5, none⟩ = false := hM.blk.frozen 5
    have t6 : wr.cell? ⟨w.heap.size + 2, 6, none⟩ = some (.int .i64 vk2) := hM.blk.cell 6
    have f6 : wr.frozen? ⟨w.heap.size + 2, 6, none⟩ = false := hM.blk.frozen 6
    have t7 : wr.cell? ⟨w.heap.size + 2, 7, none⟩ = some (.int .i64 vn2) := hM.blk.cell 7
    have f7 : wr.frozen? ⟨w.heap.size + 2, 7, none⟩ = false := hM.blk.frozen 7
    have t8 : wr.cell? ⟨w.heap.size + 2, 8, none⟩ = some (.string vs2) := hM.blk.cell 8
    have f8 : wr.frozen? ⟨w.heap.size + 2, 8, none⟩ = false := hM.blk.frozen 8
    have t9 : wr.cell? ⟨w.heap.size + 2, 9, none⟩ = some (.slice none 0 0) := hM.blk.cell 9
    have f9 : wr.frozen? ⟨w.heap.size + 2, 9, none⟩ = false := hM.blk.frozen 9
    have t10 : wr.cell? ⟨w.heap.size + 2, 10, none⟩ = some (.int .i64 ypr) := hM.blk.cell 10
    have f10 : wr.frozen? ⟨w.heap.size + 2, 10, none⟩ = false := hM.blk.frozen 10
    have t11 : wr.cell? ⟨w.heap.size + 2, 11, none⟩ = some (.slice E' yen.length d') := hM.blk.cell 11
    have f11 : wr.frozen? ⟨w.heap.size + 2, 11, none⟩ = false := hM.blk.frozen 11
    have x0 : wr.cell? ⟨w.heap.size, 0, none⟩ = some (.int .i64 k) := hM.x.cell 0
    have x1 : wr.cell? ⟨w.heap.size, 1, none⟩ = some (.string ag) := hM.x.cell 1
    have x2 : wr.cell? ⟨w.heap.size, 2, none⟩ = some (.string se) := hM.x.cell 2
    have x3 : wr.cell? ⟨w.heap.size, 3, none⟩ = some (.int .i64 st) := hM.x.cell 3
    have x4 : wr.cell? ⟨w.heap.size, 4, none⟩ = some (.string pe) := hM.x.cell 4
    have x5 : wr.cell? ⟨w.heap.size, 5, none⟩ = some (.string la) := hM.x.cell 5
    have x6 : wr.cell? ⟨w.heap.size, 6, none⟩ = some (.int .i64 v.kind) := hM.x.cell 6
    have x7 : wr.cell? ⟨w.heap.size, 7, none⟩ = some (.int .i64 v.n) := hM.x.cell 7
    have x8 : wr.cell? ⟨w.heap.size, 8, none⟩ = some (.string v.s) := hM.x.cell 8
    have x9 : wr.cell? ⟨w.heap.size, 9, none⟩ = some (.slice A v.l.length c) := hM.x.cell 9
    have x10 : wr.cell? ⟨w.heap.size, 10, none⟩ = some (.int .i64 pr) := hM.x.cell 10
    have x11 : wr.cell? ⟨w.heap.size, 11, none⟩ = some (.slice E en.length d) := hM.x.cell 11
    have hl := hM.blk.lt
    clear hM
    by_cases hlt : j < hs.size
    · rcases he1 : ((hs[j].toNat : Int) == 65) with _ | _
      rotate_left
      · have hz1 : ¬ 9223372036854775807 < 3 + ag.size := by have := HAG.out; omega
        go_wp2_with fail
        exact ⟨⟨j + 1, by omega, by go_num, Lib.hid ⟨_, _, _, HMD.out.set 1 _ ⟨yk, (⟨#[48, 46, 49]⟩ : ByteArray) ++ ag, yse, yst, ype, yla, ⟨vk2, vn2, vs2, []⟩, ypr, yen⟩ rfl rfl rfl ⟨HMD.out.r.k, HMD.out.r.seat, HMD.out.r.proc, HMD.out.r.vk, HMD.out.r.vn, HMD.out.r.vi, HMD.out.r.env⟩ (fun q h => ⟨by have := (HX.out q).ag; dsimp only; rw [cat47]; dsimp only at this; omega, h.se, h.s, h.l, h.le, h.env⟩)⟩⟩, by simp [intOf]; omega⟩
      rcases he2 : ((hs[j].toNat : Int) == 83) with _ | _
      rotate_left
      · have hz2 : ¬ 9223372036854775807 < 3 + se.size := by have := HSE.out; omega
        go_wp2_with fail
        exact ⟨⟨j + 1, by omega, by go_num, Lib.hid ⟨_, _, _, HMD.out.set 2 _ ⟨yk, yag, (⟨#[48, 47, 49]⟩ : ByteArray) ++ se, yst, ype, yla, ⟨vk2, vn2, vs2, []⟩, ypr, yen⟩ rfl rfl rfl ⟨HMD.out.r.k, HMD.out.r.seat, HMD.out.r.proc, HMD.out.r.vk, HMD.out.r.vn, HMD.out.r.vi, HMD.out.r.env⟩ (fun q h => ⟨h.ag, by have := (HX.out q).se; dsimp only; rw [cat47]; dsimp only at this; omega, h.s, h.l, h.le, h.env⟩)⟩⟩, by simp [intOf]; omega⟩
      rcases he3 : ((hs[j].toNat : Int) == 69) with _ | _
      rotate_left
      · have hb := lowF_lt st 5 (by omega)
        go_wp2_with fail
        refine (CL.out st 5 _ (by omega)).mono ?_
        rintro e w1 ⟨rfl, rfl⟩
        go_wp2_with fail
        exact ⟨⟨j + 1, by omega, by go_num, Lib.hid ⟨_, _, _, HMD.out.set 3 _ ⟨yk, yag, yse, lowF st 5, ype, yla, ⟨vk2, vn2, vs2, []⟩, ypr, yen⟩ rfl rfl rfl ⟨HMD.out.r.k, ⟨by show _ ≤ lowF st 5; omega, by show lowF st 5 ≤ _; omega⟩, HMD.out.r.proc, HMD.out.r.vk, HMD.out.r.vn, HMD.out.r.vi, HMD.out.r.env⟩ (fun q h => ⟨h.ag, h.se, h.s, h.l, h.le, h.env⟩)⟩⟩, by simp [intOf]; omega⟩
      rcases he4 : ((hs[j].toNat : Int) == 80) with _ | _
      rotate_left
      · go_wp2_with fail
        exact ⟨⟨j + 1, by omega, by go_num, Lib.hid ⟨_, _, _, HMD.out.set 4 _ ⟨yk, yag, yse, yst, ⟨#[98]⟩, yla, ⟨vk2, vn2, vs2, []⟩, ypr, yen⟩ rfl rfl rfl ⟨HMD.out.r.k, HMD.out.r.seat, HMD.out.r.proc, HMD.out.r.vk, HMD.out.r.vn, HMD.out.r.vi, HMD.out.r.env⟩ (fun q h => ⟨h.ag, h.se, h.s, h.l, h.le, h.env⟩)⟩⟩, by simp [intOf]; omega⟩
      rcases he5 : ((hs[j].toNat : Int) == 76) with _ | _
      rotate_left
      · go_wp2_with fail
        have m1 := HMD.out.set 5 (.string ⟨#[120]⟩) ⟨yk, yag, yse, yst, ype, ⟨#[120]⟩, ⟨vk2, vn2, vs2, []⟩, ypr, yen⟩ rfl rfl rfl ⟨HMD.out.r.k, HMD.out.r.seat, HMD.out.r.proc, HMD.out.r.vk, HMD.out.r.vn, HMD.out.r.vi, HMD.out.r.env⟩ (fun q h => ⟨h.ag, h.se, h.s, h.l, h.le, h.env⟩)
        have m2 := m1.set 6 (.int .i64 1) ⟨yk, yag, yse, yst, ype, ⟨#[120]⟩, ⟨1, vn2, vs2, []⟩, ypr, yen⟩ rfl rfl rfl ⟨m1.r.k, m1.r.seat, m1.r.proc, i64_1, m1.r.vn, m1.r.vi, m1.r.env⟩ (fun q h => ⟨h.ag, h.se, h.s, h.l, h.le, h.env⟩)
        have m3 := m2.set 7 (.int .i64 v.n) ⟨yk, yag, yse, yst, ype, ⟨#[120]⟩, ⟨1, v.n, vs2, []⟩, ypr, yen⟩ rfl rfl rfl ⟨m1.r.k, m1.r.seat, m1.r.proc, i64_1, HR.out.vn, m1.r.vi, m1.r.env⟩ (fun q h => ⟨h.ag, h.se, h.s, h.l, h.le, h.env⟩)
        have m4 := m3.set 8 (.string ⟨#[]⟩) ⟨yk, yag, yse, yst, ype, ⟨#[120]⟩, ⟨1, v.n, ⟨#[]⟩, []⟩, ypr, yen⟩ rfl rfl rfl ⟨m1.r.k, m1.r.seat, m1.r.proc, i64_1, HR.out.vn, m1.r.vi, m1.r.env⟩ (fun q h => ⟨h.ag, h.se, Nat.zero_le _, h.l, h.le, h.env⟩)
        have m5 := m4.set 9 (.slice none 0 0) ⟨yk, yag, yse, yst, ype, ⟨#[120]⟩, ⟨1, v.n, ⟨#[]⟩, []⟩, ypr, yen⟩ rfl rfl rfl ⟨m1.r.k, m1.r.seat, m1.r.proc, i64_1, HR.out.vn, m1.r.vi, m1.r.env⟩ (fun q h => ⟨h.ag, h.se, h.s, Nat.zero_le _, h.le, h.env⟩)
        exact ⟨⟨j + 1, by omega, by go_num, Lib.hid ⟨_, _, _, m5⟩⟩, by simp [intOf]; omega⟩
      rcases he6 : ((hs[j].toNat : Int) == 82) with _ | _
      rotate_left
      · have hb := lowF_lt pr 24 (by omega)
        go_wp2_with fail
        refine (CL.out pr 24 _ (by omega)).mono ?_
        rintro e w1 ⟨rfl, rfl⟩
        go_wp2_with fail
        exact ⟨⟨j + 1, by omega, by go_num, Lib.hid ⟨_, _, _, HMD.out.set 10 _ ⟨yk, yag, yse, yst, ype, yla, ⟨vk2, vn2, vs2, []⟩, lowF pr 24, yen⟩ rfl rfl rfl ⟨HMD.out.r.k, HMD.out.r.seat, ⟨by show _ ≤ lowF pr 24; omega, by show lowF pr 24 ≤ _; omega⟩, HMD.out.r.vk, HMD.out.r.vn, HMD.out.r.vi, HMD.out.r.env⟩ (fun q h => ⟨h.ag, h.se, h.s, h.l, h.le, h.env⟩)⟩⟩, by simp [intOf]; omega⟩
      have NEW := Lib.hid HMD.out.env
      go_wp2_with fail
      exact ⟨⟨j + 1, by omega, by go_num, Lib.hid ⟨_, _, _, NEW.out⟩⟩, by simp [intOf]; omega⟩
    · have hd : decide (j < hs.size) = false := by simpa using hlt
      go_upto_block 3 with fail
      go_cut [] (fun wx => Hid (∃ y A' c' E' d', Fin1 S G w wx y A' c' E' d'))
      case first =>
        rcases g0 : ((IntKind.u64.wrap what).tmod 12 == 0) with _ | _
        rotate_left
        · have hb := lowF_lt (wrap64 (what.tdiv 12)) 8 (by omega)
          have qq : wrap64 (lowF (wrap64 (what.tdiv 12)) 8 - 1) = lowF (wrap64 (what.tdiv 12)) 8 - 1 := IntWalk.wrap64_in _ (by omega)
          have FN := Lib.hid ((HMD.out.set 3 (.int .i64 (lowF (wrap64 (what.tdiv 12)) 8 - 1)) ⟨yk, yag, yse, lowF (wrap64 (what.tdiv 12)) 8 - 1, ype, yla, ⟨vk2, vn2, vs2, []⟩, ypr, yen⟩ rfl rfl rfl ⟨HMD.out.r.k, ⟨by show _ ≤ lowF (wrap64 (what.tdiv 12)) 8 - 1; omega, by show lowF (wrap64 (what.tdiv 12)) 8 - 1 ≤ _; omega⟩, HMD.out.r.proc, HMD.out.r.vk, HMD.out.r.vn, HMD.out.r.vi, HMD.out.r.env⟩ (fun q h => ⟨h.ag, h.se, h.s, h.l, h.le, h.env⟩)).fin HG.out)
          go_wp2_with fail
          refine (CL.out _ 8 _ (by omega)).mono ?_
          rintro e w1 ⟨rfl, rfl⟩
          go_wp2_with fail
          go_meet
          exact Lib.hid ⟨_, _, _, _, _, FN.out⟩
        rcases g1 : ((IntKind.u64.wrap what).tmod 12 == 1) with _ | _
        rotate_left
        · have FN := Lib.hid ((HMD.out.set 1 (.string ag) ⟨yk, ag, yse, yst, ype, yla, ⟨vk2, vn2, vs2, []⟩, ypr, yen⟩ rfl rfl rfl ⟨HMD.out.r.k, HMD.out.r.seat, HMD.out.r.proc, HMD.out.r.vk, HMD.out.r.vn, HMD.out.r.vi, HMD.out.r.env⟩ (fun q h => ⟨(HX.out q).sz.ag, h.se, h.s, h.l, h.le, h.env⟩)).fin HG.out)
          go_wp2_with fail
          go_meet
          exact Lib.hid ⟨_, _, _, _, _, FN.out⟩
        rcases g2 : ((IntKind.u64.wrap what).tmod 12 == 2) with _ | _
        rotate_left
        · have FN := Lib.hid ((HMD.out.set 2 (.string se) ⟨yk, yag, se, yst, ype, yla, ⟨vk2, vn2, vs2, []⟩, ypr, yen⟩ rfl rfl rfl ⟨HMD.out.r.k, HMD.out.r.seat, HMD.out.r.proc, HMD.out.r.vk, HMD.out.r.vn, HMD.out.r.vi, HMD.out.r.env⟩ (fun q h => ⟨h.ag, (HX.out q).sz.se, h.s, h.l, h.le, h.env⟩)).fin HG.out)
          go_wp2_with fail
          go_meet
          exact Lib.hid ⟨_, _, _, _, _, FN.out⟩
        rcases g3 : ((IntKind.u64.wrap what).tmod 12 == 3) with _ | _
        rotate_left
        · have FN := Lib.hid ((HMD.out.set 4 (.string pe) ⟨yk, yag, yse, yst, pe, yla, ⟨vk2, vn2, vs2, []⟩, ypr, yen⟩ rfl rfl rfl ⟨HMD.out.r.k, HMD.out.r.seat, HMD.out.r.proc, HMD.out.r.vk, HMD.out.r.vn, HMD.out.r.vi, HMD.out.r.env⟩ (fun q h => ⟨h.ag, h.se, h.s, h.l, h.le, h.env⟩)).fin HG.out)
          go_wp2_with fail
          go_meet
          exact Lib.hid ⟨_, _, _, _, _, FN.out⟩
        rcases g4 : ((IntKind.u64.wrap what).tmod 12 == 4) with _ | _
        rotate_left
        · have m1 := HMD.out.set 5 (.string la) ⟨yk, yag, yse, yst, ype, la, ⟨vk2, vn2, vs2, []⟩, ypr, yen⟩ rfl rfl rfl ⟨HMD.out.r.k, HMD.out.r.seat, HMD.out.r.proc, HMD.out.r.vk, HMD.out.r.vn, HMD.out.r.vi, HMD.out.r.env⟩ (fun q h => ⟨h.ag, h.se, h.s, h.l, h.le, h.env⟩)
          have m2 := m1.set 6 (.int .i64 v.kind) ⟨yk, yag, yse, yst, ype, la, ⟨v.kind, vn2, vs2, []⟩, ypr, yen⟩ rfl rfl rfl ⟨m1.r.k, m1.r.seat, m1.r.proc, HR.out.vk, m1.r.vn, m1.r.vi, m1.r.env⟩ (fun q h => ⟨h.ag, h.se, h.s, h.l, h.le, h.env⟩)
          have m3 := m2.set 7 (.int .i64 v.n) ⟨yk, yag, yse, yst, ype, la, ⟨v.kind, v.n, vs2, []⟩, ypr, yen⟩ rfl rfl rfl ⟨m1.r.k, m1.r.seat, m1.r.proc, HR.out.vk, HR.out.vn, m1.r.vi, m1.r.env⟩ (fun q h => ⟨h.ag, h.se, h.s, h.l, h.le, h.env⟩)
          have m4 := m3.set 8 (.string v.s) ⟨yk, yag, yse, yst, ype, la, ⟨v.kind, v.n, v.s, []⟩, ypr, yen⟩ rfl rfl rfl ⟨m1.r.k, m1.r.seat, m1.r.proc, HR.out.vk, HR.out.vn, m1.r.vi, m1.r.env⟩ (fun q h => ⟨h.ag, h.se, (HX.out q).sz.s, h.l, h.le, h.env⟩)
          have FN := Lib.hid (m4.finL HG.out ⟨k, ag, se, st, pe, la, v, pr, en⟩ A E c HL.out HR.out.vi (fun q => (HX.out q).sz.l))
          clear m1 m2 m3 m4
          go_wp2_with fail
          go_meet
          exact Lib.hid ⟨_, _, _, _, _, FN.out⟩
        rcases g5 : ((IntKind.u64.wrap what).tmod 12 == 5) with _ | _
        rotate_left
        · have hb := lowF_lt (wrap64 (what.tdiv 12)) 30 (by omega)
          have qq : wrap64 (lowF (wrap64 (what.tdiv 12)) 30 - 1) = lowF (wrap64 (what.tdiv 12)) 30 - 1 := IntWalk.wrap64_in _ (by omega)
          have FN := Lib.hid ((HMD.out.set 10 (.int .i64 (lowF (wrap64 (what.tdiv 12)) 30 - 1)) ⟨yk, yag, yse, yst, ype, yla, ⟨vk2, vn2, vs2, []⟩, lowF (wrap64 (what.tdiv 12)) 30 - 1, yen⟩ rfl rfl rfl ⟨HMD.out.r.k, HMD.out.r.seat, ⟨by show _ ≤ lowF (wrap64 (what.tdiv 12)) 30 - 1; omega, by show lowF (wrap64 (what.tdiv 12)) 30 - 1 ≤ _; omega⟩, HMD.out.r.vk, HMD.out.r.vn, HMD.out.r.vi, HMD.out.r.env⟩ (fun q h => ⟨h.ag, h.se, h.s, h.l, h.le, h.env⟩)).fin HG.out)
          go_wp2_with fail
          refine (CL.out _ 30 _ (by omega)).mono ?_
          rintro e w1 ⟨rfl, rfl⟩
          go_wp2_with fail
          go_meet
          exact Lib.hid ⟨_, _, _, _, _, FN.out⟩
        rcases g6 : ((IntKind.u64.wrap what).tmod 12 == 6) with _ | _
        rotate_left
        · have FN := Lib.hid (HMD.out.finE ⟨k, ag, se, st, pe, la, v, pr, en⟩ A E d HL.out HR.out.env (fun q => (HX.out q).sz))
          go_wp2_with fail
          go_meet
          exact Lib.hid ⟨_, _, _, _, _, FN.out⟩
        have FN := Lib.hid (HMD.out.fin HG.out)
        go_wp2_with fail
        go_meet
        exact Lib.hid ⟨_, _, _, _, _, FN.out⟩
      case rest =>
        obtain ⟨⟨zk, zag, zse, zst, zpe, zla, ⟨zvk, zvn, zvs, zvl⟩, zpr, zen⟩, A3, c3, E3, d3, hF⟩ := hcut.out
        have HF := Lib.hid hF
        have y0 : wc.cell? ⟨w.heap.size + 2, 0, none⟩ = some (.int .i64 zk) := hF.blk.cell 0
        have y1 : wc.cell? ⟨w.heap.size + 2, 1, none⟩ = some (.string zag) := hF.blk.cell 1
        have y2 : wc.cell? ⟨w.heap.size + 2, 2, none⟩ = some (.string zse) := hF.blk.cell 2
        have y3 : wc.cell? ⟨w.heap.size + 2, 3, none⟩ = some (.int .i64 zst) := hF.blk.cell 3
        have y4 : wc.cell? ⟨w.heap.size + 2, 4, none⟩ = some (.string zpe) := hF.blk.cell 4
        have y5 : wc.cell? ⟨w.heap.size + 2, 5, none⟩ = some (.string zla) := hF.blk.cell 5
        have y6 : wc.cell? ⟨w.heap.size + 2, 6, none⟩ = some (.int .i64 zvk) := hF.blk.cell 6
        have y7 : wc.cell? ⟨w.heap.size + 2, 7, none⟩ = some (.int .i64 zvn) := hF.blk.cell 7
        have y8 : wc.cell? ⟨w.heap.size + 2, 8, none⟩ = some (.string zvs) := hF.blk.cell 8
        have y9 : wc.cell? ⟨w.heap.size + 2, 9, none⟩ = some (.slice A3 zvl.length c3) := hF.blk.cell 9
        have y10 : wc.cell? ⟨w.heap.size + 2, 10, none⟩ = some (.int .i64 zpr) := hF.blk.cell 10
        have y11 : wc.cell? ⟨w.heap.size + 2, 11, none⟩ = some (.slice E3 zen.length d3) := hF.blk.cell 11
        have z0 : wc.cell? ⟨w.heap.size + 1, 0, none⟩ = some (.int .i64 0) := hF.z.cell 0
        have v0 : wc.frozen? ⟨w.heap.size + 1, 0, none⟩ = false := hF.z.frozen 0
        have z1 : wc.cell? ⟨w.heap.size + 1, 1, none⟩ = some (.string ⟨#[]⟩) := hF.z.cell 1
        have v1 : wc.frozen? ⟨w.heap.size + 1, 1, none⟩ = false := hF.z.frozen 1
        have z2 : wc.cell? ⟨w.heap.size + 1, 2, none⟩ = some (.string ⟨#[]⟩) := hF.z.cell 2
        have v2 : wc.frozen? ⟨w.heap.size + 1, 2, none⟩ = false := hF.z.frozen 2
        have z3 : wc.cell? ⟨w.heap.size + 1, 3, none⟩ = some (.int .i64 0) := hF.z.cell 3
        have v3 : wc.frozen? ⟨w.heap.size + 1, 3, none⟩ = false := hF.z.frozen 3
        have z4 : wc.cell? ⟨w.heap.size + 1, 4, none⟩ = some (.string ⟨#[]⟩) := hF.z.cell 4
        have v4 : wc.frozen? ⟨w.heap.size + 1, 4, none⟩ = false := hF.z.frozen 4
        have z5 : wc.cell? ⟨w.heap.size + 1, 5, none⟩ = some (.string ⟨#[]⟩) := hF.z.cell 5
        have v5 : wc.frozen? ⟨w.heap.size + 1, 5, none⟩ = false := hF.z.frozen 5
        have z6 : wc.cell? ⟨w.heap.size + 1, 6, none⟩ = some (.int .i64 0) := hF.z.cell 6
        have v6 : wc.frozen? ⟨w.heap.size + 1, 6, none⟩ = false := hF.z.frozen 6
        have z7 : wc.cell? ⟨w.heap.size + 1, 7, none⟩ = some (.int .i64 0) := hF.z.cell 7
        have v7 : wc.frozen? ⟨w.heap.size + 1, 7, none⟩ = false := hF.z.frozen 7
        have z8 : wc.cell? ⟨w.heap.size + 1, 8, none⟩ = some (.string ⟨#[]⟩) := hF.z.cell 8
        have v8 : wc.frozen? ⟨w.heap.size + 1, 8, none⟩ = false := hF.z.frozen 8
        have z9 : wc.cell? ⟨w.heap.size + 1, 9, none⟩ = some (.slice none 0 0) := hF.z.cell 9
        have v9 : wc.frozen? ⟨w.heap.size + 1, 9, none⟩ = false := hF.z.frozen 9
        have z10 : wc.cell? ⟨w.heap.size + 1, 10, none⟩ = some (.int .i64 0) := hF.z.cell 10
        have v10 : wc.frozen? ⟨w.heap.size + 1, 10, none⟩ = false := hF.z.frozen 10
        have z11 : wc.cell? ⟨w.heap.size + 1, 11, none⟩ = some (.slice none 0 0) := hF.z.cell 11
        have v11 : wc.frozen? ⟨w.heap.size + 1, 11, none⟩ = false := hF.z.frozen 11
        have BFF := Lib.hid (blk_set12 hF.z (.int .i64 zk) (.string zag) (.string zse) (.int .i64 zst) (.string zpe) (.string zla) (.int .i64 zvk) (.int .i64 zvn) (.string zvs) (.slice A3 zvl.length c3) (.int .i64 zpr) (.slice E3 zen.length d3))
        have hl := hF.blk.lt
        clear hF hcut
        go_wp2_with fail
        have k0 := BFF.out.cell 0
        have k1 := BFF.out.cell 1
        have k2 := BFF.out.cell 2
        have k3 := BFF.out.cell 3
        have k4 := BFF.out.cell 4
        have k5 := BFF.out.cell 5
        have k6 := BFF.out.cell 6
        have k7 := BFF.out.cell 7
        have k8 := BFF.out.cell 8
        have k9 := BFF.out.cell 9
        have k10 := BFF.out.cell 10
        have k11 := BFF.out.cell 11
        refine bodyPost_ret (v := .agg #[.int .i64 zk, .string zag, .string zse, .int .i64 zst, .string zpe, .string zla, .int .i64 zvk, .int .i64 zvn, .string zvs, .slice A3 zvl.length c3, .int .i64 zpr, .slice E3 zen.length d3]) (by simp [results, Try.results12, go_sem, k0, k1, k2, k3, k4, k5, k6, k7, k8, k9, k10, k11]) rfl ⟨_, A3, c3, E3, d3, rfl, ?_, HF.out.i, HF.out.sz, ?_⟩
        · exact ((((((((((((HF.out.n.set (by simp)).set (by simp)).set (by simp)).set (by simp)).set (by simp)).set (by simp)).set (by simp)).set (by simp)).set (by simp)).set (by simp)).set (by simp)).set (by simp)).tail
        · repeat (refine Below.setCell ?_ (by show w.heap.size ≤ w.heap.size + 1; omega) _)
          exact HF.out.b
end Go.Proofs.Ytfaophiaiflecaa
