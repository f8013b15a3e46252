/- An evaluator of closed calls: states, operations, code. No program in sight. An evaluator of closed calls: its values and what they mean. No program in sight. -/
import Derived.Test.YtbemdcbglpjmiaaGreatDoorBase
namespace Go.Proofs.YtbemdcbglpjmiaaGreatDoor
open Go.RowKit
namespace Ev
set_option linter.unusedVariables false

/-- A map from numbers. -/
inductive T (α : Type)
  | nil
  | node (v : Option α) (l r : T α)
  deriving DecidableEq
def T.get {α : Type} : T α → Nat → Option α
  | .nil, _ => none
  | .node v l r, k => match k with
    | 0 => v
    | k + 1 => match k % 2 with
      | 0 => l.get (k / 2)
      | _ => r.get (k / 2)
def T.set {α : Type} : Nat → T α → Nat → Option α → T α
  | 0, t, _, _ => t
  | d + 1, .nil, k, a => match k with
    | 0 => .node a .nil .nil
    | k + 1 => match k % 2 with
      | 0 => .node none (T.set d .nil (k / 2) a) .nil
      | _ => .node none .nil (T.set d .nil (k / 2) a)
  | d + 1, .node v l r, k, a => match k with
    | 0 => .node a l r
    | k + 1 => match k % 2 with
      | 0 => .node v (T.set d l (k / 2) a) r
      | _ => .node v l (T.set d r (k / 2) a)
def T.put {α : Type} (t : T α) (k : Nat) (a : Option α) : T α := T.set (k + 1) t k a
/-- A row of cells out of a list, from the number k on. -/
def T.fill {α : Type} (t : T α) (k : Nat) : List α → T α
  | [] => t
  | a :: l => (t.put k (some a)).fill (k + 1) l
/-- n cells from k on. -/
def T.take {α : Type} (t : T α) (k : Nat) : Nat → Option (List α)
  | 0 => some []
  | n + 1 => match t.get k with
    | none => none
    | some a => match t.take (k + 1) n with
      | none => none
      | some l => some (a :: l)
theorem T.set_same {α : Type} : ∀ (d : Nat) (t : T α) (k : Nat) (a : Option α), k < d → (T.set d t k a).get k = a
  | 0, _, _, _, h => by omega
  | d + 1, .nil, 0, a, _ => rfl
  | d + 1, .node v l r, 0, a, _ => rfl
  | d + 1, .nil, k + 1, a, h => by
    have hk : k / 2 < d := by omega
    rcases Nat.mod_two_eq_zero_or_one k with e | e <;> simp only [T.set, T.get, e] <;> exact T.set_same d _ _ a hk
  | d + 1, .node v l r, k + 1, a, h => by
    have hk : k / 2 < d := by omega
    rcases Nat.mod_two_eq_zero_or_one k with e | e <;> simp only [T.set, T.get, e] <;> exact T.set_same d _ _ a hk
theorem T.set_ne {α : Type} : ∀ (d : Nat) (t : T α) (k j : Nat) (a : Option α), j ≠ k → (T.set d t k a).get j = t.get j
  | 0, _, _, _, _, _ => rfl
  | d + 1, .nil, 0, 0, a, h => by omega
  | d + 1, .node v l r, 0, 0, a, h => by omega
  | d + 1, .nil, 0, j + 1, a, h => by
    rcases Nat.mod_two_eq_zero_or_one j with e | e <;> simp only [T.set, T.get, e]
  | d + 1, .node v l r, 0, j + 1, a, h => by
    rcases Nat.mod_two_eq_zero_or_one j with e | e <;> simp only [T.set, T.get, e]
  | d + 1, .nil, k + 1, 0, a, h => by
    rcases Nat.mod_two_eq_zero_or_one k with e | e <;> simp only [T.set, T.get, e]
  | d + 1, .node v l r, k + 1, 0, a, h => by
    rcases Nat.mod_two_eq_zero_or_one k with e | e <;> simp only [T.set, T.get, e]
  | d + 1, .nil, k + 1, j + 1, a, h => by
    rcases Nat.mod_two_eq_zero_or_one k with e | e <;> rcases Nat.mod_two_eq_zero_or_one j with e' | e' <;> simp only [T.set, T.get, e, e'] <;>
      first | rfl | (rw [T.set_ne d _ _ _ a (by omega)]; rfl)
  | d + 1, .node v l r, k + 1, j + 1, a, h => by
    rcases Nat.mod_two_eq_zero_or_one k with e | e <;> rcases Nat.mod_two_eq_zero_or_one j with e' | e' <;> simp only [T.set, T.get, e, e'] <;>
      first | rfl | (rw [T.set_ne d _ _ _ a (by omega)])
theorem T.put_same {α : Type} (t : T α) (k : Nat) (a : Option α) : (t.put k a).get k = a := T.set_same _ _ _ _ (by omega)
theorem T.put_ne {α : Type} (t : T α) {k j : Nat} (a : Option α) (h : j ≠ k) : (t.put k a).get j = t.get j := T.set_ne _ _ _ _ _ h
theorem T.get_put {α : Type} (t : T α) (k j : Nat) (a : Option α) : (t.put k a).get j = if j = k then a else t.get j := by
  split
  · subst_vars; exact T.put_same ..
  · exact T.put_ne _ _ (by assumption)
theorem T.get_nil {α : Type} (j : Nat) : (T.nil : T α).get j = none := by rw [T.get]
theorem T.get_fill {α : Type} : ∀ (l : List α) (t : T α) (k j : Nat), (t.fill k l).get j = if k ≤ j ∧ j < k + l.length then l[j - k]? else t.get j
  | [], t, k, j => by simp [T.fill]; omega
  | a :: l, t, k, j => by
    rw [T.fill, T.get_fill l _ (k + 1) j, T.get_put]
    by_cases h1 : k + 1 ≤ j ∧ j < k + 1 + l.length
    · rw [if_pos h1, if_pos (by simp; omega)]
      obtain ⟨d, rfl⟩ : ∃ d, j = k + 1 + d := ⟨j - (k + 1), by omega⟩
      rw [show k + 1 + d - (k + 1) = d by omega, show k + 1 + d - k = d + 1 by omega, List.getElem?_cons_succ]
    · rw [if_neg h1]
      by_cases h2 : j = k
      · subst h2; simp
      · rw [if_neg h2, if_neg (by simp; omega)]
theorem T.take_spec {α : Type} : ∀ (n : Nat) (t : T α) (k : Nat) (l : List α), t.take k n = some l → l.length = n ∧ ∀ i, i < n → t.get (k + i) = l[i]?
  | 0, t, k, l, h => by simp [T.take] at h; subst h; simp
  | n + 1, t, k, l, h => by
    rw [T.take] at h
    split at h
    · cases h
    · rename_i a ha
      split at h
      · cases h
      · rename_i r hr
        injection h with h
        subst h
        obtain ⟨h1, h2⟩ := T.take_spec n t (k + 1) r hr
        refine ⟨by simp [h1], fun i hi => ?_⟩
        cases i with
        | zero => simpa using ha
        | succ i => rw [List.getElem?_cons_succ, ← h2 i (by omega)]; congr 1; omega
def T.ofList {α : Type} (l : List α) : T α := T.nil.fill 0 l
theorem T.get_ofList {α : Type} (l : List α) (k : Nat) : (T.ofList l).get k = l[k]? := by
  rw [T.ofList, T.get_fill]
  split
  · simp
  · rename_i h
    rw [T.get_nil, List.getElem?_eq_none (by omega)]
end Ev
end Go.Proofs.YtbemdcbglpjmiaaGreatDoor
namespace Go.Proofs.YtbemdcbglpjmiaaGreatDoor
open Go.RowKit
namespace Ev
set_option linter.unusedVariables false

/-- A number that is not known: a sum of three small numbers that are not known, each so many times, and of a number that is. -/
structure Lf where
  c : Int
  a : Nat
  b : Nat
  e : Nat
  deriving DecidableEq
/-- The small numbers, out of one: below 9, below 10, below 10. -/
def xA (r : Nat) : Nat := r % 9
def xB (r : Nat) : Nat := r / 9 % 10
def xC (r : Nat) : Nat := r / 90 % 10
def Lf.den (l : Lf) (r : Nat) : Int := l.c + ((l.a * xA r + l.b * xB r + l.e * xC r : Nat) : Int)
/-- What a cell holds; blocks bear numbers of their own. An unknown capacity is that of the block without the last number of elements. -/
inductive C
  | int (k : IntKind) (n : Int)
  | bool (b : Bool)
  | str (s : List Nat)
  | ptr (a : Option (Nat × Nat))
  | nsl
  | sl (b o len : Nat) (kn : Bool) (cap : Nat)
  | slx
  | map (r : Option Nat)
  | fn (f : Nat) (cap : List (Nat × Nat))
  | nilfn
  | nilif
  | sy (k : IntKind) (l : Lf)
  | sst (s : List Lf)
  deriving DecidableEq
inductive P
  | c (x : C)
  | agg (l : List C)
  deriving DecidableEq
inductive V
  | p (x : P)
  | tup (l : List P)
  | undef
  | any
  | sym
  deriving DecidableEq
abbrev V.c (x : C) : V := .p (.c x)
abbrev V.agg (l : List C) : V := .p (.agg l)
/-- What a block is. -/
inductive B
  | row (t n : Nat) (cs : T C) (u : Option Nat)
  | map (es : List (P × P × Nat)) (clk : Nat)
  | iter (s : List Nat) (pos : Nat)
  | miter (r since : Nat) (seen : List Nat) (last : Nat)
structure St where
  heap : T B
  next : Nat
def P.cells : P → List C
  | .c x => [x]
  | .agg l => l
def bytes (s : ByteArray) : List Nat := s.data.toList.map UInt8.toNat
theorem bytes_inj {s t : ByteArray} (h : bytes s = bytes t) : s = t := by
  have h1 : s.data.toList = t.data.toList := by
    refine List.map_inj_right (f := UInt8.toNat) (fun a b h => UInt8.toNat_inj.1 h) |>.1 h
  cases s; cases t
  simp at h1
  simp [h1]
theorem bytes_length (s : ByteArray) : (bytes s).length = s.size := by rw [bytes, List.length_map, Array.length_toList]; rfl

/-- Two lists, entry by entry. -/
def All2 {α β : Type} (R : α → β → Prop) : List α → List β → Prop
  | [], [] => True
  | a :: l, b :: r => R a b ∧ All2 R l r
  | _, _ => False
section
variable {α β : Type} {R S : α → β → Prop}
theorem All2.imp (h : ∀ a b, R a b → S a b) : ∀ {l : List α} {r : List β}, All2 R l r → All2 S l r
  | [], [], _ => trivial
  | a :: l, b :: r, ⟨h1, h2⟩ => ⟨h _ _ h1, All2.imp h h2⟩
theorem All2.length : ∀ {l : List α} {r : List β}, All2 R l r → l.length = r.length
  | [], [], _ => rfl
  | a :: l, b :: r, ⟨_, h2⟩ => by simp [All2.length h2]
theorem All2.append : ∀ {l : List α} {r : List β} {l' : List α} {r' : List β}, All2 R l r → All2 R l' r' → All2 R (l ++ l') (r ++ r')
  | [], [], _, _, _, h => h
  | a :: l, b :: r, _, _, ⟨h1, h2⟩, h => ⟨h1, All2.append h2 h⟩
theorem All2.drop : ∀ (k : Nat) {l : List α} {r : List β}, All2 R l r → All2 R (l.drop k) (r.drop k)
  | 0, _, _, h => h
  | k + 1, [], [], _ => trivial
  | k + 1, a :: l, b :: r, ⟨_, h2⟩ => All2.drop k h2
theorem All2.take : ∀ (k : Nat) {l : List α} {r : List β}, All2 R l r → All2 R (l.take k) (r.take k)
  | 0, _, _, _ => trivial
  | k + 1, [], [], _ => trivial
  | k + 1, a :: l, b :: r, ⟨h1, h2⟩ => ⟨h1, All2.take k h2⟩
theorem All2.get : ∀ {l : List α} {r : List β}, All2 R l r → ∀ {i : Nat} {a : α}, l[i]? = some a → ∃ b, r[i]? = some b ∧ R a b
  | [], [], _, i, a, h => by simp at h
  | x :: l, b :: r, ⟨h1, h2⟩, 0, a, h => by simp at h; subst h; exact ⟨b, rfl, h1⟩
  | x :: l, b :: r, ⟨h1, h2⟩, i + 1, a, h => by simp at h; obtain ⟨c, h3, h4⟩ := All2.get h2 h; exact ⟨c, by simpa using h3, h4⟩
theorem All2.of_get : ∀ {l : List α} {r : List β}, l.length = r.length → (∀ (i : Nat) (a : α) (b : β), l[i]? = some a → r[i]? = some b → R a b) → All2 R l r
  | [], [], _, _ => trivial
  | [], b :: r, h, _ => by simp at h
  | a :: l, [], h, _ => by simp at h
  | a :: l, b :: r, h, hg => ⟨hg 0 a b rfl rfl, All2.of_get (by simpa using h) fun i a b ha hb => hg (i + 1) a b (by simpa using ha) (by simpa using hb)⟩
end

/-- Where the evaluator's blocks lie, and how many elements there is room for. -/
abbrev M := Nat → Option (Nat × Nat)
def Ext (m m' : M) : Prop := ∀ i r, m i = some r → m' i = some r
theorem Ext.refl (m : M) : Ext m m := fun _ _ h => h
theorem Ext.trans {m m' m'' : M} (h : Ext m m') (k : Ext m' m'') : Ext m m'' := fun i r hi => k i r (h i r hi)
def PA (m : M) (a : Nat × Nat) (v : Value) : Prop := ∃ r, m a.1 = some r ∧ v = .pointer (some ⟨r.1, a.2, none⟩)
def CR (m : M) : C → Value → Prop
  | .int k n, v => v = .int k n
  | .bool b, v => v = .bool b
  | .str s, v => ∃ t, v = .string t ∧ bytes t = s
  | .ptr none, v => v = .pointer none
  | .ptr (some a), v => PA m a v
  | .nsl, v => v = .slice none 0 0
  | .sl b o len true cap, v => ∃ r, m b = some r ∧ v = .slice (some ⟨r.1, o, none⟩) len cap
  | .sl b o len false d, v => ∃ r, m b = some r ∧ len + d ≤ r.2 ∧ v = .slice (some ⟨r.1, o, none⟩) len (r.2 - d)
  | .slx, v => ∃ a c, v = .slice (some a) 0 c
  | .map none, v => v = .map none
  | .map (some b), v => ∃ r, m b = some r ∧ v = .map (some r.1)
  | .fn f cap, v => ∃ vs, v = .func (.func f) #[] vs ∧ All2 (PA m) cap vs.toList
  | .nilfn, v => v = .nilFunc
  | .nilif, v => v = .nilIface
  | .sy k l, v => ∃ r, m 63 = some r ∧ v = .int k (l.den r.2)
  | .sst s, v => ∃ r, m 63 = some r ∧ ∃ t, v = .string t ∧ (bytes t).map Int.ofNat = s.map fun l => l.den r.2
def PR (m : M) : P → Value → Prop
  | .c x, v => CR m x v
  | .agg l, v => ∃ cs, v = .agg cs ∧ All2 (CR m) l cs.toList
/-- A number out of a natural one: the argument that the evaluator does not know. -/
def dec (n : Nat) : Int := match n % 2 with
  | 0 => Int.ofNat (n / 2)
  | _ => Int.negSucc (n / 2)
theorem dec_surj (z : Int) : ∃ n, dec n = z := by
  cases z with
  | ofNat a => exact ⟨2 * a, by simp [dec]⟩
  | negSucc a => exact ⟨2 * a + 1, by
      have h1 : (2 * a + 1) % 2 = 1 := by omega
      have h2 : (2 * a + 1) / 2 = a := by omega
      simp [dec, h1, h2]⟩
def VR (m : M) : V → Value → Prop
  | .p x, v => PR m x v
  | .tup l, v => ∃ vs, v = .tuple vs ∧ All2 (PR m) l vs.toList
  | .undef, v => v = undef
  | .any, _ => True
  | .sym, v => ∃ r, m 63 = some r ∧ v = .int .i64 (dec r.2)
section
variable {m m' : M} (e : Ext m m')
include e
theorem PA.ext {a : Nat × Nat} {v : Value} (h : PA m a v) : PA m' a v := by
  obtain ⟨r, h1, h2⟩ := h; exact ⟨r, e _ _ h1, h2⟩
theorem CR.ext {x : C} {v : Value} (h : CR m x v) : CR m' x v := by
  cases x with
  | ptr a => cases a with
    | none => exact h
    | some a => exact PA.ext e h
  | sl b o len kn cap => cases kn with
    | true => obtain ⟨r, h1, h2⟩ := h; exact ⟨r, e _ _ h1, h2⟩
    | false => obtain ⟨r, h1, h2⟩ := h; exact ⟨r, e _ _ h1, h2⟩
  | map a => cases a with
    | none => exact h
    | some b => obtain ⟨r, h1, h2⟩ := h; exact ⟨r, e _ _ h1, h2⟩
  | fn f cap => obtain ⟨vs, h1, h2⟩ := h; exact ⟨vs, h1, h2.imp fun _ _ => PA.ext e⟩
  | sy k l => obtain ⟨r, h1, h2⟩ := h; exact ⟨r, e _ _ h1, h2⟩
  | sst s => obtain ⟨r, h1, h2⟩ := h; exact ⟨r, e _ _ h1, h2⟩
  | _ => exact h
theorem PR.ext {x : P} {v : Value} (h : PR m x v) : PR m' x v := by
  cases x with
  | c x => exact CR.ext e h
  | agg l => obtain ⟨cs, h1, h2⟩ := h; exact ⟨cs, h1, h2.imp fun _ _ => CR.ext e⟩
theorem VR.ext {x : V} {v : Value} (h : VR m x v) : VR m' x v := by
  cases x with
  | p x => exact PR.ext e h
  | tup l => obtain ⟨cs, h1, h2⟩ := h; exact ⟨cs, h1, h2.imp fun _ _ => PR.ext e⟩
  | undef => exact h
  | any => trivial
  | sym => obtain ⟨r, h1, h2⟩ := h; exact ⟨r, e _ _ h1, h2⟩
end
theorem CR.one {m : M} {x : C} {v : Value} (h : CR m x v) : (∀ cs, v ≠ .agg cs) ∧ (∀ cs, v ≠ .tuple cs) := by
  cases x with
  | ptr a => cases a with
    | none => cases h; simp
    | some a => obtain ⟨r, _, rfl⟩ := h; simp
  | sl b o len kn cap => cases kn with
    | true => obtain ⟨r, _, rfl⟩ := h; simp
    | false => obtain ⟨r, _, _, rfl⟩ := h; simp
  | map a => cases a with
    | none => cases h; simp
    | some b => obtain ⟨r, _, rfl⟩ := h; simp
  | fn f cap => obtain ⟨vs, rfl, _⟩ := h; simp
  | str s => obtain ⟨t, rfl, _⟩ := h; simp
  | slx => obtain ⟨a, c, rfl⟩ := h; simp
  | sy k l => obtain ⟨r, _, rfl⟩ := h; simp
  | sst s => obtain ⟨r, _, t, rfl, _⟩ := h; simp
  | _ => cases h; simp
theorem cells_one {v : Value} (h : ∀ cs, v ≠ .agg cs) : v.cells = #[v] := by
  cases v <;> first | rfl | exact absurd rfl (h _)
theorem PR.cells {m : M} {x : P} {v : Value} (h : PR m x v) : All2 (CR m) x.cells v.cells.toList := by
  cases x with
  | c x => rw [cells_one (CR.one h).1]; exact ⟨h, trivial⟩
  | agg l => obtain ⟨cs, rfl, h2⟩ := h; exact h2

/-- A block, where it lies. -/
def BR (m : M) (r : Nat × Nat) : B → Option Obj → Prop
  | .row t n cs u, o => ∃ cur ty fr, o = some (.cells cur ty fr) ∧ (∀ j, j < cur.size → ¬ (fr.1 ≤ j ∧ j < fr.2)) ∧ n ≤ cur.size ∧
      (∀ j c, j < n → cs.get j = some c → ∃ v, cur[j]? = some v ∧ CR m c v) ∧ (match u with | none => cur.size = n | some sz => cur.size = r.2 * sz)
  | .map es clk, o => ∃ res, o = some (.map res clk) ∧ (∀ e ∈ es, e.2.2 < clk) ∧
      All2 (fun (e : P × P × Nat) (e' : MapEntry) => PR m e.1 e'.key ∧ PR m e.2.1 e'.val ∧ e'.born = e.2.2) es res.toList
  | .iter s pos, o => ∃ t, o = some (.stringIter t pos) ∧ bytes t = s
  | .miter b since seen last, o => ∃ q, m b = some q ∧ o = some (.mapIter (some q.1) since seen.toArray last)
theorem BR.ext {m m' : M} (e : Ext m m') {r : Nat × Nat} {b : B} {o : Option Obj} (h : BR m r b o) : BR m' r b o := by
  cases b with
  | row t n cs u => obtain ⟨cur, ty, fr, h1, h2, h3, h4, h5⟩ := h; exact ⟨cur, ty, fr, h1, h2, h3, fun j c hj hc => let ⟨v, h6, h7⟩ := h4 j c hj hc; ⟨v, h6, h7.ext e⟩, h5⟩
  | map es clk => obtain ⟨res, h1, h2, h3⟩ := h; exact ⟨res, h1, h2, h3.imp fun _ _ h => ⟨h.1.ext e, h.2.1.ext e, h.2.2⟩⟩
  | iter s pos => exact h
  | miter b since seen last => obtain ⟨q, h1, h2⟩ := h; exact ⟨q, e _ _ h1, h2⟩
/-- The evaluator's state, and the world. The blocks below 63 are package-level variables under their own numbers; number 63 holds an argument. -/
structure HR (w0 : World) (m : M) (σ : St) (w : World) : Prop where
  below : Below w0.heap.size w0 w
  glob : ∀ g, g < 63 → m g = some (g, 0)
  sym : m 63 = some (63, w0.drawn)
  most : 64 ≤ σ.next
  fresh : ∀ i, σ.next ≤ i → m i = none
  own : ∀ i r, 64 ≤ i → m i = some r → w0.heap.size ≤ r.1 ∧ r.1 < w.heap.size
  live : ∀ i b r, σ.heap.get i = some b → m i = some r → BR m r b w.heap[r.1]?
  inj : ∀ i j bi bj r q, σ.heap.get i = some bi → σ.heap.get j = some bj → m i = some r → m j = some q → r.1 = q.1 → i = j
/-- A block that comes to the world. -/
def M.add (m : M) (i : Nat) (r : Nat × Nat) : M := fun j => if j = i then some r else m j
theorem M.ext_add {m : M} {i : Nat} (r : Nat × Nat) (h : m i = none) : Ext m (m.add i r) := fun j q hj => by
  unfold M.add
  split
  · subst_vars; rw [h] at hj; cases hj
  · exact hj
theorem M.add_same (m : M) (i : Nat) (r : Nat × Nat) : m.add i r i = some r := by simp [M.add]
theorem M.add_ne (m : M) {i j : Nat} (r : Nat × Nat) (h : j ≠ i) : m.add i r j = m j := by simp [M.add, h]
theorem BR.some {m : M} {r : Nat × Nat} {b : B} {o : Option Obj} (h : BR m r b o) : ∃ x, o = some x := by
  cases b with
  | row t n cs u => obtain ⟨cur, ty, fr, h1, _⟩ := h; exact ⟨_, h1⟩
  | map es clk => obtain ⟨res, h1, _⟩ := h; exact ⟨_, h1⟩
  | iter s pos => obtain ⟨t, h1, _⟩ := h; exact ⟨_, h1⟩
  | miter b since seen last => obtain ⟨q, _, h1⟩ := h; exact ⟨_, h1⟩
theorem BR.lt {m : M} {r : Nat × Nat} {b : B} {w : World} {g : Nat} (h : BR m r b w.heap[g]?) : g < w.heap.size := by
  obtain ⟨x, hx⟩ := h.some
  rcases Nat.lt_or_ge g w.heap.size with h1 | h1
  · exact h1
  · rw [Array.getElem?_eq_none h1] at hx; cases hx
/-- What a step may do: it makes new blocks, and changes blocks that it knows. -/
structure Gr (m : M) (σ : St) (w : World) (m' : M) (σ' : St) (w' : World) : Prop where
  ext : Ext m m'
  fresh : ∀ i, σ.next ≤ i → m i = none
  next : σ.next ≤ σ'.next
  size : w.heap.size ≤ w'.heap.size
  news : ∀ i r, m' i = some r → m i = some r ∨ (m i = none ∧ σ.next ≤ i ∧ (w.heap.size ≤ r.1 ∨ ∃ j x q, σ.heap.get j = some x ∧ m j = some q ∧ q.1 = r.1))
  keep : ∀ i, i < σ.next → m i = none → σ'.heap.get i = σ.heap.get i
  dead : ∀ i, i < σ.next → σ.heap.get i = none → σ'.heap.get i = none
  kept : ∀ b, b < w.heap.size → (∀ i x r, σ.heap.get i = some x → m i = some r → r.1 ≠ b) → w'.heap[b]? = w.heap[b]?
section
variable {w0 w w' w'' : World} {m m' m'' : M} {σ σ' σ'' : St}
theorem Gr.refl (h : HR w0 m σ w) : Gr m σ w m σ w := ⟨Ext.refl m, h.fresh, Nat.le_refl _, Nat.le_refl _, fun _ _ h => .inl h, fun _ _ _ => rfl, fun _ _ h => h, fun _ _ _ => rfl⟩
theorem Gr.old (h : Gr m σ w m' σ' w') {i : Nat} {x : B} {r : Nat × Nat} (hi : σ'.heap.get i = some x) (hr : m i = some r) : ∃ y, σ.heap.get i = some y := by
  have hlt : i < σ.next := by
    rcases Nat.lt_or_ge i σ.next with h1 | h1
    · exact h1
    · rw [h.fresh i h1] at hr; cases hr
  cases hy : σ.heap.get i with
  | none => rw [h.dead i hlt hy] at hi; cases hi
  | some y => exact ⟨y, rfl⟩
theorem Gr.trans (h : Gr m σ w m' σ' w') (k : Gr m' σ' w' m'' σ'' w'') : Gr m σ w m'' σ'' w'' where
  ext := h.ext.trans k.ext
  fresh := h.fresh
  next := Nat.le_trans h.next k.next
  size := Nat.le_trans h.size k.size
  news i r hr := by
    have hn := h.next
    have hs := h.size
    rcases k.news i r hr with h1 | ⟨h1, h2, h3⟩
    · exact h.news i r h1
    · have hm : m i = none := by
        cases hm : m i with
        | none => rfl
        | some q => rw [h.ext i q hm] at h1; cases h1
      refine .inr ⟨hm, by omega, ?_⟩
      rcases h3 with h3 | ⟨j, x, q, h4, h5, h6⟩
      · exact .inl (by omega)
      · rcases h.news j q h5 with h7 | ⟨h7, h8, h9⟩
        · obtain ⟨y, hy⟩ := h.old h4 h7
          exact .inr ⟨j, y, q, hy, h7, h6⟩
        · rcases h9 with h9 | ⟨j', x', q', g1, g2, g3⟩
          · exact .inl (by omega)
          · exact .inr ⟨j', x', q', g1, g2, by omega⟩
  keep i hi hm := by
    have hn := h.next
    rw [k.keep i (by omega), h.keep i hi hm]
    cases hm' : m' i with
    | none => rfl
    | some r =>
      rcases h.news i r hm' with h1 | ⟨_, h2, _⟩
      · rw [hm] at h1; cases h1
      · omega
  dead i hi hd := by
    have hn := h.next
    exact k.dead i (by omega) (h.dead i hi hd)
  kept b hb hl := by
    have hs := h.size
    rw [k.kept b (by omega), h.kept b hb hl]
    intro i x r hi hr he
    rcases h.news i r hr with h1 | ⟨_, _, h2 | ⟨j, y, q, h3, h4, h5⟩⟩
    · obtain ⟨y, hy⟩ := h.old hi h1
      exact hl i y r hy h1 he
    · omega
    · exact hl j y q h3 h4 (by omega)
theorem HR.of_world (h : HR w0 m σ w) (hb : Below w.heap.size w w') : HR w0 m σ w' where
  below := h.below.trans (hb.mono h.below.size)
  glob := h.glob
  sym := h.sym
  most := h.most
  fresh := h.fresh
  own i r hi hr := by
    have := h.own i r hi hr
    have := hb.size
    omega
  live i b r hi hr := by
    have h3 := h.live i b r hi hr
    rw [hb.block _ h3.lt]
    exact h3
  inj := h.inj
theorem Gr.of_world (h : HR w0 m σ w) (hb : Below w.heap.size w w') : Gr m σ w m σ w' :=
  ⟨Ext.refl m, h.fresh, Nat.le_refl _, hb.size, fun _ _ h => .inl h, fun _ _ _ => rfl, fun _ _ h => h, fun b h1 _ => hb.block b h1⟩
/-- A block that was not known, under a number that is free. -/
theorem HR.add (h : HR w0 m σ w) {x k : Nat} {o : Obj} (h64 : 64 ≤ x) (hn : m x = none) (hx : x < σ.next) (hb : ∀ b, σ.heap.get x = some b → BR (m.add x (w.heap.size, k)) (w.heap.size, k) b (some o)) :
    HR w0 (m.add x (w.heap.size, k)) σ (w.alloc o) := by
  have e := M.ext_add (w.heap.size, k) hn
  refine ⟨h.below.alloc h.below.size o, fun g hg => by rw [M.add_ne _ _ (by omega)]; exact h.glob g hg, by rw [M.add_ne _ _ (by omega)]; exact h.sym, h.most, fun i hi => by rw [M.add_ne _ _ (by omega)]; exact h.fresh i hi,
    fun i r hi hr => ?_, fun i b r hi hr => ?_, fun i j bi bj r q hi hj hr hq hrq => ?_⟩
  · by_cases he : i = x
    · subst he
      rw [M.add_same] at hr
      injection hr with hr
      subst hr
      exact ⟨h.below.size, by simp⟩
    · rw [M.add_ne _ _ he] at hr
      have := h.own i r hi hr
      exact ⟨this.1, by simp; omega⟩
  · by_cases he : i = x
    · subst he
      rw [M.add_same] at hr
      injection hr with hr
      subst hr
      rw [heap_alloc_new]
      exact hb b hi
    · rw [M.add_ne _ _ he] at hr
      have h3 := h.live i b r hi hr
      rw [Below.heap_alloc _ _ _ h3.lt]
      exact h3.ext e
  · by_cases h1 : i = x <;> by_cases h2 : j = x
    · rw [h1, h2]
    · subst h1
      rw [M.add_same] at hr
      rw [M.add_ne _ _ h2] at hq
      injection hr with hr
      have := (h.live j bj q hj hq).lt
      rw [← hrq, ← hr] at this
      simp at this
    · subst h2
      rw [M.add_same] at hq
      rw [M.add_ne _ _ h1] at hr
      injection hq with hq
      have := (h.live i bi r hi hr).lt
      rw [hrq, ← hq] at this
      simp at this
    · rw [M.add_ne _ _ h1] at hr
      rw [M.add_ne _ _ h2] at hq
      exact h.inj i j bi bj r q hi hj hr hq hrq
/-- What the evaluator says of a block that is not known may change. -/
theorem HR.lay (h : HR w0 m σ w) {x : Nat} (b : Option B) (hn : m x = none) : HR w0 m ⟨σ.heap.put x b, σ.next⟩ w := by
  refine ⟨h.below, h.glob, h.sym, h.most, h.fresh, h.own, fun i c r hi hr => ?_, fun i j bi bj r q hi hj hr hq hrq => ?_⟩
  · simp only [T.get_put] at hi
    split at hi
    · subst_vars; rw [hn] at hr; cases hr
    · exact h.live i c r hi hr
  · simp only [T.get_put] at hi hj
    split at hi
    · subst_vars; rw [hn] at hr; cases hr
    · split at hj
      · subst_vars; rw [hn] at hq; cases hq
      · exact h.inj i j bi bj r q hi hj hr hq hrq
theorem HR.room (h : HR w0 m σ w) {n : Nat} (hn : σ.next ≤ n) : HR w0 m ⟨σ.heap, n⟩ w :=
  ⟨h.below, h.glob, h.sym, Nat.le_trans h.most hn, fun i hi => h.fresh i (Nat.le_trans hn hi), h.own, h.live, h.inj⟩
def St.new (σ : St) (b : B) : Nat × St := (σ.next, ⟨σ.heap.put σ.next (some b), σ.next + 1⟩)
/-- A new block. -/
theorem HR.new (h : HR w0 m σ w) (o : Obj) (b : B) (k : Nat) (hb : BR (m.add σ.next (w.heap.size, k)) (w.heap.size, k) b (some o)) :
    HR w0 (m.add σ.next (w.heap.size, k)) (σ.new b).2 (w.alloc o) := by
  have hn : m σ.next = none := h.fresh _ (Nat.le_refl _)
  refine ((h.lay (some b) hn).room (Nat.le_succ _)).add (k := k) (o := o) h.most hn (Nat.lt_succ_self _) fun c hc => ?_
  simp only [T.get_put, if_true] at hc
  cases hc
  exact hb
theorem Gr.new (h : HR w0 m σ w) (o : Obj) (b : B) (k : Nat) : Gr m σ w (m.add σ.next (w.heap.size, k)) (σ.new b).2 (w.alloc o) := by
  have hn : m σ.next = none := h.fresh _ (Nat.le_refl _)
  refine ⟨M.ext_add _ hn, h.fresh, Nat.le_succ _, by simp, fun i r hr => ?_, fun i hi _ => ?_, fun i hi hd => ?_, fun c hc _ => Below.heap_alloc _ _ _ hc⟩
  · by_cases he : i = σ.next
    · subst he
      rw [M.add_same] at hr
      injection hr with hr
      subst hr
      exact .inr ⟨hn, Nat.le_refl _, .inl (Nat.le_refl _)⟩
    · rw [M.add_ne _ _ he] at hr
      exact .inl hr
  · simp only [St.new]
    exact T.put_ne _ _ (by omega)
  · simp only [St.new]
    rw [T.put_ne _ _ (by omega)]
    exact hd
/-- The world with another block in a place of it. -/
def setB (w : World) (i : Nat) (o : Obj) : World := { w with heap := w.heap.setIfInBounds i o }
theorem setB_size (w : World) (i : Nat) (o : Obj) : (setB w i o).heap.size = w.heap.size := by simp [setB]
theorem setB_ne (w : World) {i j : Nat} (o : Obj) (h : j ≠ i) : (setB w i o).heap[j]? = w.heap[j]? := by
  simp [setB, Array.getElem?_setIfInBounds_ne (Ne.symm h)]
theorem setB_same (w : World) {i : Nat} (o : Obj) (h : i < w.heap.size) : (setB w i o).heap[i]? = some o := by
  simp [setB, h]
theorem HR.set (h : HR w0 m σ w) {i : Nat} {b b' : B} {r : Nat × Nat} (h64 : 64 ≤ i) (hi : σ.heap.get i = some b) (hr : m i = some r) (o : Obj) (hb : BR m r b' (some o)) :
    HR w0 m ⟨σ.heap.put i (some b'), σ.next⟩ (setB w r.1 o) := by
  have hr2 := (h.live i b r hi hr).lt
  have hr1 := (h.own i r h64 hr).1
  refine ⟨⟨h.below.os, h.below.tape, h.below.output, by rw [setB_size]; exact h.below.size, fun k hk => ?_⟩, h.glob, h.sym, h.most, h.fresh, fun j q hj hq => by rw [setB_size]; exact h.own j q hj hq, fun j c q hj hq => ?_, fun j k bj bk q q' hj hk hq hq' hqq => ?_⟩
  · rw [setB_ne _ _ (by omega)]; exact h.below.block k hk
  · simp only [T.get_put] at hj
    split at hj
    · subst_vars
      injection hj with hj
      subst hj
      rw [hr] at hq
      injection hq with hq
      subst hq
      rw [setB_same _ _ hr2]
      exact hb
    · rename_i hne
      have h3 := h.live j c q hj hq
      rw [setB_ne]
      · exact h3
      · intro hqr
        exact hne (h.inj j i c b q r hj hi hq hr hqr)
  · have key : ∀ j bj, (σ.heap.put i (some b')).get j = some bj → ∃ c, σ.heap.get j = some c := by
      intro j bj hj
      rw [T.get_put] at hj
      split at hj
      · subst_vars; exact ⟨b, hi⟩
      · exact ⟨bj, hj⟩
    obtain ⟨c, hc⟩ := key j bj hj
    obtain ⟨c', hc'⟩ := key k bk hk
    exact h.inj j k c c' q q' hc hc' hq hq' hqq
theorem Gr.set (h : HR w0 m σ w) {i : Nat} {b : B} {r : Nat × Nat} (b' : Option B) (hi : σ.heap.get i = some b) (hr : m i = some r) (o : Obj) : Gr m σ w m ⟨σ.heap.put i b', σ.next⟩ (setB w r.1 o) := by
  refine ⟨Ext.refl m, h.fresh, Nat.le_refl _, Nat.le_of_eq (setB_size ..).symm, fun _ _ h => .inl h, fun j _ hj => ?_, fun j _ hj => ?_, fun c _ hc => setB_ne _ _ fun he => hc i b r hi hr he.symm⟩
  · exact T.put_ne _ _ fun he => by rw [he, hr] at hj; cases hj
  · exact (T.put_ne _ _ fun he => by rw [he, hi] at hj; cases hj).trans hj
end
end Ev
end Go.Proofs.YtbemdcbglpjmiaaGreatDoor
