/- Words for slices that are read and slices that the call itself makes; the law for append onto an own row; no program in sight. -/
import Derived.Test.YtbemdcbglpjmiaaGreatDoorRows
import Derived.WalkKit
import Derived.WalkSpells
import Derived.WalkLawsBesides
import Derived.Lib.Hide
import Derived.BigQuiet
import Derived.Deep.QuietTactic
import Derived.Deep.AppendLies
import Derived.Deep.Draws
import Derived.Maps.AppendAt
namespace Go.Proofs.YtbemdcbglpjmiaaGreatDoor
open Go.RowKit

theorem ret_int {k : IntKind} {a b : Int} (h : a = b) : Ending.returned (.int k a) = .returned (.int k b) := by rw [h]
theorem ret_bool {a b : Bool} (h : a = b) : Ending.returned (.bool a) = .returned (.bool b) := by rw [h]
theorem toList_eq {a b : ByteArray} (h : (!a.toList == b.toList) = false) : a = b := by
  rw [ByteArray.toList_eq, ByteArray.toList_eq] at h
  exact WideShapes.bytes_inj (by simpa using h)
theorem toList_eq' {a b : ByteArray} (h : (a.toList == b.toList) = true) : a = b := by
  rw [ByteArray.toList_eq, ByteArray.toList_eq] at h
  exact WideShapes.bytes_inj (by simpa using h)
theorem toList_beq (a b : ByteArray) : (a.toList == b.toList) = decide (a = b) := by
  rw [Bool.eq_iff_iff, decide_eq_true_iff]
  exact ⟨toList_eq', fun h => by rw [h]; simp⟩

/-- The cells xs lie, one behind the other, from the address A on, in a block that the world has. Nothing is said of A where xs is empty. -/
def Rd (w : World) (A : Option Addr) (xs : List Value) : Prop :=
  xs ≠ [] → ∃ b off, A = some ⟨b, off, none⟩ ∧ b < w.heap.size ∧ ∀ i u, xs[i]? = some u → w.cell? ⟨b, off + i, none⟩ = some u

section
variable {w w' : World} {A : Option Addr} {xs : List Value}
theorem Rd.nil : Rd w A [] := fun h => absurd rfl h
theorem Rd.at_ (h : Rd w A xs) {i : Nat} (hi : i < xs.length) :
    ∃ b off, A = some ⟨b, off, none⟩ ∧ b < w.heap.size ∧ ∀ i u, xs[i]? = some u → w.cell? ⟨b, off + i, none⟩ = some u := h (by rintro rfl; simp at hi)
theorem Rd.keep (h : Rd w A xs) (hz : w.heap.size ≤ w'.heap.size) (hk : ∀ p : Addr, p.block < w.heap.size → w'.cell? p = w.cell? p) : Rd w' A xs := fun hn => by
  obtain ⟨b, off, e, hb, hc⟩ := h hn
  exact ⟨b, off, e, by omega, fun i u hu => (hk _ hb).trans (hc i u hu)⟩
theorem Rd.below (h : Rd w A xs) (hb : Below w.heap.size w w') : Rd w' A xs := h.keep hb.size fun _ hp => hb.cell hp
theorem Rd.drewN (h : Rd w A xs) (k : Nat) : Rd (w.drewN k) A xs := h
theorem Rd.drew (h : Rd w A xs) : Rd w.drew A xs := h
theorem Rd.alloc (h : Rd w A xs) (o : Obj) : Rd (w.alloc o) A xs := h.below ((Below.refl _ _).alloc (Nat.le_refl _) o)
theorem Rd.drop (h : Rd w A xs) (k : Nat) {cap : Nat} (hc : xs.length ≤ cap) : Rd w (if cap = k then A else A.map (·.add k)) (xs.drop k) := fun hn => by
  have hk : k < xs.length := by
    rcases Nat.lt_or_ge k xs.length with h1 | h1
    · exact h1
    · exact absurd (List.drop_eq_nil_of_le h1) hn
  obtain ⟨b, off, rfl, hb, hcell⟩ := h.at_ hk
  rw [if_neg (by omega)]
  refine ⟨b, off + k, ?_, hb, fun i u hu => ?_⟩
  · simp only [Option.map_some, Addr.add]
    split <;> simp_all
  · rw [List.getElem?_drop] at hu
    have := hcell _ u hu
    rwa [show off + k + i = off + (k + i) by omega]
theorem Rd.take (h : Rd w A xs) (k : Nat) : Rd w A (xs.take k) := fun hn => by
  have h0 : xs ≠ [] := by rintro rfl; simp at hn
  obtain ⟨b, off, e, hb, hc⟩ := h h0
  refine ⟨b, off, e, hb, fun i u hu => hc i u ?_⟩
  rw [List.getElem?_take] at hu
  split at hu
  · exact hu
  · cases hu
/-- The address behind a cut. -/
def cutA (A : Option Addr) (cap k : Nat) : Option Addr := if cap = k then A else A.map (·.add k)
theorem Rd.cut (h : Rd w A xs) (k : Nat) {cap : Nat} (hc : xs.length ≤ cap) : Rd w (cutA A cap k) (xs.drop k) := h.drop k hc
/-- One slice of a block that is known whole. -/
theorem Rd.of_block {g : Nat} {cs : Array Value} {t : TypeId} {fr : Nat × Nat} (h : w.heap[g]? = some (.cells cs t fr)) : Rd w (some ⟨g, 0, none⟩) cs.toList := fun _ => by
  have hlt : g < w.heap.size := by
    rcases Nat.lt_or_ge g w.heap.size with h1 | h1
    · exact h1
    · rw [Array.getElem?_eq_none h1] at h; cases h
  refine ⟨g, 0, rfl, hlt, fun i u hu => ?_⟩
  unfold World.cell?
  simp [h]
  simpa using hu
theorem Rd.new (w : World) (cs : Array Value) (t : TypeId) : Rd (w.alloc (.cells cs t)) (some ⟨w.heap.size, 0, none⟩) cs.toList := Rd.of_block (heap_alloc_new w _)
end

/-- 'x[lo:]' and 'x[lo:hi]' on a slice of one-cell elements. -/
theorem run_cut {P : Program} (t e : TypeId) (i : TypeInfo) (ht : P.underlying t = some (.slice e)) (hi : P.info? e = some i) (hs : i.size = 1) (A : Option Addr) (n c lo : Nat) (x : Int) (hx : x = lo) (h1 : lo ≤ n) (W : World) :
    (Instr.slice t (.slice A n c) (some (.int .i64 x)) none none).run P W = .ok (.slice (cutA A c lo) (n - lo) (c - lo)) W := by
  subst hx
  have he : P.elem t = e := by simp [Program.elem, ht]
  rw [run_slice_l W t A n c (by rw [he]; exact ht) .i64 lo (by omega) (by omega), he]
  simp [sizeOf, typeInfo, hi, hs, sliced, cutA]
theorem run_cut2 {P : Program} (t e : TypeId) (i : TypeInfo) (ht : P.underlying t = some (.slice e)) (hi : P.info? e = some i) (hs : i.size = 1) (A : Option Addr) (n c lo hi' : Nat) (x y : Int) (hx : x = lo) (hy : y = hi') (h1 : lo ≤ hi') (h2 : hi' ≤ c) (W : World) :
    (Instr.slice t (.slice A n c) (some (.int .i64 x)) (some (.int .i64 y)) none).run P W = .ok (.slice (cutA A c lo) (hi' - lo) (c - lo)) W := by
  subst hx hy
  have he : P.elem t = e := by simp [Program.elem, ht]
  rw [run_slice_lh W t A n c (by rw [he]; exact ht) .i64 .i64 lo hi' (by omega) (by omega) (by omega), he]
  simp [sizeOf, typeInfo, hi, hs, sliced, cutA]
theorem run_cut0 {P : Program} (t e : TypeId) (ht : P.underlying t = some (.slice e)) (i : TypeInfo) (hi : P.info? e = some i) (A : Option Addr) (n c hi' : Nat) (y : Int) (hy : y = hi') (h2 : hi' ≤ c) (W : World) :
    (Instr.slice t (.slice A n c) none (some (.int .i64 y)) none).run P W = .ok (.slice A hi' c) W := by
  subst hy
  have he : P.elem t = e := by simp [Program.elem, ht]
  rw [run_slice_h W t A n c (by rw [he]; exact ht) .i64 hi' (by omega) (by omega), he]
  simp [sizeOf, typeInfo, hi, sliced]
  cases A <;> simp [Addr.add]

theorem oneCell_strings (l : List ByteArray) : ∀ u ∈ l.map Value.string, u.oneCell' = true := by
  intro u hu
  obtain ⟨s, _, rfl⟩ := List.mem_map.1 hu
  rfl

section
variable {w : World} {base : Nat} {e : TypeId} {size : Nat} {v : Value} {n : Nat} {xs : List Value}
theorem own_shape (h : w.ownsRow base e size v n xs) : ∃ A c, v = .slice A n c ∧ n ≤ c := by
  rcases h.2 with ⟨rfl, rfl⟩ | ⟨g, cap, cur, rfl, _, _, hnc, _⟩
  · exact ⟨none, 0, rfl, Nat.le_refl _⟩
  · exact ⟨_, cap, rfl, hnc⟩
theorem own_rd {A : Option Addr} {c : Nat} (h : w.ownsRow base e size (.slice A n c) n xs) : Rd w A xs := fun hn => by
  rcases h.2 with ⟨hv, rfl⟩ | ⟨g, cap, cur, hv, _, hb, hnc, hcm, hcs, ht⟩
  · have := h.1
    simp at this
    exact absurd this hn
  · injection hv with hA _ hc
    subst hA
    have hr := Rd.of_block hb
    have := hr.take (n * size)
    rw [ht] at this
    exact this hn
theorem own_base {A : Option Addr} {c : Nat} {ad : Addr} (h : w.ownsRow base e size (.slice A n c) n xs) (hA : A = some ad) : base ≤ ad.block := by
  subst hA
  exact (h.lt ad.block rfl).1
theorem own_mono {base' : Nat} (h : w.ownsRow base e size v n xs) (hb : base' ≤ base) : w.ownsRow base' e size v n xs := by
  refine ⟨h.1, ?_⟩
  rcases h.2 with h0 | ⟨g, cap, cur, h1, h2, h3⟩
  · exact .inl h0
  · exact .inr ⟨g, cap, cur, h1, by omega, h3⟩
theorem own_drewN (h : w.ownsRow base e size v n xs) (k : Nat) : (w.drewN k).ownsRow base e size v n xs := h
/-- What is owned by blocks below B is kept by what leaves those alone. -/
theorem own_below {w' : World} (h : w.ownsRow base e size v n xs) (hb : Below w.heap.size w w') : w'.ownsRow base e size v n xs := by
  refine ⟨h.1, ?_⟩
  rcases h.2 with h0 | ⟨g, cap, cur, h1, h2, h3, h4⟩
  · exact .inl h0
  · refine .inr ⟨g, cap, cur, h1, h2, ?_, h4⟩
    have hlt : g < w.heap.size := by
      rcases Nat.lt_or_ge g w.heap.size with hq | hq
      · exact hq
      · rw [Array.getElem?_eq_none hq] at h3; cases h3
    rw [hb.block g hlt]; exact h3
end

section
variable {P : Program} (w : World)

theorem run_append_nil (base : Nat) (t ty e : TypeId) (i : TypeInfo) (size : Nat) (ht : P.underlying t = some (.slice e)) (hi : P.info? e = some i)
    (v : Value) (n : Nat) (xs : List Value) (hown : w.ownsRow base e size v n xs) (c : Nat) : (Builtin.append_ #[t, t] ty #[v, .slice none 0 c]).run P w = .ok v w := by
  rcases hown.2 with ⟨rfl, rfl⟩ | ⟨g, cap, cur, rfl, _, _, hnc, _⟩
  · simp [Builtin.append_, run_underlying ht, sizeOf, typeInfo, hi, Builtin.lenOf, Builtin.firstCells]
  · simp [Builtin.append_, run_underlying ht, sizeOf, typeInfo, hi, Builtin.lenOf, Builtin.firstCells, hnc, storeCells]

/-- append onto a row of the call's own, from whatever source. -/
theorem run_app (base : Nat) (t ty e : TypeId) (i : TypeInfo) (z : Value) (size bytes : Nat) (ht : P.underlying t = some (.slice e)) (hi : P.info? e = some i) (hz : i.zero = some z)
    (hsize : i.size = size) (hby : i.bytes = bytes) (hzs : z.cells.size = size) (hsz : 0 < size)
    (v : Value) (n : Nat) (xs : List Value) (hown : w.ownsRow base e size v n xs)
    (A : Option Addr) (m c : Nat) (news : List Value) (hr : Rd w A news) (hl : news.length = m * size) (h1 : ∀ u ∈ news, u.oneCell' = true)
    (hbytes : (n + m) * bytes ≤ 140737488355328) (h63 : n + m ≤ maxLen) (hbase : base ≤ w.heap.size) :
    ∃ A' c' w', (Builtin.append_ #[t, t] ty #[v, .slice A m c]).run P w = .ok (.slice A' (n + m) c') w' ∧ n + m ≤ c' ∧ w'.ownsRow base e size (.slice A' (n + m) c') (n + m) (xs ++ news) ∧ w.grownBy w' v.ownBlock ∧
      ((Value.slice A' (n + m) c').ownBlock = v.ownBlock ∨ (Value.slice A' (n + m) c').ownBlock = some w.heap.size) := by
  by_cases hA : ∃ ad, A = some ad
  · obtain ⟨ad, rfl⟩ := hA
    have hcells : ∀ j u, news[j]? = some u → w.cell? (ad.add j) = some u := by
      intro j u hu
      have hj : j < news.length := by
        rcases Nat.lt_or_ge j news.length with h | h
        · exact h
        · rw [List.getElem?_eq_none h] at hu; cases hu
      obtain ⟨b, off, h, _, hc⟩ := hr.at_ hj
      injection h with h
      subst h
      have := hc j u hu
      unfold Addr.add
      split
      · subst_vars; simpa using this
      · exact this
    obtain ⟨v', w', hrun, h2, h3, _, h5⟩ := run_append_own_at (P := P) w base t ty e i z size bytes ht hi hz hsize hby hzs hsz v n xs hown ad m c news hl hcells h1 h63 hbytes hbase
    obtain ⟨A', c', rfl, hle⟩ := own_shape h2
    exact ⟨A', c', w', hrun, hle, h2, h3, h5⟩
  · obtain rfl : A = none := by cases A with
      | none => rfl
      | some a => exact absurd ⟨a, rfl⟩ hA
    have hn : news = [] := by
      by_cases h : news = []
      · exact h
      · obtain ⟨b, off, h, _⟩ := hr h
        cases h
    subst hn
    have hm : m = 0 := by
      rcases Nat.eq_zero_or_pos m with h | h
      · exact h
      · have := Nat.mul_pos h hsz
        simp at hl
        omega
    subst hm
    obtain ⟨A', c', rfl, hle⟩ := own_shape hown
    exact ⟨A', c', w, run_append_nil w base t ty e i size ht hi _ n xs hown c, hle, by simpa using hown, World.grownBy.refl w _, .inl rfl⟩

theorem wp_app {o : Oper} {a : Act} {K : Act → World → Prop} {Q : Exit → Act → World → Prop} (s x : Operand) (t : TypeId)
    (ho : o.op = .call { callee := .builtin .append, args := #[s, x], argTypes := #[t, t] })
    (base : Nat) (e : TypeId) (i : TypeInfo) (z : Value) (size bytes : Nat) (ht : P.underlying t = some (.slice e)) (hi : P.info? e = some i) (hz : i.zero = some z)
    (hsize : i.size = size) (hby : i.bytes = bytes) (hzs : z.cells.size = size) (hsz : 0 < size)
    (v : Value) (n : Nat) (xs : List Value) (hs : a.eval s = v) (hown : w.ownsRow base e size v n xs)
    (A : Option Addr) (m c : Nat) (news : List Value) (hx : a.eval x = .slice A m c) (hr : Rd w A news) (hl : news.length = m * size) (h1 : ∀ u ∈ news, u.oneCell' = true)
    (hbytes : (n + m) * bytes ≤ 140737488355328) (h63 : n + m ≤ maxLen) (hbase : base ≤ w.heap.size)
    (h : ∀ A' c' w', n + m ≤ c' → w'.ownsRow base e size (.slice A' (n + m) c') (n + m) (xs ++ news) → w.grownBy w' v.ownBlock →
      ((Value.slice A' (n + m) c').ownBlock = v.ownBlock ∨ (Value.slice A' (n + m) c').ownBlock = some w.heap.size) → K (a.put o.dst (.slice A' (n + m) c')) w') : o.wp P a w K Q := by
  obtain ⟨A', c', w', hrun, hle, h2, h3, h4⟩ := run_app (P := P) w base t o.type e i z size bytes ht hi hz hsize hby hzs hsz v n xs hown A m c news hr hl h1 hbytes h63 hbase
  unfold Oper.wp execOp
  simp only [ho, resolve, invoke, builtin, Sem.run_bind, Sem.run_pure, Result.andThen_ok, List.map_toArray, List.map_cons, List.map_nil, hs, hx, hrun]
  exact h A' c' w' hle h2 h3 h4

theorem wpList_app {ops : Array Oper} {rest : List Oper} {o : Oper} {a : Act} {Q : Exit → Act → World → Prop} (hgd : o.guard = none) (s x : Operand) (t : TypeId)
    (ho : o.op = .call { callee := .builtin .append, args := #[s, x], argTypes := #[t, t] })
    (base : Nat) (e : TypeId) (i : TypeInfo) (z : Value) (size bytes : Nat) (ht : P.underlying t = some (.slice e)) (hi : P.info? e = some i) (hz : i.zero = some z)
    (hsize : i.size = size) (hby : i.bytes = bytes) (hzs : z.cells.size = size) (hsz : 0 < size)
    (v : Value) (n : Nat) (xs : List Value) (hs : a.eval s = v) (hown : w.ownsRow base e size v n xs)
    (A : Option Addr) (m c : Nat) (news : List Value) (hx : a.eval x = .slice A m c) (hr : Rd w A news) (hl : news.length = m * size) (h1 : ∀ u ∈ news, u.oneCell' = true)
    (hbytes : (n + m) * bytes ≤ 140737488355328) (h63 : n + m ≤ maxLen) (hbase : base ≤ w.heap.size)
    (h : ∀ A' c' w', n + m ≤ c' → w'.ownsRow base e size (.slice A' (n + m) c') (n + m) (xs ++ news) → w.grownBy w' v.ownBlock →
      ((Value.slice A' (n + m) c').ownBlock = v.ownBlock ∨ (Value.slice A' (n + m) c').ownBlock = some w.heap.size) → wpList P ops Q rest (a.put o.dst (.slice A' (n + m) c')) w') : wpList P ops Q (o :: rest) a w :=
  wpList_plain hgd fun _ hK => wp_app w s x t ho base e i z size bytes ht hi hz hsize hby hzs hsz v n xs hs hown A m c news hx hr hl h1 hbytes h63 hbase fun A' c' w' hle h2 h3 h4 => hK _ _ (h A' c' w' hle h2 h3 h4)
theorem step_app {ops : Array Oper} {o : Oper} {a : Act} {K : Act → World → Prop} {Q : Exit → Act → World → Prop} {E : Prop} (hgd : o.guard = none) (s x : Operand) (t : TypeId)
    (ho : o.op = .call { callee := .builtin .append, args := #[s, x], argTypes := #[t, t] })
    (base : Nat) (e : TypeId) (i : TypeInfo) (z : Value) (size bytes : Nat) (ht : P.underlying t = some (.slice e)) (hi : P.info? e = some i) (hz : i.zero = some z)
    (hsize : i.size = size) (hby : i.bytes = bytes) (hzs : z.cells.size = size) (hsz : 0 < size)
    (v : Value) (n : Nat) (xs : List Value) (hs : a.eval s = v) (hown : w.ownsRow base e size v n xs)
    (A : Option Addr) (m c : Nat) (news : List Value) (hx : a.eval x = .slice A m c) (hr : Rd w A news) (hl : news.length = m * size) (h1 : ∀ u ∈ news, u.oneCell' = true)
    (hbytes : (n + m) * bytes ≤ 140737488355328) (h63 : n + m ≤ maxLen) (hbase : base ≤ w.heap.size)
    (h : ∀ A' c' w', n + m ≤ c' → w'.ownsRow base e size (.slice A' (n + m) c') (n + m) (xs ++ news) → w.grownBy w' v.ownBlock →
      ((Value.slice A' (n + m) c').ownBlock = v.ownBlock ∨ (Value.slice A' (n + m) c').ownBlock = some w.heap.size) → K (a.put o.dst (.slice A' (n + m) c')) w') :
    if Region.wanted o (yielded ops a.tmps) = true then Oper.wp P o a w K Q else E := by
  have hw : Region.wanted o (yielded ops a.tmps) = true := by simp [Region.wanted, hgd]
  rw [if_pos hw]
  exact wp_app w s x t ho base e i z size bytes ht hi hz hsize hby hzs hsz v n xs hs hown A m c news hx hr hl h1 hbytes h63 hbase h
end

/-- The lowest numbers: a number from 0 below n. -/
def lowF (x n : Int) : Int := if n < 1 then 0 else (x % 18446744073709551616) % n
theorem lowF_lt (x n : Int) (h : 1 ≤ n) : 0 ≤ lowF x n ∧ lowF x n < n := by
  unfold lowF
  rw [if_neg (by omega)]
  exact ⟨Int.emod_nonneg _ (by omega), Int.emod_lt_of_pos _ (by omega)⟩
theorem low_core (x n : Int) (h : 1 ≤ n) (hn : n ≤ 9223372036854775807) : wrap64 ((IntKind.u64.wrap x).tmod (IntKind.u64.wrap n)) = lowF x n := by
  have h1 := lowF_lt x n h
  have hx : IntKind.u64.wrap x = x % 18446744073709551616 := by simp [IntKind.wrap_u64]
  have hm : IntKind.u64.wrap n = n := by simp [IntKind.wrap_u64]; omega
  rw [hm, hx, Int.tmod_eq_emod_of_nonneg (by omega)]
  unfold lowF at *
  rw [if_neg (by omega)] at *
  exact IntWalk.wrap64_in _ ⟨by omega, by omega⟩

theorem take_eq_succ {l m : List ByteArray} {k : Nat} (h : l.take k = m.take k) (h1 : k < l.length) (h2 : k < m.length) (e : l[k] = m[k]) : l.take (k + 1) = m.take (k + 1) := by
  rw [List.take_succ_eq_append_getElem h1, List.take_succ_eq_append_getElem h2, h, e]
theorem ne_of_get {l m : List ByteArray} {k : Nat} (h1 : k < l.length) (h2 : k < m.length) (e : l[k] ≠ m[k]) : l ≠ m := by
  rintro rfl; exact e rfl

/-- A slice of strings that is read. -/
def Strs (w : World) (A : Option Addr) (l : List ByteArray) : Prop := Rd w A (l.map Value.string)
section
variable {w w' : World} {A : Option Addr} {l : List ByteArray}
theorem Strs.at_ (h : Strs w A l) {i : Nat} (hl : i < l.length) :
    ∃ b off, A = some ⟨b, off, none⟩ ∧ b < w.heap.size ∧ ∀ i (h : i < l.length), w.cell? ⟨b, off + i, none⟩ = some (.string l[i]) := by
  obtain ⟨b, off, h1, h2, h3⟩ := Rd.at_ h (i := i) (by simpa using hl)
  exact ⟨b, off, h1, h2, fun j hj => h3 j _ (by simp [hj])⟩
theorem Strs.below (h : Strs w A l) (hb : Below w.heap.size w w') : Strs w' A l := Rd.below h hb
theorem Strs.drew (h : Strs w A l) : Strs w.drew A l := h
theorem Strs.drewN (h : Strs w A l) (k : Nat) : Strs (w.drewN k) A l := h
theorem Strs.alloc (h : Strs w A l) (o : Obj) : Strs (w.alloc o) A l := Rd.alloc h o
theorem Strs.drop (h : Strs w A l) (k : Nat) {cap : Nat} (hc : l.length ≤ cap) : Strs w (if cap = k then A else A.map (·.add k)) (l.drop k) := by
  have := Rd.drop h k (cap := cap) (by simpa using hc)
  rwa [← List.map_drop] at this
theorem Strs.cut (h : Strs w A l) (k : Nat) {cap : Nat} (hc : l.length ≤ cap) : Strs w (cutA A cap k) (l.drop k) := h.drop k hc
theorem Strs.take (h : Strs w A l) (k : Nat) : Strs w A (l.take k) := by
  have := Rd.take h k
  rwa [← List.map_take] at this
end
theorem below_drewN {B : Nat} {a w : World} (h : Below B a w) (n : Nat) : Below B a (w.drewN n) := ⟨h.os, h.tape, h.output, h.size, h.block⟩
theorem below_of_alloc {w w' : World} {o : Obj} (h : Below (w.alloc o).heap.size (w.alloc o) w') : Below w.heap.size w w' := ((Below.refl _ _).alloc (Nat.le_refl _) o).trans (h.mono (by simp))
theorem below_of_drewN {w w' : World} {k : Nat} (h : Below (w.drewN k).heap.size (w.drewN k) w') : Below w.heap.size w w' := (below_drewN (Below.refl _ _) k).trans h
theorem below_of_drew {w w' : World} (h : Below w.drew.heap.size w.drew w') : Below w.heap.size w w' := ((Below.refl _ _).drew).trans h
theorem below_next {w w1 w2 : World} (h : Below w.heap.size w w1) (k : Below w1.heap.size w1 w2) : Below w.heap.size w w2 := h.trans (k.mono h.size)
end Go.Proofs.YtbemdcbglpjmiaaGreatDoor
