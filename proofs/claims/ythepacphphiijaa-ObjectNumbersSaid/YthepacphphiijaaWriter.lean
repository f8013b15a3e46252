/- The writer's bytes: a row that the call owns, or a full one with a mark; append of a string's bytes to it. -/
import Derived.Test.YthepacphphiijaaNum
import Derived.Test.YthepacphphiijaaBlk
import Derived.Lib.AppendStr
import Derived.Deep.RegionWith
import Derived.Deep.RegionHeld3
namespace Go.Proofs.Ythepacphphiijaa
open Go.RowKit Go.Lib

theorem strCells_bytes (l : List UInt8) : strCells ⟨l.toArray⟩ = bytesV l := by simp [strCells, bytesV]
/-- A row of the call's own, or one that is full (its mark stands behind it). -/
def OwnG (w : World) (base : Nat) (e : TypeId) (A : Option Addr) (n c : Nat) (xs : List Value) : Prop :=
  w.ownsRow base e 1 (.slice A n c) n xs ∨
  ∃ g cur fz, A = some ⟨g, 0, none⟩ ∧ c = n ∧ base ≤ g ∧ w.heap[g]? = some (.cells cur e fz) ∧ xs.length = n ∧ cur.toList.take n = xs
section
variable {w w' : World} {base : Nat} {e : TypeId} {A : Option Addr} {n c : Nat} {xs : List Value}
theorem OwnG.len (h : OwnG w base e A n c xs) : xs.length = n := by
  rcases h with h | ⟨g, cur, fz, _, _, _, _, h, _⟩
  · simpa using h.1
  · exact h
theorem OwnG.lt (h : OwnG w base e A n c xs) : ∀ k, (Value.slice A n c).ownBlock = some k → base ≤ k ∧ k < w.heap.size := by
  intro k hk
  rcases h with h | ⟨g, cur, fz, rfl, _, hb, hh, _⟩
  · exact h.lt k hk
  · simp [Value.ownBlock] at hk
    subst hk
    exact ⟨hb, (Array.getElem?_eq_some_iff.1 hh).1⟩
theorem OwnG.keep (h : OwnG w base e A n c xs) (hk : ∀ g, g < w.heap.size → (Value.slice A n c).ownBlock = some g → w'.heap[g]? = w.heap[g]?) : OwnG w' base e A n c xs := by
  rcases h with h | ⟨g, cur, fz, rfl, hc, hb, hh, h1, h2⟩
  · refine .inl ⟨h.1, ?_⟩
    rcases h.2 with h0 | ⟨g, cap, cur, hv, hb, hh, rest⟩
    · exact .inl h0
    · refine .inr ⟨g, cap, cur, hv, hb, ?_, rest⟩
      rw [hk g (Array.getElem?_eq_some_iff.1 hh).1 (by rw [hv]; rfl)]
      exact hh
  · exact .inr ⟨g, cur, fz, rfl, hc, hb, (hk g (Array.getElem?_eq_some_iff.1 hh).1 rfl).trans hh, h1, h2⟩
theorem OwnG.below (h : OwnG w base e A n c xs) (hb : Below w.heap.size w w') : OwnG w' base e A n c xs := h.keep fun g hg _ => hb.block g hg
theorem OwnG.rd (h : OwnG w base e A n c xs) : Rd w A xs := by
  rcases h with h | ⟨g, cur, fz, rfl, hc, hb, hh, h1, h2⟩
  · exact own_rd h
  · have := (Rd.of_block hh).take n
    rwa [h2] at this
end
section
variable {P : Program} (w : World)
theorem run_app_str (base : Nat) (t u ty e : TypeId) (i : TypeInfo) (ht : P.underlying t = some (.slice e)) (hu : P.underlying u = some .string) (hi : P.info? e = some i) (hz : i.zero = some (.int .u8 0))
    (hsize : i.size = 1) (hby : i.bytes = 1) (A : Option Addr) (n c : Nat) (xs : List Value) (hown : OwnG w base e A n c xs) (s : ByteArray) (hs0 : 0 < s.size) (hbytes : n + s.size ≤ 140737488355328) (hbase : base ≤ w.heap.size) :
    ∃ A' c' w', (Builtin.append_ #[t, u] ty #[.slice A n c, .string s]).run P w = .ok (.slice A' (n + s.size) c') w' ∧ n + s.size ≤ c' ∧ w'.ownsRow base e 1 (.slice A' (n + s.size) c') (n + s.size) (xs ++ strCells s) ∧ w.grownBy w' (Value.slice A n c).ownBlock := by
  have h63 : n + s.size ≤ maxLen := by unfold maxLen; omega
  rcases hown with hown | ⟨g, cur, fz, rfl, rfl, hb, hh, h1, h2⟩
  · obtain ⟨v', w', hr, h2, h3, _⟩ := run_append_own_string (P := P) w base t u ty e i ht hu hi hz hsize hby _ n xs hown s h63 hbytes hbase
    obtain ⟨A', c', rfl, hle⟩ := own_shape h2
    exact ⟨A', c', w', hr, hle, h2, h3⟩
  · have holds : ∀ j u, xs[j]? = some u → w.cell? ((⟨g, 0, none⟩ : Addr).add j) = some u := by
      intro j u hu
      have hj : j < c := by
        rcases Nat.lt_or_ge j c with h | h
        · exact h
        · rw [List.getElem?_eq_none (by omega)] at hu; cases hu
      have ha : (⟨g, 0, none⟩ : Addr).add j = ⟨g, j, none⟩ := by unfold Addr.add; split <;> simp_all
      rw [ha, cell_of_row w g j cur e fz hh]
      rw [← h2, List.getElem?_take_of_lt hj] at hu
      simpa using hu
    have hr := run_append_grow_string (P := P) w t u ty e i (.int .u8 0) ht hu hi hz ⟨g, 0, none⟩ c c xs (by rw [hsize]; simpa using h1) holds s (by omega) (by omega) (by rw [hby]; exact growslice_fits (by omega) (by omega))
    have hge := grownCap_ge w (c + s.size) c e
    have hcm2 : grownCap w (c + s.size) c e ≤ maxLen := grownCap_le_maxLen w (c + s.size) c e h63
    refine ⟨_, _, _, hr, hge, ⟨by rw [List.length_append, h1, strCells_length, Nat.mul_one], .inr ⟨w.heap.size, _, _, rfl, hbase, heap_alloc_new w.drew _, hge, hcm2, ?_, ?_⟩⟩, ⟨rfl, rfl, rfl, by simp, fun k hk _ => heap_alloc_old w.drew _ hk⟩⟩
    · have hz1 : (Value.int IntKind.u8 0).cells.size = 1 := rfl
      simp only [Array.size_append, List.size_toArray, size_zeroCells, hz1, h1, strCells_length]
      omega
    · simp only [Array.toList_append, List.append_assoc]
      rw [← List.append_assoc]
      have hl : (xs ++ strCells s).length = (c + s.size) * 1 := by rw [List.length_append, h1, strCells_length, Nat.mul_one]
      rw [← hl]
      exact List.take_left
theorem wp_app_str {o : Oper} {a : Act} {K : Act → World → Prop} {Q : Exit → Act → World → Prop} (sl x : Operand) (t u : TypeId)
    (ho : o.op = .call { callee := .builtin .append, args := #[sl, x], argTypes := #[t, u] })
    (base : Nat) (e : TypeId) (i : TypeInfo) (ht : P.underlying t = some (.slice e)) (hu : P.underlying u = some .string) (hi : P.info? e = some i) (hz : i.zero = some (.int .u8 0))
    (hsize : i.size = 1) (hby : i.bytes = 1) (A : Option Addr) (n c : Nat) (xs : List Value) (hs : a.eval sl = .slice A n c) (hown : OwnG w base e A n c xs) (s : ByteArray) (hx : a.eval x = .string s) (hs0 : 0 < s.size) (hbytes : n + s.size ≤ 140737488355328) (hbase : base ≤ w.heap.size)
    (h : ∀ A' c' w', n + s.size ≤ c' → w'.ownsRow base e 1 (.slice A' (n + s.size) c') (n + s.size) (xs ++ strCells s) → w.grownBy w' (Value.slice A n c).ownBlock → K (a.put o.dst (.slice A' (n + s.size) c')) w') : o.wp P a w K Q := by
  obtain ⟨A', c', w', hr, hle, h2, h3⟩ := run_app_str (P := P) w base t u o.type e i ht hu hi hz hsize hby A n c xs hown s hs0 hbytes hbase
  unfold Oper.wp execOp
  simp only [ho, resolve, invoke, builtin, Sem.run_bind, Sem.run_pure, Result.andThen_ok, List.map_toArray, List.map_cons, List.map_nil, hs, hx, hr]
  exact h A' c' w' hle h2 h3
theorem step_app_str {ops : Array Oper} {o : Oper} {a : Act} {K : Act → World → Prop} {Q : Exit → Act → World → Prop} {E : Prop} (hgd : o.guard = none) (sl x : Operand) (t u : TypeId)
    (ho : o.op = .call { callee := .builtin .append, args := #[sl, x], argTypes := #[t, u] })
    (base : Nat) (e : TypeId) (i : TypeInfo) (ht : P.underlying t = some (.slice e)) (hu : P.underlying u = some .string) (hi : P.info? e = some i) (hz : i.zero = some (.int .u8 0))
    (hsize : i.size = 1) (hby : i.bytes = 1) (A : Option Addr) (n c : Nat) (xs : List Value) (hs : a.eval sl = .slice A n c) (hown : OwnG w base e A n c xs) (s : ByteArray) (hx : a.eval x = .string s) (hs0 : 0 < s.size) (hbytes : n + s.size ≤ 140737488355328) (hbase : base ≤ w.heap.size)
    (h : ∀ A' c' w', n + s.size ≤ c' → w'.ownsRow base e 1 (.slice A' (n + s.size) c') (n + s.size) (xs ++ strCells s) → w.grownBy w' (Value.slice A n c).ownBlock → K (a.put o.dst (.slice A' (n + s.size) c')) w') :
    if Region.wanted o (yielded ops a.tmps) = true then Oper.wp P o a w K Q else E := by
  have hw : Region.wanted o (yielded ops a.tmps) = true := by simp [Region.wanted, hgd]
  rw [if_pos hw]
  exact wp_app_str w sl x t u ho base e i ht hu hi hz hsize hby A n c xs hs hown s hx hs0 hbytes hbase h
end
end Go.Proofs.Ythepacphphiijaa
