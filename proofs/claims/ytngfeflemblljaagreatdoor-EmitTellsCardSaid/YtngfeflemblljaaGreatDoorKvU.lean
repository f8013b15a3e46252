/- The fast evaluator: structs, arrays and slices that are built. No program in sight. -/
import Derived.Test.YtngfeflemblljaaGreatDoorKvT
namespace Go.Proofs.YtngfeflemblljaaGreatDoor
open Go.RowKit
namespace Kv
open Ev
set_option linter.unusedVariables false
set_option linter.unusedSimpArgs false
theorem over_length : ∀ (k : Nat) (cs l : List C), k + l.length ≤ cs.length → (over cs k l).length = cs.length
  | 0, cs, l, h => by simp [over]; omega
  | k + 1, [], l, h => by simp at h
  | k + 1, c :: cs, l, h => by
    simp only [List.length_cons] at h
    simp [over, over_length k cs l (by omega)]
theorem over_get : ∀ (k : Nat) (cs l : List C) (j : Nat), k + l.length ≤ cs.length → (over cs k l)[j]? = if k ≤ j ∧ j < k + l.length then l[j - k]? else cs[j]?
  | 0, cs, l, j, h => by
    simp only [over, Nat.zero_le, true_and, Nat.zero_add, Nat.sub_zero]
    split
    · rename_i hj; rw [List.getElem?_append_left hj]
    · rename_i hj; rw [List.getElem?_append_right (by omega), List.getElem?_drop]; congr 1; omega
  | k + 1, [], l, j, h => by simp at h
  | k + 1, c :: cs, l, 0, h => by simp [over]
  | k + 1, c :: cs, l, j + 1, h => by
    simp only [List.length_cons] at h
    rw [over, List.getElem?_cons_succ, over_get k cs l j (by omega)]
    by_cases hj : k ≤ j ∧ j < k + l.length
    · rw [if_pos hj, if_pos (by omega), Nat.add_sub_add_right]
    · rw [if_neg hj, if_neg (by omega), List.getElem?_cons_succ]
theorem foldl_overA (off : Nat) : ∀ (vs : List Value) (i : Nat) (cur : Array Value), (vs.zipIdx i).foldl (fun cs (x : Value × Nat) => cs.setIfInBounds (off + x.2) x.1) cur = overA cur (off + i) vs
  | [], _, _ => rfl
  | v :: vs, i, cur => by
    rw [List.zipIdx_cons, List.foldl_cons, foldl_overA off vs (i + 1), overA]
    rfl
section
variable {Pr : Program} {w0 w : World} {m : M} {σ : St} {F : Fr} {a : Go.Act} {n : Nat} {v : V} {t : TypeId} {x y z : Operand} {tt : T TypeInfo}
theorem over_ok {cs l : List C} {cur vs : Array Value} {off : Nat} (h1 : All2 (CR m) cs cur.toList) (h2 : All2 (CR m) l vs.toList) (hle : off + l.length ≤ cs.length) :
    All2 (CR m) (over cs off l) (overA cur off vs.toList).toList := by
  have hl1 := h1.length
  have hl2 := h2.length
  simp only [Array.length_toList] at hl1
  refine All2.of_get (by rw [over_length _ _ _ hle, hl1, Array.length_toList, overA_size]) fun j c u hj hu => ?_
  rw [over_get _ _ _ _ hle] at hj
  rw [Array.getElem?_toList, overA_get _ _ _ _ (by omega)] at hu
  by_cases hin : off ≤ j ∧ j < off + l.length
  · rw [if_pos hin] at hj
    rw [if_pos (by omega)] at hu
    obtain ⟨u', g1, g2⟩ := h2.get hj
    rw [hu] at g1
    cases g1
    exact g2
  · rw [if_neg hin] at hj
    rw [if_neg (by omega)] at hu
    obtain ⟨u', g1, g2⟩ := h1.get hj
    rw [Array.getElem?_toList, hu] at g1
    cases g1
    exact g2
theorem fill_ok (hF : FR m n F a) (hG : Globs m) (place : Nat → Option (Nat × Nat)) : ∀ (ps : List (Nat × Operand)) {cs l : List C} {cur : Array Value}, All2 (CR m) cs cur.toList → fillP place F (opdsN ps) cs = some l →
    ∃ cells, Instr.fill place cur (ps.map fun p => (p.1, a.eval p.2)) = some cells ∧ All2 (CR m) l cells.toList
  | [], cs, l, cur, h1, h => by cases h; exact ⟨cur, rfl, h1⟩
  | p :: ps, cs, l, cur, h1, h => by
    simp only [opdsN, fillP] at h
    split at h
    · cases h
    · rename_i u hu
      have hu := asP_ok hu (opd_ok hF hG p.2)
      split at h
      · cases h
      · rename_i pl hpl
        split at h
        · rename_i h2
          split at h
          · rename_i h3
            have h2 := Nat.eq_of_beq_eq_true h2
            have h3 := Nat.le_of_ble_eq_true h3
            have hlc := h1.length
            have hlu := hu.cells.length
            simp only [Array.length_toList] at hlc hlu
            simp only [Nat.add_eq] at h3
            obtain ⟨cells, g1, g2⟩ := fill_ok hF hG place ps (over_ok h1 hu.cells (by omega)) h
            refine ⟨cells, ?_, g2⟩
            rw [List.map_cons, Instr.fill]
            simp only [hpl]
            have hn : ((a.eval p.2).cells.size ≠ pl.2 || pl.1 + (a.eval p.2).cells.size > cur.size) = false := by
              simp only [ne_eq, Bool.or_eq_false_iff, decide_eq_false_iff_not, Decidable.not_not, gt_iff_lt, Nat.not_lt]
              omega
            rw [hn]
            simp only [Bool.false_eq_true, if_false]
            rw [← Array.foldl_toList, Array.toList_zipIdx, foldl_overA pl.1 _ 0, Nat.add_zero]
            exact g1
          · cases h
        · cases h
theorem nthP_eq : ∀ (l : List (Nat × Nat)) (i : Nat), nthP l i = l[i]?
  | [], i => by cases i <;> rfl
  | a :: l, 0 => rfl
  | a :: l, i + 1 => by rw [nthP, nthP_eq l i, List.getElem?_cons_succ]
theorem places_ok (hT : Tab Pr tt) : ∀ {fs : List Field} {pl : List (Nat × Nat)}, places tt fs = some pl →
    (fs.mapM (m := Sem) fun f => do pure (f.offset, ← sizeOf f.type)).run Pr w = .ok pl w
  | [], pl, h => by cases h; simp
  | f :: fs, pl, h => by
    simp only [places] at h
    split at h
    · rename_i k hk
      split at h
      · rename_i r hr
        cases h
        have ih := places_ok hT hr
        simp only [List.mapM_cons, Sem.run_bind, run_size hT hk, Result.andThen_ok, Sem.run_pure, ih]
      · cases h
    · cases h
theorem run_mapM_array {α β : Type} (f : α → Sem β) (xs : Array α) {l : List β} (h : (xs.toList.mapM f).run Pr w = .ok l w) : (xs.mapM f).run Pr w = .ok l.toArray w := by
  rw [Array.mapM_eq_mapM_toList]
  simp [h]
theorem buildS_ok {fs : Array Field} {pl : List (Nat × Nat)} {ps : Array (Nat × Operand)} {zp : P} (hT : Tab Pr tt) (hF : FR m n F a) (hG : Globs m) (hz : zero tt t = some zp) (hu : under tt t = some (.struct fs)) (hp : places tt fs.toList = some pl)
    (h : buildP (nthP pl) zp.cells (opdsN ps.toList) F = some v) : GoodP Pr m w (Instr.build t (ps.map fun (i, x) => (i, a.eval x))) v := by
  unfold buildP at h
  split at h
  · rename_i cs hcs
    cases h
    obtain ⟨zv, h1, h2⟩ := run_zero hT (w := w) m hz
    obtain ⟨cells, h3, h4⟩ := fill_ok hF hG _ _ h2.cells hcs
    refine ⟨.agg cells, ?_, cells, rfl, h4⟩
    have h5 := run_mapM_array (Pr := Pr) (w := w) _ fs (places_ok hT hp)
    have h6 : Instr.fill (pl.toArray[·]?) zv.cells (ps.map fun (i, x) => (i, a.eval x)).toList = some cells := by
      rw [← h3, Array.toList_map]
      congr 1
      funext i
      rw [nthP_eq]; simp
    simp only [Instr.build, Sem.run_bind, h1, Result.andThen_ok, run_under hT hu, h5, h6, Sem.run_pure]
  · cases h
theorem buildA_ok {e k len : Nat} {ps : Array (Nat × Operand)} {zp : P} (hT : Tab Pr tt) (hF : FR m n F a) (hG : Globs m) (hz : zero tt t = some zp) (hu : under tt t = some (.array len e)) (hs : size tt e = some k)
    (h : buildP (placeA k) zp.cells (opdsN ps.toList) F = some v) : GoodP Pr m w (Instr.build t (ps.map fun (i, x) => (i, a.eval x))) v := by
  unfold buildP at h
  split at h
  · rename_i cs hcs
    cases h
    obtain ⟨zv, h1, h2⟩ := run_zero hT (w := w) m hz
    obtain ⟨cells, h3, h4⟩ := fill_ok hF hG _ _ h2.cells hcs
    refine ⟨.agg cells, ?_, cells, rfl, h4⟩
    have h6 : Instr.fill (fun i => some (i * k, k)) zv.cells (ps.map fun (i, x) => (i, a.eval x)).toList = some cells := by
      rw [← h3, Array.toList_map]; rfl
    simp only [Instr.build, Sem.run_bind, h1, Result.andThen_ok, run_under hT hu, run_size hT hs, h6, Sem.run_pure]
  · cases h
/-! ### Rows of zeros -/
theorem reps_length (z : List C) : ∀ n, (reps z n).length = n * z.length
  | 0 => by simp [reps]
  | n + 1 => by simp [reps, reps_length z n, Nat.add_mul, Nat.add_comm]
theorem reps_get (z : List C) : ∀ (n j : Nat), j < n * z.length → (reps z n)[j]? = z[j % z.length]?
  | 0, j, h => by simp at h
  | n + 1, j, h => by
    rw [reps]
    by_cases hj : j < z.length
    · rw [List.getElem?_append_left hj, Nat.mod_eq_of_lt hj]
    · rw [Nat.add_mul, Nat.one_mul] at h
      rw [List.getElem?_append_right (by omega), reps_get z n _ (by omega)]
      congr 1
      rw [← Nat.mod_eq_sub_mod (by omega)]
theorem zeros_ok {z : List C} {zv : Array Value} {sz k : Nat} (h : All2 (CR m) z zv.toList) (hs : z.length = sz) : All2 (CR m) (reps z k) ((Array.range (k * sz)).map (fun i => zv[i % zv.size]!)).toList := by
  have hl := h.length
  simp only [Array.length_toList] at hl
  subst hs
  refine All2.of_get (by simp [reps_length]) fun j c u hj hu => ?_
  have hlt : j < k * z.length := by
    rw [← reps_length]
    exact (List.getElem?_eq_some_iff.1 hj).1
  rw [reps_get z k j hlt] at hj
  obtain ⟨u', g1, g2⟩ := h.get hj
  have hlt2 : j % z.length < zv.size := by
    rw [← hl]
    refine Nat.mod_lt _ ?_
    rcases Nat.eq_zero_or_pos z.length with h0 | h0
    · rw [h0] at hlt; simp at hlt
    · exact h0
  have : u = u' := by
    rw [Array.getElem?_toList] at hu g1
    rw [Array.getElem?_map, Array.getElem?_range, if_pos hlt] at hu
    simp only [Option.map_some, Option.some.injEq] at hu
    rw [← hu, ← hl]
    rw [Array.getElem?_eq_getElem hlt2] at g1
    injection g1 with g1
    rw [← g1, getElem!_pos zv _ hlt2]
  rw [this]; exact g2
structure ElemOk (Pr : Program) (tt : T TypeInfo) (e sz : Nat) (z : List C) : Prop where
  size : Ev.size tt e = some sz
  pos : 0 < sz
  info : ∃ i zv, Pr.info? e = some i ∧ i.size = sz ∧ i.bytes ≤ 1048576 ∧ i.zero = some zv ∧ (∀ m, All2 (CR m) z zv.cells.toList)
  len : z.length = sz
theorem elem_ok (hT : Tab Pr tt) {e : Nat} {q : Nat × List C} (h : elemOf tt e = some q) : ElemOk Pr tt e q.1 q.2 := by
  unfold elemOf at h
  split at h
  · cases h
  · rename_i sz hsz
    split at h
    · cases h
    · rename_i by' hby
      split at h
      · cases h
      · rename_i z hz
        split at h
        · rename_i hb
          cases h
          simp only [Bool.and_eq_true] at hb
          obtain ⟨⟨h1, h2⟩, h3⟩ := hb
          have h1 := Nat.le_of_ble_eq_true h1
          have h2 := Nat.le_of_ble_eq_true h2
          have h3 := Nat.eq_of_beq_eq_true h3
          refine ⟨hsz, h1, ?_, h3⟩
          unfold Ev.size at hsz
          unfold tbytes at hby
          unfold Ev.zero at hz
          split at hsz
          · rename_i i hi
            rw [hi] at hby hz
            cases hsz
            cases hby
            simp only at hz
            split at hz
            · rename_i zv hzv
              exact ⟨i, zv, hT.info _ _ hi, rfl, h2, hzv, fun m => (ofV_ok m hz).cells⟩
            · cases hz
          · cases hsz
        · cases h
theorem slice_ok {e len sz : Nat} {z : List C} {ps : Array (Nat × Operand)} {zz : Al} (hT : Tab Pr tt) (hF : FR m n F a) (hG : Globs m) (hu : under tt t = some (.slice e)) (he : ElemOk Pr tt e sz z) (hb : len * sz ≤ 100000)
    (h : buildS e len sz (reps z len) (opdsN ps.toList) F = some zz) : GoodA Pr m w (Instr.buildSlice t len (ps.map fun (i, x) => (i, a.eval x))) zz := by
  unfold buildS at h
  split at h
  · rename_i cs hcs
    cases h
    obtain ⟨i, zv, hi, h1, h2, h3, h4⟩ := he.info
    have hzr : (zeroValue e).run Pr w = .ok zv w := by simp [zeroValue, typeInfo, hi, h3]
    have hz : All2 (CR m) (reps z len) ((Array.range (len * sz)).map (fun i => (if len * sz = 0 then #[] else zv.cells)[i % (if len * sz = 0 then (#[] : Array Value) else zv.cells).size]!)).toList := by
      by_cases h0 : len * sz = 0
      · have : len = 0 := by
          rcases Nat.mul_eq_zero.1 h0 with h | h
          · exact h
          · exact absurd he.pos (by omega)
        subst this
        simp [reps]; trivial
      · simp only [if_neg h0]
        exact zeros_ok (h4 m) he.len
    obtain ⟨cells, g1, g2⟩ := fill_ok hF hG _ _ hz hcs
    refine ⟨.slice (some ⟨w.heap.size, 0, none⟩) len len, .cells cells e, 0, ?_, fun m' xx ex hx => ⟨row_ok (g2.imp fun _ _ => CR.ext ex), _, hx, rfl⟩⟩
    have h6 : Instr.fill (fun i => some (i * sz, sz)) ((Array.range (len * sz)).map (fun i => (if len * sz = 0 then #[] else zv.cells)[i % (if len * sz = 0 then (#[] : Array Value) else zv.cells).size]!)) (ps.map fun (i, x) => (i, a.eval x)).toList = some cells := by
      rw [← g1, Array.toList_map]; rfl
    have h7 : ¬ (len * sz > 2 ^ 24) := by
      have : (2 : Nat) ^ 24 = 16777216 := by decide
      omega
    by_cases h0 : len * sz = 0
    · simp only [if_pos h0] at h6
      simp only [Instr.buildSlice, Sem.run_bind, run_under hT hu, Result.andThen_ok, run_size hT he.size, if_neg h7, if_pos h0, Sem.run_pure, h6, Go.newRow, newObj, Sem.run]
      rfl
    · simp only [if_neg h0] at h6
      simp only [Instr.buildSlice, Sem.run_bind, run_under hT hu, Result.andThen_ok, run_size hT he.size, if_neg h7, if_neg h0, Sem.run_pure, hzr, h6, Go.newRow, newObj, Sem.run]
      rfl
  · cases h
theorem make_ok {e sz : Nat} {z : List C} {zz : Al} (hT : Tab Pr tt) (hF : FR m n F a) (hG : Globs m) (hu : under tt t = some (.slice e)) (he : ElemOk Pr tt e sz z)
    (h : on2 (opd x) (opd y) (makeS e z) F = some zz) : GoodA Pr m w (Instr.makeSlice t (a.eval x) (a.eval y)) zz := by
  obtain ⟨c, d, hc, hd, h⟩ := on2_ok hF hG h
  obtain ⟨k1, l, hx, h⟩ := natOf_ok h hc
  obtain ⟨k2, cp, hy, h⟩ := natOf_ok h hd
  split at h
  · rename_i h1
    split at h
    · rename_i h2
      cases h
      have h1 := Nat.le_of_ble_eq_true h1
      have h2 := Nat.le_of_ble_eq_true h2
      obtain ⟨i, zv, hi, g1, g2, g3, g4⟩ := he.info
      have hzr : (zeroValue e).run Pr w = .ok zv w := by simp [zeroValue, typeInfo, hi, g3]
      have hz : All2 (CR m) (reps z cp) ((Array.range (cp * sz)).map (fun i => (if cp * sz = 0 then #[] else zv.cells)[i % (if cp * sz = 0 then (#[] : Array Value) else zv.cells).size]!)).toList := by
        by_cases h0 : cp * sz = 0
        · have : cp = 0 := by
            rcases Nat.mul_eq_zero.1 h0 with h | h
            · exact h
            · exact absurd he.pos (by omega)
          subst this
          simp [reps]; trivial
        · simp only [if_neg h0]
          exact zeros_ok (g4 m) he.len
      refine ⟨.slice (some ⟨w.heap.size, 0, none⟩) l cp, .cells ((Array.range (cp * sz)).map (fun i => (if cp * sz = 0 then #[] else zv.cells)[i % (if cp * sz = 0 then (#[] : Array Value) else zv.cells).size]!)) e, 0, ?_,
        fun m' xx ex hx => ⟨row_ok (hz.imp fun _ _ => CR.ext ex), _, hx, rfl⟩⟩
      have w1 : IntKind.i64.wrap (l : Int) = l := by simp [IntKind.wrap, IntKind.bits, IntKind.signed]; omega
      have w2 : IntKind.i64.wrap (cp : Int) = cp := by simp [IntKind.wrap, IntKind.bits, IntKind.signed]; omega
      have hbc : i.bytes * cp ≤ 1048576 * 100000 := Nat.mul_le_mul g2 h2
      have hbc' : ((i.bytes : Int) * (cp : Int)) ≤ 104857600000 := by
        have := Int.ofNat_le.2 hbc
        simpa using this
      have hti : (typeInfo e).run Pr w = .ok i w := by simp [typeInfo, hi]
      have hcond : ((decide ((cp : Int) < 0) || decide (((i.bytes : Nat) : Int) * (cp : Int) > 2 ^ 48)) || decide ((l : Int) < 0) || decide ((l : Int) > (cp : Int))) = false := by
        have : (2 : Int) ^ 48 = 281474976710656 := by decide
        simp only [Bool.or_eq_false_iff, decide_eq_false_iff_not]
        omega
      have hask : (askRoom (cp * i.bytes)).run Pr w = .ok () w := by unfold askRoom; split <;> simp
      by_cases h0 : cp * sz = 0
      · simp only [Instr.makeSlice, hx, hy, asInt, asIntOf, Sem.run_bind, Sem.run_pure, Result.andThen_ok, run_under hT hu, hti, w1, w2, hcond, Bool.false_eq_true, if_false, Int.toNat_natCast, hask, run_size hT he.size, if_pos h0, Go.newRow, newObj, Sem.run]
        rfl
      · simp only [Instr.makeSlice, hx, hy, asInt, asIntOf, Sem.run_bind, Sem.run_pure, Result.andThen_ok, run_under hT hu, hti, w1, w2, hcond, Bool.false_eq_true, if_false, Int.toNat_natCast, hask, run_size hT he.size, if_neg h0, hzr, Go.newRow, newObj, Sem.run]
        rfl
    · cases h
  · cases h
end
end Kv
end Go.Proofs.YtngfeflemblljaaGreatDoor
