/- Trees in a list, plain: a walk from the root down that marks what it met accepts exactly what a sweep from the root's place downwards accepts. No program in sight. -/
namespace Go.Proofs.YtbemdcbglpjmiaaGreatDoor
namespace Tm
section
variable (kids : Nat → Option (List Nat)) (M : Nat)
/-- The nodes of a tree (with repetitions, where it is none). -/
def nodes : Nat → Nat → Nat → Option (List Nat)
  | 0, _, _ => none
  | f + 1, a, d => if M < d then none else match kids a with
    | none => none
    | some cs => (cs.mapM fun c => nodes f c (d + 1)).map fun l => a :: l.flatten
/-- The walk: what has been met behind it; none: it refuses. -/
def walk : Nat → (Nat → Bool) → Nat → Nat → Option (Nat → Bool)
  | 0, _, _, _ => none
  | f + 1, met, a, d => if met a = true ∨ M < d then none else match kids a with
    | none => none
    | some cs => cs.foldlM (fun m c => walk f m c (d + 1)) fun j => j == a || met j
def upd (dp : Nat → Nat) (c d : Nat) : Nat → Nat := fun j => if j = c then d else dp j
def mark (d : Nat) : List Nat → (Nat → Nat) → Option (Nat → Nat)
  | [], dp => some dp
  | c :: cs, dp => if 0 < dp c then none else mark d cs (upd dp c d)
/-- The sweep over the places below i. -/
def sweep : Nat → (Nat → Nat) → Bool
  | 0, _ => true
  | i + 1, dp => if dp i = 0 then sweep i dp else if M < dp i then false else match kids i with
    | none => false
    | some cs => match mark (dp i + 1) cs dp with
      | none => false
      | some dp' => sweep i dp'
end
section
variable {kids : Nat → Option (List Nat)} {M : Nat}
/-- What has been met, with some nodes more. -/
def add (met : Nat → Bool) (ns : List Nat) : Nat → Bool := fun j => ns.contains j || met j
theorem add_add (met : Nat → Bool) (a b : List Nat) : add (add met a) b = add met (a ++ b) := by
  funext j
  simp only [add, List.contains_append]
  cases a.contains j <;> cases b.contains j <;> simp
theorem walkL {f d : Nat} (ih : ∀ met c r, walk kids M f met c d = some r ↔ ∃ ns, nodes kids M f c d = some ns ∧ ns.Nodup ∧ (∀ x ∈ ns, met x = false) ∧ r = add met ns) :
    ∀ (cs : List Nat) (met r : Nat → Bool), cs.foldlM (fun m c => walk kids M f m c d) met = some r ↔
      ∃ ls, cs.mapM (fun c => nodes kids M f c d) = some ls ∧ ls.flatten.Nodup ∧ (∀ x ∈ ls.flatten, met x = false) ∧ r = add met ls.flatten
  | [], met, r => by
    simp only [List.foldlM_nil, List.mapM_nil]
    constructor
    · intro h
      cases h
      exact ⟨[], rfl, by simp, by simp, by funext j; simp [add]⟩
    · rintro ⟨ls, h, _, _, rfl⟩
      cases h
      have e : add met ([] : List (List Nat)).flatten = met := by funext j; simp [add]
      rw [e]; rfl
  | c :: cs, met, r => by
    rw [List.foldlM_cons, List.mapM_cons]
    simp only [bind, Option.bind_eq_some_iff, pure, Option.some.injEq]
    constructor
    · rintro ⟨m1, h1, h2⟩
      obtain ⟨ns, g1, g2, g3, rfl⟩ := (ih met c m1).1 h1
      obtain ⟨ls, k1, k2, k3, rfl⟩ := (walkL ih cs _ r).1 h2
      refine ⟨ns :: ls, ⟨ns, g1, ls, k1, rfl⟩, ?_, ?_, ?_⟩
      · rw [List.flatten_cons, List.nodup_append]
        refine ⟨g2, k2, fun x hx y hy e => ?_⟩
        subst e
        have := k3 x hy
        simp [add, hx] at this
      · intro x hx
        rw [List.flatten_cons, List.mem_append] at hx
        rcases hx with hx | hx
        · exact g3 x hx
        · have := k3 x hx
          simp only [add, Bool.or_eq_false_iff] at this
          exact this.2
      · rw [add_add, List.flatten_cons]
    · rintro ⟨ls, ⟨ns, g1, ls', k1, rfl⟩, h2, h3, rfl⟩
      rw [List.flatten_cons, List.nodup_append] at h2
      rw [List.flatten_cons] at h3
      refine ⟨add met ns, (ih met c _).2 ⟨ns, g1, h2.1, fun x hx => h3 x (by simp [hx]), rfl⟩, (walkL ih cs _ _).2 ⟨ls', k1, h2.2.1, fun x hx => ?_, ?_⟩⟩
      · have hn : x ∉ ns := fun hx' => h2.2.2 x hx' x hx rfl
        simp [add, hn, h3 x (by simp only [List.mem_append]; exact .inr hx)]
      · rw [add_add, List.flatten_cons]
theorem walk_iff : ∀ (f : Nat) (met : Nat → Bool) (a d : Nat) (r : Nat → Bool), walk kids M f met a d = some r ↔
    ∃ ns, nodes kids M f a d = some ns ∧ ns.Nodup ∧ (∀ x ∈ ns, met x = false) ∧ r = add met ns
  | 0, met, a, d, r => by simp [walk, nodes]
  | f + 1, met, a, d, r => by
    have ih := walkL (kids := kids) (M := M) (f := f) (d := d + 1) fun met c r => walk_iff f met c (d + 1) r
    rw [walk, nodes]
    by_cases hM : M < d
    · simp [hM]
    · cases hk : kids a with
      | none => simp [hM]
      | some cs =>
        by_cases hm : met a = true
        · simp only [hm, hM, or_false, if_true, if_false]
          constructor
          · intro h; cases h
          · rintro ⟨ns, h1, _, h3, _⟩
            simp only [Option.map_eq_some_iff] at h1
            obtain ⟨l, _, rfl⟩ := h1
            have := h3 a (by simp)
            rw [hm] at this
            cases this
        · have hm : met a = false := by simpa using hm
          simp only [hm, hM, or_false, Bool.false_eq_true, if_false]
          rw [ih]
          constructor
          · rintro ⟨ls, h1, h2, h3, rfl⟩
            have hna : a ∉ ls.flatten := fun h => by have := h3 a h; simp at this
            refine ⟨a :: ls.flatten, by simp [h1], List.nodup_cons.2 ⟨hna, h2⟩, fun x hx => ?_, ?_⟩
            · rcases List.mem_cons.1 hx with rfl | hx
              · exact hm
              · have := h3 x hx; simp at this; exact this.2
            · funext j
              simp only [add, List.contains_cons]
              cases j == a <;> cases ls.flatten.contains j <;> simp
          · rintro ⟨ns, h1, h2, h3, rfl⟩
            simp only [Option.map_eq_some_iff] at h1
            obtain ⟨ls, h1, rfl⟩ := h1
            rw [List.nodup_cons] at h2
            refine ⟨ls, h1, h2.2, fun x hx => ?_, ?_⟩
            · have hxa : x ≠ a := fun e => by subst e; exact h2.1 hx
              simp [hxa, h3 x (List.mem_cons_of_mem _ hx)]
            · funext j
              simp only [add, List.contains_cons]
              cases j == a <;> cases ls.flatten.contains j <;> simp
/-- The nodes of all trees whose roots are marked below i. -/
def all (kids : Nat → Option (List Nat)) (M f : Nat) (dp : Nat → Nat) : Nat → Option (List Nat)
  | 0 => some []
  | i + 1 => match dp i with
    | 0 => all kids M f dp i
    | d + 1 => match nodes kids M f i (d + 1) with
      | none => none
      | some ns => match all kids M f dp i with
        | none => none
        | some r => some (ns ++ r)
variable (hk : ∀ a cs, kids a = some cs → ∀ c ∈ cs, c < a)
include hk
omit hk in
theorem mapM_le {f a d : Nat} (ih : ∀ c ns, nodes kids M f c d = some ns → ∀ x ∈ ns, x ≤ c) : ∀ {cs : List Nat} {ls : List (List Nat)}, (∀ c ∈ cs, c < a) → cs.mapM (fun c => nodes kids M f c d) = some ls → ∀ x ∈ ls.flatten, x < a
  | [], ls, _, h, x, hx => by
    simp at h; subst h; simp at hx
  | c :: cs, ls, hc, h, x, hx => by
    rw [List.mapM_cons] at h
    simp only [bind, Option.bind_eq_some_iff, pure, Option.some.injEq] at h
    obtain ⟨ns, g1, ls', g2, rfl⟩ := h
    rw [List.flatten_cons, List.mem_append] at hx
    rcases hx with hx | hx
    · have := ih c ns g1 x hx
      have := hc c (by simp)
      omega
    · exact mapM_le ih (fun c' hc' => hc c' (by simp [hc'])) g2 x hx
theorem nodes_le : ∀ (f a d : Nat) (ns : List Nat), nodes kids M f a d = some ns → a ∈ ns ∧ ∀ x ∈ ns, x ≤ a
  | 0, a, d, ns, h => by cases h
  | f + 1, a, d, ns, h => by
    rw [nodes] at h
    split at h
    · cases h
    · split at h
      · cases h
      · rename_i cs hcs
        simp only [Option.map_eq_some_iff] at h
        obtain ⟨ls, h1, rfl⟩ := h
        refine ⟨by simp, fun x hx => ?_⟩
        rcases List.mem_cons.1 hx with rfl | hx
        · exact Nat.le_refl _
        · exact Nat.le_of_lt (mapM_le (fun c ns hc => (nodes_le f c (d + 1) ns hc).2) (hk a cs hcs) h1 x hx)
theorem all_lt {f : Nat} {dp : Nat → Nat} : ∀ {i : Nat} {r : List Nat}, all kids M f dp i = some r → ∀ x ∈ r, x < i
  | 0, r, h, x, hx => by cases h; cases hx
  | i + 1, r, h, x, hx => by
    rw [all] at h
    split at h
    · exact Nat.lt_succ_of_lt (all_lt h x hx)
    · split at h
      · cases h
      · rename_i ns hns
        split at h
        · cases h
        · rename_i r' hr'
          cases h
          rcases List.mem_append.1 hx with hx | hx
          · have := (nodes_le hk f i _ ns hns).2 x hx; omega
          · exact Nat.lt_succ_of_lt (all_lt hr' x hx)
theorem all_mem {f : Nat} {dp : Nat → Nat} : ∀ {i : Nat} {r : List Nat}, all kids M f dp i = some r → ∀ c, c < i → 0 < dp c → c ∈ r
  | 0, r, h, c, hc, _ => by omega
  | i + 1, r, h, c, hc, hd => by
    rw [all] at h
    split at h
    · rename_i h0
      have : c ≠ i := fun e => by subst e; omega
      exact all_mem h c (by omega) hd
    · split at h
      · cases h
      · rename_i ns hns
        split at h
        · cases h
        · rename_i r' hr'
          cases h
          by_cases he : c = i
          · subst he
            exact List.mem_append_left _ (nodes_le hk f c _ ns hns).1
          · exact List.mem_append_right _ (all_mem hr' c (by omega) hd)
omit hk in
theorem all_congr {f : Nat} {dp dp' : Nat → Nat} : ∀ {i : Nat}, (∀ j, j < i → dp j = dp' j) → all kids M f dp i = all kids M f dp' i
  | 0, _ => rfl
  | i + 1, h => by
    rw [all, all, all_congr (i := i) fun j hj => h j (by omega), h i (by omega)]
omit hk in
/-- One mark more. -/
theorem all_upd {f : Nat} {dp : Nat → Nat} {c d : Nat} (hc : dp c = 0) : ∀ {i : Nat}, c < i →
    (∀ r, all kids M f (upd dp c (d + 1)) i = some r → ∃ ns r', nodes kids M f c (d + 1) = some ns ∧ all kids M f dp i = some r' ∧ r.Perm (ns ++ r')) ∧
    (∀ ns r', nodes kids M f c (d + 1) = some ns → all kids M f dp i = some r' → ∃ r, all kids M f (upd dp c (d + 1)) i = some r ∧ r.Perm (ns ++ r'))
  | 0, h => by omega
  | i + 1, h => by
    by_cases he : c = i
    · subst he
      have e1 : all kids M f (upd dp c (d + 1)) c = all kids M f dp c := all_congr fun j hj => by simp only [upd]; rw [if_neg (by omega)]
      have e2 : upd dp c (d + 1) c = d + 1 := by simp [upd]
      have e3 : all kids M f dp (c + 1) = all kids M f dp c := by rw [all, hc]
      rw [e3, all, e2, e1]
      constructor
      · intro r hr
        simp only at hr
        split at hr
        · cases hr
        · rename_i ns hns
          split at hr
          · cases hr
          · rename_i r' hr'
            cases hr
            exact ⟨ns, r', hns, hr', List.Perm.refl _⟩
      · intro ns r' h1 h2
        simp only
        rw [h1, h2]
        exact ⟨_, rfl, List.Perm.refl _⟩
    · have hlt : c < i := by omega
      obtain ⟨ih1, ih2⟩ := all_upd (f := f) (dp := dp) (c := c) (d := d) hc hlt
      have e2 : upd dp c (d + 1) i = dp i := by simp only [upd]; rw [if_neg (by omega)]
      rw [all, all, e2]
      split
      · exact ⟨ih1, ih2⟩
      · rename_i d' hd'
        constructor
        · intro r hr
          split at hr
          · cases hr
          · rename_i n1 hn1
            split at hr
            · cases hr
            · rename_i r1 hr1
              cases hr
              obtain ⟨ns, r', g1, g2, g3⟩ := ih1 r1 hr1
              refine ⟨ns, n1 ++ r', g1, by rw [g2], ?_⟩
              refine (List.Perm.append_left n1 g3).trans ?_
              rw [← List.append_assoc, ← List.append_assoc]
              exact List.Perm.append_right r' List.perm_append_comm
        · intro ns r' h1 h2
          split at h2
          · cases h2
          · rename_i n1 hn1
            split at h2
            · cases h2
            · rename_i r1 hr1
              cases h2
              obtain ⟨r, g1, g2⟩ := ih2 ns r1 h1 hr1
              refine ⟨n1 ++ r, by rw [g1], ?_⟩
              refine (List.Perm.append_left n1 g2).trans ?_
              rw [← List.append_assoc, ← List.append_assoc]
              exact List.Perm.append_right r1 List.perm_append_comm
omit hk in
theorem mark_all {f d i : Nat} : ∀ {cs : List Nat} {dp dp' : Nat → Nat}, (∀ c ∈ cs, c < i) → mark (d + 1) cs dp = some dp' →
    (∀ r, all kids M f dp' i = some r → ∃ ls r', cs.mapM (fun c => nodes kids M f c (d + 1)) = some ls ∧ all kids M f dp i = some r' ∧ r.Perm (ls.flatten ++ r')) ∧
    (∀ ls r', cs.mapM (fun c => nodes kids M f c (d + 1)) = some ls → all kids M f dp i = some r' → ∃ r, all kids M f dp' i = some r ∧ r.Perm (ls.flatten ++ r'))
  | [], dp, dp', _, h => by
    cases h
    refine ⟨fun r hr => ⟨[], r, rfl, hr, by simp⟩, fun ls r' h1 h2 => ?_⟩
    simp at h1
    subst h1
    exact ⟨r', h2, by simp⟩
  | c :: cs, dp, dp', hc, h => by
    rw [mark] at h
    split at h
    · cases h
    · rename_i h0
      have h0 : dp c = 0 := by omega
      obtain ⟨m1, m2⟩ := mark_all (cs := cs) (f := f) (fun c' hc' => hc c' (by simp [hc'])) h
      obtain ⟨u1, u2⟩ := all_upd (kids := kids) (M := M) (f := f) (d := d) h0 (hc c (by simp))
      constructor
      · intro r hr
        obtain ⟨ls, r1, g1, g2, g3⟩ := m1 r hr
        obtain ⟨ns, r', k1, k2, k3⟩ := u1 r1 g2
        refine ⟨ns :: ls, r', by rw [List.mapM_cons]; simp [k1, g1], k2, ?_⟩
        refine g3.trans ((List.Perm.append_left _ k3).trans ?_)
        rw [List.flatten_cons, ← List.append_assoc]
        exact List.Perm.append_right r' List.perm_append_comm
      · intro ls r' h1 h2
        rw [List.mapM_cons] at h1
        simp only [bind, Option.bind_eq_some_iff, pure, Option.some.injEq] at h1
        obtain ⟨ns, k1, ls', k2, rfl⟩ := h1
        obtain ⟨r1, g1, g2⟩ := u2 ns r' k1 h2
        obtain ⟨r, e1, e2⟩ := m2 ls' r1 k2 g1
        refine ⟨r, e1, e2.trans ((List.Perm.append_left _ g2).trans ?_)⟩
        rw [List.flatten_cons, ← List.append_assoc]
        exact List.Perm.append_right r' List.perm_append_comm
/-- Where the trees are apart, the marks can be set. -/
theorem mark_some {f d i : Nat} : ∀ {cs : List Nat} {dp : Nat → Nat} {ls : List (List Nat)} {r : List Nat}, (∀ c ∈ cs, c < i) → cs.mapM (fun c => nodes kids M f c (d + 1)) = some ls → all kids M f dp i = some r → (ls.flatten ++ r).Nodup →
    ∃ dp', mark (d + 1) cs dp = some dp'
  | [], dp, ls, r, _, _, _, _ => ⟨dp, rfl⟩
  | c :: cs, dp, ls, r, hc, h1, h2, hn => by
    rw [List.mapM_cons] at h1
    simp only [bind, Option.bind_eq_some_iff, pure, Option.some.injEq] at h1
    obtain ⟨ns, k1, ls', k2, rfl⟩ := h1
    have hcn := (nodes_le hk f c (d + 1) ns k1).1
    have h0 : dp c = 0 := by
      rcases Nat.eq_zero_or_pos (dp c) with h0 | h0
      · exact h0
      · have hm := all_mem hk h2 c (hc c (by simp)) h0
        rw [List.flatten_cons, List.append_assoc, List.nodup_append] at hn
        exact absurd rfl (hn.2.2 c hcn c (by simp [hm]))
    obtain ⟨u1, u2⟩ := all_upd (kids := kids) (M := M) (f := f) (d := d) h0 (hc c (by simp))
    obtain ⟨r1, g1, g2⟩ := u2 ns r k1 h2
    rw [mark, if_neg (by omega)]
    refine mark_some (cs := cs) (fun c' hc' => hc c' (by simp [hc'])) k2 g1 ?_
    refine (List.Perm.nodup_iff ?_).1 hn
    rw [List.flatten_cons]
    refine List.Perm.trans ?_ (List.Perm.append_left _ g2.symm)
    rw [← List.append_assoc]
    exact List.Perm.append_right r List.perm_append_comm
omit hk in
theorem mapM_congr {α β : Type} {g g' : α → Option β} : ∀ {l : List α}, (∀ x ∈ l, g x = g' x) → l.mapM g = l.mapM g'
  | [], _ => rfl
  | x :: l, h => by rw [List.mapM_cons, List.mapM_cons, h x (by simp), mapM_congr fun y hy => h y (by simp [hy])]
theorem nodes_fuel : ∀ (f f' a d : Nat), a < f → a < f' → nodes kids M f a d = nodes kids M f' a d
  | 0, f', a, d, h, _ => by omega
  | f + 1, 0, a, d, _, h => by omega
  | f + 1, f' + 1, a, d, h, h' => by
    rw [nodes, nodes]
    split
    · rfl
    · cases hc : kids a with
      | none => rfl
      | some cs =>
        simp only
        rw [mapM_congr fun c hcc => nodes_fuel f f' c (d + 1) (by have := hk a cs hc c hcc; omega) (by have := hk a cs hc c hcc; omega)]
theorem sweep_iff {f : Nat} : ∀ {i : Nat} {dp : Nat → Nat}, i ≤ f → (sweep kids M i dp = true ↔ ∃ ns, all kids M f dp i = some ns ∧ ns.Nodup)
  | 0, dp, _ => by simp [sweep, all]
  | i + 1, dp, hi => by
    rw [sweep, all]
    cases hd : dp i with
    | zero => simp only [if_true]; exact sweep_iff (by omega)
    | succ d =>
      have hne : ¬ (d + 1 = 0) := by omega
      simp only [hne, if_false]
      obtain ⟨f, rfl⟩ : ∃ f', f = f' + 1 := ⟨f - 1, by omega⟩
      rw [nodes]
      by_cases hM : M < d + 1
      · simp [hM]
      · simp only [hM, if_false]
        cases hc : kids i with
        | none => simp
        | some cs =>
          have hlt := hk i cs hc
          have hcg : (cs.mapM fun c => nodes kids M f c (d + 1 + 1)) = cs.mapM fun c => nodes kids M (f + 1) c (d + 1 + 1) :=
            mapM_congr fun c hcc => nodes_fuel hk f (f + 1) c (d + 1 + 1) (by have := hlt c hcc; omega) (by have := hlt c hcc; omega)
          simp only
          rw [hcg]
          constructor
          · intro hs
            cases hm : mark (d + 1 + 1) cs dp with
            | none => rw [hm] at hs; cases hs
            | some dp' =>
              rw [hm] at hs
              obtain ⟨r, h1, h2⟩ := (sweep_iff (f := f + 1) (dp := dp') (by omega)).1 hs
              obtain ⟨ls, r', g1, g2, g3⟩ := (mark_all hlt hm).1 r h1
              have hnd := (List.Perm.nodup_iff g3).1 h2
              have hir : ∀ x ∈ ls.flatten ++ r', x < i := fun x hx => all_lt hk h1 x ((g3.mem_iff).2 hx)
              rw [g1, g2]
              refine ⟨i :: ls.flatten ++ r', rfl, ?_⟩
              rw [List.cons_append, List.nodup_cons]
              exact ⟨fun h => by have := hir i h; omega, hnd⟩
          · rintro ⟨ns, h1, h2⟩
            cases hms : cs.mapM (fun c => nodes kids M (f + 1) c (d + 1 + 1)) with
            | none => rw [hms] at h1; cases h1
            | some ls =>
              rw [hms] at h1
              simp only [Option.map_some] at h1
              cases hr : all kids M (f + 1) dp i with
              | none => rw [hr] at h1; cases h1
              | some r =>
                rw [hr] at h1
                cases h1
                rw [List.cons_append, List.nodup_cons] at h2
                obtain ⟨dp', hm⟩ := mark_some hk hlt hms hr h2.2
                rw [hm]
                obtain ⟨r2, g1, g2⟩ := (mark_all hlt hm).2 ls r hms hr
                exact (sweep_iff (f := f + 1) (by omega)).2 ⟨r2, g1, (List.Perm.nodup_iff g2).2 h2.2⟩
/-- THE LAW: both accept the same. -/
theorem walk_sweep (root f : Nat) (hf : root < f) : (∃ r, walk kids M f (fun _ => false) root 1 = some r) ↔ sweep kids M (root + 1) (fun j => if j = root then 1 else 0) = true := by
  rw [sweep_iff hk (f := f) (by omega)]
  have hz : all kids M f (fun j => if j = root then 1 else 0) root = some [] := by
    have : ∀ i, i ≤ root → all kids M f (fun j => if j = root then 1 else 0) i = some [] := by
      intro i
      induction i with
      | zero => intro _; rfl
      | succ i ih =>
        intro hi
        rw [all, if_neg (by omega)]
        exact ih (by omega)
    exact this root (Nat.le_refl _)
  rw [all, if_pos rfl, hz]
  simp only
  constructor
  · rintro ⟨r, h⟩
    obtain ⟨ns, h1, h2, _⟩ := (walk_iff f _ root 1 r).1 h
    exact ⟨ns ++ [], by rw [h1], by simpa using h2⟩
  · rintro ⟨ns, h1, h2⟩
    cases hn : nodes kids M f root 1 with
    | none => rw [hn] at h1; cases h1
    | some l =>
      rw [hn] at h1
      cases h1
      exact ⟨_, (walk_iff f _ root 1 _).2 ⟨l, hn, by simpa using h2, fun _ _ => rfl, rfl⟩⟩
end
end Tm
end Go.Proofs.YtbemdcbglpjmiaaGreatDoor
