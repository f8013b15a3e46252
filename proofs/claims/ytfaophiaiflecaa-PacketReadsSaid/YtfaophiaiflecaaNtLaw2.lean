/- Plain: what is read is just what was written: reading's inverse from the other side. -/
import Derived.Test.YtfaophiaiflecaaNtLaw
namespace Go.Proofs.Ytfaophiaiflecaa
open Go.RowKit

theorem readFrom_back : ∀ (l : List UInt8) (i a u k : Nat), readFrom i a l = some (u, k) → ∃ v, u = a + v * 2 ^ (7 * i) ∧ v < 2 ^ (64 - 7 * i) ∧ (i = 0 ∨ 0 < v) ∧ l = vb (10 - i) v ++ l.drop (k - i) ∧ k = i + (vb (10 - i) v).length := by
  intro l
  induction l with
  | nil => intro i a u k h; cases h
  | cons c r ih =>
    intro i a u k h
    unfold readFrom at h
    have hc := c.toNat_lt
    split at h
    · cases h
    · rename_i hi
      split at h
      · cases h
      · rename_i h9
        split at h
        · rename_i hlt
          split at h
          · cases h
          · rename_i h0
            injection h with h
            injection h with h1 h2
            subst h1 h2
            refine ⟨c.toNat, by rw [Nat.mod_eq_of_lt hlt], ?_, ?_, ?_, ?_⟩
            · by_cases e9 : i = 9
              · subst e9; simp; omega
              · have : 2 ^ 7 ≤ 2 ^ (64 - 7 * i) := Nat.pow_le_pow_right (by omega) (by omega)
                omega
            · omega
            · rw [show 10 - i = (9 - i) + 1 by omega]
              unfold vb
              rw [if_pos hlt]
              have e : UInt8.ofNat c.toNat = c := by simp
              rw [e, show i + 1 - i = 1 by omega]
              rfl
            · rw [show 10 - i = (9 - i) + 1 by omega]
              unfold vb
              rw [if_pos hlt]
              rfl
        · rename_i hge
          obtain ⟨v, h1, h2, h3, h4, h5⟩ := ih _ _ _ _ h
          have hi9 : i < 9 := by
            rcases Nat.lt_or_ge i 9 with h | h
            · exact h
            · have : i = 9 := by omega
              subst this
              omega
          have hp : 2 ^ (64 - 7 * i) = 2 ^ (64 - 7 * (i + 1)) * 128 := by
            rw [show (128 : Nat) = 2 ^ 7 from rfl, ← Nat.pow_add]
            congr 1
            omega
          have hv : 0 < v := by omega
          have hd : (c.toNat % 128 + 128 * v) / 128 = v := by omega
          have hm : (c.toNat % 128 + 128 * v) % 128 + 128 = c.toNat := by omega
          have ec : UInt8.ofNat ((c.toNat % 128 + 128 * v) % 128 + 128) = c := by rw [hm]; simp
          have evb : vb (10 - i) (c.toNat % 128 + 128 * v) = c :: vb (10 - (i + 1)) v := by
            rw [show 10 - i = (9 - i) + 1 by omega]
            rw [show 10 - (i + 1) = 9 - i by omega]
            show (if c.toNat % 128 + 128 * v < 128 then _ else _) = _
            rw [if_neg (by omega), ec, hd]
          have hk : i + 1 ≤ k := by omega
          refine ⟨c.toNat % 128 + 128 * v, ?_, ?_, .inr (by omega), ?_, ?_⟩
          · rw [h1, Nat.add_mul, Nat.add_assoc]
            congr 2
            rw [show 7 * (i + 1) = 7 + 7 * i by omega, Nat.pow_add, ← Nat.mul_assoc]
            congr 1
            omega
          · rw [hp]; omega
          · rw [evb, List.cons_append, show k - i = (k - (i + 1)) + 1 by omega, List.drop_succ_cons, ← h4]
          · rw [evb, List.length_cons]; omega
theorem zz_uzz (u : Nat) : zz (uzz u) = u := by
  unfold zz uzz
  split <;> split <;> omega
theorem uzz_64 (u : Nat) (h : u < 18446744073709551616) : I64 (uzz u) := by
  unfold I64 uzz
  split <;> omega
theorem readF_back {l : List UInt8} {n : Int} {k : Nat} (h : readF l = (n, k, true)) : l = numB n ++ l.drop k ∧ k = (numB n).length ∧ I64 n := by
  unfold readF at h
  split at h
  · rename_i u k' he
    injection h with h1 h
    injection h with h2 _
    subst h1 h2
    obtain ⟨v, h1, h2, _, h4, h5⟩ := readFrom_back l 0 0 u k' he
    simp at h1 h2 h4 h5
    subst h1
    unfold numB
    rw [zz_uzz]
    exact ⟨h4, h5, uzz_64 _ (by simpa using h2)⟩
  · injection h with _ h
    injection h with _ h
    cases h
theorem oneN_fore {s r : List UInt8} {n : Int} (h : oneN s = some (n, r)) : s = numB n ++ r ∧ I64 n := by
  unfold oneN at h
  split at h
  · rename_i n' k he
    injection h with h
    injection h with h1 h2
    subst h1 h2
    obtain ⟨h1, h2, h3⟩ := readF_back he
    exact ⟨h1, h3⟩
  · cases h
theorem oneT_fore {s r : List UInt8} {t : ByteArray} (h : oneT s = some (t, r)) : s = txt t.data.toList ++ r := by
  unfold oneT cutT at h
  split at h
  · rename_i b r' he
    injection h with h
    injection h with h1 h2
    subst h1 h2
    split at he
    · rename_i n k hr
      split at he
      · cases he
      · rename_i hn
        injection he with h1 h2
        injection h2 with h2 _
        subst h1 h2
        obtain ⟨e1, e2, e3⟩ := readF_back hr
        have hk := readF_le hr
        have hlen : ((s.drop k).take n.toNat).length = n.toNat := by rw [List.length_take, List.length_drop]; omega
        have : txt (⟨((s.drop k).take n.toNat).toArray⟩ : ByteArray).data.toList = numB n ++ (s.drop k).take n.toNat := by
          show txt ((s.drop k).take n.toNat) = _
          unfold txt
          rw [hlen, Int.toNat_of_nonneg (by omega)]
        rw [this, List.append_assoc, ← List.drop_drop, List.take_append_drop]
        exact e1
    · cases he
  · cases h
theorem manyN_fore : ∀ (n : Nat) (s r : List UInt8) (l : List Int), manyF oneN n s = some (l, r) → s = nums64 l ++ r ∧ l.length = n ∧ ∀ x ∈ l, I64 x := by
  intro n
  induction n with
  | zero => intro s r l h; simp [manyF] at h; obtain ⟨rfl, rfl⟩ := h; exact ⟨rfl, rfl, by simp⟩
  | succ n ih =>
    intro s r l h
    unfold manyF at h
    split at h
    · cases h
    · rename_i x s1 h1
      split at h
      · cases h
      · rename_i l' r' h2
        injection h with h
        injection h with h3 h4
        subst h3 h4
        obtain ⟨e1, e2⟩ := oneN_fore h1
        obtain ⟨e3, e4, e5⟩ := ih _ _ _ h2
        refine ⟨?_, by simp [e4], fun y hy => ?_⟩
        · rw [e1, e3, ← List.append_assoc]; rfl
        · rcases List.mem_cons.1 hy with rfl | hy
          · exact e2
          · exact e5 y hy
theorem listN_fore {s r : List UInt8} {l : List Int} (h : listF oneN s = some (l, r)) : s = l64B l ++ r ∧ ∀ x ∈ l, I64 x := by
  unfold listF at h
  split at h
  · cases h
  · rename_i n s1 h1
    split at h
    · cases h
    · rename_i hn
      obtain ⟨e1, e2⟩ := oneN_fore h1
      obtain ⟨e3, e4, e5⟩ := manyN_fore _ _ _ _ h
      refine ⟨?_, e5⟩
      unfold l64B
      rw [e1, e3, e4, Int.toNat_of_nonneg (by omega), List.append_assoc]
theorem oneV_fore {s r : List UInt8} {v : Vl} (h : oneV s = some (v, r)) : s = vlB v ++ r ∧ I64 v.kind ∧ I64 v.n ∧ ∀ x ∈ v.l, I64 x := by
  unfold oneV at h
  split at h
  · cases h
  rename_i k s1 h1
  split at h
  · cases h
  rename_i n s2 h2
  split at h
  · cases h
  rename_i t s3 h3
  split at h
  · cases h
  rename_i l s4 h4
  injection h with h
  injection h with h5 h6
  subst h5 h6
  obtain ⟨e1, f1⟩ := oneN_fore h1
  obtain ⟨e2, f2⟩ := oneN_fore h2
  have e3 := oneT_fore h3
  obtain ⟨e4, f4⟩ := listN_fore h4
  refine ⟨?_, f1, f2, f4⟩
  unfold vlB
  rw [e1, e2, e3, e4]
  simp only [List.append_assoc]
theorem oneB_fore {s r : List UInt8} {b : Bd} (h : oneB s = some (b, r)) : s = bdB b ++ r ∧ I64 b.v.kind ∧ I64 b.v.n ∧ ∀ x ∈ b.v.l, I64 x := by
  unfold oneB at h
  split at h
  · cases h
  rename_i k s1 h1
  split at h
  · cases h
  rename_i n s2 h2
  injection h with h
  injection h with h5 h6
  subst h5 h6
  have e1 := oneT_fore h1
  obtain ⟨e2, f2⟩ := oneV_fore h2
  refine ⟨?_, f2⟩
  unfold bdB
  rw [e1, e2]
  simp only [List.append_assoc]
theorem manyB_fore : ∀ (n : Nat) (s r : List UInt8) (l : List Bd), manyF oneB n s = some (l, r) → s = bdsB l ++ r ∧ l.length = n ∧ ∀ b ∈ l, I64 b.v.kind ∧ I64 b.v.n ∧ ∀ x ∈ b.v.l, I64 x := by
  intro n
  induction n with
  | zero => intro s r l h; simp [manyF] at h; obtain ⟨rfl, rfl⟩ := h; exact ⟨rfl, rfl, by simp⟩
  | succ n ih =>
    intro s r l h
    unfold manyF at h
    split at h
    · cases h
    · rename_i x s1 h1
      split at h
      · cases h
      · rename_i l' r' h2
        injection h with h
        injection h with h3 h4
        subst h3 h4
        obtain ⟨e1, e2⟩ := oneB_fore h1
        obtain ⟨e3, e4, e5⟩ := ih _ _ _ h2
        refine ⟨?_, by simp [e4], fun y hy => ?_⟩
        · rw [e1, e3, ← List.append_assoc]; rfl
        · rcases List.mem_cons.1 hy with rfl | hy
          · exact e2
          · exact e5 y hy
theorem listB_fore {s r : List UInt8} {l : List Bd} (h : listF oneB s = some (l, r)) : s = envB l ++ r ∧ ∀ b ∈ l, I64 b.v.kind ∧ I64 b.v.n ∧ ∀ x ∈ b.v.l, I64 x := by
  unfold listF at h
  split at h
  · cases h
  · rename_i n s1 h1
    split at h
    · cases h
    · rename_i hn
      obtain ⟨e1, e2⟩ := oneN_fore h1
      obtain ⟨e3, e4, e5⟩ := manyB_fore _ _ _ _ h
      refine ⟨?_, e5⟩
      unfold envB
      rw [e1, e3, e4, Int.toNat_of_nonneg (by omega), List.append_assoc]
theorem oneNt_fore {s r : List UInt8} {x : Nt} (h : oneNt s = some (x, r)) : s = noteB x ++ r ∧ I64 x.kind ∧ I64 x.seat ∧ I64 x.proc ∧ I64 x.v.kind ∧ I64 x.v.n ∧ (∀ n ∈ x.v.l, I64 n) ∧ ∀ b ∈ x.env, I64 b.v.kind ∧ I64 b.v.n ∧ ∀ x ∈ b.v.l, I64 x := by
  unfold oneNt at h
  split at h
  · cases h
  rename_i k s1 h1
  split at h
  · cases h
  rename_i ag s2 h2
  split at h
  · cases h
  rename_i se s3 h3
  split at h
  · cases h
  rename_i st s4 h4
  split at h
  · cases h
  rename_i pe s5 h5
  split at h
  · cases h
  rename_i la s6 h6
  split at h
  · cases h
  rename_i v s7 h7
  split at h
  · cases h
  rename_i pr s8 h8
  split at h
  · cases h
  rename_i en s9 h9
  injection h with h
  injection h with ha hb
  subst ha hb
  obtain ⟨e1, f1⟩ := oneN_fore h1
  have e2 := oneT_fore h2
  have e3 := oneT_fore h3
  obtain ⟨e4, f4⟩ := oneN_fore h4
  have e5 := oneT_fore h5
  have e6 := oneT_fore h6
  obtain ⟨e7, f7, f7', f7''⟩ := oneV_fore h7
  obtain ⟨e8, f8⟩ := oneN_fore h8
  obtain ⟨e9, f9⟩ := listB_fore h9
  refine ⟨?_, f1, f4, f8, f7, f7', f7'', f9⟩
  unfold noteB
  rw [e1, e2, e3, e4, e5, e6, e7, e8, e9]
  simp only [List.append_assoc]
end Go.Proofs.Ytfaophiaiflecaa
