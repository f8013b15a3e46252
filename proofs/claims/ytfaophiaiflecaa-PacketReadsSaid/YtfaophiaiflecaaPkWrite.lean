/- Contract: packet.write. -/
import Derived.Test.YtfaophiaiflecaaPkFld
namespace Go.Proofs.Ytfaophiaiflecaa
open Go.RowKit

/-- A field of another kind: a number of 64 bits, a list of such, a list of bindings. -/
inductive XK
  | i64
  | l64
  | lB
def XK.fw : XK → Array Value → Value
  | .i64, c => .func (.func 89) #[] c
  | .l64, c => .func (.func 91) #[] c
  | .lB, c => .func (.func 85) #[] c
def XK.fr : XK → Array Value → Value
  | .i64, c => .func (.func 90) #[] c
  | .l64, c => .func (.func 92) #[] c
  | .lB, c => .func (.func 86) #[] c
def XK.fn : XK → Nat
  | .i64 => 89
  | .l64 => 91
  | .lB => 85
/-- A field: a number or a text, as it stands, or another kind by what it writes. -/
inductive Fd
  | num (n : Int)
  | txt (s : ByteArray)
  | ext (k : XK) (cap cap' : Array Value) (bytes : List UInt8)
def Fd.bytes : Fd → List UInt8
  | .num n => numB n
  | .txt s => Proofs.Ytfaophiaiflecaa.txt s.data.toList
  | .ext _ _ _ l => l
def Fd.fw : Fd → Nat → Value
  | .num _, b => numW b
  | .txt _, b => txtW b
  | .ext k c _ _, _ => k.fw c
def Fd.fr : Fd → Nat → Value
  | .num _, b => numR b
  | .txt _, b => txtR b
  | .ext k _ c _, _ => k.fr c
/-- The box b of a field holds where the field lies, and there it lies. -/
def Fd.at : Fd → World → Nat → Prop
  | .num n, w, b => ∃ p, Blk w b #[.pointer (some p)] 88 ∧ w.cell? p = some (.int .i64 n) ∧ -9223372036854775808 ≤ n ∧ n ≤ 9223372036854775807
  | .txt s, w, b => ∃ p, Blk w b #[.pointer (some p)] 90 ∧ w.cell? p = some (.string s) ∧ s.size ≤ 1000000000
  | .ext k c _ l, w, _ => l.length ≤ 1000000010 ∧ ∀ W, Below w.heap.size w W → Calls Try.prog k.fn c W fun e w' => e = .returned (.string ⟨l.toArray⟩) ∧ Below W.heap.size W w'
theorem Fd.at_below {x : Fd} {w w' : World} {b : Nat} (h : x.at w b) (hb : Below w.heap.size w w') : x.at w' b := by
  cases x with
  | num n => obtain ⟨p, h1, h2, h3⟩ := h; exact ⟨p, h1.belowS hb, (hb.cell (World.block_lt_of_cell? w _ h2)).trans h2, h3⟩
  | txt s => obtain ⟨p, h1, h2, h3⟩ := h; exact ⟨p, h1.belowS hb, (hb.cell (World.block_lt_of_cell? w _ h2)).trans h2, h3⟩
  | ext k c c' l => obtain ⟨h2, h3⟩ := h; exact ⟨h2, fun W hw => h3 W (below_next hb hw)⟩
def fdRow (l : List (Fd × Nat)) : List Value := l.flatMap fun x => [x.1.fw x.2, x.1.fr x.2]
def fdBytes (l : List (Fd × Nat)) : List UInt8 := l.flatMap fun x => x.1.bytes
theorem fdRow_get (l : List (Fd × Nat)) (k : Nat) (h : k < l.length) : (fdRow l)[k * 2]? = some (l[k].1.fw l[k].2) ∧ (fdRow l)[k * 2 + 1]? = some (l[k].1.fr l[k].2) := by
  induction l generalizing k with
  | nil => simp at h
  | cons a t ih =>
    have e : fdRow (a :: t) = a.1.fw a.2 :: a.1.fr a.2 :: fdRow t := rfl
    rw [e]
    cases k with
    | zero => exact ⟨rfl, rfl⟩
    | succ k =>
      have := ih k (by simpa using h)
      rw [show (k + 1) * 2 = k * 2 + 1 + 1 by omega, show k * 2 + 1 + 1 + 1 = (k * 2 + 1) + 1 + 1 by omega]
      simpa using this
theorem fdRow_len (l : List (Fd × Nat)) : (fdRow l).length = l.length * 2 := by
  induction l with
  | nil => rfl
  | cons a t ih =>
    have e : fdRow (a :: t) = a.1.fw a.2 :: a.1.fr a.2 :: fdRow t := rfl
    rw [e, List.length_cons, List.length_cons, ih, List.length_cons]; omega
theorem fdBytes_snoc (l : List (Fd × Nat)) (k : Nat) (h : k < l.length) : fdBytes (l.take (k + 1)) = fdBytes (l.take k) ++ l[k].1.bytes := by
  rw [List.take_succ_eq_append_getElem h]
  unfold fdBytes
  rw [List.flatMap_append]
  simp
theorem fd_len {x : Fd} {w : World} {b : Nat} (h : x.at w b) : x.bytes.length ≤ 1000000010 := by
  cases x with
  | num n => have := numB_le n; show (numB n).length ≤ _; omega
  | txt s =>
    obtain ⟨p, _, _, h3⟩ := h
    have := numB_le s.data.toList.length
    have e := ba_size s
    show (numB s.data.toList.length ++ s.data.toList).length ≤ _
    rw [List.length_append]; omega
  | ext k c c' l => exact h.1
theorem fdBytes_len (l : List (Fd × Nat)) (w : World) (h : ∀ x ∈ l, x.1.at w x.2) : (fdBytes l).length ≤ l.length * 1000000010 := by
  induction l with
  | nil => exact Nat.le_refl _
  | cons a t ih =>
    have e : fdBytes (a :: t) = a.1.bytes ++ fdBytes t := rfl
    rw [e, List.length_append, List.length_cons]
    have h1 := fd_len (h a (by simp))
    have h2 := ih (fun x hx => h x (by simp [hx]))
    omega
set_option maxRecDepth 100000 in
set_option maxHeartbeats 1600000 in
theorem write_any (A : Option Addr) (l : List (Fd × Nat)) (c : Nat) (w : World) (ha : Rd w A (fdRow l)) (hok : ∀ x ∈ l, x.1.at w x.2) (hl : l.length ≤ 1000) :
    Calls Try.prog 24 #[.slice A l.length c] w fun e w' => e = .returned (.string ⟨(fdBytes l).toArray⟩) ∧ Below w.heap.size w w' := by
  have HA := Lib.hid (fun W (hb : Below w.heap.size w W) => ha.below hb)
  have HOK := Lib.hid (fun W (hb : Below w.heap.size w W) (k : Nat) (hk : k < l.length) => Fd.at_below (hok l[k] (List.getElem_mem hk)) hb)
  have HLEN := Lib.hid (fun k => fdBytes_len (l.take k) w (fun x hx => hok x (List.mem_of_mem_take hx)))
  clear ha hok
  go_enter Try.func24, Try.ntmps24
  go_wp2_with fail
  go_loopw [3, 8] (fun s i wr => ∃ k : Nat, k ≤ l.length ∧ i = .int .i64 k ∧ s = .string ⟨(fdBytes (l.take k)).toArray⟩ ∧ Hid (Below w.heap.size w wr)) (fun _ i _ => l.length - (intOf i).toNat)
  case atStart => exact ⟨0, Nat.zero_le _, rfl, rfl, Lib.hid (Below.refl _ _)⟩
  case round =>
    obtain ⟨k, hk, rfl, rfl, hB⟩ := hrel
    by_cases hlt : k < l.length
    · obtain ⟨ib, io, hA, hib, hcs⟩ := (HA.out _ hB.out).at_ (i := k * 2) (by rw [fdRow_len]; omega)
      subst hA
      obtain ⟨g0, g1⟩ := fdRow_get l k hlt
      have c0 := hcs (k * 2) _ g0
      have c1 := hcs (k * 2 + 1) _ g1
      rw [← Nat.add_assoc] at c1
      have hat := HOK.out _ hB.out k hlt
      have hsn := fdBytes_snoc l k hlt
      have HSN := Lib.hid hsn
      have hln := HLEN.out k
      have hfl := fd_len hat
      have hlt1 : (l.take k).length ≤ 1000 := by rw [List.length_take]; omega
      clear hcs g0 g1 hsn
      generalize l[k] = x at *
      obtain ⟨x, b⟩ := x
      dsimp only at hfl hat c0 c1 HSN
      have hz1 : ¬ 9223372036854775807 < (fdBytes (l.take k)).length + x.bytes.length := by
        have : (l.take k).length * 1000000010 ≤ 1000 * 1000000010 := Nat.mul_le_mul_right _ hlt1
        omega
      clear hln hfl hlt1
      generalize fdBytes (l.take k) = X at *
      cases x with
      | num n =>
        obtain ⟨p, h1, h2, h3, h4⟩ := hat
        have CC := Lib.hid (fun W (hw : Below wr.heap.size wr W) => numberInt1_any b p n W (h1.belowS hw) ((hw.cell (World.block_lt_of_cell? _ _ h2)).trans h2) h3 h4)
        have HAP := Lib.hid (ba_app' X (numB n))
        clear h1 h2 h3 h4
        dsimp only [Fd.fw, Fd.fr, Fd.bytes] at *
        go_wp2_with fail
        refine (CC.out _ (below_allocS (Below.refl _ _) _)).mono ?_
        rintro e w1 ⟨rfl, hb1⟩
        have B1 := Lib.hid (below_next hB.out (below_of_alloc hb1))
        clear hb1 CC
        go_wp2_with fail
        exact ⟨⟨k + 1, by omega, by go_num, by rw [HSN.out, ← HAP.out], B1⟩, by simp [intOf]; omega⟩
      | txt s =>
        obtain ⟨p, h1, h2, h3⟩ := hat
        have CC := Lib.hid (fun W (hw : Below wr.heap.size wr W) => text1_any b p s W (h1.belowS hw) ((hw.cell (World.block_lt_of_cell? _ _ h2)).trans h2) (by omega))
        have HAP := Lib.hid (ba_app' X (Proofs.Ytfaophiaiflecaa.txt s.data.toList))
        clear h1 h2 h3
        dsimp only [Fd.fw, Fd.fr, Fd.bytes] at *
        go_wp2_with fail
        refine (CC.out _ (below_allocS (Below.refl _ _) _)).mono ?_
        rintro e w1 ⟨rfl, hb1⟩
        have B1 := Lib.hid (below_next hB.out (below_of_alloc hb1))
        clear hb1 CC
        go_wp2_with fail
        exact ⟨⟨k + 1, by omega, by go_num, by rw [HSN.out, ← HAP.out], B1⟩, by simp [intOf]; omega⟩
      | ext kd cp cp' L =>
        obtain ⟨h2, h3⟩ := hat
        have CC := Lib.hid h3
        have HAP := Lib.hid (ba_app' X L)
        clear h2 h3
        cases kd
        all_goals
          dsimp only [Fd.fw, Fd.fr, Fd.bytes, XK.fw, XK.fr, XK.fn] at *
          go_wp2_with fail
          refine (CC.out _ (below_allocS (Below.refl _ _) _)).mono ?_
          rintro e w1 ⟨rfl, hb1⟩
          have B1 := Lib.hid (below_next hB.out (below_of_alloc hb1))
          clear hb1 CC
          go_wp2_with fail
          exact ⟨⟨k + 1, by omega, by go_num, by rw [HSN.out, ← HAP.out], B1⟩, by simp [intOf]; omega⟩
    · go_wp2_with fail
      go_ret
      rw [show l.take k = l from List.take_of_length_le (by omega)]
      exact ⟨rfl, hB.out⟩
end Go.Proofs.Ytfaophiaiflecaa
