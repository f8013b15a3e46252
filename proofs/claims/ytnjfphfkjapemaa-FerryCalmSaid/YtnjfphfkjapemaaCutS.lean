/- A cut of a slice of elements of several cells. -/
import Derived.Test.YtnjfphfkjapemaaPlay1
namespace Go.Proofs.Ytnjfphfkjapemaa
open Go.RowKit

def cutS (A : Option Addr) (c lo sz : Nat) : Option Addr := if c = lo then A else A.map (·.add (lo * sz))
theorem run_cutS {P : Program} (t e : TypeId) (i : TypeInfo) (sz : Nat) (ht : P.underlying t = some (.slice e)) (hi : P.info? e = some i) (hs : i.size = sz) (A : Option Addr) (n c lo : Nat) (x : Int) (hx : x = lo) (h1 : lo ≤ n) (W : World) :
    (Instr.slice t (.slice A n c) (some (.int .i64 x)) none none).run P W = .ok (.slice (cutS A c lo sz) (n - lo) (c - lo)) W := by
  subst hx
  have he : P.elem t = e := by simp [Program.elem, ht]
  rw [run_slice_l W t A n c (by rw [he]; exact ht) .i64 lo (by omega) (by omega), he]
  simp [sizeOf, typeInfo, hi, hs, sliced, cutS]
theorem Rd.cutS {w : World} {A : Option Addr} {xs : List Value} (h : Rd w A xs) (lo sz n : Nat) {c : Nat} (hl : xs.length = n * sz) (hc : n ≤ c) : Rd w (cutS A c lo sz) (xs.drop (lo * sz)) := fun hn => by
  have hk : lo * sz < xs.length := by
    rcases Nat.lt_or_ge (lo * sz) xs.length with h1 | h1
    · exact h1
    · exact absurd (List.drop_eq_nil_of_le h1) hn
  have hne : c ≠ lo := by
    rintro rfl
    have := Nat.mul_le_mul_right sz hc
    omega
  obtain ⟨b, off, rfl, hb, hcell⟩ := h.at_ hk
  unfold Proofs.Ytnjfphfkjapemaa.cutS
  rw [if_neg hne]
  refine ⟨b, off + lo * sz, ?_, hb, fun i u hu => ?_⟩
  · simp only [Option.map_some, Addr.add]
    split <;> simp_all
  · rw [List.getElem?_drop] at hu
    have := hcell _ u hu
    rwa [show off + lo * sz + i = off + (lo * sz + i) by omega]
theorem frow_take (l : List Fm) (k : Nat) : frow (l.take k) = (frow l).take (k * 5) := by
  induction l generalizing k with
  | nil => simp [frow]
  | cons a t ih =>
    cases k with
    | zero => simp [frow]
    | succ k =>
      have e : frow (a :: t) = fcells a ++ frow t := rfl
      have e2 : frow (a :: t.take k) = fcells a ++ frow (t.take k) := rfl
      have el : (fcells a).length = 5 := rfl
      rw [List.take_succ_cons, e2, e, ih, List.take_append, el, List.take_of_length_le (l := fcells a) (by rw [el]; omega)]
      congr 2
      omega
theorem frow_drop (l : List Fm) (k : Nat) : frow (l.drop k) = (frow l).drop (k * 5) := by
  have h : frow (l.take k) ++ frow (l.drop k) = frow l := by rw [← frow_append, List.take_append_drop]
  rcases Nat.le_total k l.length with hk | hk
  · rw [← h]
    exact (List.drop_left' (by rw [frow_len, List.length_take]; omega)).symm
  · rw [List.drop_of_length_le hk, List.drop_of_length_le (by rw [frow_len]; omega)]
    rfl
theorem below_grown_none {w w' : World} (h : w.grownBy w' none) : Below w.heap.size w w' := ⟨h.os, h.tape, h.output, h.size, fun k hk => h.block k hk (by simp)⟩
end Go.Proofs.Ytnjfphfkjapemaa
