/- Contract: reparteelaw40.begins, where the first row is the beginning of the other one. -/
import Derived.Test.YtnjfphfkjapemaaCutS
namespace Go.Proofs.Ytnjfphfkjapemaa
open Go.RowKit

theorem same_n (A B : Option Addr) (l : List ByteArray) (n m c d : Nat) (hn : n = l.length) (hm : m = l.length) (w : World) (ha : Strs w A l) (hb : Strs w B l) (hl : l.length ≤ 9223372036854775807) :
    Calls Try.prog 21 #[.slice A n c, .slice B m d] w fun e w' => e = .returned (.bool true) ∧ Below w.heap.size w w' := by
  subst hn; subst hm
  refine (same_any A B l l c d w ha hb hl).mono ?_
  rintro e w' ⟨rfl, k, rfl⟩
  exact ⟨by simp, below_drewN (Below.refl _ _) _⟩
set_option maxHeartbeats 800000 in
theorem begins_any (A B : Option Addr) (l m : List ByteArray) (c d : Nat) (w : World) (ha : Strs w A l) (hb : Strs w B m) (hl : l.length ≤ m.length) (hp : l = m.take l.length) (hm : m.length ≤ d) (hmm : m.length ≤ 1000000) :
    Calls Try.prog 20 #[.slice A l.length c, .slice B m.length d] w fun e w' => e = .returned (.bool true) ∧ Below w.heap.size w w' := by
  obtain ⟨i0, hi0, hz0, hz1, hz2⟩ := info_parts infoStr
  have hcut := fun W => run_cut0 (P := Try.prog) 22 9 Try.underlying22 i0 hi0 B m.length d l.length (l.length : Int) rfl (by omega) W
  have hb2 : Strs w B l := by rw [hp]; exact hb.take _
  have CS := Lib.hid (same_n A B l l.length l.length c d rfl rfl w ha hb2 (by omega))
  clear hp hb2 ha hb
  go_enter Try.func20, Try.ntmps20
  go_wp2_with fail
  refine CS.out.mono ?_
  rintro e w1 ⟨rfl, hb⟩
  have B1 := Lib.hid hb
  clear hb
  go_wp2_with fail
  go_ret
  exact ⟨rfl, B1.out⟩
end Go.Proofs.Ytnjfphfkjapemaa
