/- VerifyHand returns true, whatever its argument is, where package verify's variable holds what the program lays. -/
import Derived.Test.YtbnnfoimkdbjaaaGreatDoorHvB
import Derived.Test.YtbnnfoimkdbjaaaGreatDoorHfA
import Derived.Test.YtbnnfoimkdbjaaaGreatDoorHfB
import Derived.Test.YtbnnfoimkdbjaaaGreatDoorHfC
import Derived.Test.YtbnnfoimkdbjaaaGreatDoorHfD
import Derived.Test.YtbnnfoimkdbjaaaGreatDoorHfE
import Derived.Test.YtbnnfoimkdbjaaaGreatDoorHfF
import Derived.Test.YtbnnfoimkdbjaaaGreatDoorHfG
namespace Go.Proofs.YtbnnfoimkdbjaaaGreatDoor
open Go.RowKit
namespace Kv
open Ev
theorem orcs_nil (w0 : World) : OrcsOk w0 [] := fun o h => by cases h
theorem orcs_one {w0 : World} {o : Orc} (h : CallOk Tryz.prog w0 fun f args σ => match Nat.beq f o.f with | true => tryO o args σ | false => none) : OrcsOk w0 [o] := fun o' ho => by
  simp at ho
  subst ho
  exact h
theorem orcs_cons {w0 : World} {o : Orc} {l : List Orc} (h : CallOk Tryz.prog w0 fun f args σ => match Nat.beq f o.f with | true => tryO o args σ | false => none) (hl : OrcsOk w0 l) : OrcsOk w0 (o :: l) := fun o' ho => by
  rcases List.mem_cons.1 ho with rfl | ho
  · exact h
  · exact hl o' ho
theorem hand_orcs (w0 : World) : OrcsOk w0 handOrcs := by
  have e := orcs_nil w0
  have first : OrcsOk w0 [o5_64, o7_757, o48_2337, o48_3772] :=
    orcs_cons (orc_ok (orcs_one (orc_ok e f24_66)) f5_64) (orcs_cons (orc_ok (orcs_one (orc_ok e f30_761)) f7_757) (orcs_cons (orc_ok e f48_2337) (orcs_one (orc_ok e f48_3772))))
  exact orcs_cons (orc_ok first f4_64) (orcs_cons (orc_ok (orcs_one (orc_ok e f24_4046)) f5_4044) (orcs_cons (orc_ok (orcs_one (orc_ok e f24_4768)) f5_4766)
    (orcs_cons (orc_ok (orcs_one (orc_ok e f30_5463)) f7_5459) (orcs_one (orc_ok e f48_20000)))))
theorem hand_all (k : Nat) (hk : k < 18) : handFact k = true := by
  match k, hk with
  | 0, _ => exact h0
  | 1, _ => exact h1
  | 2, _ => exact h2
  | 3, _ => exact h3
  | 4, _ => exact h4
  | 5, _ => exact h5
  | 6, _ => exact h6
  | 7, _ => exact h7
  | 8, _ => exact h8
  | 9, _ => exact h9
  | 10, _ => exact h10
  | 11, _ => exact h11
  | 12, _ => exact h12
  | 13, _ => exact h13
  | 14, _ => exact h14
  | 15, _ => exact h15
  | 16, _ => exact h16
  | 17, _ => exact h17
  | k + 18, h => omega
/-- Where the blocks lie ahead of the call. -/
def mStart (d : Nat) : M := fun i => if i < 63 then some (i, 0) else if i = 63 then some (63, d) else none
theorem rel_start {W : World} {d : Nat} {cs : Array Value} {t : TypeId} (h : W.heap[0]? = some (.cells cs t (0, 0))) (hs : cs.toList = [.int .i64 (-1), .int .i64 0]) :
    HR { W with drawn := d } (mStart d) (lst 64 laidG) W := by
  have key : ∀ i b, (lst 64 laidG).heap.get i = some b → i = 0 ∧ b = (LB.row 0 none [im 0, ip 0]).toB := by
    intro i b hb
    rcases get_putAll hb with ⟨y, h1, h2⟩ | ⟨_, h2⟩
    · simp [laidG] at h1
      exact ⟨h1.1, by rw [h2, h1.2]⟩
    · rw [T.get_nil] at h2; cases h2
  refine ⟨⟨rfl, rfl, rfl, Nat.le_refl _, fun _ _ => rfl⟩, fun g hg => by simp [mStart, hg], by simp [mStart], Nat.le_refl 64, fun i hi => ?_, fun i r hi hr => ?_, fun i b r hi hr => ?_, fun i j bi bj r q hi hj hr hq _ => ?_⟩
  · have hi : 64 ≤ i := hi
    unfold mStart
    rw [if_neg (by omega), if_neg (by omega)]
  · have : mStart d i = none := by
      unfold mStart
      rw [if_neg (by omega), if_neg (by omega)]
    rw [this] at hr; cases hr
  · obtain ⟨rfl, rfl⟩ := key i b hi
    have hr : r = (0, 0) := by simp [mStart] at hr; exact hr.symm
    subst hr
    refine ⟨cs, t, (0, 0), h, by simp, ?_, fun j c hj hc => ?_, ?_⟩
    · have := congrArg List.length hs
      simp at this
      show 2 ≤ cs.size
      omega
    · rw [fill_eq, T.get_fill, T.get_nil] at hc
      split at hc
      · have hl : ([im 0, ip 0] : List C)[j]? = some c := by simpa using hc
        match j, hl with
        | 0, hl =>
          cases hl
          exact ⟨.int .i64 (-1), by rw [← Array.getElem?_toList, hs]; rfl, (show Value.int .i64 (-1) = .int .i64 (.negSucc 0) from rfl)⟩
        | 1, hl =>
          cases hl
          exact ⟨.int .i64 0, by rw [← Array.getElem?_toList, hs]; rfl, (show Value.int .i64 0 = .int .i64 (.ofNat 0) from rfl)⟩
        | j + 2, hl => simp at hl
      · cases hc
    · have := congrArg List.length hs
      simp at this
      exact this
  · rw [(key i bi hi).1, (key j bj hj).1]
theorem hand_walk (x : Int) (W : World) {cs : Array Value} {t : TypeId} (h : W.heap[0]? = some (.cells cs t (0, 0))) (hs : cs.toList = [.int .i64 (-1), .int .i64 0]) :
    Calls Tryz.prog 3 #[.int .i64 x] W fun e w' => e = .returned (.bool true) ∧ Below W.heap.size W w' := by
  obtain ⟨d, hd⟩ := dec_surj x
  have hlow := lowF_lt x 18 (by omega)
  obtain ⟨k, hk⟩ : ∃ k : Nat, lowF x 18 = k := ⟨(lowF x 18).toNat, by omega⟩
  have hk18 : k < 18 := by omega
  have hfact := hand_all k hk18
  unfold handFact at hfact
  split at hfact
  · rename_i y hy
    have hyv := vSame_eq hfact
    have hok := ev_ok (w0 := { W with drawn := d }) (hand_orcs _) (k := some k) (fun j hj => by cases hj; rw [← hk]; exact congrArg (lowF · 18) hd)
    have hv : All2 (VR (mStart d)) [.sym] (#[Value.int .i64 x] : Array Value).toList := ⟨⟨(63, d), by simp [mStart], by rw [← hd]⟩, trivial⟩
    rcases hok 3 [.sym] _ y.1 y.2 (mStart d) W #[.int .i64 x] hy (rel_start h hs) hv with ⟨m', v', w', _, h5, _⟩ | ⟨_, h6⟩
    · have hname : ¬ (Tryz.f3.name = "runtime.NumGoroutine") := by
        have : (Tryz.f3.name == "runtime.NumGoroutine") = false := by kernel_rfl
        simpa using this
      have hbody : ¬ (Tryz.f3.body = none) := fun h => by
        have : Tryz.f3.body.isNone = false := by kernel_rfl
        rw [h] at this
        cases this
      have he : (callFunc 3 #[.int .i64 x]).run Tryz.prog W = .ok (.enter 3 #[.int .i64 x]) W := by simp [callFunc, Tryz.func3, hname, hbody]
      rw [he] at h5
      cases h5
    · refine h6.mono ?_
      rintro e w' ⟨m', v', rfl, _, hH, hvr⟩
      rw [hyv] at hvr
      have hvr : v' = .bool true := hvr
      subst hvr
      exact ⟨rfl, hH.below.os, hH.below.tape, hH.below.output, hH.below.size, hH.below.block⟩
  · cases hfact
end Kv
end Go.Proofs.YtbnnfoimkdbjaaaGreatDoor
