/- Walk: reparteelaw30.FoldValues. -/
import Derived.Test.YtbemdcbglpjmiaaGreatDoorFpE
import Derived.Test.YtbemdcbglpjmiaaGreatDoorFqC
import Derived.Test.YtbemdcbglpjmiaaGreatDoorFvA
namespace Go.Proofs.YtbemdcbglpjmiaaGreatDoor
open Go.RowKit

/-- What an evaluation hands back is the same value for r, or the zero value and an error. -/
def outV (r : Option Vl) : Vl := r.getD ⟨0, 0, e0, []⟩
theorem ev_out {r : Option Vl} {w w' : World} {i0 i1 : Int} {s : ByteArray} {A : Option Addr} {m c : Nat} {k : Int} (h : EvIs r w w' i0 i1 s A m c k) (hr : ∀ v, r = some v → VlOk v) :
    i0 = (outV r).kind ∧ i1 = (outV r).n ∧ s = (outV r).s ∧ m = (outV r).l.length ∧ Ints w' A (outV r).l ∧ (k == 0) = r.isSome ∧ (outV r).l.length ≤ 16 := by
  cases r with
  | none =>
    obtain ⟨h1, h2, h3, h4, h5, h6, h7⟩ := h
    exact ⟨h1, h2, h3, h5, Rd.nil, by simpa using h7, by simp [outV]⟩
  | some v =>
    obtain ⟨h1, h2, h3, h4, h5, h6, _, _⟩ := h
    exact ⟨h1, h2, h3, h4, h6, by rw [h5]; rfl, (hr v rfl).l⟩
/-- What the law's calls hand back, where the row is accepted. -/
theorem val_all (l : List Tm) (A : Option Addr) (c : Nat) (root : Int) (bs : List Bd) (E : Option Addr) (ec : Nat) (hl : l.length ≤ 200) (hb : bs.length ≤ 30) (hm : tmF l root = true) :
    ∃ (m : List Tm) (r : Option Vl), m.length ≤ l.length ∧ m.length ≤ 1000 ∧ tmF m ((m.length : Int) - 1) = true ∧ (∀ v, r = some v → VlOk v) ∧
      (∀ w, Tms w A l → Calls Tryz.prog 7 #[.slice A l.length c, .int .i64 root] w (fun e w' => ∃ B d, e = .returned (.tuple #[.slice B m.length d, .int .i64 ((m.length : Int) - 1)]) ∧ Tms w' B m ∧ Below w.heap.size w w')) ∧
      (∀ w, Tms w A l → Env w E bs → Calls Tryz.prog 13 #[.slice A l.length c, .int .i64 root, .slice E bs.length ec] w (EvPost r w)) ∧
      (∀ w B d, Tms w B m → Env w E bs → Calls Tryz.prog 13 #[.slice B m.length d, .int .i64 ((m.length : Int) - 1), .slice E bs.length ec] w (EvPost r w)) ∧
      (∀ w B d, Tms w B m → Calls Tryz.prog 7 #[.slice B m.length d, .int .i64 ((m.length : Int) - 1)] w (fun e w' => ∃ B d, e = .returned (.tuple #[.slice B m.length d, .int .i64 ((m.length : Int) - 1)]) ∧ Tms w' B m ∧ Below w.heap.size w w')) := by
  obtain ⟨x, hx, hx0, hO, hs, hd⟩ := tm_tree hm
  have h160 : l.length ≤ 160 := by
    unfold tmF at hm
    rw [Bool.and_eq_true, decide_eq_true_iff] at hm
    exact hm.1.1
  obtain ⟨fo, fs, fd⟩ := fold_ok hO
  have f0 : foldF x ≠ .nil := fun h => hx0 (fold_nil.1 h)
  have hlen := lay_len (foldF x) []
  have hlast := lay_last (foldF x) [] f0
  have hmay := lay_may fo f0 (by omega) (by omega)
  have hgr := lay_gr (foldF x) [] _ (List.prefix_refl _)
  simp only [List.length_nil, Nat.zero_add] at hlen hgr
  have hev : ∀ (L : List Tm) (D : Option Addr) (d : Nat) (rt : Int) (y : Tr) (w : World), y ≠ .nil → y.Ok → Gr L rt y → Tms w D L → tmF L rt = true → L.length ≤ 1000000 → Env w E bs →
      Calls Tryz.prog 13 #[.slice D L.length d, .int .i64 rt, .slice E bs.length ec] w (EvPost (evF (lfV bs) y) w) := fun L D d rt y w y0 yo yg hT hm hl hE =>
    rEval_any (fun t => fldF t = true ∧ arF t.kind = 0) (lfV bs) L D d rt E bs.length ec w
      (fun t w' ht hb => by rw [lfV_eq bs t ht.1]; exact rleaf_any bs E ec t ht.1 ht.2 w' (hE.below hb) (by omega)) (lfV_ok bs) y y0 yo (ok_all yo) yg hT hm hl
  obtain ⟨m, hmm⟩ : ∃ m, m = (layF (foldF x) []).1 := ⟨_, rfl⟩
  have hy0 : layT (foldF x) 0 ≠ .nil := fun h => f0 (layT_nil.1 h)
  have hyo := layT_ok (n := 0) fo
  have hsz := layT_size (foldF x) 0
  have hfy := fd_fold (layT_fd (n := 0) (fold_fd x))
  have hly := layT_lay (foldF x) 0 []
  have e1 : evF (lfV bs) (layT (foldF x) 0) = evF (lfV bs) x := by rw [lay_ev (lfV_at bs), fold_ev (lfV_lit bs) hO]
  rw [hlast, ← hmm] at hmay hgr
  rw [← hmm] at hlen
  refine ⟨m, evF (lfV bs) x, by omega, by omega, hmay, fun v h => evF_ok (lfV_ok bs) h, fun w hT => ?_, fun w hT hE => hev l A c root x w hx0 hO hx hT hm (by omega) hE, fun w B d hT hE => ?_, fun w B d hT => ?_⟩
  · refine (fTerm_yes l A c root w hT (by omega) hm x hx hO (by omega)).mono ?_
    rintro e w' ⟨B, d, rfl, h2, h3⟩
    rw [hlast, ← hmm]
    rw [← hmm] at h2
    exact ⟨B, d, rfl, h2, h3⟩
  · rw [← e1]
    exact hev m B d _ _ w hy0 hyo hgr hT hmay (by omega) hE
  · refine (fTerm_yes m B d _ w hT (by omega) hmay _ hgr hyo (by omega)).mono ?_
    rintro e w' ⟨B', d', rfl, h2, h3⟩
    rw [hfy, hly] at h2 ⊢
    rw [hlast, ← hmm]
    rw [← hmm] at h2
    exact ⟨B', d', rfl, h2, h3⟩
set_option maxRecDepth 100000 in
set_option maxHeartbeats 8000000 in
theorem values_walk (l : List Tm) (A : Option Addr) (c : Nat) (root : Int) (bs : List Bd) (E : Option Addr) (ec : Nat) (w : World) (ht : Tms w A l) (he : Env w E bs) (bl : l.length ≤ 9223372036854775807) (bb : bs.length ≤ 9223372036854775807) :
    Calls Tryz.prog 4 #[.slice A l.length c, .int .i64 root, .slice E bs.length ec] w fun e w' => e = .returned (.bool true) ∧ Below w.heap.size w w' := by
  have CF := Lib.hid (fun W => Kv.first_any W)
  have HT := Lib.hid ht
  have HE := Lib.hid he
  clear ht he
  by_cases h1 : 200 < l.length
  · have e1 : decide ((200 : Int) < (l.length : Int)) = true := decide_eq_true (by omega)
    clear h1
    go_enter Tryz.func4, Tryz.ntmps4
    go_wp2_with fail
    refine (CF.out _).mono ?_
    rintro e w1 ⟨rfl, hb⟩
    have HB := Lib.hid hb
    clear hb
    go_wp2_with fail
    go_ret
    exact ⟨rfl, HB.out⟩
  have e1 : decide ((200 : Int) < (l.length : Int)) = false := decide_eq_false (by omega)
  by_cases h2 : 30 < bs.length
  · have e2 : decide ((30 : Int) < (bs.length : Int)) = true := decide_eq_true (by omega)
    clear h2
    go_enter Tryz.func4, Tryz.ntmps4
    go_wp2_with fail
    refine (CF.out _).mono ?_
    rintro e w1 ⟨rfl, hb⟩
    have HB := Lib.hid hb
    clear hb
    go_wp2_with fail
    go_ret
    exact ⟨rfl, HB.out⟩
  have e2 : decide ((30 : Int) < (bs.length : Int)) = false := decide_eq_false (by omega)
  have CM := Lib.hid (fun W h => tmay_any l A c root W h (by omega))
  cases hm : tmF l root with
  | false =>
    have HM := Lib.hid hm
    clear hm h1 h2
    go_enter Tryz.func4, Tryz.ntmps4
    go_wp2_with fail
    refine (CF.out _).mono ?_
    rintro e w1 ⟨rfl, hb⟩
    have HB := Lib.hid hb
    clear hb
    go_wp2_with fail
    refine (CM.out w1 (HT.out.below HB.out)).mono ?_
    rintro e w2 ⟨rfl, hb2⟩
    rw [HM.out]
    have HB2 := Lib.hid (below_next HB.out hb2)
    clear hb2
    go_wp2_with fail
    go_ret
    exact ⟨rfl, HB2.out⟩
  | true =>
    obtain ⟨m, r, hml, hm1000, hmm, hrok, c1, c2, c3, c4⟩ := val_all l A c root bs E ec (by omega) (by omega) hm
    have HM := Lib.hid hm
    have HMM := Lib.hid hmm
    have HROK := Lib.hid hrok
    have C1 := Lib.hid c1
    have C2 := Lib.hid c2
    have C3 := Lib.hid c3
    have C4 := Lib.hid c4
    have CM2 := Lib.hid (fun W B d h => tmay_any m B d ((m.length : Int) - 1) W h (by omega))
    have hgt : decide (l.length < m.length) = false := decide_eq_false (by omega)
    have HM1000 := Lib.hid hm1000
    clear hm h1 h2 hmm hrok c1 c2 c3 c4 hml
    go_enter Tryz.func4, Tryz.ntmps4
    go_wp2_with fail
    refine (CF.out _).mono ?_
    rintro e w1 ⟨rfl, hb⟩
    have HB := Lib.hid hb
    clear hb
    go_wp2_with fail
    refine (CM.out w1 (HT.out.below HB.out)).mono ?_
    rintro e w2 ⟨rfl, hb2⟩
    rw [HM.out]
    have HB2 := Lib.hid (below_next HB.out hb2)
    clear hb2
    go_wp2_with fail
    refine (C1.out w2 (HT.out.below HB2.out)).mono ?_
    rintro e w3 ⟨B3, d3, rfl, ht3, hb3⟩
    have HB3 := Lib.hid (below_next HB2.out hb3)
    have HT3 := Lib.hid ht3
    clear ht3 hb3
    go_wp2_with fail
    refine (CM2.out w3 B3 d3 HT3.out).mono ?_
    rintro e w4 ⟨rfl, hb4⟩
    rw [HMM.out]
    have HB4 := Lib.hid (below_next HB3.out hb4)
    have HT4 := Lib.hid (HT3.out.below hb4)
    clear hb4
    go_wp2_with fail
    refine (C2.out w4 (HT.out.below HB4.out) (HE.out.below HB4.out)).mono ?_
    rintro e w5 ⟨i0, i1, s5, Q5, m5, c5, k5, rfl, hb5, hi5⟩
    obtain ⟨rfl, rfl, rfl, rfl, hin5, hk5, hl5⟩ := ev_out hi5 HROK.out
    have HB5 := Lib.hid (below_next HB4.out hb5)
    have HT5 := Lib.hid (HT4.out.below hb5)
    have HIN5 := Lib.hid hin5
    have HL5 := Lib.hid hl5
    clear hb5 hi5 hin5 hl5
    have B5 := Lib.hid (below_push HB5.out (.cells (vlC (outV r).kind (outV r).n (outV r).s Q5 (outV r).l.length c5) 31))
    have K5 := Lib.hid (Blk.new w5 (vlC (outV r).kind (outV r).n (outV r).s Q5 (outV r).l.length c5) 31)
    have T5 := Lib.hid (HT5.out.below (below_new w5 (.cells (vlC (outV r).kind (outV r).n (outV r).s Q5 (outV r).l.length c5) 31)))
    have I5 : Hid (Ints (w5.alloc (.cells (vlC (outV r).kind (outV r).n (outV r).s Q5 (outV r).l.length c5) 31)) Q5 (outV r).l) := Lib.hid (Rd.alloc HIN5.out _)
    go_wp2_with fail
    refine (C3.out _ B3 d3 T5.out (HE.out.below B5.out)).mono ?_
    rintro e w6 ⟨j0, j1, s6, Q6, m6, c6, k6, rfl, hb6, hi6⟩
    obtain ⟨rfl, rfl, rfl, rfl, hin6, hk6, hl6⟩ := ev_out hi6 HROK.out
    have HB6 := Lib.hid (below_next B5.out hb6)
    have B6 := Lib.hid (below_push HB6.out (.cells (vlC (outV r).kind (outV r).n (outV r).s Q6 (outV r).l.length c6) 31))
    have K6 := Lib.hid (Blk.new w6 (vlC (outV r).kind (outV r).n (outV r).s Q6 (outV r).l.length c6) 31)
    have J5 := Lib.hid ((K5.out.belowS hb6).alloc (.cells (vlC (outV r).kind (outV r).n (outV r).s Q6 (outV r).l.length c6) 31))
    have T6 := Lib.hid ((T5.out.below hb6).below (below_new w6 (.cells (vlC (outV r).kind (outV r).n (outV r).s Q6 (outV r).l.length c6) 31)))
    have I56 : Hid (Ints (w6.alloc (.cells (vlC (outV r).kind (outV r).n (outV r).s Q6 (outV r).l.length c6) 31)) Q5 (outV r).l) := Lib.hid (Rd.alloc (Rd.below I5.out hb6) _)
    have I6 : Hid (Ints (w6.alloc (.cells (vlC (outV r).kind (outV r).n (outV r).s Q6 (outV r).l.length c6) 31)) Q6 (outV r).l) := Lib.hid (Rd.alloc hin6 _)
    clear hb6 hi6 hin6 hl6
    go_wp2_with fail
    refine (C4.out _ B3 d3 T6.out).mono ?_
    rintro e w7 ⟨B7, d7, rfl, ht7, hb7⟩
    have HB7 := Lib.hid (below_next B6.out hb7)
    have HT7 := Lib.hid ht7
    have T7 := Lib.hid (T6.out.below hb7)
    have I57 : Hid (Ints w7 Q5 (outV r).l) := Lib.hid (Rd.below I56.out hb7)
    have I67 : Hid (Ints w7 Q6 (outV r).l) := Lib.hid (Rd.below I6.out hb7)
    have J57 := J5.out.belowS hb7
    have J67 := K6.out.belowS hb7
    have p0 : w7.cell? ⟨w5.heap.size, 0, none⟩ = some (.int .i64 (outV r).kind) := J57.cell 0
    have p1 : w7.cell? ⟨w5.heap.size, 1, none⟩ = some (.int .i64 (outV r).n) := J57.cell 1
    have p2 : w7.cell? ⟨w5.heap.size, 2, none⟩ = some (.string (outV r).s) := J57.cell 2
    have p3 : w7.cell? ⟨w5.heap.size, 3, none⟩ = some (.slice Q5 (outV r).l.length c5) := J57.cell 3
    have q0 : w7.cell? ⟨w6.heap.size, 0, none⟩ = some (.int .i64 (outV r).kind) := J67.cell 0
    have q1 : w7.cell? ⟨w6.heap.size, 1, none⟩ = some (.int .i64 (outV r).n) := J67.cell 1
    have q2 : w7.cell? ⟨w6.heap.size, 2, none⟩ = some (.string (outV r).s) := J67.cell 2
    have q3 : w7.cell? ⟨w6.heap.size, 3, none⟩ = some (.slice Q6 (outV r).l.length c6) := J67.cell 3
    have lt5 := J57.lt
    have lt6 := J67.lt
    have CS := Lib.hid (sameValue_any (outV r) (outV r) Q5 Q6 c5 c6 w7 I57.out I67.out (by have := HL5.out; omega))
    clear ht7 hb7 J57 J67
    go_wp2_with fail
    refine CS.out.mono ?_
    rintro e w8 ⟨rfl, hb8⟩
    have HB8 := Lib.hid (below_next HB7.out hb8)
    have CT := Lib.hid (sameTerms_eq m B3 B7 d3 d7 w8 (T7.out.below hb8) (HT7.out.below hb8) (by have := HM1000.out; omega))
    clear hb8 p0 p1 p2 p3 q0 q1 q2 q3
    go_wp2_with fail
    refine CT.out.mono ?_
    rintro e w9 ⟨rfl, hb9⟩
    have HB9 := Lib.hid (below_next HB8.out hb9)
    clear hb9
    go_wp2_with fail
    go_ret
    exact ⟨rfl, HB9.out⟩
end Go.Proofs.YtbemdcbglpjmiaaGreatDoor
