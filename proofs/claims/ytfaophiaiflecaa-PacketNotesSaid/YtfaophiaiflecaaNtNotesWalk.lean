/- Contract: reparteelaw38.PacketNotes returns true. -/
import Derived.Test.YtfaophiaiflecaaNtBent
import Derived.Test.YtfaophiaiflecaaPkFirst
import Derived.Test.YtfaophiaiflecaaNtLaw
import Derived.Test.YtfaophiaiflecaaNtSame4
import Derived.Test.YtfaophiaiflecaaNtRText3
import Derived.Deep.DeepCutAuto
import Derived.Deep.RegionHeld3
namespace Go.Proofs.Ytfaophiaiflecaa
open Go.RowKit
set_option linter.unusedVariables false

theorem noteTF_size (x : Nt) : (noteTF x).1.size ≤ 4096 := by
  unfold noteTF
  split
  · split
    · exact Nat.zero_le _
    · rename_i h; show (noteB x).length ≤ 4096; omega
  · exact Nat.zero_le _
theorem noteTF_code (x : Nt) : (noteTF x).2 = 0 ∨ (noteTF x).2 = 3800 ∨ (noteTF x).2 = 3801 := by
  unfold noteTF
  split
  · split
    · exact .inr (.inr rfl)
    · exact .inl rfl
  · exact .inr (.inl rfl)
set_option maxRecDepth 100000 in
set_option maxHeartbeats 16000000 in
theorem notes_walk (x : Nt) (A : Option Addr) (c : Nat) (E : Option Addr) (d : Nat) (raw : Bool) (kind what : Int) (w : World) (hL : NtL w x A E) (hI : NtI x) (hag : x.agent.size ≤ 1000000000000000) (hse : x.session.size ≤ 1000000000000000) :
    Calls Try.prog 5 #[.agg (x.cells A c E d), .bool raw, .int .i64 kind, .int .i64 what] w fun e w' => e = .returned (.bool true) ∧ Below w.heap.size w w' := by
  obtain ⟨xk, xag, xse, xst, xpe, xla, ⟨xvk, xvn, xvs, xvl⟩, xpr, xen⟩ := x
  dsimp only [Nt.cells]
  have HL := Lib.hid hL
  have HI := Lib.hid hI
  have HAG := Lib.hid hag
  have HSE := Lib.hid hse
  have C1 := Lib.hid (fun W => pkFirst_any W)
  have HB := Lib.hid (Blk.new w #[.int .i64 xk, .string xag, .string xse, .int .i64 xst, .string xpe, .string xla, .int .i64 xvk, .int .i64 xvn, .string xvs, .slice A xvl.length c, .int .i64 xpr, .slice E xen.length d] 41)
  have BF := Lib.hid (below_allocS (Below.refl _ _) (.cells #[.int .i64 xk, .string xag, .string xse, .int .i64 xst, .string xpe, .string xla, .int .i64 xvk, .int .i64 xvn, .string xvs, .slice A xvl.length c, .int .i64 xpr, .slice E xen.length d] 41) : Below w.heap.size w (w.alloc (.cells #[.int .i64 xk, .string xag, .string xse, .int .i64 xst, .string xpe, .string xla, .int .i64 xvk, .int .i64 xvn, .string xvs, .slice A xvl.length c, .int .i64 xpr, .slice E xen.length d] 41)))
  clear hL hI hag hse
  go_enter Try.func5, Try.ntmps5
  go_wp2_with fail
  refine (C1.out _).mono ?_
  rintro e w1 ⟨rfl, hb1⟩
  have B1 := Lib.hid (below_next BF.out hb1)
  have HB1 := Lib.hid (HB.out.belowS hb1)
  have HLT := Lib.hid (show w.heap.size < w1.heap.size from HB1.out.lt)
  clear hb1
  have x0 : w1.cell? ⟨w.heap.size, 0, none⟩ = some (.int .i64 xk) := HB1.out.cell 0
  have x1 : w1.cell? ⟨w.heap.size, 1, none⟩ = some (.string xag) := HB1.out.cell 1
  have x2 : w1.cell? ⟨w.heap.size, 2, none⟩ = some (.string xse) := HB1.out.cell 2
  have x3 : w1.cell? ⟨w.heap.size, 3, none⟩ = some (.int .i64 xst) := HB1.out.cell 3
  have x4 : w1.cell? ⟨w.heap.size, 4, none⟩ = some (.string xpe) := HB1.out.cell 4
  have x5 : w1.cell? ⟨w.heap.size, 5, none⟩ = some (.string xla) := HB1.out.cell 5
  have x6 : w1.cell? ⟨w.heap.size, 6, none⟩ = some (.int .i64 xvk) := HB1.out.cell 6
  have x7 : w1.cell? ⟨w.heap.size, 7, none⟩ = some (.int .i64 xvn) := HB1.out.cell 7
  have x8 : w1.cell? ⟨w.heap.size, 8, none⟩ = some (.string xvs) := HB1.out.cell 8
  have x9 : w1.cell? ⟨w.heap.size, 9, none⟩ = some (.slice A xvl.length c) := HB1.out.cell 9
  have x10 : w1.cell? ⟨w.heap.size, 10, none⟩ = some (.int .i64 xpr) := HB1.out.cell 10
  have x11 : w1.cell? ⟨w.heap.size, 11, none⟩ = some (.slice E xen.length d) := HB1.out.cell 11
  have hl1 := HB1.out.lt
  go_upto_if 20 with fail
  have HB5 := Lib.hid (Blk.new w1 #[.int .i64 xk, .string xag, .string xse, .int .i64 xst, .string xpe, .string xla, .int .i64 xvk, .int .i64 xvn, .string xvs, .slice A xvl.length c, .int .i64 xpr, .slice E xen.length d] 41)
  have HB2 := Lib.hid (HB1.out.alloc (.cells #[.int .i64 xk, .string xag, .string xse, .int .i64 xst, .string xpe, .string xla, .int .i64 xvk, .int .i64 xvn, .string xvs, .slice A xvl.length c, .int .i64 xpr, .slice E xen.length d] 41))
  have B2 := Lib.hid (below_allocS B1.out (.cells #[.int .i64 xk, .string xag, .string xse, .int .i64 xst, .string xpe, .string xla, .int .i64 xvk, .int .i64 xvn, .string xvs, .slice A xvl.length c, .int .i64 xpr, .slice E xen.length d] 41))
  have HL2 := Lib.hid (show w1.heap.size < (w1.alloc (.cells #[.int .i64 xk, .string xag, .string xse, .int .i64 xst, .string xpe, .string xla, .int .i64 xvk, .int .i64 xvn, .string xvs, .slice A xvl.length c, .int .i64 xpr, .slice E xen.length d] 41)).heap.size by simp)
  generalize w1.alloc (.cells #[.int .i64 xk, .string xag, .string xse, .int .i64 xst, .string xpe, .string xla, .int .i64 xvk, .int .i64 xvn, .string xvs, .slice A xvl.length c, .int .i64 xpr, .slice E xen.length d] 41) = W2 at *
  clear x0 x1 x2 x3 x4 x5 x6 x7 x8 x9 x10 x11
  go_cut [] (fun wx => Hid (∃ (y : Nt) (A2 : Option Addr) (c2 : Nat) (E2 : Option Addr) (d2 : Nat), Blk wx w1.heap.size (y.cells A2 c2 E2 d2) 41 ∧ NtL wx y A2 E2 ∧ NtI y ∧ Below w.heap.size w wx))
  case first =>
    have HN := Lib.hid (HL.out.none_.more B2.out (g := w1.heap.size) (Nat.le_of_lt HLT.out))
    cases raw with
    | true =>
      go_wp2_with fail
      go_meet
      exact Lib.hid ⟨⟨xk, xag, xse, xst, xpe, xla, ⟨xvk, xvn, xvs, xvl⟩, xpr, xen⟩, A, c, E, d, HB5.out, HN.out.at, HI.out, B2.out⟩
    | false =>
      have x0 : W2.cell? ⟨w.heap.size, 0, none⟩ = some (.int .i64 xk) := HB2.out.cell 0
      have x1 : W2.cell? ⟨w.heap.size, 1, none⟩ = some (.string xag) := HB2.out.cell 1
      have x2 : W2.cell? ⟨w.heap.size, 2, none⟩ = some (.string xse) := HB2.out.cell 2
      have x3 : W2.cell? ⟨w.heap.size, 3, none⟩ = some (.int .i64 xst) := HB2.out.cell 3
      have x4 : W2.cell? ⟨w.heap.size, 4, none⟩ = some (.string xpe) := HB2.out.cell 4
      have x5 : W2.cell? ⟨w.heap.size, 5, none⟩ = some (.string xla) := HB2.out.cell 5
      have x6 : W2.cell? ⟨w.heap.size, 6, none⟩ = some (.int .i64 xvk) := HB2.out.cell 6
      have x7 : W2.cell? ⟨w.heap.size, 7, none⟩ = some (.int .i64 xvn) := HB2.out.cell 7
      have x8 : W2.cell? ⟨w.heap.size, 8, none⟩ = some (.string xvs) := HB2.out.cell 8
      have x9 : W2.cell? ⟨w.heap.size, 9, none⟩ = some (.slice A xvl.length c) := HB2.out.cell 9
      have x10 : W2.cell? ⟨w.heap.size, 10, none⟩ = some (.int .i64 xpr) := HB2.out.cell 10
      have x11 : W2.cell? ⟨w.heap.size, 11, none⟩ = some (.slice E xen.length d) := HB2.out.cell 11
      have CB := Lib.hid (bent_any w1.heap.size ⟨xk, xag, xse, xst, xpe, xla, ⟨xvk, xvn, xvs, xvl⟩, xpr, xen⟩ A c E d kind what W2 HL2.out HN.out HI.out HAG.out HSE.out)
      have hl2 := HB5.out.lt
      go_wp2_with fail
      refine CB.out.mono ?_
      rintro e w3 ⟨⟨yk, yag, yse, yst, ype, yla, ⟨yvk, yvn, yvs, yvl⟩, ypr, yen⟩, A2, c2, E2, d2, rfl, hn, hi, hb3⟩
      dsimp only [Nt.cells]
      have HB6 := Lib.hid (HB5.out.belowS hb3)
      have B3 := Lib.hid (below_next B2.out hb3)
      have HN3 := Lib.hid hn
      have HI3 := Lib.hid hi
      clear hn hi hb3 hl2 x0 x1 x2 x3 x4 x5 x6 x7 x8 x9 x10 x11
      have z0 : w3.cell? ⟨w1.heap.size, 0, none⟩ = some (.int .i64 xk) := HB6.out.cell 0
      have f0 : w3.frozen? ⟨w1.heap.size, 0, none⟩ = false := HB6.out.frozen 0
      have z1 : w3.cell? ⟨w1.heap.size, 1, none⟩ = some (.string xag) := HB6.out.cell 1
      have f1 : w3.frozen? ⟨w1.heap.size, 1, none⟩ = false := HB6.out.frozen 1
      have z2 : w3.cell? ⟨w1.heap.size, 2, none⟩ = some (.string xse) := HB6.out.cell 2
      have f2 : w3.frozen? ⟨w1.heap.size, 2, none⟩ = false := HB6.out.frozen 2
      have z3 : w3.cell? ⟨w1.heap.size, 3, none⟩ = some (.int .i64 xst) := HB6.out.cell 3
      have f3 : w3.frozen? ⟨w1.heap.size, 3, none⟩ = false := HB6.out.frozen 3
      have z4 : w3.cell? ⟨w1.heap.size, 4, none⟩ = some (.string xpe) := HB6.out.cell 4
      have f4 : w3.frozen? ⟨w1.heap.size, 4, none⟩ = false := HB6.out.frozen 4
      have z5 : w3.cell? ⟨w1.heap.size, 5, none⟩ = some (.string xla) := HB6.out.cell 5
      have f5 : w3.frozen? ⟨w1.heap.size, 5, none⟩ = false := HB6.out.frozen 5
      have z6 : w3.cell? ⟨w1.heap.size, 6, none⟩ = some (.int .i64 xvk) := HB6.out.cell 6
      have f6 : w3.frozen? ⟨w1.heap.size, 6, none⟩ = false := HB6.out.frozen 6
      have z7 : w3.cell? ⟨w1.heap.size, 7, none⟩ = some (.int .i64 xvn) := HB6.out.cell 7
      have f7 : w3.frozen? ⟨w1.heap.size, 7, none⟩ = false := HB6.out.frozen 7
      have z8 : w3.cell? ⟨w1.heap.size, 8, none⟩ = some (.string xvs) := HB6.out.cell 8
      have f8 : w3.frozen? ⟨w1.heap.size, 8, none⟩ = false := HB6.out.frozen 8
      have z9 : w3.cell? ⟨w1.heap.size, 9, none⟩ = some (.slice A xvl.length c) := HB6.out.cell 9
      have f9 : w3.frozen? ⟨w1.heap.size, 9, none⟩ = false := HB6.out.frozen 9
      have z10 : w3.cell? ⟨w1.heap.size, 10, none⟩ = some (.int .i64 xpr) := HB6.out.cell 10
      have f10 : w3.frozen? ⟨w1.heap.size, 10, none⟩ = false := HB6.out.frozen 10
      have z11 : w3.cell? ⟨w1.heap.size, 11, none⟩ = some (.slice E xen.length d) := HB6.out.cell 11
      have f11 : w3.frozen? ⟨w1.heap.size, 11, none⟩ = false := HB6.out.frozen 11
      have hl3 := HB6.out.lt
      have BFF := Lib.hid (blk_set12 HB6.out (.int .i64 yk) (.string yag) (.string yse) (.int .i64 yst) (.string ype) (.string yla) (.int .i64 yvk) (.int .i64 yvn) (.string yvs) (.slice A2 yvl.length c2) (.int .i64 ypr) (.slice E2 yen.length d2))
      go_wp2_with fail
      go_meet
      refine Lib.hid ⟨⟨yk, yag, yse, yst, ype, yla, ⟨yvk, yvn, yvs, yvl⟩, ypr, yen⟩, A2, c2, E2, d2, BFF.out, ((((((((((((HN3.out.set (by simp)).set (by simp)).set (by simp)).set (by simp)).set (by simp)).set (by simp)).set (by simp)).set (by simp)).set (by simp)).set (by simp)).set (by simp)).set (by simp)).at, HI3.out, ?_⟩
      repeat (refine Below.setCell ?_ (Nat.le_of_lt HLT.out) _)
      exact B3.out
  case rest =>
    obtain ⟨⟨yk, yag, yse, yst, ype, yla, ⟨yvk, yvn, yvs, yvl⟩, ypr, yen⟩, A2, c2, E2, d2, hY, hLy, hIy, hBy⟩ := hcut.out
    have HY := Lib.hid hY
    have HLy := Lib.hid hLy
    have HIy := Lib.hid hIy
    have B3 := Lib.hid hBy
    clear hY hLy hIy hBy hcut HB5 HB2 B2 HB1 HB HL HI HAG HSE HL2
    dsimp only [Nt.cells] at HY
    have y0 : wc.cell? ⟨w1.heap.size, 0, none⟩ = some (.int .i64 yk) := HY.out.cell 0
    have y1 : wc.cell? ⟨w1.heap.size, 1, none⟩ = some (.string yag) := HY.out.cell 1
    have y2 : wc.cell? ⟨w1.heap.size, 2, none⟩ = some (.string yse) := HY.out.cell 2
    have y3 : wc.cell? ⟨w1.heap.size, 3, none⟩ = some (.int .i64 yst) := HY.out.cell 3
    have y4 : wc.cell? ⟨w1.heap.size, 4, none⟩ = some (.string ype) := HY.out.cell 4
    have y5 : wc.cell? ⟨w1.heap.size, 5, none⟩ = some (.string yla) := HY.out.cell 5
    have y6 : wc.cell? ⟨w1.heap.size, 6, none⟩ = some (.int .i64 yvk) := HY.out.cell 6
    have y7 : wc.cell? ⟨w1.heap.size, 7, none⟩ = some (.int .i64 yvn) := HY.out.cell 7
    have y8 : wc.cell? ⟨w1.heap.size, 8, none⟩ = some (.string yvs) := HY.out.cell 8
    have y9 : wc.cell? ⟨w1.heap.size, 9, none⟩ = some (.slice A2 yvl.length c2) := HY.out.cell 9
    have y10 : wc.cell? ⟨w1.heap.size, 10, none⟩ = some (.int .i64 ypr) := HY.out.cell 10
    have y11 : wc.cell? ⟨w1.heap.size, 11, none⟩ = some (.slice E2 yen.length d2) := HY.out.cell 11
    have hl2 := HY.out.lt
    have CF := Lib.hid (few_any ⟨yk, yag, yse, yst, ype, yla, ⟨yvk, yvn, yvs, yvl⟩, ypr, yen⟩ A2 c2 E2 d2 wc HLy.out)
    dsimp only [Nt.cells] at CF
    go_wp2_with fail
    refine CF.out.mono ?_
    rintro e w4 ⟨r, rfl, hf, hb4⟩
    have B4 := Lib.hid (below_next B3.out hb4)
    have HY4 := Lib.hid (HY.out.belowS hb4)
    have HF := Lib.hid hf
    cases r with
    | false =>
      clear hf hb4 y0 y1 y2 y3 y4 y5 y6 y7 y8 y9 y10 y11
      go_wp2_with fail
      go_ret
      exact ⟨rfl, B4.out⟩
    | true =>
      have HAT := Lib.hid (((HF.out rfl).at HLy.out).below hb4)
      have HOK := Lib.hid ((HF.out rfl).ok HIy.out)
      clear hf hb4 hl2 CF y0 y1 y2 y3 y4 y5 y6 y7 y8 y9 y10 y11
      obtain ⟨NX, hNX⟩ : ∃ NX : Nt, NX = ⟨yk, yag, yse, yst, ype, yla, ⟨yvk, yvn, yvs, yvl⟩, ypr, yen⟩ := ⟨_, rfl⟩
      have CN := Lib.hid (fun W (hb : Below w4.heap.size w4 W) => note_all ⟨yk, yag, yse, yst, ype, yla, ⟨yvk, yvn, yvs, yvl⟩, ypr, yen⟩ A2 E2 c2 d2 W (HAT.out.below hb) HOK.out)
      have CT := Lib.hid (fun W (hb : Below w4.heap.size w4 W) => noteText_any ⟨yk, yag, yse, yst, ype, yla, ⟨yvk, yvn, yvs, yvl⟩, ypr, yen⟩ A2 E2 c2 d2 W (HAT.out.below hb) HOK.out)
      have CM := Lib.hid (fun W (hb : Below w4.heap.size w4 W) => noteMay_any ⟨yk, yag, yse, yst, ype, yla, ⟨yvk, yvn, yvs, yvl⟩, ypr, yen⟩ A2 E2 c2 d2 W (HAT.out.below hb))
      have CR := Lib.hid (fun W (hb : Below w4.heap.size w4 W) => rnoteMay_any ⟨yk, yag, yse, yst, ype, yla, ⟨yvk, yvn, yvs, yvl⟩, ypr, yen⟩ A2 E2 c2 d2 W (HAT.out.below hb))
      dsimp only [Nt.cells] at CN CT CM CR
      rw [refF_eq] at CR
      rw [← hNX] at CN CT CM CR
      have HLW := Lib.hid (note_law NX (by rw [hNX]; exact HOK.out))
      have HTS := Lib.hid (noteTF_size NX)
      have HTC := Lib.hid (noteTF_code NX)
      have HNX := Lib.hid hNX
      clear hNX
      rcases hTF : noteTF NX with ⟨s, ec⟩
      rw [hTF] at CN CT HLW HTS HTC
      dsimp only at CN CT HLW HTS HTC
      clear hTF
      generalize hmm : mayF NX = mm at *
      clear hmm
      have y0 : w4.cell? ⟨w1.heap.size, 0, none⟩ = some (.int .i64 yk) := HY4.out.cell 0
      have y1 : w4.cell? ⟨w1.heap.size, 1, none⟩ = some (.string yag) := HY4.out.cell 1
      have y2 : w4.cell? ⟨w1.heap.size, 2, none⟩ = some (.string yse) := HY4.out.cell 2
      have y3 : w4.cell? ⟨w1.heap.size, 3, none⟩ = some (.int .i64 yst) := HY4.out.cell 3
      have y4 : w4.cell? ⟨w1.heap.size, 4, none⟩ = some (.string ype) := HY4.out.cell 4
      have y5 : w4.cell? ⟨w1.heap.size, 5, none⟩ = some (.string yla) := HY4.out.cell 5
      have y6 : w4.cell? ⟨w1.heap.size, 6, none⟩ = some (.int .i64 yvk) := HY4.out.cell 6
      have y7 : w4.cell? ⟨w1.heap.size, 7, none⟩ = some (.int .i64 yvn) := HY4.out.cell 7
      have y8 : w4.cell? ⟨w1.heap.size, 8, none⟩ = some (.string yvs) := HY4.out.cell 8
      have y9 : w4.cell? ⟨w1.heap.size, 9, none⟩ = some (.slice A2 yvl.length c2) := HY4.out.cell 9
      have y10 : w4.cell? ⟨w1.heap.size, 10, none⟩ = some (.int .i64 ypr) := HY4.out.cell 10
      have y11 : w4.cell? ⟨w1.heap.size, 11, none⟩ = some (.slice E2 yen.length d2) := HY4.out.cell 11
      have hl4 := HY4.out.lt
      go_wp2_with fail
      refine (CN.out _ (Below.refl _ _)).mono ?_
      rintro e w5 ⟨rfl, hb5⟩
      have B5 := Lib.hid (below_next B4.out hb5)
      have B45 := Lib.hid hb5
      have HY5 := Lib.hid (HY4.out.belowS hb5)
      clear hb5 hl4 y0 y1 y2 y3 y4 y5 y6 y7 y8 y9 y10 y11
      have y0 : w5.cell? ⟨w1.heap.size, 0, none⟩ = some (.int .i64 yk) := HY5.out.cell 0
      have y1 : w5.cell? ⟨w1.heap.size, 1, none⟩ = some (.string yag) := HY5.out.cell 1
      have y2 : w5.cell? ⟨w1.heap.size, 2, none⟩ = some (.string yse) := HY5.out.cell 2
      have y3 : w5.cell? ⟨w1.heap.size, 3, none⟩ = some (.int .i64 yst) := HY5.out.cell 3
      have y4 : w5.cell? ⟨w1.heap.size, 4, none⟩ = some (.string ype) := HY5.out.cell 4
      have y5 : w5.cell? ⟨w1.heap.size, 5, none⟩ = some (.string yla) := HY5.out.cell 5
      have y6 : w5.cell? ⟨w1.heap.size, 6, none⟩ = some (.int .i64 yvk) := HY5.out.cell 6
      have y7 : w5.cell? ⟨w1.heap.size, 7, none⟩ = some (.int .i64 yvn) := HY5.out.cell 7
      have y8 : w5.cell? ⟨w1.heap.size, 8, none⟩ = some (.string yvs) := HY5.out.cell 8
      have y9 : w5.cell? ⟨w1.heap.size, 9, none⟩ = some (.slice A2 yvl.length c2) := HY5.out.cell 9
      have y10 : w5.cell? ⟨w1.heap.size, 10, none⟩ = some (.int .i64 ypr) := HY5.out.cell 10
      have y11 : w5.cell? ⟨w1.heap.size, 11, none⟩ = some (.slice E2 yen.length d2) := HY5.out.cell 11
      have hl5 := HY5.out.lt
      go_wp2_with fail
      refine (CT.out _ B45.out).mono ?_
      rintro e w6 ⟨rfl, hb6⟩
      have B6 := Lib.hid (below_next B5.out hb6)
      have B46 := Lib.hid (below_next B45.out hb6)
      have HY6 := Lib.hid (HY5.out.belowS hb6)
      clear hb6 hl5 y0 y1 y2 y3 y4 y5 y6 y7 y8 y9 y10 y11 CN CT
      have hl6 := HY6.out.lt
      have keepS : ∀ W, Below w6.heap.size w6 W → Below w6.heap.size w6 W ∧ W.cell? ⟨w1.heap.size, 0, none⟩ = some (.int .i64 yk) ∧ W.cell? ⟨w1.heap.size, 1, none⟩ = some (.string yag) ∧ W.cell? ⟨w1.heap.size, 2, none⟩ = some (.string yse) ∧ W.cell? ⟨w1.heap.size, 3, none⟩ = some (.int .i64 yst) ∧ W.cell? ⟨w1.heap.size, 4, none⟩ = some (.string ype) ∧ W.cell? ⟨w1.heap.size, 5, none⟩ = some (.string yla) ∧ W.cell? ⟨w1.heap.size, 6, none⟩ = some (.int .i64 yvk) ∧ W.cell? ⟨w1.heap.size, 7, none⟩ = some (.int .i64 yvn) ∧ W.cell? ⟨w1.heap.size, 8, none⟩ = some (.string yvs) ∧ W.cell? ⟨w1.heap.size, 9, none⟩ = some (.slice A2 yvl.length c2) ∧ W.cell? ⟨w1.heap.size, 10, none⟩ = some (.int .i64 ypr) ∧ W.cell? ⟨w1.heap.size, 11, none⟩ = some (.slice E2 yen.length d2) := fun W hb =>
        ⟨hb, (HY6.out.belowS hb).cell 0, (HY6.out.belowS hb).cell 1, (HY6.out.belowS hb).cell 2, (HY6.out.belowS hb).cell 3, (HY6.out.belowS hb).cell 4, (HY6.out.belowS hb).cell 5, (HY6.out.belowS hb).cell 6, (HY6.out.belowS hb).cell 7, (HY6.out.belowS hb).cell 8, (HY6.out.belowS hb).cell 9, (HY6.out.belowS hb).cell 10, (HY6.out.belowS hb).cell 11⟩
      have KS := Lib.hid keepS
      clear keepS
      have hec : (ec == ec) = true := by simp
      go_upto_region 10 with fail
      go_cut [52] (fun s52 wx => s52 = .bool false ∧ Hid (Below w6.heap.size w6 wx))
      case first =>
        go_region_held3 (fun W => Below w6.heap.size w6 W ∧ W.cell? ⟨w1.heap.size, 0, none⟩ = some (.int .i64 yk) ∧ W.cell? ⟨w1.heap.size, 1, none⟩ = some (.string yag) ∧ W.cell? ⟨w1.heap.size, 2, none⟩ = some (.string yse) ∧ W.cell? ⟨w1.heap.size, 3, none⟩ = some (.int .i64 yst) ∧ W.cell? ⟨w1.heap.size, 4, none⟩ = some (.string ype) ∧ W.cell? ⟨w1.heap.size, 5, none⟩ = some (.string yla) ∧ W.cell? ⟨w1.heap.size, 6, none⟩ = some (.int .i64 yvk) ∧ W.cell? ⟨w1.heap.size, 7, none⟩ = some (.int .i64 yvn) ∧ W.cell? ⟨w1.heap.size, 8, none⟩ = some (.string yvs) ∧ W.cell? ⟨w1.heap.size, 9, none⟩ = some (.slice A2 yvl.length c2) ∧ W.cell? ⟨w1.heap.size, 10, none⟩ = some (.int .i64 ypr) ∧ W.cell? ⟨w1.heap.size, 11, none⟩ = some (.slice E2 yen.length d2))
          (first
            | (exact KS.out _ ((Below.refl _ _).drew))
            | (exact KS.out _ (And.left (by assumption)))
            | (exact KS.out _ (below_next (And.left (by assumption)) (by assumption))))
          (first
            | (go_at_call 16; refine (CM.out _ (below_next B46.out (And.left (show Below w6.heap.size w6 _ ∧ _ by assumption)))).mono ?_; rintro e w' ⟨rfl, hbw⟩)
            | (go_at_call 17; refine (CR.out _ (below_next B46.out (And.left (show Below w6.heap.size w6 _ ∧ _ by assumption)))).mono ?_; rintro e w' ⟨rfl, hbw⟩))
        all_goals
          have HKP := Lib.hid (And.left (show Below w6.heap.size w6 _ ∧ _ by assumption))
          go_wp2_with fail
          go_meet
          exact ⟨by simp, HKP⟩
      case rest =>
        obtain ⟨rfl, BC⟩ := hcut
        have B7 := Lib.hid (below_next B6.out BC.out)
        have B47 := Lib.hid (below_next B46.out BC.out)
        have HY7 := Lib.hid (HY6.out.belowS BC.out)
        clear KS hl6
        by_cases hz : ec = 0
        · subst hz
          have CRd := Lib.hid (fun W => readNote_any s W)
          rw [HLW.out, if_pos rfl] at CRd
          dsimp only at CRd
          have hl7 := HY7.out.lt
          go_wp2_with fail
          refine (CRd.out _).mono ?_
          rintro e w8 ⟨A3, c3, E3, d3, rfl, hat, hb8⟩
          have HA8 := Lib.hid hat
          clear hat
          have B8 := Lib.hid (below_next B7.out hb8)
          have B48 := Lib.hid (below_next B47.out hb8)
          have HY8 := Lib.hid (HY7.out.belowS hb8)
          clear hb8 hl7
          have CS := Lib.hid (fun W (h1 : Below w4.heap.size w4 W) (h2 : Below w8.heap.size w8 W) => sameNote_any ⟨yk, yag, yse, yst, ype, yla, ⟨yvk, yvn, yvs, yvl⟩, ypr, yen⟩ NX A2 E2 A3 E3 c2 d2 c3 d3 W (HAT.out.below h1) (HA8.out.below h2))
          rw [HNX.out] at CS
          dsimp only [Nt.cells] at CS
          rw [HNX.out]
          dsimp only [Nt.cells]
          have y0 : w8.cell? ⟨w1.heap.size, 0, none⟩ = some (.int .i64 yk) := HY8.out.cell 0
          have y1 : w8.cell? ⟨w1.heap.size, 1, none⟩ = some (.string yag) := HY8.out.cell 1
          have y2 : w8.cell? ⟨w1.heap.size, 2, none⟩ = some (.string yse) := HY8.out.cell 2
          have y3 : w8.cell? ⟨w1.heap.size, 3, none⟩ = some (.int .i64 yst) := HY8.out.cell 3
          have y4 : w8.cell? ⟨w1.heap.size, 4, none⟩ = some (.string ype) := HY8.out.cell 4
          have y5 : w8.cell? ⟨w1.heap.size, 5, none⟩ = some (.string yla) := HY8.out.cell 5
          have y6 : w8.cell? ⟨w1.heap.size, 6, none⟩ = some (.int .i64 yvk) := HY8.out.cell 6
          have y7 : w8.cell? ⟨w1.heap.size, 7, none⟩ = some (.int .i64 yvn) := HY8.out.cell 7
          have y8 : w8.cell? ⟨w1.heap.size, 8, none⟩ = some (.string yvs) := HY8.out.cell 8
          have y9 : w8.cell? ⟨w1.heap.size, 9, none⟩ = some (.slice A2 yvl.length c2) := HY8.out.cell 9
          have y10 : w8.cell? ⟨w1.heap.size, 10, none⟩ = some (.int .i64 ypr) := HY8.out.cell 10
          have y11 : w8.cell? ⟨w1.heap.size, 11, none⟩ = some (.slice E2 yen.length d2) := HY8.out.cell 11
          have hl8 := HY8.out.lt
          go_wp2_with fail
          have BN := below_allocS (Below.refl w8.heap.size w8) (.cells #[.int .i64 yk, .string yag, .string yse, .int .i64 yst, .string ype, .string yla, .int .i64 yvk, .int .i64 yvn, .string yvs, .slice A3 yvl.length c3, .int .i64 ypr, .slice E3 yen.length d3] 41)
          refine (CS.out _ (below_next B48.out BN) BN).mono ?_
          rintro e w9 ⟨rfl, hb9⟩
          have B9 := Lib.hid (below_next (below_next B8.out BN) hb9)
          clear hb9 BN
          try rw [decide_eq_true rfl]
          go_wp2_with fail
          go_ret
          exact ⟨rfl, B9.out⟩
        · have CRd := Lib.hid (fun W => readNote_any s W)
          rw [HLW.out, if_neg hz] at CRd
          dsimp only at CRd
          rcases HTC.out with h | rfl | rfl
          · exact absurd h hz
          all_goals
            clear hz
            go_wp2_with fail
            refine (CRd.out _).mono ?_
            rintro e w8 ⟨A3, c3, E3, d3, rfl, hat, hb8⟩
            have HA8 := Lib.hid hat
            clear hat
            have B8 := Lib.hid (below_next B7.out hb8)
            clear hb8
            have CS := Lib.hid (fun W (h2 : Below w8.heap.size w8 W) => sameNote_any zNt zNt A3 E3 none none c3 d3 0 0 W (HA8.out.below h2) ⟨Rd.nil, env_nil _ _, by simp, by simp, by simp⟩)
            dsimp only [Nt.cells, zNt, zVl, eS, List.length_nil] at CS
            dsimp only [Nt.cells, zNt, zVl, eS, List.length_nil]
            go_wp2_with fail
            refine (CS.out _ (below_allocS (Below.refl w8.heap.size w8) _)).mono ?_
            rintro e w9 ⟨rfl, hb9⟩
            have B9 := Lib.hid (below_next (below_allocS B8.out _) hb9)
            clear hb9
            try rw [decide_eq_true rfl]
            go_wp2_with fail
            go_ret
            exact ⟨rfl, B9.out⟩
end Go.Proofs.Ytfaophiaiflecaa
