/- Contracts: (*writer).int, each at an empty list, object.Write from contracts of its three lists. -/
import Derived.Test.YthepacphphiijaaObj
import Derived.Test.YthepacphphiijaaSum
import Derived.Lib.SlBytesConst
namespace Go.Proofs.Ythepacphphiijaa
open Go.RowKit Go.Lib

/-- The writer behind g has gathered L. -/
def Wr (w : World) (base g : Nat) (L : List UInt8) : Prop :=
  ∃ A c, Blk w g #[.slice A L.length c] 67 ∧ OwnG w base 5 A L.length c (bytesV L)
def OutW (base g : Nat) (w : World) (L : List UInt8) (e : Ending) (w' : World) : Prop := e = .returned (.tuple #[]) ∧ Below base w w' ∧ Wr w' base g L
theorem Wr.lt {w : World} {base g : Nat} {L : List UInt8} (h : Wr w base g L) : g < w.heap.size := by obtain ⟨_, _, h, _⟩ := h; exact h.lt
theorem Wr.below {w w' : World} {base g : Nat} {L : List UInt8} (h : Wr w base g L) (hb : Below w.heap.size w w') : Wr w' base g L := by
  obtain ⟨A, c, h1, h2⟩ := h
  exact ⟨A, c, h1.belowS hb, h2.below hb⟩
theorem Wr.alloc {w : World} {base g : Nat} {L : List UInt8} (h : Wr w base g L) (o : Obj) : Wr (w.alloc o) base g L := h.below ((Below.refl _ _).alloc (Nat.le_refl _) o)
theorem wnum {w : World} {base g : Nat} {L : List UInt8} (h : Wr w base g L) (hbase : base ≤ w.heap.size) (hg : base ≤ g) (x : Int) (hL : L.length ≤ 70000000000000) (h1 : -9223372036854775808 ≤ x) (h2 : x ≤ 9223372036854775807) :
    Calls Try.prog 56 #[.pointer (some ⟨g, 0, none⟩), .int .i64 x] w (OutW base g w (L ++ numB x)) := by
  obtain ⟨A, c, hb, ho⟩ := h
  refine (wnumber_any w base g A c L x hbase hg hb ho hL h1 h2).mono ?_
  rintro e w' ⟨rfl, hb, A', c', h3, h4⟩
  exact ⟨rfl, hb, A', c', h3, h4⟩
theorem wint_any {w : World} {base g : Nat} {L : List UInt8} (h : Wr w base g L) (hbase : base ≤ w.heap.size) (hg : base ≤ g) (x : Int) (hL : L.length ≤ 70000000000000) (h1 : -9223372036854775808 ≤ x) (h2 : x ≤ 9223372036854775807) :
    Calls Try.prog 42 #[.pointer (some ⟨g, 0, none⟩), .int .i64 x] w (OutW base g w (L ++ numB x)) := by
  have C := Lib.hid (wnum h hbase hg x hL h1 h2)
  clear h h1 h2 hL hbase hg
  go_enter Try.func42, Try.ntmps42
  go_wp2_with fail
  refine C.out.mono ?_
  rintro e w' ⟨rfl, hb, hw⟩
  go_wp2_with fail
  go_end0
  exact ⟨rfl, hb, hw⟩
theorem eachP_nil {w : World} {base g : Nat} {L : List UInt8} (h : Wr w base g L) (hbase : base ≤ w.heap.size) (hg : base ≤ g) (hL : L.length ≤ 70000000000000) (f : Value) (A : Option Addr) (c : Nat) :
    Calls Try.prog 31 #[.pointer (some ⟨g, 0, none⟩), .slice A 0 c, f] w (OutW base g w (L ++ [0])) := by
  have C := Lib.hid (wint_any h hbase hg 0 hL (by omega) (by omega))
  clear h hL hbase hg
  go_enter Try.func31, Try.ntmps31
  go_wp2_with fail
  refine C.out.mono ?_
  rintro e w' ⟨rfl, hb, hw⟩
  have HB := Lib.hid hb
  have HW := Lib.hid hw
  clear hb hw
  go_wp2_with fail
  refine wp_loop_rounds 1 ?_
  rw [rounds_succ]
  go_wp2_with fail
  go_end0
  exact ⟨rfl, HB.out, HW.out⟩
theorem eachL_nil {w : World} {base g : Nat} {L : List UInt8} (h : Wr w base g L) (hbase : base ≤ w.heap.size) (hg : base ≤ g) (hL : L.length ≤ 70000000000000) (f : Value) (A : Option Addr) (c : Nat) :
    Calls Try.prog 33 #[.pointer (some ⟨g, 0, none⟩), .slice A 0 c, f] w (OutW base g w (L ++ [0])) := by
  have C := Lib.hid (wint_any h hbase hg 0 hL (by omega) (by omega))
  clear h hL hbase hg
  go_enter Try.func33, Try.ntmps33
  go_wp2_with fail
  refine C.out.mono ?_
  rintro e w' ⟨rfl, hb, hw⟩
  have HB := Lib.hid hb
  have HW := Lib.hid hw
  clear hb hw
  go_wp2_with fail
  refine wp_loop_rounds 1 ?_
  rw [rounds_succ]
  go_wp2_with fail
  go_end0
  exact ⟨rfl, HB.out, HW.out⟩
theorem eachC_nil {w : World} {base g : Nat} {L : List UInt8} (h : Wr w base g L) (hbase : base ≤ w.heap.size) (hg : base ≤ g) (hL : L.length ≤ 70000000000000) (f : Value) (A : Option Addr) (c : Nat) :
    Calls Try.prog 35 #[.pointer (some ⟨g, 0, none⟩), .slice A 0 c, f] w (OutW base g w (L ++ [0])) := by
  have C := Lib.hid (wint_any h hbase hg 0 hL (by omega) (by omega))
  clear h hL hbase hg
  go_enter Try.func35, Try.ntmps35
  go_wp2_with fail
  refine C.out.mono ?_
  rintro e w' ⟨rfl, hb, hw⟩
  have HB := Lib.hid hb
  have HW := Lib.hid hw
  clear hb hw
  go_wp2_with fail
  refine wp_loop_rounds 1 ?_
  rw [rounds_succ]
  go_wp2_with fail
  go_end0
  exact ⟨rfl, HB.out, HW.out⟩

abbrev rpt1 : List UInt8 := [82, 80, 84, 49]
def modB (L : List UInt8) : List UInt8 := rpt1 ++ L
/-- What Write answers where the bytes ahead of the sum are M. -/
def writeG (M : List UInt8) : ByteArray × Int := if 65536 < M.length + 4 then (⟨#[]⟩, 3300) else (⟨(M ++ fourB (fnv M)).toArray⟩, 0)
set_option maxRecDepth 100000 in
set_option maxHeartbeats 1600000 in
theorem write_walk (w : World) (Ap Al Ac : Option Addr) (np nl nc cp cl cc : Nat) (bP bL bC : List UInt8) (hlen : bP.length + bL.length + bC.length ≤ 70000000000000 - 100)
    (hP : ∀ w1 g L, Below w.heap.size w w1 → w.heap.size + 1 ≤ w1.heap.size → w.heap.size + 1 ≤ g → Wr w1 (w.heap.size + 1) g L → L.length ≤ 4 → Calls Try.prog 31 #[.pointer (some ⟨g, 0, none⟩), .slice Ap np cp, .func (.func 32) #[.pointer (some ⟨g, 0, none⟩)] #[]] w1 (OutW (w.heap.size + 1) g w1 (L ++ bP)))
    (hQ : ∀ w1 g L, Below w.heap.size w w1 → w.heap.size + 1 ≤ w1.heap.size → w.heap.size + 1 ≤ g → Wr w1 (w.heap.size + 1) g L → L.length ≤ 4 + bP.length → Calls Try.prog 33 #[.pointer (some ⟨g, 0, none⟩), .slice Al nl cl, .func (.func 34) #[.pointer (some ⟨g, 0, none⟩)] #[]] w1 (OutW (w.heap.size + 1) g w1 (L ++ bL)))
    (hR : ∀ w1 g L, Below w.heap.size w w1 → w.heap.size + 1 ≤ w1.heap.size → w.heap.size + 1 ≤ g → Wr w1 (w.heap.size + 1) g L → L.length ≤ 4 + bP.length + bL.length → Calls Try.prog 35 #[.pointer (some ⟨g, 0, none⟩), .slice Ac nc cc, .func (.func 36) #[.pointer (some ⟨g, 0, none⟩)] #[]] w1 (OutW (w.heap.size + 1) g w1 (L ++ bC))) :
    Calls Try.prog 20 #[.agg #[.slice Ap np cp, .slice Al nl cl, .slice Ac nc cc]] w
      fun e w' => e = .returned (.tuple #[.string (writeG (modB (bP ++ bL ++ bC))).1, .int .i64 (writeG (modB (bP ++ bL ++ bC))).2]) ∧ Below w.heap.size w w' := by
  have HP := Lib.hid hP
  have HQ := Lib.hid hQ
  have HR := Lib.hid hR
  clear hP hQ hR
  obtain ⟨i0, hi0, hz0, hz1, hz2⟩ := info_parts infoByte
  have kc := Lib.run_convert_bytes_const (P := Try.prog) (w.alloc (.cells #[.slice Ap np cp, .slice Al nl cl, .slice Ac nc cc] 49)) 34 5 #[.int .u8 82, .int .u8 80, .int .u8 84, .int .u8 49] 4 4 Try.underlying34 Try.underlying5
  rw [World.size_alloc] at kc
  obtain ⟨W0, hW0⟩ : ∃ W0, W0 = ((w.alloc (.cells #[.slice Ap np cp, .slice Al nl cl, .slice Ac nc cc] 49)).alloc (.cells #[.int .u8 82, .int .u8 80, .int .u8 84, .int .u8 49] 5 (4, 5))).alloc (.cells #[.slice (some ⟨w.heap.size + 1, 0, none⟩) 4 4] 67) := ⟨_, rfl⟩
  have Z0 := Lib.hid (show W0.heap.size = w.heap.size + 1 + 1 + 1 by rw [hW0]; simp)
  have B0 := Lib.hid (show Below w.heap.size w W0 by rw [hW0]; exact (((Below.refl _ _).alloc (Nat.le_refl _) _).alloc (by simp) _).alloc (by simp; omega) _)
  have M0 := Lib.hid (show Blk W0 w.heap.size #[.slice Ap np cp, .slice Al nl cl, .slice Ac nc cc] 49 by rw [hW0]; exact ((Blk.new w _ _).alloc _).alloc _)
  have R0 := Lib.hid (show Wr W0 (w.heap.size + 1) (w.heap.size + 1 + 1) rpt1 by
    rw [hW0]
    refine ⟨some ⟨w.heap.size + 1, 0, none⟩, 4, ?_, .inr ⟨w.heap.size + 1, #[.int .u8 82, .int .u8 80, .int .u8 84, .int .u8 49], (4, 5), rfl, rfl, by omega, ?_, rfl, rfl⟩⟩
    · have := Blk.new ((w.alloc (.cells #[.slice Ap np cp, .slice Al nl cl, .slice Ac nc cc] 49)).alloc (.cells #[.int .u8 82, .int .u8 80, .int .u8 84, .int .u8 49] 5 (4, 5))) #[.slice (some ⟨w.heap.size + 1, 0, none⟩) 4 4] 67
      rwa [World.size_alloc, World.size_alloc] at this
    · rw [Below.heap_alloc _ _ _ (by simp)]
      have := heap_alloc_new (w.alloc (.cells #[.slice Ap np cp, .slice Al nl cl, .slice Ac nc cc] 49)) (.cells #[.int .u8 82, .int .u8 80, .int .u8 84, .int .u8 49] 5 (4, 5))
      rwa [World.size_alloc] at this)
  have HK := Lib.hid hW0
  clear hW0
  go_enter Try.func20, Try.ntmps20
  go_wp2_with fail
  rw [← HK.out]
  refine (HP.out W0 _ rpt1 B0.out (by rw [Z0.out]; omega) (by omega) R0.out (Nat.le_refl _)).mono ?_
  rintro e w1 ⟨rfl, hb, hw⟩
  have B1 := Lib.hid (B0.out.trans (hb.mono (Nat.le_succ _)))
  have M1 := Lib.hid (M0.out.below hb (Nat.lt_succ_self _))
  have R1 := Lib.hid hw
  have Z1 := Lib.hid (show w.heap.size + 3 ≤ w1.heap.size by have := hb.size; have := R0.out.lt; have := Z0.out; omega)
  obtain ⟨x0, x1, x2⟩ := blk3 M1.out
  clear hb hw
  go_wp2_with fail
  refine (HQ.out w1 _ _ B1.out (by have := Z1.out; omega) (by omega) R1.out (by simp; omega)).mono ?_
  rintro e w2 ⟨rfl, hb, hw⟩
  have B2 := Lib.hid (B1.out.trans (hb.mono (Nat.le_succ _)))
  have M2 := Lib.hid (M1.out.below hb (Nat.lt_succ_self _))
  have R2 := Lib.hid hw
  have Z2 := Lib.hid (show w.heap.size + 3 ≤ w2.heap.size by have := hb.size; have := R1.out.lt; have := Z1.out; omega)
  clear x0 x1 x2
  obtain ⟨x0, x1, x2⟩ := blk3 M2.out
  clear hb hw
  go_wp2_with fail
  refine (HR.out w2 _ _ B2.out (by have := Z2.out; omega) (by omega) R2.out (by simp; omega)).mono ?_
  rintro e w3 ⟨rfl, hb, hw⟩
  have B3 := Lib.hid (B2.out.trans (hb.mono (Nat.le_succ _)))
  have Z3 := Lib.hid (show w.heap.size + 3 ≤ w3.heap.size by have := hb.size; have := R2.out.lt; have := Z2.out; omega)
  have hLe : rpt1 ++ bP ++ bL ++ bC = modB (bP ++ bL ++ bC) := by simp [modB]
  rw [hLe] at hw
  have hLl : (modB (bP ++ bL ++ bC)).length ≤ 70000000000000 - 96 := by simp [modB]; omega
  generalize hM : modB (bP ++ bL ++ bC) = M at *
  obtain ⟨A, c, hblk, hown⟩ := hw
  have hne := hown.ne hblk (by decide)
  have HO := Lib.hid hown
  have HB := Lib.hid hblk
  obtain ⟨y0, fy0⟩ := blk1 hblk
  have hlt := hblk.lt
  have HM := Lib.hid hM
  clear x0 x1 x2 hb hblk hown hLe hM
  go_wp2_with fail
  have hconv := rd_string (P := Try.prog) (c := c) Try.underlying34 Try.underlying5 Try.underlying9 HO.out.rd rfl
  have hconv2 := rd_string (P := Try.prog) (W := w3.drew) (c := c) Try.underlying34 Try.underlying5 Try.underlying9 HO.out.rd rfl
  have HF := Lib.hid (fun W => four_any (fnv M) W (fnv_lt M))
  have HS := Lib.hid (fun W => sum_any ⟨M.toArray⟩ W (by unfold maxLen; show M.length ≤ _; omega))
  have HN3 := Lib.hid (show M.length + (⟨(fourB (fnv M)).toArray⟩ : ByteArray).size ≤ 140737488355328 by show M.length + 4 ≤ _; omega)
  have HN1 := Lib.hid (show 0 < (⟨(fourB (fnv M)).toArray⟩ : ByteArray).size by show 0 < 4; omega)
  clear kc
  go_region_law (first
    | (refine step_app_str _ (by rfl) _ _ _ _ (by rfl) (w.heap.size + 1) 5 i0 Try.underlying34 Try.underlying9 hi0 hz0 hz1 hz2 A M.length c (bytesV M) (by rfl) HO1.out _ (by rfl) HN1.out HN3.out (by exact hbz) ?_; intro A2 c2 w5 hle2 hown2 hg2; obtain ⟨z0, fz0⟩ := blk1 ((HB.out.belowS hb1).grown hg2 (fun e => hne e.symm)))
    | (go_simp; go_at_call 21; refine (HS.out _).mono ?_; rintro e w4' ⟨rfl, rfl⟩; go_simp)
    | (go_simp; go_at_call 37; refine (HF.out _).mono ?_; rintro e w4 ⟨rfl, hb1'⟩; have hb1 := below_of_drew hb1'; have HO1 := Lib.hid (HO.out.below hb1); have hbz : w.heap.size + 1 ≤ w4.heap.size := (by have := hb1.size; omega); obtain ⟨y1, fy1⟩ := blk1 (HB.out.belowS hb1); go_simp))
  all_goals
    have B5 := Lib.hid ((B3.out.trans (hb1.mono (by omega))).grown hg2 (by omega) (fun k hk => by have := (HO.out.lt k hk).1; omega))
    have hB5 := (HB.out.belowS hb1).grown hg2 (fun e => hne e.symm)
    have hval : bytesV M ++ strCells ⟨(fourB (fnv M)).toArray⟩ = bytesV (M ++ fourB (fnv M)) := by rw [strCells_bytes]; simp [bytesV]
    rw [hval] at hown2
    have hO5 : OwnG w5 (w.heap.size + 1) 5 A2 (M.length + (⟨(fourB (fnv M)).toArray⟩ : ByteArray).size) c2 (bytesV (M ++ fourB (fnv M))) := .inl hown2
    have hne5 := hO5.ne hB5 (by decide)
    have hO6 := hO5.far (p := ⟨w.heap.size + 1 + 1, 0, none⟩) hne5 (.slice A2 (M.length + (⟨(fourB (fnv M)).toArray⟩ : ByteArray).size) c2)
    have hB6 := hB5.set_ 0 (.slice A2 (M.length + (⟨(fourB (fnv M)).toArray⟩ : ByteArray).size) c2)
    have hconv6 := rd_string (P := Try.prog) (c := c2) (n := M.length + (⟨(fourB (fnv M)).toArray⟩ : ByteArray).size) Try.underlying34 Try.underlying5 Try.underlying9 hO6.rd (by rw [List.length_append]; rfl)
    clear hconv hconv2 hval hown2 hg2 hO5 hne5 hO6 hB5 y0 fy0 y1 fy1 hb1 hb1'
    have HB6 := Lib.hid hB6
    have B6 := Lib.hid (B5.out.setCell (p := ⟨w.heap.size + 1 + 1, 0, none⟩) (by simp; omega) (.slice A2 (M.length + (⟨(fourB (fnv M)).toArray⟩ : ByteArray).size) c2))
    clear hB6
    have e6 : M.length + (⟨(fourB (fnv M)).toArray⟩ : ByteArray).size = M.length + 4 := rfl
    rw [e6] at hconv6
    rw [e6] at HB6 B6
    have eF : (fourB (fnv M)).length = 4 := rfl
    rw [eF]
    generalize w5.setCell ⟨w.heap.size + 1 + 1, 0, none⟩ (.slice A2 (M.length + 4) c2) = W6 at *
    obtain ⟨q0, fq0⟩ := blk1 HB6.out
    have HG := Lib.hid (show writeG M = if 65536 < M.length + 4 then (⟨#[]⟩, 3300) else (⟨(M ++ fourB (fnv M)).toArray⟩, 0) from rfl)
    generalize fourB (fnv M) = F at *
    have hL0 : (0 : Int) ≤ (M.length : Int) + 4 := by omega
    have hL1 : (M.length : Int) + 4 ≤ 9223372036854775807 := by omega
    by_cases hbig : 65536 < M.length + 4
    · have hb2 : decide (65536 < (M.length : Int) + 4) = true := by simp; omega
      have HR2 := HG.out
      rw [if_pos hbig] at HR2
      have HR3 := Lib.hid HR2
      clear HR2 e6 eF hle2 HF HS hlen hLl hbig HG
      go_wp2_with fail
      go_ret2
      rw [HM.out, HR3.out]
      exact ⟨rfl, B6.out⟩
    · have hb2 : decide (65536 < (M.length : Int) + 4) = false := by simp; omega
      have HR2 := HG.out
      rw [if_neg hbig] at HR2
      have HR3 := Lib.hid HR2
      clear HR2 e6 eF hle2 HF HS hlen hLl hbig HG
      go_wp2_with fail
      go_ret2
      rw [HM.out, HR3.out]
      exact ⟨rfl, B6.out⟩
theorem write_nil (w : World) : Calls Try.prog 20 #[.agg #[.slice none 0 0, .slice none 0 0, .slice none 0 0]] w
      fun e w' => e = .returned (.tuple #[.string ⟨([82, 80, 84, 49, 0, 0, 0] ++ fourB (fnv [82, 80, 84, 49, 0, 0, 0])).toArray⟩, .int .i64 0]) ∧ Below w.heap.size w w' :=
  write_walk w none none none 0 0 0 0 0 0 [0] [0] [0] (by simp) (fun w1 g L _ hz hg h hL => eachP_nil h hz hg (by omega) _ _ _) (fun w1 g L _ hz hg h hL => eachL_nil h hz hg (by simp at hL; omega) _ _ _) (fun w1 g L _ hz hg h hL => eachC_nil h hz hg (by simp at hL; omega) _ _ _)
end Go.Proofs.Ythepacphphiijaa
