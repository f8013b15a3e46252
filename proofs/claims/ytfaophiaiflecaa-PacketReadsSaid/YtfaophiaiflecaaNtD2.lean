/- Contracts: the readers of a number, a text, a list of numbers. -/
import Derived.Test.YtfaophiaiflecaaNtD1
import Derived.Deep.DeepCutAuto
namespace Go.Proofs.Ytfaophiaiflecaa
open Go.RowKit

set_option maxHeartbeats 800000 in
theorem number642_any (b : Nat) (p : Addr) (v : Value) (s : ByteArray) (w : World) (hb : Blk w b #[.pointer (some p)] 106) (hp : w.cell? p = some v) (hf : w.frozen? p = false) (hs : s.size ≤ 1000000000) :
    Calls Try.prog 90 #[.string s, .pointer (some ⟨b, 0, none⟩)] w (OutRN s p w (readF s.data.toList)) := by
  have CR := Lib.hid (fun W => readNumber_any s W (by omega))
  obtain ⟨x0, _⟩ := blk1 hb
  rcases hr : readF s.data.toList with ⟨n, k, ok⟩
  rw [hr] at CR
  cases ok with
  | false =>
    go_enter Try.func90, Try.ntmps90
    go_wp2_with fail
    refine (CR.out _).mono ?_
    rintro e w1 ⟨rfl, rfl⟩
    go_wp2_with fail
    go_ret2
    exact ⟨rfl, rfl⟩
  | true =>
    obtain ⟨k0, k1⟩ := readF_le hr
    have k2 : k ≤ s.size := by rw [ba_size]; exact k1
    clear k0 k1 hr
    go_enter Try.func90, Try.ntmps90
    go_wp2_with fail
    refine (CR.out _).mono ?_
    rintro e w1 ⟨rfl, rfl⟩
    go_wp2_with fail
    go_ret2
    exact ⟨rfl, rfl⟩
theorem set_self {l : List Value} {j : Nat} {v : Value} (h : l[j]? = some v) : l.set j v = l := by
  obtain ⟨hj, e⟩ := List.getElem?_eq_some_iff.1 h
  rw [← e]; exact List.set_getElem_self hj
theorem cell_list {w : World} {h j : Nat} {cs : List Value} {t : TypeId} {v : Value} (hb : Blk w h cs.toArray t) (hz : cs[j]? = some v) : w.cell? ⟨h, j, none⟩ = some v := by
  rw [hb.cell j, List.getElem?_toArray, hz]
theorem blk_set_l {w : World} {h : Nat} {cs : List Value} {t : TypeId} (hb : Blk w h cs.toArray t) (j : Nat) (u : Value) : Blk (w.setCell ⟨h, j, none⟩ u) h (cs.set j u).toArray t := by
  have e := hb.set_ j u
  rwa [List.setIfInBounds_toArray] at e
theorem outN {K : FK} (hK : ∀ s, readK K s = match oneN s with | none => none | some (n, r) => some (.num n, r)) {h j : Nat} {cs : List Value} {t : TypeId} {s : List UInt8} {W W' : World} {e : Ending} (hb : Blk W h cs.toArray t) (hO : OutRN ⟨s.toArray⟩ ⟨h, j, none⟩ W (readF s) e W') : OutK K h j cs t s W e W' := by
  unfold OutRN at hO
  unfold OutK
  rw [hK]
  unfold oneN
  rcases hr : readF s with ⟨n, k, ok⟩
  rw [hr] at hO
  cases ok with
  | false =>
    obtain ⟨rfl, rfl⟩ : e = .returned (.tuple #[.string ⟨s.toArray⟩, .bool false]) ∧ W' = W := hO
    exact ⟨World.grownBy.refl _ _, _, rfl⟩
  | true =>
    obtain ⟨rfl, rfl⟩ : e = .returned (.tuple #[.string ((⟨s.toArray⟩ : ByteArray).extract k (⟨s.toArray⟩ : ByteArray).size), .bool true]) ∧ W' = W.setCell ⟨h, j, none⟩ (.int .i64 n) := hO
    refine ⟨grown_setCell _ ⟨h, j, none⟩ _, ?_, _, rfl, blk_set_l hb j _⟩
    rw [ba_mk ((⟨s.toArray⟩ : ByteArray).extract k _), ba_drop]
theorem rdc_num {b h j : Nat} {w : World} (hb : Blk w b #[.pointer (some ⟨h, j, none⟩)] 88) (hne : b ≠ h) : RdC .num b h j w := by
  intro W cs t s hg hB hz hs
  have CC := numberInt2_any b ⟨h, j, none⟩ _ ⟨s.toArray⟩ W (hb.grown hg (by simpa using hne)) (cell_list hB hz) (hB.frozen j) (by show s.length ≤ _; omega)
  rw [show (⟨s.toArray⟩ : ByteArray).data.toList = s by simp] at CC
  exact CC.mono fun e w' hO => outN (fun s => rfl) hB hO
theorem rdc_n64 {b h j : Nat} {w : World} (hb : Blk w b #[.pointer (some ⟨h, j, none⟩)] 106) (hne : b ≠ h) : RdC .n64 b h j w := by
  intro W cs t s hg hB hz hs
  have CC := number642_any b ⟨h, j, none⟩ _ ⟨s.toArray⟩ W (hb.grown hg (by simpa using hne)) (cell_list hB hz) (hB.frozen j) (by show s.length ≤ _; omega)
  rw [show (⟨s.toArray⟩ : ByteArray).data.toList = s by simp] at CC
  exact CC.mono fun e w' hO => outN (fun s => rfl) hB hO
theorem rdc_txt {b h j : Nat} {w : World} (hb : Blk w b #[.pointer (some ⟨h, j, none⟩)] 90) (hne : b ≠ h) : RdC .txt b h j w := by
  intro W cs t s hg hB hz hs
  have CC := text2_any b ⟨h, j, none⟩ _ ⟨s.toArray⟩ W (hb.grown hg (by simpa using hne)) (cell_list hB hz) (hB.frozen j) (by show s.length ≤ _; omega)
  rw [show (⟨s.toArray⟩ : ByteArray).data.toList = s by simp] at CC
  refine CC.mono fun e w' hO => ?_
  obtain ⟨rfl, hw⟩ := hO
  unfold OutK
  show _ ∧ (match (match oneT s with | none => none | some (n, r) => some (Dt.txt n, r)) with | none => _ | some (x, r) => _)
  unfold oneT
  rcases hr : cutT s with ⟨bd, rest, ok⟩
  rw [hr] at hw
  cases ok with
  | false =>
    refine ⟨?_, _, rfl⟩
    rcases hw with rfl | rfl
    · exact World.grownBy.refl _ _
    · exact grown_drew (World.grownBy.refl _ _)
  | true =>
    refine ⟨?_, rfl, _, rfl, ?_⟩
    · rcases hw with rfl | rfl
      · exact grown_setCell _ ⟨h, j, none⟩ _
      · exact grown_drew (grown_setCell _ ⟨h, j, none⟩ _)
    · rcases hw with rfl | rfl
      · exact blk_set_l hB j _
      · exact (blk_set_l hB j _).drew
theorem infoI64 : (Try.prog.info? 2).map (fun i => (i.zero, i.size, i.bytes)) = some (some (.int .i64 0), 1, 8) := by kernel_rfl
theorem grown_of_below {w w' : World} (h : Below w.heap.size w w') (row : Option Nat) : w.grownBy w' row := ⟨h.os, h.tape, h.output, h.size, fun k hk _ => h.block k hk⟩
theorem grown_far {W w1 w2 : World} {row row2 : Option Nat} (h : W.grownBy w1 row) (k : w1.grownBy w2 row2) (hr : ∀ g, row2 = some g → W.heap.size ≤ g) : W.grownBy w2 row :=
  ⟨k.os.trans h.os, k.tape.trans h.tape, k.output.trans h.output, Nat.le_trans h.size k.size, fun j hj hne => (k.block j (Nat.lt_of_lt_of_le hj h.size) (fun e => by have := hr _ e.symm; omega)).trans (h.block j hj hne)⟩
theorem readsK_one (s : List UInt8) : readsK [.n64] s = match oneN s with | none => none | some (n, r) => some ([.num n], r) := by
  rcases h : oneN s with _ | ⟨n, r⟩ <;> simp [readsK, readK, h]
theorem ints_snoc (l : List Int) (n : Int) : (l ++ [n]).map (Value.int .i64) = l.map (Value.int .i64) ++ [.int .i64 n] := by simp
set_option maxRecDepth 100000 in
set_option maxHeartbeats 6400000 in
theorem rdc_l64 {b h j : Nat} {w : World} (hb : Blk w b #[.pointer (some ⟨h, j, none⟩)] 110) (hf : Blk w (b + 1) #[.func (.func 82) #[] #[]] 108) (hne : b ≠ h) (hne2 : b + 1 ≠ h) : RdC .l64 b h j w := by
  intro W cs t s hg hB hz hs
  obtain ⟨i0, hi0, hz0, hz1, hz2⟩ := info_parts infoI64
  have hb := hb.grown hg (by simpa using hne)
  have hf := hf.grown hg (by simpa using hne2)
  clear hg
  have CR := Lib.hid (fun W => readNumber_any ⟨s.toArray⟩ W (by show s.length ≤ _; omega))
  rw [show (⟨s.toArray⟩ : ByteArray).data.toList = s by simp] at CR
  show Calls Try.prog 92 #[.string ⟨s.toArray⟩, .pointer (some ⟨b + 1, 0, none⟩), .pointer (some ⟨b, 0, none⟩)] W _
  have HRK := Lib.hid (show readK .l64 s = match (match oneN s with
    | none => none
    | some (n, r) => if n < 0 ∨ (r.length : Int) < n then none else manyF oneN n.toNat r) with | none => none | some (n, r) => some (.l64 n, r) from rfl)
  rw [show oneN s = match readF s with
    | (n, k, true) => some (n, s.drop k)
    | (_, _, false) => none from rfl] at HRK
  have HBB := Lib.hid hb
  have HFF := Lib.hid hf
  have HBH := Lib.hid hB
  have HZ := Lib.hid hz
  have hhl := hB.lt
  have hbl := hb.lt
  have hfl := hf.lt
  clear hb hf hB hz
  rcases hr : readF s with ⟨n, k, ok⟩
  rw [hr] at HRK CR
  cases ok with
  | false =>
    clear hr
    go_enter Try.func92, Try.ntmps92
    go_wp2_with fail
    refine (CR.out _).mono ?_
    rintro e w1 ⟨rfl, rfl⟩
    go_wp2_with fail
    go_ret2
    refine ⟨World.grownBy.refl _ _, ?_⟩
    rw [HRK.out]
    exact ⟨_, rfl⟩
  | true =>
    obtain ⟨k0, k1⟩ := readF_le hr
    clear hr
    have hld : (s.drop k).length = s.length - k := List.length_drop
    have q1 : IntKind.i64.wrap ((s.length : Int) - (k : Int)) = (s.length : Int) - (k : Int) := IntWalk.i64_in _ (by omega)
    by_cases hn : n < 0
    · have hd : decide (n < 0) = true := by simp; exact hn
      go_enter Try.func92, Try.ntmps92
      go_wp2_with fail
      refine (CR.out _).mono ?_
      rintro e w1 ⟨rfl, rfl⟩
      go_wp2_with fail
      go_ret2
      refine ⟨World.grownBy.refl _ _, ?_⟩
      rw [HRK.out, if_pos (.inl hn)]
      exact ⟨_, rfl⟩
    · obtain ⟨m, rfl⟩ : ∃ m : Nat, n = m := ⟨n.toNat, by omega⟩
      have hd : decide ((m : Int) < 0) = false := by simp
      by_cases hlt : (s.length : Int) - (k : Int) < (m : Int)
      · have hd2 : decide ((s.length : Int) - (k : Int) < (m : Int)) = true := by simp; omega
        go_enter Try.func92, Try.ntmps92
        go_wp2_with fail
        refine (CR.out _).mono ?_
        rintro e w1 ⟨rfl, rfl⟩
        go_wp2_with fail
        go_ret2
        refine ⟨World.grownBy.refl _ _, ?_⟩
        rw [HRK.out, if_pos (.inr (by omega))]
        exact ⟨_, rfl⟩
      · have hd2 : decide ((s.length : Int) - (k : Int) < (m : Int)) = false := by simp; omega
        have hks : k ≤ s.length := k1
        have hm : m + k ≤ s.length := by omega
        have HRK2 := Lib.hid (show readK .l64 s = match manyF oneN m (s.drop k) with | none => none | some (n, r) => some (.l64 n, r) by
          rw [HRK.out]
          dsimp only
          rw [if_neg (by omega)]
          rfl)
        have e1 : (⟨s.toArray⟩ : ByteArray).extract k (⟨s.toArray⟩ : ByteArray).size = ⟨(s.drop k).toArray⟩ := by rw [ba_mk ((⟨s.toArray⟩ : ByteArray).extract k _), ba_drop]
        have E1 := Lib.hid (show (⟨s.toArray⟩ : ByteArray).extract k s.length = ⟨(s.drop k).toArray⟩ from e1)
        clear HRK e1
        go_enter Try.func92, Try.ntmps92
        go_wp2_with fail
        refine (CR.out _).mono ?_
        rintro e w1 ⟨rfl, rfl⟩
        go_wp2_with fail
        rw [E1.out]
        have hrl : (s.drop k).length ≤ 1000000 := by omega
        have hml : m ≤ 1000000 := by omega
        generalize s.drop k = R0 at *
        have HBH0 := Lib.hid (show Blk W h (cs.set j (.slice none ([] : List Int).length 0)).toArray t by
          have e : cs.set j (.slice none ([] : List Int).length 0) = cs := set_self HZ.out
          rw [e]; exact HBH.out)
        clear CR E1 q1 hd hd2 hlt hks hm hld k0 k1 hn
        go_loopw [0, 6] (fun s0 n0 wr => ∃ (m' : Nat) (R : List UInt8) (l : List Int) (A : Option Addr) (c : Nat), n0 = .int .i64 m' ∧ s0 = .string ⟨R.toArray⟩ ∧ R.length ≤ 1000000 ∧ m' + l.length ≤ 1000000 ∧
          Hid (manyF oneN m R0 = match manyF oneN m' R with | none => none | some (t, r) => some (l ++ t, r)) ∧ Hid (Blk wr h (cs.set j (.slice A l.length c)).toArray t) ∧ Hid (wr.ownsRow W.heap.size 2 1 (.slice A l.length c) l.length (l.map (Value.int .i64))) ∧ Hid (W.grownBy wr (some h))) (fun _ n0 _ => (intOf n0).toNat)
        case atStart =>
          refine ⟨m, R0, [], none, 0, rfl, rfl, hrl, by simpa using hml, Lib.hid ?_, HBH0, Lib.hid (World.ownsRow_nil _ _ _ _), Lib.hid (World.grownBy.refl _ _)⟩
          cases manyF oneN m R0 <;> simp
        case round =>
          obtain ⟨m', R, l, A, c, rfl, rfl, hR, hml', hP, hB, hO, hG⟩ := hrel
          by_cases hpos : 0 < m'
          · have hd : decide ((0 : Int) < (m' : Int)) = true := by simp; omega
            obtain ⟨m1, rfl⟩ : ∃ m1, m' = m1 + 1 := ⟨m' - 1, by omega⟩
            have hN : W.heap.size ≤ wr.heap.size := hG.out.size
            have HH := Lib.hid (show h < wr.heap.size ∧ b < wr.heap.size ∧ b + 1 < wr.heap.size from ⟨by omega, by omega, by omega⟩)
            have HBW := Lib.hid (HBB.out.grown hG.out (by simpa using hne))
            have HFW := Lib.hid (HFF.out.grown hG.out (by simpa using hne2))
            have hBg := Lib.hid (Blk.new wr #[.int .i64 0] 2)
            have x1 : (wr.alloc (.cells #[.int .i64 0] 2)).cell? ⟨b + 1, 0, none⟩ = some (.func (.func 82) #[] #[]) := (HFW.out.alloc _).cell 0
            go_wp2_with fail
            refine (one_any ⟨wr.heap.size, 0, none⟩ _).mono ?_
            rintro e w2 ⟨b2, rfl, hRd, hb2, hge, hbf⟩
            have hgs : (wr.alloc (.cells #[.int .i64 0] 2)).heap.size = wr.heap.size + 1 := World.size_alloc _ _
            have B2 := Lib.hid (below_of_alloc hbf)
            have hgb : wr.heap.size + 1 ≤ b2 := by rw [← hgs]; exact hge
            have hn2 : b2 ≠ wr.heap.size := by omega
            have hn3 : b2 + 2 ≠ wr.heap.size := by omega
            have CR2 := Lib.hid (read_gen (some ⟨b2 + 2, 0, none⟩) [(.n64, b2)] 1 wr.heap.size [.int .i64 0] 2 R w2 hRd (by simp [blkOf]; exact hn3) (by
              intro j hj
              simp at hj
              subst hj
              exact rdc_n64 hb2 hn2) (hBg.out.belowS hbf) (by
              intro j hj
              simp at hj
              subst hj
              rfl) rfl (by simp) hR)
            rw [show ([((FK.n64 : FK), b2)] : List (FK × Nat)).map (·.1) = [.n64] from rfl] at CR2
            clear hRd hb2 hge hgs hbf x1 hgb hn2 hn3
            go_wp2_with fail
            refine CR2.out.mono ?_
            rintro e w3 ⟨hg3, hO3⟩
            have B3 := Lib.hid (B2.out.grown hg3 B2.out.size (fun k hk => by injection hk with hk; omega))
            clear CR2 hg3
            rw [readsK_one] at hO3
            have HLE := Lib.hid (fun n r (e : oneN R = some (n, r)) => oneN_le e)
            rcases hon : oneN R with _ | ⟨n, r⟩
            · rw [hon] at hO3
              obtain ⟨s', rfl⟩ := hO3
              have HP2 := Lib.hid (show manyF oneN m R0 = none by rw [hP.out]; simp [manyF, hon])
              clear hon HLE hP
              go_wp2_with fail
              go_ret2
              refine ⟨grown_trans hG.out (grown_of_below B3.out _), ?_⟩
              rw [HRK2.out, HP2.out]
              exact ⟨_, rfl⟩
            · rw [hon] at hO3
              have HP2 := Lib.hid (show manyF oneN m R0 = match manyF oneN m1 r with | none => none | some (t, r) => some ((l ++ [n]) ++ t, r) by
                rw [hP.out]
                rcases hq : manyF oneN m1 r with _ | ⟨t', r'⟩ <;> simp [manyF, hon, hq])
              have hle := HLE.out n r hon
              obtain ⟨rfl, vs, hvs, _, hat, hB3⟩ := hO3
              have hv : vs = [.int .i64 n] := by
                match vs, hvs with
                | [v], _ =>
                  have := hat 0 (.num n) v rfl rfl
                  rw [show v = .int .i64 n from this]
              subst hv
              clear hon HLE hat hvs hP
              have HX := Lib.hid (fun W' (hw : Below wr.heap.size wr W') => show W'.cell? ⟨b, 0, none⟩ = some (.pointer (some ⟨h, j, none⟩)) ∧ W'.cell? ⟨h, j, none⟩ = some (.slice A l.length c) ∧ W'.frozen? ⟨h, j, none⟩ = false from
                ⟨(HBW.out.belowS hw).cell 0, cell_list (hB.out.belowS hw) (by rw [List.getElem?_set_self (List.getElem?_eq_some_iff.1 HZ.out).1]), (hB.out.belowS hw).frozen j⟩)
              obtain ⟨y0, y1, y2⟩ := HX.out _ B3.out
              have y3 : w3.cell? ⟨wr.heap.size, 0, none⟩ = some (.int .i64 n) := hB3.cell 0
              obtain ⟨v0, v1, v2⟩ := HX.out _ (below_allocS B3.out (.cells #[.int .i64 n] 2))
              have v3 : (w3.alloc (.cells #[.int .i64 n] 2)).cell? ⟨wr.heap.size, 0, none⟩ = some (.int .i64 n) := (hB3.alloc _).cell 0
              have hl3 := B3.out.size
              have hl4 := hB3.lt
              obtain ⟨hh1, hh2, hh3⟩ := HH.out
              clear hB3
              have O4 := Lib.hid (fun o => hO.out.kept (grown_of_below (below_allocS B3.out.drew o) none) (by cases hq : (Value.slice A l.length c).ownBlock <;> simp))
              have HRX := Lib.hid (Rd.new w3.drew #[.int .i64 n] 2)
              have hjl : j < cs.length := (List.getElem?_eq_some_iff.1 HZ.out).1
              have HBX := Lib.hid (fun o W' (hg : (w3.drew.alloc o).grownBy W' (Value.slice A l.length c).ownBlock) => show Blk W' h (cs.set j (.slice A l.length c)).toArray t ∧ W'.cell? ⟨h, j, none⟩ = some (.slice A l.length c) ∧ W'.frozen? ⟨h, j, none⟩ = false ∧ W'.cell? ⟨b, 0, none⟩ = some (.pointer (some ⟨h, j, none⟩)) by
                have e' := (HBW.out.belowS (below_allocS B3.out.drew o)).grown hg (by intro e; have := (hO.out.lt b e.symm).1; omega)
                have e := (hB.out.belowS (below_allocS B3.out.drew o)).grown hg (by intro e; have := (hO.out.lt h e.symm).1; omega)
                exact ⟨e, cell_list e (by rw [List.getElem?_set_self hjl]), e.frozen j, e'.cell 0⟩)
              have hNw : ∀ o, W.heap.size ≤ (w3.drew.alloc o).heap.size := fun o => by rw [World.size_alloc]; show _ ≤ w3.heap.size + 1; omega
              go_wp2_with fail
              go_region_law (first
                | (refine step_app _ (by rfl) _ _ _ (by rfl) W.heap.size 2 i0 _ 1 8 Try.underlying34 hi0 hz0 hz1 hz2 rfl (by omega) (.slice A l.length c) l.length _ (by rfl) (O4.out _) (some ⟨w3.heap.size, 0, none⟩) 1 1 [.int .i64 n] (by rfl) HRX.out rfl (by simp [Value.oneCell']) (by omega) (by unfold maxLen; omega) (hNw _) ?_; intro A4 c4 w14 hle14 hown14 hg14 hat14; obtain ⟨z0, z1, z2, z3⟩ := HBX.out _ _ hg14))
              all_goals
                go_wp2_with fail
                refine ⟨⟨m1, r, l ++ [n], A4, c4, by go_num, rfl, by omega, by simp; omega, HP2, Lib.hid ?_, Lib.hid ?_, Lib.hid ?_⟩, by simp [intOf]⟩
                · have e := blk_set_l z0 j (.slice A4 (l.length + 1) c4)
                  rw [List.set_set] at e
                  simpa using e
                · have e := own_far hown14 (p := ⟨h, j, none⟩) (by show h < _; omega) (.slice A4 (l.length + 1) c4)
                  rw [ints_snoc]
                  simpa using e
                · have e1 := grown_trans hG.out (grown_of_below (below_allocS B3.out.drew (.cells #[.int .i64 n] 2)) (some h))
                  have e2 := grown_far e1 hg14 (fun g hg => (hO.out.lt g hg).1)
                  exact grown_trans e2 (grown_setCell _ ⟨h, j, none⟩ _)
          · have hd : decide ((0 : Int) < (m' : Int)) = false := by simp; omega
            obtain rfl : m' = 0 := by omega
            go_wp2_with fail
            go_ret2
            refine ⟨hG.out, ?_⟩
            rw [HRK2.out, hP.out]
            refine ⟨rfl, _, ⟨A, c, rfl, ?_, ?_⟩, ?_⟩
            · rw [List.append_nil]; exact own_rd hO.out
            · intro a ha
              subst ha
              have := hO.out.lt _ rfl
              exact ⟨by omega, this.2⟩
            · rw [List.append_nil]; exact hB.out
end Go.Proofs.Ytfaophiaiflecaa
