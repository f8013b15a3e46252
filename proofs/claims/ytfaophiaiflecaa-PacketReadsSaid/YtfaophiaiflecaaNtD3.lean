/- Contract: the reader of a list of bindings. -/
import Derived.Test.YtfaophiaiflecaaNtD2
namespace Go.Proofs.Ytfaophiaiflecaa
open Go.RowKit

theorem infoBd : (Try.prog.info? 62).map (fun i => (i.zero, i.size, i.bytes)) = some (some (.agg #[.string ⟨#[]⟩, .int .i64 0, .int .i64 0, .string ⟨#[]⟩, .slice none 0 0]), 5, 72) := by kernel_rfl
theorem ne_new' {A : Option Addr} {n h : Nat} (hn : ∀ ad, A = some ad → n ≤ ad.block) (hh : h < n) : blkOf A ≠ some h := by
  cases A with
  | none => simp [blkOf]
  | some a => have := hn a rfl; simp [blkOf]; omega
/-- A row of bindings that grows. -/
def BRow (N : Nat) (w : World) (A : Option Addr) (c : Nat) (l : List Bd) : Prop := ∃ Rw : List (Option Addr × Nat), Rw.length = l.length ∧ w.ownsRow N 62 5 (.slice A l.length c) l.length (bdRow l Rw) ∧
  ∀ (i : Nat) b r, l[i]? = some b → Rw[i]? = some r → Ints w r.1 b.v.l ∧ ∀ a, r.1 = some a → N ≤ a.block ∧ a.block < w.heap.size ∧ some a.block ≠ (Value.slice A l.length c).ownBlock
theorem BRow.nil (N : Nat) (w : World) : BRow N w none 0 [] := ⟨[], rfl, World.ownsRow_nil _ _ _ _, fun i b r h => by simp at h⟩
theorem bdRow_snoc (l : List Bd) (R : List (Option Addr × Nat)) (h : R.length = l.length) (b : Bd) (r : Option Addr × Nat) : bdRow (l ++ [b]) (R ++ [r]) = bdRow l R ++ bdCells b r := by
  unfold bdRow
  rw [List.zip_append h.symm, List.flatMap_append]
  simp
theorem BRow.envX {N h : Nat} {w : World} {A : Option Addr} {c : Nat} {l : List Bd} (H : BRow N w A c l) (hh : h < N) : EnvX w h A l := by
  obtain ⟨R, h1, h2, h3⟩ := H
  refine ⟨fun a ha => ?_, R, h1, own_rd h2, fun i b r hi hr => ⟨(h3 i b r hi hr).1, fun a ha => ?_⟩⟩
  · subst ha
    have := h2.lt _ rfl
    exact ⟨by omega, this.2⟩
  · have := (h3 i b r hi hr).2 a ha
    exact ⟨by omega, this.2.1⟩
theorem brow_step {N h j : Nat} {w w' : World} {l : List Bd} {Rw : List (Option Addr × Nat)} {A A4 P : Option Addr} {c c4 pc : Nat} {b : Bd} {u : Value}
    (hR : Rw.length = l.length) (hin : ∀ (i : Nat) b r, l[i]? = some b → Rw[i]? = some r → Ints w r.1 b.v.l ∧ ∀ a, r.1 = some a → N ≤ a.block ∧ a.block < w.heap.size ∧ some a.block ≠ (Value.slice A l.length c).ownBlock) (hnew : Ints w P b.v.l)
    (hP : ∀ a, P = some a → N ≤ a.block ∧ a.block < w.heap.size ∧ some a.block ≠ (Value.slice A l.length c).ownBlock) (hg : w.grownBy w' (Value.slice A l.length c).ownBlock)
    (hown : w'.ownsRow N 62 5 (.slice A4 (l.length + 1) c4) (l.length + 1) (bdRow l Rw ++ [.string b.name, .int .i64 b.v.kind, .int .i64 b.v.n, .string b.v.s, .slice P b.v.l.length pc]))
    (hat : (Value.slice A4 (l.length + 1) c4).ownBlock = (Value.slice A l.length c).ownBlock ∨ (Value.slice A4 (l.length + 1) c4).ownBlock = some w.heap.size) (hh : h < N) : BRow N (w'.setCell ⟨h, j, none⟩ u) A4 c4 (l ++ [b]) := by
  have hsz : (w'.setCell ⟨h, j, none⟩ u).heap.size = w'.heap.size := by simp
  have key : ∀ (Q : Option Addr) (m : List Int), Ints w Q m → (∀ a, Q = some a → N ≤ a.block ∧ a.block < w.heap.size ∧ some a.block ≠ (Value.slice A l.length c).ownBlock) →
      Ints (w'.setCell ⟨h, j, none⟩ u) Q m ∧ ∀ a, Q = some a → N ≤ a.block ∧ a.block < (w'.setCell ⟨h, j, none⟩ u).heap.size ∧ some a.block ≠ (Value.slice A4 (l ++ [b]).length c4).ownBlock := by
    intro Q m hQ hb
    refine ⟨?_, fun a ha => ⟨(hb a ha).1, by rw [hsz]; exact Nat.lt_of_lt_of_le (hb a ha).2.1 hg.size, ?_⟩⟩
    · have h1 : Ints w' Q m := by
        cases Q with
        | none => exact fun hn => by obtain ⟨_, _, e, _⟩ := hQ hn; cases e
        | some a => exact rd_grown hQ hg (hb a rfl).2.2
      cases Q with
      | none => exact fun hn => by obtain ⟨_, _, e, _⟩ := hQ hn; cases e
      | some a => exact rd_grown h1 (grown_setCell w' ⟨h, j, none⟩ u) (by have := (hb a rfl).1; simp [blkOf]; omega)
    · rw [List.length_append, List.length_singleton]
      rcases hat with e | e <;> rw [e]
      · exact (hb a ha).2.2
      · have := (hb a ha).2.1
        intro e; injection e with e; omega
  refine ⟨Rw ++ [(P, pc)], by simp [hR], ?_, fun i b' r hi hr => ?_⟩
  · have e := own_far hown (p := ⟨h, j, none⟩) hh u
    rw [bdRow_snoc l Rw hR]
    simpa [bdCells] using e
  · by_cases hlt : i < l.length
    · rw [List.getElem?_append_left hlt] at hi
      rw [List.getElem?_append_left (by omega)] at hr
      exact key _ _ (hin i b' r hi hr).1 (hin i b' r hi hr).2
    · rw [List.getElem?_append_right (by omega)] at hi
      rw [List.getElem?_append_right (by omega), hR] at hr
      cases hz : i - l.length with
      | zero => rw [hz] at hi hr; simp at hi hr; subst hi; subst hr; exact key _ _ hnew hP
      | succ m => rw [hz] at hi; simp at hi
theorem readsK_bd (s : List UInt8) : readsK [.txt, .num, .n64, .txt, .l64] s = match oneB s with | none => none | some (n, r) => some ([.txt n.name, .num n.v.kind, .num n.v.n, .txt n.v.s, .l64 n.v.l], r) := by
  simp only [readsK, readK, oneB, oneV]
  rcases h1 : oneT s with _ | ⟨a1, s1⟩
  · simp
  rcases h2 : oneN s1 with _ | ⟨a2, s2⟩
  · simp [h2]
  rcases h3 : oneN s2 with _ | ⟨a3, s3⟩
  · simp [h2, h3]
  rcases h4 : oneT s3 with _ | ⟨a4, s4⟩
  · simp [h2, h3, h4]
  rcases h5 : listF oneN s4 with _ | ⟨a5, s5⟩ <;> simp [h2, h3, h4, h5]
set_option maxRecDepth 100000 in
set_option maxHeartbeats 16000000 in
theorem rdc_lB {b h j : Nat} {w : World} (hb : Blk w b #[.pointer (some ⟨h, j, none⟩)] 94) (hf : Blk w (b + 1) #[.func (.func 58) #[] #[]] 95) (hne : b ≠ h) (hne2 : b + 1 ≠ h) : RdC .lB b h j w := by
  intro W cs t s hg hB hz hs
  obtain ⟨i0, hi0, hz0, hz1, hz2⟩ := info_parts infoBd
  have hb := hb.grown hg (by simpa using hne)
  have hf := hf.grown hg (by simpa using hne2)
  clear hg
  have CR := Lib.hid (fun W => readNumber_any ⟨s.toArray⟩ W (by show s.length ≤ _; omega))
  rw [show (⟨s.toArray⟩ : ByteArray).data.toList = s by simp] at CR
  show Calls Try.prog 86 #[.string ⟨s.toArray⟩, .pointer (some ⟨b + 1, 0, none⟩), .pointer (some ⟨b, 0, none⟩)] W _
  have HRK := Lib.hid (show readK .lB s = match (match oneN s with
    | none => none
    | some (n, r) => if n < 0 ∨ (r.length : Int) < n then none else manyF oneB n.toNat r) with | none => none | some (n, r) => some (.lB n, r) from rfl)
  rw [show oneN s = match readF s with
    | (n, k, true) => some (n, s.drop k)
    | (_, _, false) => none from rfl] at HRK
  have HBB := Lib.hid hb
  have HFF := Lib.hid hf
  have HBH := Lib.hid hB
  have HZ := Lib.hid hz
  have hhl := hB.lt
  have hbl := hb.lt
  have hfl := hf.lt
  clear hb hf hB hz
  rcases hr : readF s with ⟨n, k, ok⟩
  rw [hr] at HRK CR
  cases ok with
  | false =>
    clear hr
    go_enter Try.func86, Try.ntmps86
    go_wp2_with fail
    refine (CR.out _).mono ?_
    rintro e w1 ⟨rfl, rfl⟩
    go_wp2_with fail
    go_ret2
    refine ⟨World.grownBy.refl _ _, ?_⟩
    rw [HRK.out]
    exact ⟨_, rfl⟩
  | true =>
    obtain ⟨k0, k1⟩ := readF_le hr
    clear hr
    have hld : (s.drop k).length = s.length - k := List.length_drop
    have q1 : IntKind.i64.wrap ((s.length : Int) - (k : Int)) = (s.length : Int) - (k : Int) := IntWalk.i64_in _ (by omega)
    by_cases hn : n < 0
    · have hd : decide (n < 0) = true := by simp; exact hn
      go_enter Try.func86, Try.ntmps86
      go_wp2_with fail
      refine (CR.out _).mono ?_
      rintro e w1 ⟨rfl, rfl⟩
      go_wp2_with fail
      go_ret2
      refine ⟨World.grownBy.refl _ _, ?_⟩
      rw [HRK.out, if_pos (.inl hn)]
      exact ⟨_, rfl⟩
    · obtain ⟨m, rfl⟩ : ∃ m : Nat, n = m := ⟨n.toNat, by omega⟩
      have hd : decide ((m : Int) < 0) = false := by simp
      by_cases hlt : (s.length : Int) - (k : Int) < (m : Int)
      · have hd2 : decide ((s.length : Int) - (k : Int) < (m : Int)) = true := by simp; omega
        go_enter Try.func86, Try.ntmps86
        go_wp2_with fail
        refine (CR.out _).mono ?_
        rintro e w1 ⟨rfl, rfl⟩
        go_wp2_with fail
        go_ret2
        refine ⟨World.grownBy.refl _ _, ?_⟩
        rw [HRK.out, if_pos (.inr (by omega))]
        exact ⟨_, rfl⟩
      · have hd2 : decide ((s.length : Int) - (k : Int) < (m : Int)) = false := by simp; omega
        have hks : k ≤ s.length := k1
        have hm : m + k ≤ s.length := by omega
        have HRK2 := Lib.hid (show readK .lB s = match manyF oneB m (s.drop k) with | none => none | some (n, r) => some (.lB n, r) by
          rw [HRK.out]
          dsimp only
          rw [if_neg (by omega)]
          rfl)
        have e1 : (⟨s.toArray⟩ : ByteArray).extract k (⟨s.toArray⟩ : ByteArray).size = ⟨(s.drop k).toArray⟩ := by rw [ba_mk ((⟨s.toArray⟩ : ByteArray).extract k _), ba_drop]
        have E1 := Lib.hid (show (⟨s.toArray⟩ : ByteArray).extract k s.length = ⟨(s.drop k).toArray⟩ from e1)
        clear HRK e1
        go_enter Try.func86, Try.ntmps86
        go_wp2_with fail
        refine (CR.out _).mono ?_
        rintro e w1 ⟨rfl, rfl⟩
        go_wp2_with fail
        rw [E1.out]
        have hrl : (s.drop k).length ≤ 1000000 := by omega
        have hml : m ≤ 1000000 := by omega
        generalize s.drop k = R0 at *
        have HBH0 := Lib.hid (show Blk W h (cs.set j (.slice none ([] : List Bd).length 0)).toArray t by
          have e : cs.set j (.slice none ([] : List Bd).length 0) = cs := set_self HZ.out
          rw [e]; exact HBH.out)
        clear CR E1 q1 hd hd2 hlt hks hm hld k0 k1 hn
        go_loopw [0, 6] (fun s0 n0 wr => ∃ (m' : Nat) (R : List UInt8) (l : List Bd) (A : Option Addr) (c : Nat), n0 = .int .i64 m' ∧ s0 = .string ⟨R.toArray⟩ ∧ R.length ≤ 1000000 ∧ m' + l.length ≤ 1000000 ∧
          Hid (manyF oneB m R0 = match manyF oneB m' R with | none => none | some (t, r) => some (l ++ t, r)) ∧ Hid (Blk wr h (cs.set j (.slice A l.length c)).toArray t) ∧ Hid (BRow W.heap.size wr A c l) ∧ Hid (W.grownBy wr (some h))) (fun _ n0 _ => (intOf n0).toNat)
        case atStart =>
          refine ⟨m, R0, [], none, 0, rfl, rfl, hrl, by simpa using hml, Lib.hid ?_, HBH0, Lib.hid (BRow.nil _ _), Lib.hid (World.grownBy.refl _ _)⟩
          cases manyF oneB m R0 <;> simp
        case round =>
          obtain ⟨m', R, l, A, c, rfl, rfl, hR, hml', hP, hB, hO, hG⟩ := hrel
          by_cases hpos : 0 < m'
          · have hd : decide ((0 : Int) < (m' : Int)) = true := by simp; omega
            obtain ⟨m1, rfl⟩ : ∃ m1, m' = m1 + 1 := ⟨m' - 1, by omega⟩
            have hN : W.heap.size ≤ wr.heap.size := hG.out.size
            have HH := Lib.hid (show h < wr.heap.size ∧ b < wr.heap.size ∧ b + 1 < wr.heap.size from ⟨by omega, by omega, by omega⟩)
            have HBW := Lib.hid (HBB.out.grown hG.out (by simpa using hne))
            have HFW := Lib.hid (HFF.out.grown hG.out (by simpa using hne2))
            have hBg := Lib.hid (Blk.new wr #[.string ⟨#[]⟩, .int .i64 0, .int .i64 0, .string ⟨#[]⟩, .slice none 0 0] 62)
            have x1 : (wr.alloc (.cells #[.string ⟨#[]⟩, .int .i64 0, .int .i64 0, .string ⟨#[]⟩, .slice none 0 0] 62)).cell? ⟨b + 1, 0, none⟩ = some (.func (.func 58) #[] #[]) := (HFW.out.alloc _).cell 0
            go_wp2_with fail
            refine (bind_any wr.heap.size 0 _ (by rw [World.size_alloc]; omega)).mono ?_
            rintro e w2 ⟨A2, b2, v2, c2, rfl, hRd, p0, p1, p2, p3, p4, p5, hge, hge2, hgA, hbf⟩
            have hgs : (wr.alloc (.cells #[.string ⟨#[]⟩, .int .i64 0, .int .i64 0, .string ⟨#[]⟩, .slice none 0 0] 62)).heap.size = wr.heap.size + 1 := World.size_alloc _ _
            have B2 := Lib.hid (below_of_alloc hbf)
            have hgb : wr.heap.size + 1 ≤ b2 := by rw [← hgs]; exact hge
            have hgv : wr.heap.size + 1 ≤ v2 := by rw [← hgs]; exact hge2
            have m0 : b2 ≠ wr.heap.size := by omega
            have m1' : v2 ≠ wr.heap.size := by omega
            have m2 : v2 + 2 ≠ wr.heap.size := by omega
            have m3 : v2 + 4 ≠ wr.heap.size := by omega
            have m4 : v2 + 6 ≠ wr.heap.size := by omega
            have m5 : v2 + 6 + 1 ≠ wr.heap.size := by omega
            have hnA : blkOf A2 ≠ some wr.heap.size := ne_new' (n := wr.heap.size + 1) (fun ad ha => by rw [← hgs]; exact hgA ad ha) (by omega)
            have CR2 := Lib.hid (read_gen A2 [(.txt, b2), (.num, v2), (.n64, v2 + 2), (.txt, v2 + 4), (.l64, v2 + 6)] c2 wr.heap.size [.string ⟨#[]⟩, .int .i64 0, .int .i64 0, .string ⟨#[]⟩, .slice none 0 0] 62 R w2 hRd hnA (by
              intro j hj
              rcases j with _ | _ | _ | _ | _ | j
              · exact rdc_txt p0 m0
              · exact rdc_num p1 m1'
              · exact rdc_n64 p2 m2
              · exact rdc_txt p3 m3
              · exact rdc_l64 p4 p5 m4 m5
              · simp at hj; omega) (hBg.out.belowS hbf) (by
              intro j hj
              rcases j with _ | _ | _ | _ | _ | j
              · rfl
              · rfl
              · rfl
              · rfl
              · rfl
              · simp at hj; omega) rfl (by simp) hR)
            rw [show ([((FK.txt : FK), b2), (.num, v2), (.n64, v2 + 2), (.txt, v2 + 4), (.l64, v2 + 6)] : List (FK × Nat)).map (·.1) = [.txt, .num, .n64, .txt, .l64] from rfl] at CR2
            clear hRd p0 p1 p2 p3 p4 p5 hge hge2 hgA hbf x1 hgb hgv hgs hnA m0 m1' m2 m3 m4 m5
            go_wp2_with fail
            refine CR2.out.mono ?_
            rintro e w3 ⟨hg3, hO3⟩
            have B3 := Lib.hid (B2.out.grown hg3 B2.out.size (fun k hk => by injection hk with hk; omega))
            clear CR2 hg3
            rw [readsK_bd] at hO3
            have HLE := Lib.hid (fun n r (e : oneB R = some (n, r)) => oneB_le e)
            rcases hon : oneB R with _ | ⟨n, r⟩
            · rw [hon] at hO3
              obtain ⟨s', rfl⟩ := hO3
              have HP2 := Lib.hid (show manyF oneB m R0 = none by rw [hP.out]; simp [manyF, hon])
              clear hon HLE hP
              go_wp2_with fail
              go_ret2
              refine ⟨grown_trans hG.out (grown_of_below B3.out _), ?_⟩
              rw [HRK2.out, HP2.out]
              exact ⟨_, rfl⟩
            · rw [hon] at hO3
              have HP2 := Lib.hid (show manyF oneB m R0 = match manyF oneB m1 r with | none => none | some (t, r) => some ((l ++ [n]) ++ t, r) by
                rw [hP.out]
                rcases hq : manyF oneB m1 r with _ | ⟨t', r'⟩ <;> simp [manyF, hon, hq])
              have hle := HLE.out n r hon
              obtain ⟨rfl, vs, hvs, _, hat, hB3⟩ := hO3
              obtain ⟨P, pc, hPI, hPB, rfl⟩ : ∃ P pc, Ints w3 P n.v.l ∧ (∀ a, P = some a → wr.heap.size < a.block ∧ a.block < w3.heap.size) ∧ vs = [.string n.name, .int .i64 n.v.kind, .int .i64 n.v.n, .string n.v.s, .slice P n.v.l.length pc] := by
                match vs, hvs with
                | [u0, u1, u2, u3, u4], _ =>
                  have a0 := hat 0 _ _ rfl rfl
                  have a1 := hat 1 _ _ rfl rfl
                  have a2 := hat 2 _ _ rfl rfl
                  have a3 := hat 3 _ _ rfl rfl
                  obtain ⟨P, pc, a4, a5, a6⟩ := hat 4 _ _ rfl rfl
                  refine ⟨P, pc, a5, a6, ?_⟩
                  rw [show u0 = .string n.name from a0, show u1 = .int .i64 n.v.kind from a1, show u2 = .int .i64 n.v.n from a2, show u3 = .string n.v.s from a3, a4]
              obtain ⟨Rw, hRw, hOw, hIn⟩ := hO.out
              have HPI := Lib.hid hPI
              have HPB := Lib.hid hPB
              have HIN := Lib.hid hIn
              have HRW := Lib.hid hRw
              have HOW := Lib.hid hOw
              have HB3 := Lib.hid hB3
              clear hPI hPB hIn hRw hOw
              clear hon HLE hat hvs hP
              have HX := Lib.hid (fun W' (hw : Below wr.heap.size wr W') => show W'.cell? ⟨b, 0, none⟩ = some (.pointer (some ⟨h, j, none⟩)) ∧ W'.cell? ⟨h, j, none⟩ = some (.slice A l.length c) ∧ W'.frozen? ⟨h, j, none⟩ = false from
                ⟨(HBW.out.belowS hw).cell 0, cell_list (hB.out.belowS hw) (by rw [List.getElem?_set_self (List.getElem?_eq_some_iff.1 HZ.out).1]), (hB.out.belowS hw).frozen j⟩)
              obtain ⟨y0, y1, y2⟩ := HX.out _ B3.out
              have y30 : w3.cell? ⟨wr.heap.size, 0, none⟩ = some (.string n.name) := hB3.cell 0
              have y31 : w3.cell? ⟨wr.heap.size, 1, none⟩ = some (.int .i64 n.v.kind) := hB3.cell 1
              have y32 : w3.cell? ⟨wr.heap.size, 2, none⟩ = some (.int .i64 n.v.n) := hB3.cell 2
              have y33 : w3.cell? ⟨wr.heap.size, 3, none⟩ = some (.string n.v.s) := hB3.cell 3
              have y34 : w3.cell? ⟨wr.heap.size, 4, none⟩ = some (.slice P n.v.l.length pc) := hB3.cell 4
              obtain ⟨v0, v1, v2⟩ := HX.out _ (below_allocS B3.out (.cells #[.string n.name, .int .i64 n.v.kind, .int .i64 n.v.n, .string n.v.s, .slice P n.v.l.length pc] 62))
              have v30 : (w3.alloc (.cells #[.string n.name, .int .i64 n.v.kind, .int .i64 n.v.n, .string n.v.s, .slice P n.v.l.length pc] 62)).cell? ⟨wr.heap.size, 0, none⟩ = some (.string n.name) := (hB3.alloc _).cell 0
              have v31 : (w3.alloc (.cells #[.string n.name, .int .i64 n.v.kind, .int .i64 n.v.n, .string n.v.s, .slice P n.v.l.length pc] 62)).cell? ⟨wr.heap.size, 1, none⟩ = some (.int .i64 n.v.kind) := (hB3.alloc _).cell 1
              have v32 : (w3.alloc (.cells #[.string n.name, .int .i64 n.v.kind, .int .i64 n.v.n, .string n.v.s, .slice P n.v.l.length pc] 62)).cell? ⟨wr.heap.size, 2, none⟩ = some (.int .i64 n.v.n) := (hB3.alloc _).cell 2
              have v33 : (w3.alloc (.cells #[.string n.name, .int .i64 n.v.kind, .int .i64 n.v.n, .string n.v.s, .slice P n.v.l.length pc] 62)).cell? ⟨wr.heap.size, 3, none⟩ = some (.string n.v.s) := (hB3.alloc _).cell 3
              have v34 : (w3.alloc (.cells #[.string n.name, .int .i64 n.v.kind, .int .i64 n.v.n, .string n.v.s, .slice P n.v.l.length pc] 62)).cell? ⟨wr.heap.size, 4, none⟩ = some (.slice P n.v.l.length pc) := (hB3.alloc _).cell 4
              have hl3 := B3.out.size
              have hl4 := hB3.lt
              obtain ⟨hh1, hh2, hh3⟩ := HH.out
              clear hB3
              have O4 := Lib.hid (fun o => HOW.out.kept (grown_of_below (below_allocS B3.out.drew o) none) (by cases hq : (Value.slice A l.length c).ownBlock <;> simp))
              have HRX := Lib.hid (Rd.new w3.drew #[.string n.name, .int .i64 n.v.kind, .int .i64 n.v.n, .string n.v.s, .slice P n.v.l.length pc] 62)
              have hjl : j < cs.length := (List.getElem?_eq_some_iff.1 HZ.out).1
              have HBX := Lib.hid (fun o W' (hg : (w3.drew.alloc o).grownBy W' (Value.slice A l.length c).ownBlock) => show Blk W' h (cs.set j (.slice A l.length c)).toArray t ∧ W'.cell? ⟨h, j, none⟩ = some (.slice A l.length c) ∧ W'.frozen? ⟨h, j, none⟩ = false ∧ W'.cell? ⟨b, 0, none⟩ = some (.pointer (some ⟨h, j, none⟩)) by
                have e' := (HBW.out.belowS (below_allocS B3.out.drew o)).grown hg (by intro e; have := (HOW.out.lt b e.symm).1; omega)
                have e := (hB.out.belowS (below_allocS B3.out.drew o)).grown hg (by intro e; have := (HOW.out.lt h e.symm).1; omega)
                exact ⟨e, cell_list e (by rw [List.getElem?_set_self hjl]), e.frozen j, e'.cell 0⟩)
              have hNw : ∀ o, W.heap.size ≤ (w3.drew.alloc o).heap.size := fun o => by rw [World.size_alloc]; show _ ≤ w3.heap.size + 1; omega
              go_wp2_with fail
              go_region_law (first
                | (refine step_app _ (by rfl) _ _ _ (by rfl) W.heap.size 62 i0 _ 5 72 Try.underlying39 hi0 hz0 hz1 hz2 rfl (by omega) (.slice A l.length c) l.length _ (by rfl) (O4.out _) (some ⟨w3.heap.size, 0, none⟩) 1 1 [.string n.name, .int .i64 n.v.kind, .int .i64 n.v.n, .string n.v.s, .slice P n.v.l.length pc] (by rfl) HRX.out rfl (by simp [Value.oneCell']) (by omega) (by unfold maxLen; omega) (hNw _) ?_; intro A4 c4 w14 hle14 hown14 hg14 hat14; obtain ⟨z0, z1, z2, z3⟩ := HBX.out _ _ hg14))
              all_goals
                go_wp2_with fail
                refine ⟨⟨m1, r, l ++ [n], A4, c4, by go_num, rfl, by omega, by simp; omega, HP2, Lib.hid ?_, Lib.hid ?_, Lib.hid ?_⟩, by simp [intOf]⟩
                · have e := blk_set_l z0 j (.slice A4 (l.length + 1) c4)
                  rw [List.set_set] at e
                  simpa using e
                · exact brow_step HRW.out (fun i b r hi hr => ⟨Rd.below (HIN.out i b r hi hr).1 (below_allocS B3.out.drew _), fun a ha => ⟨((HIN.out i b r hi hr).2 a ha).1, Nat.lt_of_lt_of_le ((HIN.out i b r hi hr).2 a ha).2.1 (below_allocS B3.out.drew _).size, ((HIN.out i b r hi hr).2 a ha).2.2⟩⟩) (Rd.below HPI.out (below_allocS (Below.refl _ _).drew _))
                    (fun a ha => ⟨by have := (HPB.out a ha).1; omega, Nat.lt_of_lt_of_le (HPB.out a ha).2 (below_allocS (Below.refl _ _).drew _).size, fun e => by have h1 := (HPB.out a ha).1; have h2 := (HOW.out.lt _ e.symm).2; omega⟩) hg14 hown14 hat14 (by omega)
                · have e1 := grown_trans hG.out (grown_of_below (below_allocS B3.out.drew (.cells #[.string n.name, .int .i64 n.v.kind, .int .i64 n.v.n, .string n.v.s, .slice P n.v.l.length pc] 62)) (some h))
                  have e2 := grown_far e1 hg14 (fun g hg => (HOW.out.lt g hg).1)
                  exact grown_trans e2 (grown_setCell _ ⟨h, j, none⟩ _)
          · have hd : decide ((0 : Int) < (m' : Int)) = false := by simp; omega
            obtain rfl : m' = 0 := by omega
            go_wp2_with fail
            go_ret2
            refine ⟨hG.out, ?_⟩
            rw [HRK2.out, hP.out]
            refine ⟨rfl, _, ⟨A, c, rfl, ?_⟩, ?_⟩
            · rw [List.append_nil]; exact hO.out.envX (by omega)
            · rw [List.append_nil]; exact hB.out
end Go.Proofs.Ytfaophiaiflecaa
