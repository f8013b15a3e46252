/- Contracts: emit.Term$1 (the walk), emit.Term. -/
import Derived.Test.YtngfeflemblljaaGreatDoorTmMay
import Derived.Test.YtngfeflemblljaaGreatDoorEmIdx
namespace Go.Proofs.YtngfeflemblljaaGreatDoor
open Go.RowKit

theorem Rd.kb2 {w w' : World} {A : Option Addr} {xs : List Value} {S : Nat → Prop} (h : Rd w A xs) (hk : Kb S w w') (hs : xs ≠ [] → ∀ b o, A = some ⟨b, o, none⟩ → ¬ S b) : Rd w' A xs := fun hn => Rd.kb h hk (hs hn) hn
def Ints (w : World) (A : Option Addr) (l : List Int) : Prop := Rd w A (l.map (Value.int .i64))
theorem Ints.at_ {w : World} {A : Option Addr} {l : List Int} (h : Ints w A l) {i : Nat} (hl : i < l.length) :
    ∃ b off, A = some ⟨b, off, none⟩ ∧ b < w.heap.size ∧ w.cell? ⟨b, off + i, none⟩ = some (.int .i64 (l.getD i 0)) := by
  obtain ⟨b, off, h1, h2, h3⟩ := Rd.at_ h (i := i) (by simpa using hl)
  exact ⟨b, off, h1, h2, h3 i _ (by simp [hl])⟩
theorem infoIns : (Tryz.prog.info? 50).map (fun i => (i.zero, i.size, i.bytes)) = some (some (.agg #[.int .i64 0, .int .i64 0, .int .i64 0, .int .i64 0, .string ⟨#[]⟩, .string ⟨#[]⟩, .slice none 0 0, .slice none 0 0, .slice none 0 0]), 9, 136) := by kernel_rfl
/-- Which blocks are which. -/
structure EmD (bl bw bn bo br bu base : Nat) (A An Ar : Option Addr) (ns : List ByteArray) (rs : List Int) : Prop where
  xl : bl < base ∧ bl ≠ bo ∧ bl ≠ bu
  xw : bw < base ∧ bw ≠ bo ∧ bw ≠ bu
  xn : bn < base ∧ bn ≠ bo ∧ bn ≠ bu
  xr : br < base ∧ br ≠ bo ∧ br ≠ bu
  xo : bo < base
  xu : bu < base
  ou : bo ≠ bu
  xa : ∀ b o, A = some ⟨b, o, none⟩ → b < base ∧ b ≠ bo ∧ b ≠ bu
  xan : ns ≠ [] → ∀ b o, An = some ⟨b, o, none⟩ → b < base ∧ b ≠ bo ∧ b ≠ bu
  xar : rs ≠ [] → ∀ b o, Ar = some ⟨b, o, none⟩ → b < base ∧ b ≠ bo ∧ b ≠ bu
structure EmW (w : World) (l : List Tm) (A : Option Addr) (c : Nat) (ns : List ByteArray) (An : Option Addr) (cn : Nat) (rs : List Int) (Ar : Option Addr) (cr : Nat) (bl bw bn bo br bu base : Nat) (st : List In × Bool) (v : Value) : Prop where
  tms : Tms w A l
  nms : Strs w An ns
  rgs : Ints w Ar rs
  hbl : Blk w bl #[.slice A l.length c] 22
  hbw : Blk w bw #[.func (.func 11) #[] #[.pointer (some ⟨bl, 0, none⟩), .pointer (some ⟨bw, 0, none⟩), .pointer (some ⟨bn, 0, none⟩), .pointer (some ⟨bo, 0, none⟩), .pointer (some ⟨br, 0, none⟩), .pointer (some ⟨bu, 0, none⟩)]] 52
  hbn : Blk w bn #[.slice An ns.length cn] 23
  hbo : Blk w bo #[.bool st.2] 4
  hbr : Blk w br #[.slice Ar rs.length cr] 24
  hbu : Blk w bu #[v] 26
  own : w.ownsRow base 50 9 v st.1.length (st.1.flatMap In.cells)
  dis : EmD bl bw bn bo br bu base A An Ar ns rs
def EmS (bo bu : Nat) (v : Value) : Nat → Prop := fun i => i = bo ∨ i = bu ∨ v.ownBlock = some i
section
variable {w w' : World} {l : List Tm} {A : Option Addr} {c : Nat} {ns : List ByteArray} {An : Option Addr} {cn : Nat} {rs : List Int} {Ar : Option Addr} {cr : Nat} {bl bw bn bo br bu base : Nat} {st st' : List In × Bool} {v v' : Value}
theorem EmW.ge (h : EmW w l A c ns An cn rs Ar cr bl bw bn bo br bu base st v) {i : Nat} (hi : v.ownBlock = some i) : base ≤ i ∧ i < w.heap.size := h.own.lt i hi
theorem EmW.not (h : EmW w l A c ns An cn rs Ar cr bl bw bn bo br bu base st v) {b : Nat} (hb : b < base ∧ b ≠ bo ∧ b ≠ bu) : ¬ EmS bo bu v b := by
  rintro (q | q | q)
  · exact hb.2.1 q
  · exact hb.2.2 q
  · have := (h.ge q).1; omega
theorem EmW.step (h : EmW w l A c ns An cn rs Ar cr bl bw bn bo br bu base st v) (hk : Kb (EmS bo bu v) w w') (h1 : Blk w' bo #[.bool st'.2] 4) (h2 : Blk w' bu #[v'] 26) (h3 : w'.ownsRow base 50 9 v' st'.1.length (st'.1.flatMap In.cells)) :
    EmW w' l A c ns An cn rs Ar cr bl bw bn bo br bu base st' v' :=
  ⟨h.tms.kb hk fun b o e => h.not (h.dis.xa b o e), Rd.kb2 h.nms hk fun n b o e => h.not (h.dis.xan (by rintro rfl; exact n rfl) b o e), Rd.kb2 h.rgs hk fun n b o e => h.not (h.dis.xar (by rintro rfl; exact n rfl) b o e),
    h.hbl.kb hk (h.not h.dis.xl), h.hbw.kb hk (h.not h.dis.xw), h.hbn.kb hk (h.not h.dis.xn), h1, h.hbr.kb hk (h.not h.dis.xr), h2, h3, h.dis⟩
theorem EmW.kb (h : EmW w l A c ns An cn rs Ar cr bl bw bn bo br bu base st v) (hk : Kb (fun _ => False) w w') : EmW w' l A c ns An cn rs Ar cr bl bw bn bo br bu base st v :=
  h.step (hk.mono fun _ _ q => q.elim) (h.hbo.kb hk id) (h.hbu.kb hk id) (own_kb h.own hk fun _ _ => id)
end
/-- Two walks, one behind the other, behind a new block. -/
theorem em_join {w w2 w3 : World} {l : List Tm} {A : Option Addr} {c : Nat} {ns : List ByteArray} {An : Option Addr} {cn : Nat} {rs : List Int} {Ar : Option Addr} {cr : Nat} {bl bw bn bo br bu base : Nat} {st : List In × Bool} {v v2 v3 : Value} {cs : Array Value} {t : TypeId}
    (h : EmW w l A c ns An cn rs Ar cr bl bw bn bo br bu base st v) (k2 : Kb (EmS bo bu v) (w.alloc (.cells cs t)) w2) (o2 : v2.ownBlock = v.ownBlock ∨ ∀ g, v2.ownBlock = some g → (w.alloc (.cells cs t)).heap.size ≤ g)
    (k3 : Kb (EmS bo bu v2) w2 w3) (o3 : v3.ownBlock = v2.ownBlock ∨ ∀ g, v3.ownBlock = some g → w2.heap.size ≤ g) :
    Blk w2 w.heap.size cs t ∧ Blk w3 w.heap.size cs t ∧ Kb (EmS bo bu v) w w3 ∧ (v3.ownBlock = v.ownBlock ∨ ∀ g, v3.ownBlock = some g → w.heap.size ≤ g) := by
  have hz : w.heap.size + 1 ≤ w2.heap.size := by have := k2.size; simpa using this
  have ho := h.hbo.lt
  have hu := h.hbu.lt
  have n1 : ¬ EmS bo bu v w.heap.size := by
    rintro (q | q | q)
    · omega
    · omega
    · have := (h.ge q).2; omega
  have n2 : ¬ EmS bo bu v2 w.heap.size := by
    rintro (q | q | q)
    · omega
    · omega
    · rcases o2 with o2 | o2
      · rw [o2] at q; have := (h.ge q).2; omega
      · have := o2 _ q; simp at this; omega
  have b2 := (Blk.new w cs t).kb k2 n1
  refine ⟨b2, b2.kb k3 n2, Kb.andThen (((Kb.refl _ _).alloc _).trans k2) k3 fun i hi q => ?_, ?_⟩
  · rcases q with q | q | q
    · exact .inl q
    · exact .inr (.inl q)
    · rcases o2 with o2 | o2
      · exact .inr (.inr (o2 ▸ q))
      · have := o2 _ q; simp at this; omega
  · rcases o3 with o3 | o3
    · rcases o2 with o2 | o2
      · exact .inl (o3.trans o2)
      · exact .inr fun g hg => by rw [o3] at hg; have := o2 _ hg; simp at this; omega
    · exact .inr fun g hg => by have := o3 _ hg; omega
def EmPost (l : List Tm) (A : Option Addr) (c : Nat) (ns : List ByteArray) (An : Option Addr) (cn : Nat) (rs : List Int) (Ar : Option Addr) (cr : Nat) (bl bw bn bo br bu base : Nat) (st : List In × Bool) (v : Value) (w : World) (e : Ending) (w' : World) : Prop :=
  e = .returned (.tuple #[]) ∧ ∃ v', Kb (EmS bo bu v) w w' ∧ EmW w' l A c ns An cn rs Ar cr bl bw bn bo br bu base st v' ∧ (v'.ownBlock = v.ownBlock ∨ ∀ g, v'.ownBlock = some g → w.heap.size ≤ g)
theorem em_false_end {w w3 : World} {l : List Tm} {A : Option Addr} {c : Nat} {ns : List ByteArray} {An : Option Addr} {cn : Nat} {rs : List Int} {Ar : Option Addr} {cr : Nat} {bl bw bn bo br bu base : Nat} {st3 st' : List In × Bool} {v v3 : Value} {o1 : Obj}
    (h : EmW w3 l A c ns An cn rs Ar cr bl bw bn bo br bu base st3 v3) (hk : Kb (EmS bo bu v) w w3) (hO : v3.ownBlock = v.ownBlock ∨ ∀ g, v3.ownBlock = some g → w.heap.size ≤ g) (hs : (st3.1, false) = st') :
    EmPost l A c ns An cn rs Ar cr bl bw bn bo br bu base st' v w (.returned (.tuple #[])) ((w3.setCell ⟨bo, 0, none⟩ (.bool false)).alloc o1) := by
  subst hs
  have k1 : Kb (EmS bo bu v3) w3 (w3.setCell ⟨bo, 0, none⟩ (.bool false)) := (Kb.refl _ _).set_ (.inr (.inl rfl)) _
  have hou := h.dis.ou
  have hs := h.step (st' := (st3.1, false)) (v' := v3) k1 (by simpa using h.hbo.set_ 0 (.bool false)) (h.hbu.far (p := ⟨bo, 0, none⟩) (Ne.symm hou) _) (own_far h.own h.dis.xo _)
  exact ⟨rfl, v3, (hk.set_ (p := ⟨bo, 0, none⟩) (.inr (.inl rfl)) (.bool false)).alloc o1, hs.kb ((Kb.refl _ _).alloc o1), hO⟩
theorem em_put_end {w w3 w5 : World} {l : List Tm} {A : Option Addr} {c : Nat} {ns : List ByteArray} {An : Option Addr} {cn : Nat} {rs : List Int} {Ar : Option Addr} {cr : Nat} {bl bw bn bo br bu base : Nat} {st3 st' : List In × Bool} {v v3 : Value} {o1 o2 : Obj} {A' : Option Addr} {c' : Nat} (i : In)
    (h : EmW w3 l A c ns An cn rs Ar cr bl bw bn bo br bu base st3 v3) (hk : Kb (EmS bo bu v) w w3) (hO : v3.ownBlock = v.ownBlock ∨ ∀ g, v3.ownBlock = some g → w.heap.size ≤ g) (hs : (st3.1 ++ [i], st3.2) = st')
    (hown : w5.ownsRow base 50 9 (.slice A' (st3.1.length + 1) c') (st3.1.length + 1) (st3.1.flatMap In.cells ++ i.cells)) (hg : ((w3.alloc o1).alloc o2).grownBy w5 v3.ownBlock)
    (hat : (Value.slice A' (st3.1.length + 1) c').ownBlock = v3.ownBlock ∨ (Value.slice A' (st3.1.length + 1) c').ownBlock = some ((w3.alloc o1).alloc o2).heap.size) :
    EmPost l A c ns An cn rs Ar cr bl bw bn bo br bu base st' v w (.returned (.tuple #[])) (w5.setCell ⟨bu, 0, none⟩ (.slice A' (st3.1.length + 1) c')) := by
  subst hs
  have h1 := h.kb (((Kb.refl _ _).alloc o1).alloc o2)
  have hge := fun g hg => h.ge (i := g) hg
  have kg : Kb (EmS bo bu v3) ((w3.alloc o1).alloc o2) w5 := (Kb.of_grown hg).mono fun i _ q => .inr (.inr q.symm)
  have nbo : some bo ≠ v3.ownBlock := fun q => by have := (hge bo q.symm).1; have := h.dis.xo; omega
  have nbu : some bu ≠ v3.ownBlock := fun q => by have := (hge bu q.symm).1; have := h.dis.xu; omega
  have k5 : Kb (EmS bo bu v3) ((w3.alloc o1).alloc o2) (w5.setCell ⟨bu, 0, none⟩ (.slice A' (st3.1.length + 1) c')) := kg.set_ (.inr (.inr (.inl rfl))) _
  have ka : Kb (EmS bo bu v) w ((w3.alloc o1).alloc o2) := (hk.alloc o1).alloc o2
  have hsz3 := hk.size
  have e : (st3.1 ++ [i]).flatMap In.cells = st3.1.flatMap In.cells ++ i.cells := by simp
  refine ⟨rfl, _, ka.andThen k5 fun j hj q => ?_, h1.step k5 ((h1.hbo.grown hg nbo).far (p := ⟨bu, 0, none⟩) h.dis.ou _) (by simpa using (h1.hbu.grown hg nbu).set_ 0 (.slice A' (st3.1.length + 1) c')) (by
    simp only [List.length_append, List.length_singleton, e]
    exact own_far hown h.dis.xu _), ?_⟩
  · rcases q with q | q | q
    · exact .inl q
    · exact .inr (.inl q)
    · rcases hO with hO | hO
      · exact .inr (.inr (hO ▸ q))
      · have := hO _ q; omega
  · rcases hat with hat | hat
    · rw [hat]; exact hO
    · refine .inr fun g hg => ?_
      rw [hat] at hg
      injection hg with hg
      simp at hg
      omega
set_option maxRecDepth 100000 in
set_option maxHeartbeats 8000000 in
theorem em1_any (l : List Tm) (A : Option Addr) (c : Nat) (ns : List ByteArray) (An : Option Addr) (cn : Nat) (rs : List Int) (Ar : Option Addr) (cr : Nat) (bl bw bn bo br bu base : Nat) (hnr : ns.length = rs.length) (hn : ns.length ≤ 1000000) :
    ∀ (x : Tr) (k : Int) (st : List In × Bool) (v : Value) (w : World), Gr l k x → st.1.length + x.size ≤ 1000 → base ≤ w.heap.size → EmW w l A c ns An cn rs Ar cr bl bw bn bo br bu base st v →
    Calls Tryz.prog 11 #[.int .i64 k, .pointer (some ⟨bl, 0, none⟩), .pointer (some ⟨bw, 0, none⟩), .pointer (some ⟨bn, 0, none⟩), .pointer (some ⟨bo, 0, none⟩), .pointer (some ⟨br, 0, none⟩), .pointer (some ⟨bu, 0, none⟩)] w
      (EmPost l A c ns An cn rs Ar cr bl bw bn bo br bu base (emF ns rs x st) v w) := by
  intro x
  induction x with
  | nil =>
    intro k st v w hg _ _ hW
    have hg : k = -1 := hg
    subst hg
    have HW := Lib.hid hW
    clear hW
    go_enter Tryz.func11, Tryz.ntmps11
    go_wp2_with fail
    go_end0
    exact ⟨rfl, v, Kb.refl _ _, HW.out, .inl rfl⟩
  | node t x y ihx ihy =>
    obtain ⟨i0, hi0, hz0, hz1, hz2⟩ := info_parts infoIns
    intro k st v w hg hsz hbase hW
    obtain ⟨h0, ht, hgx, hgy, _, _⟩ := hg
    obtain ⟨a, rfl⟩ : ∃ a : Nat, k = a := ⟨k.toNat, by omega⟩
    have ht : l[a]? = some t := by simpa using ht
    have hal : a < l.length := (List.getElem?_eq_some_iff.1 ht).1
    rw [Tr.size] at hsz
    have CX := Lib.hid (fun (st : List In × Bool) v w h1 h2 => ihx t.l st v w hgx h1 h2)
    have CY := Lib.hid (fun (st : List In × Bool) v w h1 h2 => ihy t.r st v w hgy h1 h2)
    have HN := Lib.hid hnr
    have HT := Lib.hid ht
    clear ihx ihy hgx hgy h0 ht hnr
    obtain ⟨b, o, t', rfl, hb, ht', hc⟩ := hW.tms.at_ hal
    obtain rfl : t' = t := Option.some.inj (ht'.symm.trans HT.out)
    obtain ⟨c0, c1, c2, c3, c4, c5⟩ := hc
    clear ht' hb
    have x1 : w.cell? ⟨bl, 0, none⟩ = some (.slice (some ⟨b, o, none⟩) l.length c) := hW.hbl.cell 0
    have x2 : w.cell? ⟨bw, 0, none⟩ = some (.func (.func 11) #[] #[.pointer (some ⟨bl, 0, none⟩), .pointer (some ⟨bw, 0, none⟩), .pointer (some ⟨bn, 0, none⟩), .pointer (some ⟨bo, 0, none⟩), .pointer (some ⟨br, 0, none⟩), .pointer (some ⟨bu, 0, none⟩)]) := hW.hbw.cell 0
    have l1 := hW.hbl.lt
    have l2 := hW.hbw.lt
    have hW1 := hW.kb ((Kb.refl _ _).alloc (.cells #[.int .i64 t'.kind, .string t'.name, .int .i64 t'.n, .string t'.text, .int .i64 t'.l, .int .i64 t'.r] 54))
    have hB1 := Blk.new w #[.int .i64 t'.kind, .string t'.name, .int .i64 t'.n, .string t'.text, .int .i64 t'.l, .int .i64 t'.r] 54
    have HW := Lib.hid hW
    have HW1 := Lib.hid hW1
    have HB1 := Lib.hid hB1
    clear hW hW1 hB1
    go_enter Tryz.func11, Tryz.ntmps11
    go_wp2_with fail
    refine (CX.out st v _ (by omega) (by simp; omega) HW1.out).mono ?_
    rintro e w2 ⟨rfl, v2, hK2, hW2, hO2⟩
    have hz2 : w.heap.size + 1 ≤ w2.heap.size := by have := hK2.size; simpa using this
    have hB2 := (em_join HW.out hK2 hO2 (Kb.refl _ w2) (.inl rfl)).1
    have HK2 := Lib.hid hK2
    have HO2 := Lib.hid hO2
    clear hK2 hO2 c0 c1 c2 c3 c4 c5 x1 x2
    have x2 : w2.cell? ⟨bw, 0, none⟩ = some (.func (.func 11) #[] #[.pointer (some ⟨bl, 0, none⟩), .pointer (some ⟨bw, 0, none⟩), .pointer (some ⟨bn, 0, none⟩), .pointer (some ⟨bo, 0, none⟩), .pointer (some ⟨br, 0, none⟩), .pointer (some ⟨bu, 0, none⟩)]) := hW2.hbw.cell 0
    have d5 : w2.cell? ⟨w.heap.size, 5, none⟩ = some (.int .i64 t'.r) := hB2.cell 5
    have HW2 := Lib.hid hW2
    clear hW2 hB2
    go_wp2_with fail
    have hlen := em_len ns rs x st
    refine (CY.out (emF ns rs x st) v2 _ (by omega) (by omega) HW2.out).mono ?_
    rintro e w3 ⟨rfl, v3, hK3, hW3, hO3⟩
    obtain ⟨_, hB3, hK, hO⟩ := em_join HW.out HK2.out HO2.out hK3 hO3
    have hz3 : w.heap.size < w3.heap.size := by have := hK3.size; omega
    clear hz2
    have hlen3 := em_len ns rs y (emF ns rs x st)
    have HW3 := Lib.hid hW3
    have HK := Lib.hid hK
    have HO := Lib.hid hO
    clear hW3 hK hO hK3 hO3 x2 d5
    have y0 : w3.cell? ⟨w.heap.size, 0, none⟩ = some (.int .i64 t'.kind) := hB3.cell 0
    have y1 : w3.cell? ⟨w.heap.size, 1, none⟩ = some (.string t'.name) := hB3.cell 1
    have y2 : w3.cell? ⟨w.heap.size, 2, none⟩ = some (.int .i64 t'.n) := hB3.cell 2
    have y3 : w3.cell? ⟨w.heap.size, 3, none⟩ = some (.string t'.text) := hB3.cell 3
    have u0 : w3.cell? ⟨bu, 0, none⟩ = some v3 := HW3.out.hbu.cell 0
    have u1 : w3.frozen? ⟨bu, 0, none⟩ = false := HW3.out.hbu.frozen 0
    have lu := HW3.out.hbu.lt
    have lbn := HW3.out.hbn.lt
    have lbr := HW3.out.hbr.lt
    have lbo := HW3.out.hbo.lt
    clear hB3
    have HNu : Hid (some bu ≠ v3.ownBlock) := Lib.hid (fun q => by have := (HW3.out.ge q.symm).1; have := HW3.out.dis.xu; omega)
    by_cases k0 : t'.kind = 0
    · rw [k0] at y0
      have HK0 := Lib.hid k0
      clear k0
      have n0 : w3.cell? ⟨bn, 0, none⟩ = some (.slice An ns.length cn) := HW3.out.hbn.cell 0
      have n1 : w3.cell? ⟨br, 0, none⟩ = some (.slice Ar rs.length cr) := HW3.out.hbr.cell 0
      have n2 : w3.cell? ⟨bo, 0, none⟩ = some (.bool (emF ns rs y (emF ns rs x st)).2) := HW3.out.hbo.cell 0
      have n3 : w3.frozen? ⟨bo, 0, none⟩ = false := HW3.out.hbo.frozen 0
      have CI := index_any An ns cn t'.name (w3.alloc (.cells #[.int .i64 0, .int .i64 0, .int .i64 0, .int .i64 0, .string ⟨#[]⟩, .string ⟨#[]⟩, .slice none 0 0, .slice none 0 0, .slice none 0 0] 50)) (Rd.alloc HW3.out.nms _) hn
      rcases hidx : idxF ns t'.name with _ | i
      · rw [show idxI ns t'.name = -1 by unfold idxI; rw [hidx]] at CI
        have HCI := Lib.hid CI
        have HI := Lib.hid hidx
        clear CI hidx
        go_wp2_with fail
        refine HCI.out.mono ?_
        rintro e w4 ⟨rfl, rfl⟩
        go_wp2_with fail
        go_end0
        refine em_false_end HW3.out HK.out HO.out ?_
        rw [emF, show insF ns rs t' = none by unfold insF; rw [if_pos HK0.out, HI.out]; rfl]
      · rw [show idxI ns t'.name = i by unfold idxI; rw [hidx]] at CI
        have hil : i < rs.length := by rw [← HN.out]; exact idx_lt hidx
        have HCI := Lib.hid CI
        have HI := Lib.hid hidx
        clear CI hidx
        obtain ⟨rb, ro, rfl, hrb, hrc⟩ := HW3.out.rgs.at_ hil
        obtain ⟨r0, hr0⟩ : ∃ r0, rs.getD i 0 = r0 := ⟨_, rfl⟩
        rw [hr0] at hrc
        have HR0 := Lib.hid hr0
        clear hr0
        go_wp2_with fail
        refine HCI.out.mono ?_
        rintro e w4 ⟨rfl, rfl⟩
        have HA := Lib.hid (((HW3.out.own).alloc (.cells #[.int .i64 5, .int .i64 r0, .int .i64 0, .int .i64 0, .string ⟨#[]⟩, .string ⟨#[]⟩, .slice none 0 0, .slice none 0 0, .slice none 0 0] 50)).alloc (.cells #[.int .i64 5, .int .i64 r0, .int .i64 0, .int .i64 0, .string ⟨#[]⟩, .string ⟨#[]⟩, .slice none 0 0, .slice none 0 0, .slice none 0 0] 50))
        have HR := Lib.hid (blk_next (w := w3.alloc (.cells #[.int .i64 5, .int .i64 r0, .int .i64 0, .int .i64 0, .string ⟨#[]⟩, .string ⟨#[]⟩, .slice none 0 0, .slice none 0 0, .slice none 0 0] 50)) (n := w3.heap.size + 1) (by simp) #[.int .i64 5, .int .i64 r0, .int .i64 0, .int .i64 0, .string ⟨#[]⟩, .string ⟨#[]⟩, .slice none 0 0, .slice none 0 0, .slice none 0 0] 50).rd
        have HBS : Hid (base ≤ ((w3.alloc (.cells #[.int .i64 5, .int .i64 r0, .int .i64 0, .int .i64 0, .string ⟨#[]⟩, .string ⟨#[]⟩, .slice none 0 0, .slice none 0 0, .slice none 0 0] 50)).alloc (.cells #[.int .i64 5, .int .i64 r0, .int .i64 0, .int .i64 0, .string ⟨#[]⟩, .string ⟨#[]⟩, .slice none 0 0, .slice none 0 0, .slice none 0 0] 50)).heap.size) := Lib.hid (by simp; omega)
        have HBU := Lib.hid ((HW3.out.hbu.alloc (.cells #[.int .i64 5, .int .i64 r0, .int .i64 0, .int .i64 0, .string ⟨#[]⟩, .string ⟨#[]⟩, .slice none 0 0, .slice none 0 0, .slice none 0 0] 50)).alloc (.cells #[.int .i64 5, .int .i64 r0, .int .i64 0, .int .i64 0, .string ⟨#[]⟩, .string ⟨#[]⟩, .slice none 0 0, .slice none 0 0, .slice none 0 0] 50))
        go_wp2_with (at_builtin; refine wpList_app _ rfl _ _ _ rfl base 50 i0 _ 9 136 Tryz.underlying26 hi0 hz0 hz1 hz2 rfl (by omega) v3 (emF ns rs y (emF ns rs x st)).1.length ((emF ns rs y (emF ns rs x st)).1.flatMap In.cells) rfl HA.out (some ⟨w3.heap.size + 1, 0, none⟩) 1 1 [.int .i64 5, .int .i64 r0, .int .i64 0, .int .i64 0, .string ⟨#[]⟩, .string ⟨#[]⟩, .slice none 0 0, .slice none 0 0, .slice none 0 0] rfl HR.out rfl (by simp [Value.oneCell']) (by omega) (by unfold maxLen; omega) HBS.out ?_; intro A5 c5 w5 hle5 hown5 hg5 hat5; have HE := Lib.hid (em_put_end ⟨5, r0, 0, ⟨#[]⟩⟩ HW3.out HK.out HO.out rfl hown5 hg5 hat5); have v0 : w5.cell? ⟨bu, 0, none⟩ = some v3 := (HBU.out.grown hg5 HNu.out).cell 0; have v1 : w5.frozen? ⟨bu, 0, none⟩ = false := (HBU.out.grown hg5 HNu.out).frozen 0; clear hown5 hg5 hat5 hle5)
        go_end0
        have h := HE.out
        rw [emF, show insF ns rs t' = some ⟨5, r0, 0, ⟨#[]⟩⟩ from by unfold insF; rw [if_pos HK0.out, HI.out]; simp only [Option.map_some, HR0.out]]
        exact h
    by_cases k1 : t'.kind = 1
    · rw [k1] at y0
      have HK0 := Lib.hid k1
      clear k0 k1
      have HA := Lib.hid (((HW3.out.own).alloc (.cells #[.int .i64 0, .int .i64 0, .int .i64 0, .int .i64 t'.n, .string ⟨#[]⟩, .string ⟨#[]⟩, .slice none 0 0, .slice none 0 0, .slice none 0 0] 50)).alloc (.cells #[.int .i64 0, .int .i64 0, .int .i64 0, .int .i64 t'.n, .string ⟨#[]⟩, .string ⟨#[]⟩, .slice none 0 0, .slice none 0 0, .slice none 0 0] 50))
      have HR := Lib.hid (blk_next (w := w3.alloc (.cells #[.int .i64 0, .int .i64 0, .int .i64 0, .int .i64 t'.n, .string ⟨#[]⟩, .string ⟨#[]⟩, .slice none 0 0, .slice none 0 0, .slice none 0 0] 50)) (n := w3.heap.size + 1) (by simp) #[.int .i64 0, .int .i64 0, .int .i64 0, .int .i64 t'.n, .string ⟨#[]⟩, .string ⟨#[]⟩, .slice none 0 0, .slice none 0 0, .slice none 0 0] 50).rd
      have HBS : Hid (base ≤ ((w3.alloc (.cells #[.int .i64 0, .int .i64 0, .int .i64 0, .int .i64 t'.n, .string ⟨#[]⟩, .string ⟨#[]⟩, .slice none 0 0, .slice none 0 0, .slice none 0 0] 50)).alloc (.cells #[.int .i64 0, .int .i64 0, .int .i64 0, .int .i64 t'.n, .string ⟨#[]⟩, .string ⟨#[]⟩, .slice none 0 0, .slice none 0 0, .slice none 0 0] 50)).heap.size) := Lib.hid (by simp; omega)
      have HBU := Lib.hid ((HW3.out.hbu.alloc (.cells #[.int .i64 0, .int .i64 0, .int .i64 0, .int .i64 t'.n, .string ⟨#[]⟩, .string ⟨#[]⟩, .slice none 0 0, .slice none 0 0, .slice none 0 0] 50)).alloc (.cells #[.int .i64 0, .int .i64 0, .int .i64 0, .int .i64 t'.n, .string ⟨#[]⟩, .string ⟨#[]⟩, .slice none 0 0, .slice none 0 0, .slice none 0 0] 50))
      go_wp2_with (at_builtin; refine wpList_app _ rfl _ _ _ rfl base 50 i0 _ 9 136 Tryz.underlying26 hi0 hz0 hz1 hz2 rfl (by omega) v3 (emF ns rs y (emF ns rs x st)).1.length ((emF ns rs y (emF ns rs x st)).1.flatMap In.cells) rfl HA.out (some ⟨w3.heap.size + 1, 0, none⟩) 1 1 [.int .i64 0, .int .i64 0, .int .i64 0, .int .i64 t'.n, .string ⟨#[]⟩, .string ⟨#[]⟩, .slice none 0 0, .slice none 0 0, .slice none 0 0] rfl HR.out rfl (by simp [Value.oneCell']) (by omega) (by unfold maxLen; omega) HBS.out ?_; intro A5 c5 w5 hle5 hown5 hg5 hat5; have HE := Lib.hid (em_put_end ⟨0, 0, t'.n, ⟨#[]⟩⟩ HW3.out HK.out HO.out rfl hown5 hg5 hat5); have v0 : w5.cell? ⟨bu, 0, none⟩ = some v3 := (HBU.out.grown hg5 HNu.out).cell 0; have v1 : w5.frozen? ⟨bu, 0, none⟩ = false := (HBU.out.grown hg5 HNu.out).frozen 0; clear hown5 hg5 hat5 hle5)
      go_end0
      have h := HE.out
      rw [emF, show insF ns rs t' = some ⟨0, 0, t'.n, ⟨#[]⟩⟩ from by unfold insF; rw [HK0.out]; rfl]
      exact h
    by_cases k2 : t'.kind = 2
    · rw [k2] at y0
      have HK0 := Lib.hid k2
      clear k0 k1 k2
      have HA := Lib.hid (((HW3.out.own).alloc (.cells #[.int .i64 1, .int .i64 0, .int .i64 0, .int .i64 t'.n, .string ⟨#[]⟩, .string ⟨#[]⟩, .slice none 0 0, .slice none 0 0, .slice none 0 0] 50)).alloc (.cells #[.int .i64 1, .int .i64 0, .int .i64 0, .int .i64 t'.n, .string ⟨#[]⟩, .string ⟨#[]⟩, .slice none 0 0, .slice none 0 0, .slice none 0 0] 50))
      have HR := Lib.hid (blk_next (w := w3.alloc (.cells #[.int .i64 1, .int .i64 0, .int .i64 0, .int .i64 t'.n, .string ⟨#[]⟩, .string ⟨#[]⟩, .slice none 0 0, .slice none 0 0, .slice none 0 0] 50)) (n := w3.heap.size + 1) (by simp) #[.int .i64 1, .int .i64 0, .int .i64 0, .int .i64 t'.n, .string ⟨#[]⟩, .string ⟨#[]⟩, .slice none 0 0, .slice none 0 0, .slice none 0 0] 50).rd
      have HBS : Hid (base ≤ ((w3.alloc (.cells #[.int .i64 1, .int .i64 0, .int .i64 0, .int .i64 t'.n, .string ⟨#[]⟩, .string ⟨#[]⟩, .slice none 0 0, .slice none 0 0, .slice none 0 0] 50)).alloc (.cells #[.int .i64 1, .int .i64 0, .int .i64 0, .int .i64 t'.n, .string ⟨#[]⟩, .string ⟨#[]⟩, .slice none 0 0, .slice none 0 0, .slice none 0 0] 50)).heap.size) := Lib.hid (by simp; omega)
      have HBU := Lib.hid ((HW3.out.hbu.alloc (.cells #[.int .i64 1, .int .i64 0, .int .i64 0, .int .i64 t'.n, .string ⟨#[]⟩, .string ⟨#[]⟩, .slice none 0 0, .slice none 0 0, .slice none 0 0] 50)).alloc (.cells #[.int .i64 1, .int .i64 0, .int .i64 0, .int .i64 t'.n, .string ⟨#[]⟩, .string ⟨#[]⟩, .slice none 0 0, .slice none 0 0, .slice none 0 0] 50))
      go_wp2_with (at_builtin; refine wpList_app _ rfl _ _ _ rfl base 50 i0 _ 9 136 Tryz.underlying26 hi0 hz0 hz1 hz2 rfl (by omega) v3 (emF ns rs y (emF ns rs x st)).1.length ((emF ns rs y (emF ns rs x st)).1.flatMap In.cells) rfl HA.out (some ⟨w3.heap.size + 1, 0, none⟩) 1 1 [.int .i64 1, .int .i64 0, .int .i64 0, .int .i64 t'.n, .string ⟨#[]⟩, .string ⟨#[]⟩, .slice none 0 0, .slice none 0 0, .slice none 0 0] rfl HR.out rfl (by simp [Value.oneCell']) (by omega) (by unfold maxLen; omega) HBS.out ?_; intro A5 c5 w5 hle5 hown5 hg5 hat5; have HE := Lib.hid (em_put_end ⟨1, 0, t'.n, ⟨#[]⟩⟩ HW3.out HK.out HO.out rfl hown5 hg5 hat5); have v0 : w5.cell? ⟨bu, 0, none⟩ = some v3 := (HBU.out.grown hg5 HNu.out).cell 0; have v1 : w5.frozen? ⟨bu, 0, none⟩ = false := (HBU.out.grown hg5 HNu.out).frozen 0; clear hown5 hg5 hat5 hle5)
      go_end0
      have h := HE.out
      rw [emF, show insF ns rs t' = some ⟨1, 0, t'.n, ⟨#[]⟩⟩ from by unfold insF; rw [HK0.out]; rfl]
      exact h
    by_cases k3 : t'.kind = 3
    · rw [k3] at y0
      have HK0 := Lib.hid k3
      clear k0 k1 k2 k3
      have HA := Lib.hid (((HW3.out.own).alloc (.cells #[.int .i64 2, .int .i64 0, .int .i64 0, .int .i64 0, .string t'.text, .string ⟨#[]⟩, .slice none 0 0, .slice none 0 0, .slice none 0 0] 50)).alloc (.cells #[.int .i64 2, .int .i64 0, .int .i64 0, .int .i64 0, .string t'.text, .string ⟨#[]⟩, .slice none 0 0, .slice none 0 0, .slice none 0 0] 50))
      have HR := Lib.hid (blk_next (w := w3.alloc (.cells #[.int .i64 2, .int .i64 0, .int .i64 0, .int .i64 0, .string t'.text, .string ⟨#[]⟩, .slice none 0 0, .slice none 0 0, .slice none 0 0] 50)) (n := w3.heap.size + 1) (by simp) #[.int .i64 2, .int .i64 0, .int .i64 0, .int .i64 0, .string t'.text, .string ⟨#[]⟩, .slice none 0 0, .slice none 0 0, .slice none 0 0] 50).rd
      have HBS : Hid (base ≤ ((w3.alloc (.cells #[.int .i64 2, .int .i64 0, .int .i64 0, .int .i64 0, .string t'.text, .string ⟨#[]⟩, .slice none 0 0, .slice none 0 0, .slice none 0 0] 50)).alloc (.cells #[.int .i64 2, .int .i64 0, .int .i64 0, .int .i64 0, .string t'.text, .string ⟨#[]⟩, .slice none 0 0, .slice none 0 0, .slice none 0 0] 50)).heap.size) := Lib.hid (by simp; omega)
      have HBU := Lib.hid ((HW3.out.hbu.alloc (.cells #[.int .i64 2, .int .i64 0, .int .i64 0, .int .i64 0, .string t'.text, .string ⟨#[]⟩, .slice none 0 0, .slice none 0 0, .slice none 0 0] 50)).alloc (.cells #[.int .i64 2, .int .i64 0, .int .i64 0, .int .i64 0, .string t'.text, .string ⟨#[]⟩, .slice none 0 0, .slice none 0 0, .slice none 0 0] 50))
      go_wp2_with (at_builtin; refine wpList_app _ rfl _ _ _ rfl base 50 i0 _ 9 136 Tryz.underlying26 hi0 hz0 hz1 hz2 rfl (by omega) v3 (emF ns rs y (emF ns rs x st)).1.length ((emF ns rs y (emF ns rs x st)).1.flatMap In.cells) rfl HA.out (some ⟨w3.heap.size + 1, 0, none⟩) 1 1 [.int .i64 2, .int .i64 0, .int .i64 0, .int .i64 0, .string t'.text, .string ⟨#[]⟩, .slice none 0 0, .slice none 0 0, .slice none 0 0] rfl HR.out rfl (by simp [Value.oneCell']) (by omega) (by unfold maxLen; omega) HBS.out ?_; intro A5 c5 w5 hle5 hown5 hg5 hat5; have HE := Lib.hid (em_put_end ⟨2, 0, 0, t'.text⟩ HW3.out HK.out HO.out rfl hown5 hg5 hat5); have v0 : w5.cell? ⟨bu, 0, none⟩ = some v3 := (HBU.out.grown hg5 HNu.out).cell 0; have v1 : w5.frozen? ⟨bu, 0, none⟩ = false := (HBU.out.grown hg5 HNu.out).frozen 0; clear hown5 hg5 hat5 hle5)
      go_end0
      have h := HE.out
      rw [emF, show insF ns rs t' = some ⟨2, 0, 0, t'.text⟩ from by unfold insF; rw [HK0.out]; rfl]
      exact h
    by_cases k4 : t'.kind = 4
    · rw [k4] at y0
      have HK0 := Lib.hid k4
      clear k0 k1 k2 k3 k4
      have HA := Lib.hid (((HW3.out.own).alloc (.cells #[.int .i64 3, .int .i64 0, .int .i64 0, .int .i64 0, .string ⟨#[]⟩, .string ⟨#[]⟩, .slice none 0 0, .slice none 0 0, .slice none 0 0] 50)).alloc (.cells #[.int .i64 3, .int .i64 0, .int .i64 0, .int .i64 0, .string ⟨#[]⟩, .string ⟨#[]⟩, .slice none 0 0, .slice none 0 0, .slice none 0 0] 50))
      have HR := Lib.hid (blk_next (w := w3.alloc (.cells #[.int .i64 3, .int .i64 0, .int .i64 0, .int .i64 0, .string ⟨#[]⟩, .string ⟨#[]⟩, .slice none 0 0, .slice none 0 0, .slice none 0 0] 50)) (n := w3.heap.size + 1) (by simp) #[.int .i64 3, .int .i64 0, .int .i64 0, .int .i64 0, .string ⟨#[]⟩, .string ⟨#[]⟩, .slice none 0 0, .slice none 0 0, .slice none 0 0] 50).rd
      have HBS : Hid (base ≤ ((w3.alloc (.cells #[.int .i64 3, .int .i64 0, .int .i64 0, .int .i64 0, .string ⟨#[]⟩, .string ⟨#[]⟩, .slice none 0 0, .slice none 0 0, .slice none 0 0] 50)).alloc (.cells #[.int .i64 3, .int .i64 0, .int .i64 0, .int .i64 0, .string ⟨#[]⟩, .string ⟨#[]⟩, .slice none 0 0, .slice none 0 0, .slice none 0 0] 50)).heap.size) := Lib.hid (by simp; omega)
      have HBU := Lib.hid ((HW3.out.hbu.alloc (.cells #[.int .i64 3, .int .i64 0, .int .i64 0, .int .i64 0, .string ⟨#[]⟩, .string ⟨#[]⟩, .slice none 0 0, .slice none 0 0, .slice none 0 0] 50)).alloc (.cells #[.int .i64 3, .int .i64 0, .int .i64 0, .int .i64 0, .string ⟨#[]⟩, .string ⟨#[]⟩, .slice none 0 0, .slice none 0 0, .slice none 0 0] 50))
      go_wp2_with (at_builtin; refine wpList_app _ rfl _ _ _ rfl base 50 i0 _ 9 136 Tryz.underlying26 hi0 hz0 hz1 hz2 rfl (by omega) v3 (emF ns rs y (emF ns rs x st)).1.length ((emF ns rs y (emF ns rs x st)).1.flatMap In.cells) rfl HA.out (some ⟨w3.heap.size + 1, 0, none⟩) 1 1 [.int .i64 3, .int .i64 0, .int .i64 0, .int .i64 0, .string ⟨#[]⟩, .string ⟨#[]⟩, .slice none 0 0, .slice none 0 0, .slice none 0 0] rfl HR.out rfl (by simp [Value.oneCell']) (by omega) (by unfold maxLen; omega) HBS.out ?_; intro A5 c5 w5 hle5 hown5 hg5 hat5; have HE := Lib.hid (em_put_end ⟨3, 0, 0, ⟨#[]⟩⟩ HW3.out HK.out HO.out rfl hown5 hg5 hat5); have v0 : w5.cell? ⟨bu, 0, none⟩ = some v3 := (HBU.out.grown hg5 HNu.out).cell 0; have v1 : w5.frozen? ⟨bu, 0, none⟩ = false := (HBU.out.grown hg5 HNu.out).frozen 0; clear hown5 hg5 hat5 hle5)
      go_end0
      have h := HE.out
      rw [emF, show insF ns rs t' = some ⟨3, 0, 0, ⟨#[]⟩⟩ from by unfold insF; rw [HK0.out]; rfl]
      exact h
    by_cases k5 : t'.kind = 5
    · rw [k5] at y0
      have HK0 := Lib.hid k5
      clear k0 k1 k2 k3 k4 k5
      have HA := Lib.hid (((HW3.out.own).alloc (.cells #[.int .i64 4, .int .i64 0, .int .i64 0, .int .i64 0, .string ⟨#[]⟩, .string ⟨#[]⟩, .slice none 0 0, .slice none 0 0, .slice none 0 0] 50)).alloc (.cells #[.int .i64 4, .int .i64 0, .int .i64 0, .int .i64 0, .string ⟨#[]⟩, .string ⟨#[]⟩, .slice none 0 0, .slice none 0 0, .slice none 0 0] 50))
      have HR := Lib.hid (blk_next (w := w3.alloc (.cells #[.int .i64 4, .int .i64 0, .int .i64 0, .int .i64 0, .string ⟨#[]⟩, .string ⟨#[]⟩, .slice none 0 0, .slice none 0 0, .slice none 0 0] 50)) (n := w3.heap.size + 1) (by simp) #[.int .i64 4, .int .i64 0, .int .i64 0, .int .i64 0, .string ⟨#[]⟩, .string ⟨#[]⟩, .slice none 0 0, .slice none 0 0, .slice none 0 0] 50).rd
      have HBS : Hid (base ≤ ((w3.alloc (.cells #[.int .i64 4, .int .i64 0, .int .i64 0, .int .i64 0, .string ⟨#[]⟩, .string ⟨#[]⟩, .slice none 0 0, .slice none 0 0, .slice none 0 0] 50)).alloc (.cells #[.int .i64 4, .int .i64 0, .int .i64 0, .int .i64 0, .string ⟨#[]⟩, .string ⟨#[]⟩, .slice none 0 0, .slice none 0 0, .slice none 0 0] 50)).heap.size) := Lib.hid (by simp; omega)
      have HBU := Lib.hid ((HW3.out.hbu.alloc (.cells #[.int .i64 4, .int .i64 0, .int .i64 0, .int .i64 0, .string ⟨#[]⟩, .string ⟨#[]⟩, .slice none 0 0, .slice none 0 0, .slice none 0 0] 50)).alloc (.cells #[.int .i64 4, .int .i64 0, .int .i64 0, .int .i64 0, .string ⟨#[]⟩, .string ⟨#[]⟩, .slice none 0 0, .slice none 0 0, .slice none 0 0] 50))
      go_wp2_with (at_builtin; refine wpList_app _ rfl _ _ _ rfl base 50 i0 _ 9 136 Tryz.underlying26 hi0 hz0 hz1 hz2 rfl (by omega) v3 (emF ns rs y (emF ns rs x st)).1.length ((emF ns rs y (emF ns rs x st)).1.flatMap In.cells) rfl HA.out (some ⟨w3.heap.size + 1, 0, none⟩) 1 1 [.int .i64 4, .int .i64 0, .int .i64 0, .int .i64 0, .string ⟨#[]⟩, .string ⟨#[]⟩, .slice none 0 0, .slice none 0 0, .slice none 0 0] rfl HR.out rfl (by simp [Value.oneCell']) (by omega) (by unfold maxLen; omega) HBS.out ?_; intro A5 c5 w5 hle5 hown5 hg5 hat5; have HE := Lib.hid (em_put_end ⟨4, 0, 0, ⟨#[]⟩⟩ HW3.out HK.out HO.out rfl hown5 hg5 hat5); have v0 : w5.cell? ⟨bu, 0, none⟩ = some v3 := (HBU.out.grown hg5 HNu.out).cell 0; have v1 : w5.frozen? ⟨bu, 0, none⟩ = false := (HBU.out.grown hg5 HNu.out).frozen 0; clear hown5 hg5 hat5 hle5)
      go_end0
      have h := HE.out
      rw [emF, show insF ns rs t' = some ⟨4, 0, 0, ⟨#[]⟩⟩ from by unfold insF; rw [HK0.out]; rfl]
      exact h
    have HKS := Lib.hid (And.intro k0 (And.intro k1 (And.intro k2 (And.intro k3 (And.intro k4 k5)))))
    have e0 : (t'.kind == 0) = false := by simpa using k0
    have e1 : (t'.kind == 1) = false := by simpa using k1
    have e2 : (t'.kind == 2) = false := by simpa using k2
    have e3 : (t'.kind == 3) = false := by simpa using k3
    have e4 : (t'.kind == 4) = false := by simpa using k4
    have e5 : (t'.kind == 5) = false := by simpa using k5
    clear k0 k1 k2 k3 k4 k5
    have HA := Lib.hid (((HW3.out.own).alloc (.cells #[.int .i64 t'.kind, .int .i64 0, .int .i64 0, .int .i64 0, .string ⟨#[]⟩, .string ⟨#[]⟩, .slice none 0 0, .slice none 0 0, .slice none 0 0] 50)).alloc (.cells #[.int .i64 t'.kind, .int .i64 0, .int .i64 0, .int .i64 0, .string ⟨#[]⟩, .string ⟨#[]⟩, .slice none 0 0, .slice none 0 0, .slice none 0 0] 50))
    have HR := Lib.hid (blk_next (w := w3.alloc (.cells #[.int .i64 t'.kind, .int .i64 0, .int .i64 0, .int .i64 0, .string ⟨#[]⟩, .string ⟨#[]⟩, .slice none 0 0, .slice none 0 0, .slice none 0 0] 50)) (n := w3.heap.size + 1) (by simp) #[.int .i64 t'.kind, .int .i64 0, .int .i64 0, .int .i64 0, .string ⟨#[]⟩, .string ⟨#[]⟩, .slice none 0 0, .slice none 0 0, .slice none 0 0] 50).rd
    have HBS : Hid (base ≤ ((w3.alloc (.cells #[.int .i64 t'.kind, .int .i64 0, .int .i64 0, .int .i64 0, .string ⟨#[]⟩, .string ⟨#[]⟩, .slice none 0 0, .slice none 0 0, .slice none 0 0] 50)).alloc (.cells #[.int .i64 t'.kind, .int .i64 0, .int .i64 0, .int .i64 0, .string ⟨#[]⟩, .string ⟨#[]⟩, .slice none 0 0, .slice none 0 0, .slice none 0 0] 50)).heap.size) := Lib.hid (by simp; omega)
    have HBU := Lib.hid ((HW3.out.hbu.alloc (.cells #[.int .i64 t'.kind, .int .i64 0, .int .i64 0, .int .i64 0, .string ⟨#[]⟩, .string ⟨#[]⟩, .slice none 0 0, .slice none 0 0, .slice none 0 0] 50)).alloc (.cells #[.int .i64 t'.kind, .int .i64 0, .int .i64 0, .int .i64 0, .string ⟨#[]⟩, .string ⟨#[]⟩, .slice none 0 0, .slice none 0 0, .slice none 0 0] 50))
    go_wp2_with (at_builtin; refine wpList_app _ rfl _ _ _ rfl base 50 i0 _ 9 136 Tryz.underlying26 hi0 hz0 hz1 hz2 rfl (by omega) v3 (emF ns rs y (emF ns rs x st)).1.length ((emF ns rs y (emF ns rs x st)).1.flatMap In.cells) rfl HA.out (some ⟨w3.heap.size + 1, 0, none⟩) 1 1 [.int .i64 t'.kind, .int .i64 0, .int .i64 0, .int .i64 0, .string ⟨#[]⟩, .string ⟨#[]⟩, .slice none 0 0, .slice none 0 0, .slice none 0 0] rfl HR.out rfl (by simp [Value.oneCell']) (by omega) (by unfold maxLen; omega) HBS.out ?_; intro A5 c5 w5 hle5 hown5 hg5 hat5; have HE := Lib.hid (em_put_end ⟨t'.kind, 0, 0, ⟨#[]⟩⟩ HW3.out HK.out HO.out rfl hown5 hg5 hat5); have v0 : w5.cell? ⟨bu, 0, none⟩ = some v3 := (HBU.out.grown hg5 HNu.out).cell 0; have v1 : w5.frozen? ⟨bu, 0, none⟩ = false := (HBU.out.grown hg5 HNu.out).frozen 0; clear hown5 hg5 hat5 hle5)
    go_end0
    have h := HE.out
    rw [emF, show insF ns rs t' = some ⟨t'.kind, 0, 0, ⟨#[]⟩⟩ from by obtain ⟨h0, h1, h2, h3, h4, h5⟩ := HKS.out; unfold insF; rw [if_neg h0, if_neg h1, if_neg h2, if_neg h3, if_neg h4, if_neg h5]]
    exact h
theorem gr_unique {l : List Tm} : ∀ {x y : Tr} {k : Int}, Gr l k x → Gr l k y → x = y
  | .nil, .nil, _, _, _ => rfl
  | .nil, .node t a b, k, h, g => by
    have h : k = -1 := h
    have g := g.1
    omega
  | .node t a b, .nil, k, h, g => by
    have g : k = -1 := g
    have h := h.1
    omega
  | .node t a b, .node t' a' b', k, h, g => by
    obtain ⟨_, h1, h2, h3, _, _⟩ := h
    obtain ⟨_, g1, g2, g3, _, _⟩ := g
    obtain rfl : t = t' := Option.some.inj (h1.symm.trans g1)
    rw [gr_unique h2 g2, gr_unique h3 g3]
def EmitPost (r : Option (List In)) (w : World) (e : Ending) (w' : World) : Prop :=
  Below w.heap.size w w' ∧ match r with
    | none => e = .returned (.tuple #[.slice none 0 0, .bool false])
    | some o => ∃ A' c', e = .returned (.tuple #[.slice A' o.length c', .bool true]) ∧ Rd w' A' (o.flatMap In.cells)
theorem emit_none {r : Option (List In)} {w w' : World} {e : Ending} (h : Below w.heap.size w w') (hr : r = none) (he : e = .returned (.tuple #[.slice none 0 0, .bool false])) : EmitPost r w e w' := ⟨h, by rw [hr]; exact he⟩
theorem emit_some {r : Option (List In)} {o : List In} {w w' : World} {e : Ending} {A' : Option Addr} {c' : Nat} (h : Below w.heap.size w w') (hr : r = some o) (he : e = .returned (.tuple #[.slice A' o.length c', .bool true])) (hd : Rd w' A' (o.flatMap In.cells)) : EmitPost r w e w' := ⟨h, by rw [hr]; exact ⟨A', c', he, hd⟩⟩
set_option maxRecDepth 100000 in
set_option maxHeartbeats 8000000 in
theorem emit_no (l : List Tm) (A : Option Addr) (c : Nat) (root : Int) (ns : List ByteArray) (An : Option Addr) (cn : Nat) (rs : List Int) (Ar : Option Addr) (cr : Nat) (w : World) (ht : Tms w A l) (hl : l.length ≤ 1000000) (hb : tmF l root = false ∨ ns.length ≠ rs.length) :
    Calls Tryz.prog 5 #[.slice A l.length c, .int .i64 root, .slice An ns.length cn, .slice Ar rs.length cr] w (EmitPost none w) := by
  have CM := Lib.hid (may_any l A c root (((w.alloc (.cells #[.slice A l.length c] 22)).alloc (.cells #[.slice An ns.length cn] 23)).alloc (.cells #[.slice Ar rs.length cr] 24)) (((Rd.alloc ht _).alloc _).alloc _) hl)
  have HB := Lib.hid hb
  clear ht hb
  go_enter Tryz.func5, Tryz.ntmps5
  go_wp2_with fail
  refine CM.out.mono ?_
  rintro e w1 ⟨rfl, hb1⟩
  have B1 := Lib.hid ((((Below.refl _ w).alloc (Nat.le_refl _) _).alloc (by simp) _).alloc (by simp <;> omega) _ |>.trans (hb1.mono (by simp; omega)))
  have N1 := Lib.hid (Blk.belowS ((blk_next (w := w.alloc (.cells #[.slice A l.length c] 22)) (n := w.heap.size + 1) (by simp) #[.slice An ns.length cn] 23).alloc (.cells #[.slice Ar rs.length cr] 24)) hb1)
  have R1 := Lib.hid (Blk.belowS (blk_next (w := (w.alloc (.cells #[.slice A l.length c] 22)).alloc (.cells #[.slice An ns.length cn] 23)) (n := w.heap.size + 1 + 1) (by simp) #[.slice Ar rs.length cr] 24) hb1)
  clear hb1
  rcases hq : tmF l root with _ | _
  · have HQ := Lib.hid hq
    clear hq
    go_wp2_with fail
    go_ret2
    exact ⟨B1.out, rfl⟩
  · have n1 : w1.cell? ⟨w.heap.size + 1, 0, none⟩ = some (.slice An ns.length cn) := N1.out.cell 0
    have r1 : w1.cell? ⟨w.heap.size + 1 + 1, 0, none⟩ = some (.slice Ar rs.length cr) := R1.out.cell 0
    have hne : ns.length ≠ rs.length := by
      rcases HB.out with h | h
      · rw [hq] at h; cases h
      · exact h
    have e1 : ((ns.length : Int) != (rs.length : Int)) = true := by simp; omega
    have HQ := Lib.hid hq
    clear hq hne
    go_wp2_with fail
    go_ret2
    exact ⟨B1.out, rfl⟩
theorem em_start {w1 : World} {l : List Tm} {A : Option Addr} {c : Nat} {ns : List ByteArray} {An : Option Addr} {cn : Nat} {rs : List Int} {Ar : Option Addr} {cr n n1 : Nat} (hz : w1.heap.size = n1) (h1 : n + 3 ≤ n1) (ht : Tms w1 A l) (hn : Strs w1 An ns) (hr : Ints w1 Ar rs)
    (bl : Blk w1 n #[.slice A l.length c] 22) (bn : Blk w1 (n + 1) #[.slice An ns.length cn] 23) (br : Blk w1 (n + 1 + 1) #[.slice Ar rs.length cr] 24)
    (ha : ∀ b o, A = some ⟨b, o, none⟩ → b < n) (hna : ns ≠ [] → ∀ b o, An = some ⟨b, o, none⟩ → b < n) (hra : rs ≠ [] → ∀ b o, Ar = some ⟨b, o, none⟩ → b < n) :
    EmW (((w1.alloc (.cells #[.slice none 0 0] 26)).alloc (.cells #[.bool true] 4)).alloc (.cells #[.func (.func 11) #[] #[.pointer (some ⟨n, 0, none⟩), .pointer (some ⟨n1 + 1 + 1, 0, none⟩), .pointer (some ⟨n + 1, 0, none⟩), .pointer (some ⟨n1 + 1, 0, none⟩), .pointer (some ⟨n + 1 + 1, 0, none⟩), .pointer (some ⟨n1, 0, none⟩)]] 52))
      l A c ns An cn rs Ar cr n (n1 + 1 + 1) (n + 1) (n1 + 1) (n + 1 + 1) n1 (n1 + 1 + 1 + 1) ([], true) (.slice none 0 0) := by
  subst hz
  exact ⟨((Rd.alloc ht _).alloc _).alloc _, ((Rd.alloc hn _).alloc _).alloc _, ((Rd.alloc hr _).alloc _).alloc _, ((bl.alloc _).alloc _).alloc _, blk_next (by simp) _ _, ((bn.alloc _).alloc _).alloc _, (blk_next (by simp) _ _).alloc _,
    ((br.alloc _).alloc _).alloc _, ((Blk.new w1 _ _).alloc _).alloc _, World.ownsRow_nil _ _ _ _,
    ⟨by omega, by omega, by omega, by omega, by omega, by omega, by omega, fun b o e => by have := ha b o e; omega, fun q b o e => by have := hna q b o e; omega, fun q b o e => by have := hra q b o e; omega⟩⟩
theorem rd_lt {w : World} {A : Option Addr} {xs : List Value} (h : Rd w A xs) (hn : xs ≠ []) : ∀ b o, A = some ⟨b, o, none⟩ → b < w.heap.size := by
  rintro b o rfl
  obtain ⟨b', o', e, hb, _⟩ := h hn
  cases e
  exact hb
set_option maxRecDepth 100000 in
set_option maxHeartbeats 8000000 in
theorem emit_yes (l : List Tm) (A : Option Addr) (c : Nat) (root : Int) (ns : List ByteArray) (An : Option Addr) (cn : Nat) (rs : List Int) (Ar : Option Addr) (cr : Nat) (w : World) (ht : Tms w A l) (hns : Strs w An ns) (hrs : Ints w Ar rs) (hl : l.length ≤ 1000000) (hn : ns.length ≤ 1000000)
    (hb : tmF l root = true) (hnr : ns.length = rs.length) (x : Tr) (hx : Gr l root x) (hxs : x.size ≤ 1000) :
    Calls Tryz.prog 5 #[.slice A l.length c, .int .i64 root, .slice An ns.length cn, .slice Ar rs.length cr] w (EmitPost (psF ns rs x []) w) := by
  have hl0 : l ≠ [] := by
    rintro rfl
    unfold tmF at hb
    simp at hb
    omega
  have CM := Lib.hid (may_any l A c root (((w.alloc (.cells #[.slice A l.length c] 22)).alloc (.cells #[.slice An ns.length cn] 23)).alloc (.cells #[.slice Ar rs.length cr] 24)) (((Rd.alloc ht _).alloc _).alloc _) hl)
  have HT := Lib.hid ht
  have HNS := Lib.hid hns
  have HRS := Lib.hid hrs
  have HNR := Lib.hid hnr
  have HX := Lib.hid hx
  have HQ := Lib.hid hb
  have HL0 := Lib.hid hl0
  clear ht hns hrs hnr hx hb hl0
  go_enter Tryz.func5, Tryz.ntmps5
  go_wp2_with fail
  refine CM.out.mono ?_
  rintro e w1 ⟨rfl, hb1⟩
  rw [HQ.out]
  have hz : w.heap.size + 3 ≤ w1.heap.size := by have := hb1.size; simp at this; omega
  have B1 := Lib.hid ((((Below.refl _ w).alloc (Nat.le_refl _) _).alloc (by simp) _).alloc (by simp <;> omega) _ |>.trans (hb1.mono (by simp; omega)))
  have L1 := Lib.hid (Blk.belowS (((Blk.new w #[.slice A l.length c] 22).alloc (.cells #[.slice An ns.length cn] 23)).alloc (.cells #[.slice Ar rs.length cr] 24)) hb1)
  have N1 := Lib.hid (Blk.belowS ((blk_next (w := w.alloc (.cells #[.slice A l.length c] 22)) (n := w.heap.size + 1) (by simp) #[.slice An ns.length cn] 23).alloc (.cells #[.slice Ar rs.length cr] 24)) hb1)
  have R1 := Lib.hid (Blk.belowS (blk_next (w := (w.alloc (.cells #[.slice A l.length c] 22)).alloc (.cells #[.slice An ns.length cn] 23)) (n := w.heap.size + 1 + 1) (by simp) #[.slice Ar rs.length cr] 24) hb1)
  clear hb1
  have hS := em_start rfl hz (Rd.below HT.out B1.out) (Rd.below HNS.out B1.out) (Rd.below HRS.out B1.out) L1.out N1.out R1.out (rd_lt HT.out (by
      rcases l with _ | ⟨t, l⟩
      · exact absurd rfl HL0.out
      · simp [Tm.cells])) (fun h => rd_lt HNS.out (by simpa using h)) (fun h => rd_lt HRS.out (by simpa using h))
  have HS := Lib.hid hS
  clear hS
  have n1 : w1.cell? ⟨w.heap.size + 1, 0, none⟩ = some (.slice An ns.length cn) := N1.out.cell 0
  have r1 : w1.cell? ⟨w.heap.size + 1 + 1, 0, none⟩ = some (.slice Ar rs.length cr) := R1.out.cell 0
  have e1 : ((ns.length : Int) != (rs.length : Int)) = false := by rw [HNR.out]; simp
  go_wp2_with fail
  refine (em1_any l A c ns An cn rs Ar cr _ _ _ _ _ _ _ HNR.out hn x root ([], true) (.slice none 0 0) _ HX.out (by simpa using hxs) (by simp) HS.out).mono ?_
  rintro e w3 ⟨rfl, v3, hK, hW3, _⟩
  have HB3 : Hid (Below w.heap.size w w3) := Lib.hid ((((B1.out.alloc (by omega) _).alloc (by simp; omega) _).alloc (by simp; omega) _).trans (hK.below (fun i q => by
    rcases q with q | q | q
    · omega
    · omega
    · cases q) (by simp; omega)))
  obtain ⟨A3, c3, rfl, _⟩ := own_shape hW3.own
  have k0 : w3.cell? ⟨w1.heap.size + 1, 0, none⟩ = some (.bool (emF ns rs x ([], true)).2) := hW3.hbo.cell 0
  have k1 : w3.cell? ⟨w1.heap.size, 0, none⟩ = some (.slice A3 (emF ns rs x ([], true)).1.length c3) := hW3.hbu.cell 0
  have HR3 := Lib.hid (own_rd hW3.own)
  have hps := em_ps ns rs x []
  clear hK hW3
  rcases hp : psF ns rs x [] with _ | o'
  · have h2 := hps.2 hp
    rw [h2] at k0
    have HP := Lib.hid hp
    clear hps hp h2
    go_wp2_with fail
    go_ret2
    exact emit_none HB3.out HP.out rfl
  · have h2 := hps.1 o' hp
    rw [h2] at k0 k1 HR3
    have HP := Lib.hid hp
    clear hps hp h2
    go_wp2_with fail
    go_ret2
    exact emit_some HB3.out HP.out rfl HR3.out
end Go.Proofs.YtngfeflemblljaaGreatDoor
