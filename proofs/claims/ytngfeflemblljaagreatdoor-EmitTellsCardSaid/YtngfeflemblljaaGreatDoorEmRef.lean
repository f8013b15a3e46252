/- Contracts: reparteeref30.pushes, reparteeref30.Pushes. -/
import Derived.Test.YtngfeflemblljaaGreatDoorTmTree
import Derived.Test.YtngfeflemblljaaGreatDoorEmWalk
import Derived.Deep.DeepCutAuto
namespace Go.Proofs.YtngfeflemblljaaGreatDoor
open Go.RowKit

structure PE (w : World) (l : List Tm) (A : Option Addr) (ns : List ByteArray) (An : Option Addr) (rs : List Int) (Ar : Option Addr) (base : Nat) : Prop where
  tms : Tms w A l
  nms : Strs w An ns
  rgs : Ints w Ar rs
  xa : ∀ b o, A = some ⟨b, o, none⟩ → b < base
  xn : ns ≠ [] → ∀ b o, An = some ⟨b, o, none⟩ → b < base
  xr : rs ≠ [] → ∀ b o, Ar = some ⟨b, o, none⟩ → b < base
theorem PE.kb {w w' : World} {l : List Tm} {A : Option Addr} {ns : List ByteArray} {An : Option Addr} {rs : List Int} {Ar : Option Addr} {base : Nat} {S : Nat → Prop} (h : PE w l A ns An rs Ar base) (hk : Kb S w w') (hs : ∀ i, S i → base ≤ i) : PE w' l A ns An rs Ar base :=
  ⟨h.tms.kb hk fun b o e q => by have := h.xa b o e; have := hs b q; omega,
    Rd.kb2 h.nms hk fun n b o e q => by have := h.xn (by rintro rfl; exact n rfl) b o e; have := hs b q; omega,
    Rd.kb2 h.rgs hk fun n b o e q => by have := h.xr (by rintro rfl; exact n rfl) b o e; have := hs b q; omega, h.xa, h.xn, h.xr⟩
def OwnB (v : Value) : Nat → Prop := fun i => v.ownBlock = some i
/-- What became of the row v with the code o: r. -/
def PushW (r : Option (List In)) (base : Nat) (v : Value) (w : World) (v' b : Value) (w' : World) : Prop :=
  Kb (OwnB v) w w' ∧ match r with
    | none => b = .bool false
    | some o' => b = .bool true ∧ w'.ownsRow base 50 9 v' o'.length (o'.flatMap In.cells) ∧ (v'.ownBlock = v.ownBlock ∨ ∀ g, v'.ownBlock = some g → w.heap.size ≤ g)
def PushPost (r : Option (List In)) (base : Nat) (v : Value) (w : World) (e : Ending) (w' : World) : Prop :=
  ∃ v' b, e = .returned (.tuple #[v', b]) ∧ PushW r base v w v' b w' ∧ (r = none → v' = .slice none 0 0)
section
variable {r : Option (List In)} {base : Nat} {v v' b : Value} {w w' : World}
theorem PushW.none_ (h : PushW r base v w v' b w') (hr : r = none) : b = .bool false := by rw [hr] at h; exact h.2
theorem PushW.some_ {o' : List In} (h : PushW r base v w v' b w') (hr : r = some o') : b = .bool true ∧ w'.ownsRow base 50 9 v' o'.length (o'.flatMap In.cells) ∧ (v'.ownBlock = v.ownBlock ∨ ∀ g, v'.ownBlock = some g → w.heap.size ≤ g) := by rw [hr] at h; exact h.2
theorem PushW.from {o : Obj} (h : PushW r base v (w.alloc o) v' b w') : PushW r base v w v' b w' := by
  refine ⟨((Kb.refl _ _).alloc o).trans h.1, ?_⟩
  have h2 := h.2
  cases r with
  | none => exact h2
  | some o' =>
    refine ⟨h2.1, h2.2.1, ?_⟩
    rcases h2.2.2 with q | q
    · exact .inl q
    · exact .inr fun g hg => by have := q g hg; simp at this; omega
theorem PushW.chain {r2 : Option (List In)} {o1 : List In} {v2 b2 : Value} {w2 : World} (h : PushW r base v w v' b w') (hr : r = some o1) (h2 : PushW r2 base v' w' v2 b2 w2) : PushW r2 base v w v2 b2 w2 := by
  obtain ⟨_, _, ho⟩ := h.some_ hr
  have hz := h.1.size
  refine ⟨h.1.andThen h2.1 fun i hi q => ?_, ?_⟩
  · rcases ho with ho | ho
    · exact ho.symm.trans q
    · have := ho i q; omega
  · have h3 := h2.2
    cases r2 with
    | none => exact h3
    | some o' =>
      refine ⟨h3.1, h3.2.1, ?_⟩
      rcases h3.2.2 with q | q
      · rcases ho with ho | ho
        · exact .inl (q.trans ho)
        · exact .inr fun g hg => ho g (q ▸ hg)
      · exact .inr fun g hg => by have := q g hg; omega
theorem PushW.id_ {o : List In} (h : w.ownsRow base 50 9 v o.length (o.flatMap In.cells)) : PushW (some o) base v w v (.bool true) w := ⟨Kb.refl _ _, rfl, h, .inl rfl⟩
theorem PushW.app {o1 : List In} {w5 : World} {A' : Option Addr} {c' : Nat} {b1 b2 : Obj} (i : In) (h : PushW r base v w v' b w') (hr : r = some o1)
    (hown : w5.ownsRow base 50 9 (.slice A' (o1.length + 1) c') (o1.length + 1) (o1.flatMap In.cells ++ i.cells)) (hg : ((w'.alloc b1).alloc b2).grownBy w5 v'.ownBlock)
    (hat : (Value.slice A' (o1.length + 1) c').ownBlock = v'.ownBlock ∨ (Value.slice A' (o1.length + 1) c').ownBlock = some ((w'.alloc b1).alloc b2).heap.size) :
    PushW (some (o1 ++ [i])) base v w (.slice A' (o1.length + 1) c') (.bool true) w5 := by
  refine h.chain hr ⟨(((Kb.refl _ _).alloc b1).alloc b2).trans ((Kb.of_grown hg).mono fun j _ q => q.symm), rfl, ?_, ?_⟩
  · simp only [List.length_append, List.length_singleton, List.flatMap_append, List.flatMap_singleton]
    exact hown
  · rcases hat with hat | hat
    · exact .inl hat
    · refine .inr fun g hg => ?_
      rw [hat] at hg
      injection hg with hg
      simp at hg
      omega
theorem PushW.post {e : Ending} (h : PushW r base v w v' b w') (hr : r = none → v' = .slice none 0 0) (he : e = .returned (.tuple #[v', b])) : PushPost r base v w e w' := ⟨v', b, he, h, hr⟩
theorem PushW.no (h : Kb (OwnB v) w w') (hr : r = none) : PushPost r base v w (.returned (.tuple #[.slice none 0 0, .bool false])) w' := ⟨_, _, rfl, ⟨h, by rw [hr]⟩, fun _ => rfl⟩
end
/-- Where an operand is pushed, if there is one. -/
def PushC (r : Option (List In)) (base : Nat) (v : Value) (w : World) (v' b : Value) (w' : World) : Prop := PushW r base v w v' b w'
theorem ps_none1 {ns : List ByteArray} {rs : List Int} {t : Tm} {x y : Tr} {o : List In} (h : psF ns rs x o = none) : psF ns rs (.node t x y) o = none := by rw [psF, h]
theorem ps_none2 {ns : List ByteArray} {rs : List Int} {t : Tm} {x y : Tr} {o o1 : List In} (h : psF ns rs x o = some o1) (h2 : psF ns rs y o1 = none) : psF ns rs (.node t x y) o = none := by rw [psF, h]; simp only; rw [h2]
theorem ps_some {ns : List ByteArray} {rs : List Int} {t : Tm} {x y : Tr} {o o1 o2 : List In} (h : psF ns rs x o = some o1) (h2 : psF ns rs y o1 = some o2) : psF ns rs (.node t x y) o = (insF ns rs t).map fun c => o2 ++ [c] := by rw [psF, h]; simp only; rw [h2]
set_option maxRecDepth 100000 in
set_option maxHeartbeats 8000000 in
theorem push_any (l : List Tm) (A : Option Addr) (c : Nat) (ns : List ByteArray) (An : Option Addr) (cn : Nat) (rs : List Int) (Ar : Option Addr) (cr base : Nat) (hnr : ns.length = rs.length) (hn : ns.length ≤ 1000000) :
    ∀ (x : Tr) (k : Int) (o : List In) (v : Value) (w : World), x ≠ .nil → Gr l k x → o.length + x.size ≤ 1000 → base ≤ w.heap.size → PE w l A ns An rs Ar base → w.ownsRow base 50 9 v o.length (o.flatMap In.cells) →
    Calls Tryz.prog 14 #[.slice A l.length c, .int .i64 k, .slice An ns.length cn, .slice Ar rs.length cr, v] w (PushPost (psF ns rs x o) base v w) := by
  intro x
  obtain ⟨i0, hi0, hz0, hz1, hz2⟩ := info_parts infoIns
  induction x with
  | nil => intro k o v w h; exact absurd rfl h
  | node t x y ihx ihy =>
    intro k o v w _ hg hsz hbase hE hO
    obtain ⟨h0, ht, hgx, hgy, _, _⟩ := hg
    obtain ⟨a, rfl⟩ : ∃ a : Nat, k = a := ⟨k.toNat, by omega⟩
    have ht : l[a]? = some t := by simpa using ht
    have hal : a < l.length := (List.getElem?_eq_some_iff.1 ht).1
    rw [Tr.size] at hsz
    have CX := Lib.hid (fun (o : List In) v w (hn : x ≠ .nil) h1 h2 => ihx t.l o v w hn hgx h1 h2)
    have CY := Lib.hid (fun (o : List In) v w (hn : y ≠ .nil) h1 h2 => ihy t.r o v w hn hgy h1 h2)
    have HN := Lib.hid hnr
    have HT := Lib.hid ht
    have hxl : (x = .nil ∧ t.l = -1) ∨ (x ≠ .nil ∧ 0 ≤ t.l) := by
      cases x with
      | nil => exact .inl ⟨rfl, hgx⟩
      | node => exact .inr ⟨by simp, hgx.1⟩
    have hyr : (y = .nil ∧ t.r = -1) ∨ (y ≠ .nil ∧ 0 ≤ t.r) := by
      cases y with
      | nil => exact .inl ⟨rfl, hgy⟩
      | node => exact .inr ⟨by simp, hgy.1⟩
    have HXL := Lib.hid hxl
    have HYR := Lib.hid hyr
    clear ihx ihy hgx hgy h0 ht hnr hxl hyr
    obtain ⟨b, off, t', rfl, hb, ht', hc⟩ := hE.tms.at_ hal
    obtain rfl : t' = t := Option.some.inj (ht'.symm.trans HT.out)
    obtain ⟨c0, c1, c2, c3, c4, c5⟩ := hc
    clear ht' hb
    have HE := Lib.hid hE
    have HO := Lib.hid hO
    have HB1 := Lib.hid (Blk.new w #[.int .i64 t'.kind, .string t'.name, .int .i64 t'.n, .string t'.text, .int .i64 t'.l, .int .i64 t'.r] 54)
    have HE1 := Lib.hid (hE.kb (S := fun _ => False) ((Kb.refl _ _).alloc (.cells #[.int .i64 t'.kind, .string t'.name, .int .i64 t'.n, .string t'.text, .int .i64 t'.l, .int .i64 t'.r] 54)) fun _ q => q.elim)
    have HO1 := Lib.hid (hO.alloc (.cells #[.int .i64 t'.kind, .string t'.name, .int .i64 t'.n, .string t'.text, .int .i64 t'.l, .int .i64 t'.r] 54))
    have HOL : Hid (∀ i, v.ownBlock = some i → base ≤ i ∧ i < w.heap.size) := Lib.hid fun i hi => hO.lt i hi
    clear hE hO
    go_enter Tryz.func14, Tryz.ntmps14
    go_upto_if 22 with fail
    go_cut [4, 13] (fun s4 s13 wx => PushC (psF ns rs x o) base v (w.alloc (.cells #[.int .i64 t'.kind, .string t'.name, .int .i64 t'.n, .string t'.text, .int .i64 t'.l, .int .i64 t'.r] 54)) s4 s13 wx ∧ Hid (Blk wx w.heap.size #[.int .i64 t'.kind, .string t'.name, .int .i64 t'.n, .string t'.text, .int .i64 t'.l, .int .i64 t'.r] 54))
    case first =>
      rcases HXL.out with ⟨hx, hl⟩ | ⟨hx, hl⟩
      · have el : decide (0 ≤ t'.l) = false := decide_eq_false (by omega)
        have HP : Hid (psF ns rs x o = some o) := Lib.hid (by rw [hx]; rfl)
        have hl' : t'.l < 0 := by omega
        clear hx hl
        go_wp2_with fail
        go_meet
        rw [HP.out]
        exact ⟨PushW.id_ HO1.out, HB1⟩
      · have el : decide (0 ≤ t'.l) = true := decide_eq_true hl
        have HX := Lib.hid hx
        clear hx
        go_wp2_with fail
        refine (CX.out o v _ HX.out (by omega) (by simp; omega) HE1.out HO1.out).mono ?_
        rintro e w2 ⟨v2, b2, rfl, hP, _⟩
        have HP := Lib.hid hP
        have HB2 := Lib.hid (HB1.out.kb hP.1 fun q => by have := HOL.out _ q; omega)
        clear hP
        go_wp2_with fail
        go_meet
        exact ⟨HP.out, HB2⟩
    case rest =>
      clear c0 c1 c2 c3 c4 c5 HO1 CX HXL HB1
      obtain ⟨hc0, HB1⟩ := hcut
      have hcut : PushW (psF ns rs x o) base v (w.alloc (.cells #[.int .i64 t'.kind, .string t'.name, .int .i64 t'.n, .string t'.text, .int .i64 t'.l, .int .i64 t'.r] 54)) u4 u13 wc := hc0
      clear hc0
      have hz : w.heap.size < wc.heap.size := HB1.out.lt
      rcases hp : psF ns rs x o with _ | o1
      · obtain rfl := hcut.none_ hp
        have HC := Lib.hid hcut.from
        have HP := Lib.hid hp
        clear hcut hp
        go_wp2_with fail
        go_ret2
        exact PushW.no HC.out.1 (ps_none1 HP.out)
      obtain ⟨rfl, hO1, hob1⟩ := hcut.some_ hp
      have hlen1 := ps_len ns rs x o o1 hp
      have HE1 := Lib.hid (HE1.out.kb hcut.1 fun i q => (HOL.out i q).1)
      have HC := Lib.hid hcut.from
      have HP := Lib.hid hp
      have HO1 := Lib.hid hO1
      have HOL1 : Hid (∀ i, u4.ownBlock = some i → base ≤ i ∧ i < wc.heap.size ∧ i ≠ w.heap.size) := Lib.hid fun i hi => ⟨(hO1.lt i hi).1, (hO1.lt i hi).2, fun q => by
        subst q
        rcases hob1 with h | h
        · have := HOL.out _ (h ▸ hi); omega
        · have := h _ hi; simp at this; omega⟩
      clear hcut hp hO1 hob1
      obtain ⟨v1, rfl⟩ : ∃ v1, v1 = u4 := ⟨_, rfl⟩
      obtain ⟨w2, rfl⟩ : ∃ w2, w2 = wc := ⟨_, rfl⟩
      have d5 : w2.cell? ⟨w.heap.size, 5, none⟩ = some (.int .i64 t'.r) := HB1.out.cell 5
      go_upto_if 38 with fail
      go_cut [4, 13] (fun s4 s13 wx => PushC (psF ns rs y o1) base v1 w2 s4 s13 wx)
      case first =>
        rcases HYR.out with ⟨hx, hl⟩ | ⟨hx, hl⟩
        · have el : decide (0 ≤ t'.r) = false := decide_eq_false (by omega)
          have HPY : Hid (psF ns rs y o1 = some o1) := Lib.hid (by rw [hx]; rfl)
          have hl' : t'.r < 0 := by omega
          clear hx hl
          go_wp2_with fail
          go_meet
          rw [HPY.out]
          exact PushW.id_ HO1.out
        · have el : decide (0 ≤ t'.r) = true := decide_eq_true hl
          have HX := Lib.hid hx
          clear hx
          go_wp2_with fail
          refine (CY.out o1 v1 _ HX.out (by omega) (by omega) HE1.out HO1.out).mono ?_
          rintro e w2 ⟨v2, b2, rfl, hP, _⟩
          have HPY := Lib.hid hP
          clear hP
          go_wp2_with fail
          go_meet
          exact HPY.out
      case rest =>
        have hcut : PushW (psF ns rs y o1) base v1 w2 u4 u13 wc := hcut
        rcases hp : psF ns rs y o1 with _ | o2
        · obtain rfl := hcut.none_ hp
          have HC2 := Lib.hid (HC.out.chain HP.out hcut)
          have HP2 := Lib.hid hp
          clear hcut hp
          go_wp2_with fail
          go_ret2
          exact PushW.no HC2.out.1 (ps_none2 HP.out HP2.out)
        obtain ⟨rfl, hO2, _⟩ := hcut.some_ hp
        have hlen2 := ps_len ns rs y o1 o2 hp
        have HE2 := Lib.hid (HE1.out.kb hcut.1 fun i q => (HOL1.out i q).1)
        have HC2 := Lib.hid (HC.out.chain HP.out hcut)
        have HB2 := HB1.out.kb hcut.1 fun q => (HOL1.out _ q).2.2 rfl
        have HPS := Lib.hid (ps_some (t := t') HP.out hp)
        have HP2 := Lib.hid hp
        have HO2 := Lib.hid hO2
        have hzz : w.heap.size < wc.heap.size := HB2.lt
        have hbs2 : base ≤ wc.heap.size := by omega
        obtain ⟨v2, rfl⟩ : ∃ v2, v2 = u4 := ⟨_, rfl⟩
        obtain ⟨w3, rfl⟩ : ∃ w3, w3 = wc := ⟨_, rfl⟩
        have y0 : w3.cell? ⟨w.heap.size, 0, none⟩ = some (.int .i64 t'.kind) := HB2.cell 0
        have y1 : w3.cell? ⟨w.heap.size, 1, none⟩ = some (.string t'.name) := HB2.cell 1
        have y2 : w3.cell? ⟨w.heap.size, 2, none⟩ = some (.int .i64 t'.n) := HB2.cell 2
        have y3 : w3.cell? ⟨w.heap.size, 3, none⟩ = some (.string t'.text) := HB2.cell 3
        clear hcut hp hO2 d5 HB2 hz
        by_cases k0 : t'.kind = 0
        · rw [k0] at y0
          have HK0 := Lib.hid k0
          clear k0
          have CI := rplace_any An ns cn t'.name (w3.alloc (.cells #[.int .i64 0, .int .i64 0, .int .i64 0, .int .i64 0, .string ⟨#[]⟩, .string ⟨#[]⟩, .slice none 0 0, .slice none 0 0, .slice none 0 0] 50)) (Rd.alloc HE2.out.nms _) hn
          rcases hidx : idxF ns t'.name with _ | i
          · rw [show idxI ns t'.name = -1 by unfold idxI; rw [hidx]] at CI
            have HCI := Lib.hid CI
            have HI := Lib.hid hidx
            clear CI hidx
            go_wp2_with fail
            refine HCI.out.mono ?_
            rintro e w4 ⟨rfl, rfl⟩
            go_wp2_with fail
            go_ret2
            exact PushW.no (HC2.out.1.alloc _) (by rw [HPS.out, show insF ns rs t' = none by unfold insF; rw [if_pos HK0.out, HI.out]; rfl]; rfl)
          · rw [show idxI ns t'.name = i by unfold idxI; rw [hidx]] at CI
            have hil : i < rs.length := by rw [← HN.out]; exact idx_lt hidx
            have HCI := Lib.hid CI
            have HI := Lib.hid hidx
            clear CI hidx
            obtain ⟨rb, ro, rfl, hrb, hrc⟩ := HE2.out.rgs.at_ hil
            obtain ⟨r0, hr0⟩ : ∃ r0, rs.getD i 0 = r0 := ⟨_, rfl⟩
            rw [hr0] at hrc
            have HR0 := Lib.hid hr0
            clear hr0
            go_wp2_with fail
            refine HCI.out.mono ?_
            rintro e w4 ⟨rfl, rfl⟩
            have HA := Lib.hid ((HO2.out.alloc (.cells #[.int .i64 5, .int .i64 r0, .int .i64 0, .int .i64 0, .string ⟨#[]⟩, .string ⟨#[]⟩, .slice none 0 0, .slice none 0 0, .slice none 0 0] 50)).alloc (.cells #[.int .i64 5, .int .i64 r0, .int .i64 0, .int .i64 0, .string ⟨#[]⟩, .string ⟨#[]⟩, .slice none 0 0, .slice none 0 0, .slice none 0 0] 50))
            have HR := Lib.hid (blk_next (w := w3.alloc (.cells #[.int .i64 5, .int .i64 r0, .int .i64 0, .int .i64 0, .string ⟨#[]⟩, .string ⟨#[]⟩, .slice none 0 0, .slice none 0 0, .slice none 0 0] 50)) (n := w3.heap.size + 1) (by simp) #[.int .i64 5, .int .i64 r0, .int .i64 0, .int .i64 0, .string ⟨#[]⟩, .string ⟨#[]⟩, .slice none 0 0, .slice none 0 0, .slice none 0 0] 50).rd
            have HBS : Hid (base ≤ ((w3.alloc (.cells #[.int .i64 5, .int .i64 r0, .int .i64 0, .int .i64 0, .string ⟨#[]⟩, .string ⟨#[]⟩, .slice none 0 0, .slice none 0 0, .slice none 0 0] 50)).alloc (.cells #[.int .i64 5, .int .i64 r0, .int .i64 0, .int .i64 0, .string ⟨#[]⟩, .string ⟨#[]⟩, .slice none 0 0, .slice none 0 0, .slice none 0 0] 50)).heap.size) := Lib.hid (by simp; omega)
            go_wp2_with (at_builtin; refine wpList_app _ rfl _ _ _ rfl base 50 i0 _ 9 136 Tryz.underlying26 hi0 hz0 hz1 hz2 rfl (by omega) v2 o2.length (o2.flatMap In.cells) rfl HA.out (some ⟨w3.heap.size + 1, 0, none⟩) 1 1 [.int .i64 5, .int .i64 r0, .int .i64 0, .int .i64 0, .string ⟨#[]⟩, .string ⟨#[]⟩, .slice none 0 0, .slice none 0 0, .slice none 0 0] rfl HR.out rfl (by simp [Value.oneCell']) (by omega) (by unfold maxLen; omega) HBS.out ?_; intro A5 c5 w5 hle5 hown5 hg5 hat5; have HE5 := Lib.hid (HC2.out.app ⟨5, r0, 0, ⟨#[]⟩⟩ HP2.out hown5 hg5 hat5); clear hown5 hg5 hat5 hle5)
            go_ret2
            have hins : insF ns rs t' = some ⟨5, r0, 0, ⟨#[]⟩⟩ := by unfold insF; rw [if_pos HK0.out, HI.out]; simp only [Option.map_some, HR0.out]
            rw [HPS.out, hins]
            exact HE5.out.post (fun h => by cases h) rfl
        by_cases k1 : t'.kind = 1
        · rw [k1] at y0
          have HK0 := Lib.hid k1
          clear k0 k1
          have HA := Lib.hid ((HO2.out.alloc (.cells #[.int .i64 0, .int .i64 0, .int .i64 0, .int .i64 t'.n, .string ⟨#[]⟩, .string ⟨#[]⟩, .slice none 0 0, .slice none 0 0, .slice none 0 0] 50)).alloc (.cells #[.int .i64 0, .int .i64 0, .int .i64 0, .int .i64 t'.n, .string ⟨#[]⟩, .string ⟨#[]⟩, .slice none 0 0, .slice none 0 0, .slice none 0 0] 50))
          have HR := Lib.hid (blk_next (w := w3.alloc (.cells #[.int .i64 0, .int .i64 0, .int .i64 0, .int .i64 t'.n, .string ⟨#[]⟩, .string ⟨#[]⟩, .slice none 0 0, .slice none 0 0, .slice none 0 0] 50)) (n := w3.heap.size + 1) (by simp) #[.int .i64 0, .int .i64 0, .int .i64 0, .int .i64 t'.n, .string ⟨#[]⟩, .string ⟨#[]⟩, .slice none 0 0, .slice none 0 0, .slice none 0 0] 50).rd
          have HBS : Hid (base ≤ ((w3.alloc (.cells #[.int .i64 0, .int .i64 0, .int .i64 0, .int .i64 t'.n, .string ⟨#[]⟩, .string ⟨#[]⟩, .slice none 0 0, .slice none 0 0, .slice none 0 0] 50)).alloc (.cells #[.int .i64 0, .int .i64 0, .int .i64 0, .int .i64 t'.n, .string ⟨#[]⟩, .string ⟨#[]⟩, .slice none 0 0, .slice none 0 0, .slice none 0 0] 50)).heap.size) := Lib.hid (by simp; omega)
          go_wp2_with (at_builtin; refine wpList_app _ rfl _ _ _ rfl base 50 i0 _ 9 136 Tryz.underlying26 hi0 hz0 hz1 hz2 rfl (by omega) v2 o2.length (o2.flatMap In.cells) rfl HA.out (some ⟨w3.heap.size + 1, 0, none⟩) 1 1 [.int .i64 0, .int .i64 0, .int .i64 0, .int .i64 t'.n, .string ⟨#[]⟩, .string ⟨#[]⟩, .slice none 0 0, .slice none 0 0, .slice none 0 0] rfl HR.out rfl (by simp [Value.oneCell']) (by omega) (by unfold maxLen; omega) HBS.out ?_; intro A5 c5 w5 hle5 hown5 hg5 hat5; have HE5 := Lib.hid (HC2.out.app ⟨0, 0, t'.n, ⟨#[]⟩⟩ HP2.out hown5 hg5 hat5); clear hown5 hg5 hat5 hle5)
          go_ret2
          have hins : insF ns rs t' = some ⟨0, 0, t'.n, ⟨#[]⟩⟩ := by unfold insF; rw [HK0.out]; rfl
          rw [HPS.out, hins]
          exact HE5.out.post (fun h => by cases h) rfl
        by_cases k2 : t'.kind = 2
        · rw [k2] at y0
          have HK0 := Lib.hid k2
          clear k0 k1 k2
          have HA := Lib.hid ((HO2.out.alloc (.cells #[.int .i64 1, .int .i64 0, .int .i64 0, .int .i64 t'.n, .string ⟨#[]⟩, .string ⟨#[]⟩, .slice none 0 0, .slice none 0 0, .slice none 0 0] 50)).alloc (.cells #[.int .i64 1, .int .i64 0, .int .i64 0, .int .i64 t'.n, .string ⟨#[]⟩, .string ⟨#[]⟩, .slice none 0 0, .slice none 0 0, .slice none 0 0] 50))
          have HR := Lib.hid (blk_next (w := w3.alloc (.cells #[.int .i64 1, .int .i64 0, .int .i64 0, .int .i64 t'.n, .string ⟨#[]⟩, .string ⟨#[]⟩, .slice none 0 0, .slice none 0 0, .slice none 0 0] 50)) (n := w3.heap.size + 1) (by simp) #[.int .i64 1, .int .i64 0, .int .i64 0, .int .i64 t'.n, .string ⟨#[]⟩, .string ⟨#[]⟩, .slice none 0 0, .slice none 0 0, .slice none 0 0] 50).rd
          have HBS : Hid (base ≤ ((w3.alloc (.cells #[.int .i64 1, .int .i64 0, .int .i64 0, .int .i64 t'.n, .string ⟨#[]⟩, .string ⟨#[]⟩, .slice none 0 0, .slice none 0 0, .slice none 0 0] 50)).alloc (.cells #[.int .i64 1, .int .i64 0, .int .i64 0, .int .i64 t'.n, .string ⟨#[]⟩, .string ⟨#[]⟩, .slice none 0 0, .slice none 0 0, .slice none 0 0] 50)).heap.size) := Lib.hid (by simp; omega)
          go_wp2_with (at_builtin; refine wpList_app _ rfl _ _ _ rfl base 50 i0 _ 9 136 Tryz.underlying26 hi0 hz0 hz1 hz2 rfl (by omega) v2 o2.length (o2.flatMap In.cells) rfl HA.out (some ⟨w3.heap.size + 1, 0, none⟩) 1 1 [.int .i64 1, .int .i64 0, .int .i64 0, .int .i64 t'.n, .string ⟨#[]⟩, .string ⟨#[]⟩, .slice none 0 0, .slice none 0 0, .slice none 0 0] rfl HR.out rfl (by simp [Value.oneCell']) (by omega) (by unfold maxLen; omega) HBS.out ?_; intro A5 c5 w5 hle5 hown5 hg5 hat5; have HE5 := Lib.hid (HC2.out.app ⟨1, 0, t'.n, ⟨#[]⟩⟩ HP2.out hown5 hg5 hat5); clear hown5 hg5 hat5 hle5)
          go_ret2
          have hins : insF ns rs t' = some ⟨1, 0, t'.n, ⟨#[]⟩⟩ := by unfold insF; rw [HK0.out]; rfl
          rw [HPS.out, hins]
          exact HE5.out.post (fun h => by cases h) rfl
        by_cases k3 : t'.kind = 3
        · rw [k3] at y0
          have HK0 := Lib.hid k3
          clear k0 k1 k2 k3
          have HA := Lib.hid ((HO2.out.alloc (.cells #[.int .i64 2, .int .i64 0, .int .i64 0, .int .i64 0, .string t'.text, .string ⟨#[]⟩, .slice none 0 0, .slice none 0 0, .slice none 0 0] 50)).alloc (.cells #[.int .i64 2, .int .i64 0, .int .i64 0, .int .i64 0, .string t'.text, .string ⟨#[]⟩, .slice none 0 0, .slice none 0 0, .slice none 0 0] 50))
          have HR := Lib.hid (blk_next (w := w3.alloc (.cells #[.int .i64 2, .int .i64 0, .int .i64 0, .int .i64 0, .string t'.text, .string ⟨#[]⟩, .slice none 0 0, .slice none 0 0, .slice none 0 0] 50)) (n := w3.heap.size + 1) (by simp) #[.int .i64 2, .int .i64 0, .int .i64 0, .int .i64 0, .string t'.text, .string ⟨#[]⟩, .slice none 0 0, .slice none 0 0, .slice none 0 0] 50).rd
          have HBS : Hid (base ≤ ((w3.alloc (.cells #[.int .i64 2, .int .i64 0, .int .i64 0, .int .i64 0, .string t'.text, .string ⟨#[]⟩, .slice none 0 0, .slice none 0 0, .slice none 0 0] 50)).alloc (.cells #[.int .i64 2, .int .i64 0, .int .i64 0, .int .i64 0, .string t'.text, .string ⟨#[]⟩, .slice none 0 0, .slice none 0 0, .slice none 0 0] 50)).heap.size) := Lib.hid (by simp; omega)
          go_wp2_with (at_builtin; refine wpList_app _ rfl _ _ _ rfl base 50 i0 _ 9 136 Tryz.underlying26 hi0 hz0 hz1 hz2 rfl (by omega) v2 o2.length (o2.flatMap In.cells) rfl HA.out (some ⟨w3.heap.size + 1, 0, none⟩) 1 1 [.int .i64 2, .int .i64 0, .int .i64 0, .int .i64 0, .string t'.text, .string ⟨#[]⟩, .slice none 0 0, .slice none 0 0, .slice none 0 0] rfl HR.out rfl (by simp [Value.oneCell']) (by omega) (by unfold maxLen; omega) HBS.out ?_; intro A5 c5 w5 hle5 hown5 hg5 hat5; have HE5 := Lib.hid (HC2.out.app ⟨2, 0, 0, t'.text⟩ HP2.out hown5 hg5 hat5); clear hown5 hg5 hat5 hle5)
          go_ret2
          have hins : insF ns rs t' = some ⟨2, 0, 0, t'.text⟩ := by unfold insF; rw [HK0.out]; rfl
          rw [HPS.out, hins]
          exact HE5.out.post (fun h => by cases h) rfl
        by_cases k4 : t'.kind = 4
        · rw [k4] at y0
          have HK0 := Lib.hid k4
          clear k0 k1 k2 k3 k4
          have HA := Lib.hid ((HO2.out.alloc (.cells #[.int .i64 3, .int .i64 0, .int .i64 0, .int .i64 0, .string ⟨#[]⟩, .string ⟨#[]⟩, .slice none 0 0, .slice none 0 0, .slice none 0 0] 50)).alloc (.cells #[.int .i64 3, .int .i64 0, .int .i64 0, .int .i64 0, .string ⟨#[]⟩, .string ⟨#[]⟩, .slice none 0 0, .slice none 0 0, .slice none 0 0] 50))
          have HR := Lib.hid (blk_next (w := w3.alloc (.cells #[.int .i64 3, .int .i64 0, .int .i64 0, .int .i64 0, .string ⟨#[]⟩, .string ⟨#[]⟩, .slice none 0 0, .slice none 0 0, .slice none 0 0] 50)) (n := w3.heap.size + 1) (by simp) #[.int .i64 3, .int .i64 0, .int .i64 0, .int .i64 0, .string ⟨#[]⟩, .string ⟨#[]⟩, .slice none 0 0, .slice none 0 0, .slice none 0 0] 50).rd
          have HBS : Hid (base ≤ ((w3.alloc (.cells #[.int .i64 3, .int .i64 0, .int .i64 0, .int .i64 0, .string ⟨#[]⟩, .string ⟨#[]⟩, .slice none 0 0, .slice none 0 0, .slice none 0 0] 50)).alloc (.cells #[.int .i64 3, .int .i64 0, .int .i64 0, .int .i64 0, .string ⟨#[]⟩, .string ⟨#[]⟩, .slice none 0 0, .slice none 0 0, .slice none 0 0] 50)).heap.size) := Lib.hid (by simp; omega)
          go_wp2_with (at_builtin; refine wpList_app _ rfl _ _ _ rfl base 50 i0 _ 9 136 Tryz.underlying26 hi0 hz0 hz1 hz2 rfl (by omega) v2 o2.length (o2.flatMap In.cells) rfl HA.out (some ⟨w3.heap.size + 1, 0, none⟩) 1 1 [.int .i64 3, .int .i64 0, .int .i64 0, .int .i64 0, .string ⟨#[]⟩, .string ⟨#[]⟩, .slice none 0 0, .slice none 0 0, .slice none 0 0] rfl HR.out rfl (by simp [Value.oneCell']) (by omega) (by unfold maxLen; omega) HBS.out ?_; intro A5 c5 w5 hle5 hown5 hg5 hat5; have HE5 := Lib.hid (HC2.out.app ⟨3, 0, 0, ⟨#[]⟩⟩ HP2.out hown5 hg5 hat5); clear hown5 hg5 hat5 hle5)
          go_ret2
          have hins : insF ns rs t' = some ⟨3, 0, 0, ⟨#[]⟩⟩ := by unfold insF; rw [HK0.out]; rfl
          rw [HPS.out, hins]
          exact HE5.out.post (fun h => by cases h) rfl
        by_cases k5 : t'.kind = 5
        · rw [k5] at y0
          have HK0 := Lib.hid k5
          clear k0 k1 k2 k3 k4 k5
          have HA := Lib.hid ((HO2.out.alloc (.cells #[.int .i64 4, .int .i64 0, .int .i64 0, .int .i64 0, .string ⟨#[]⟩, .string ⟨#[]⟩, .slice none 0 0, .slice none 0 0, .slice none 0 0] 50)).alloc (.cells #[.int .i64 4, .int .i64 0, .int .i64 0, .int .i64 0, .string ⟨#[]⟩, .string ⟨#[]⟩, .slice none 0 0, .slice none 0 0, .slice none 0 0] 50))
          have HR := Lib.hid (blk_next (w := w3.alloc (.cells #[.int .i64 4, .int .i64 0, .int .i64 0, .int .i64 0, .string ⟨#[]⟩, .string ⟨#[]⟩, .slice none 0 0, .slice none 0 0, .slice none 0 0] 50)) (n := w3.heap.size + 1) (by simp) #[.int .i64 4, .int .i64 0, .int .i64 0, .int .i64 0, .string ⟨#[]⟩, .string ⟨#[]⟩, .slice none 0 0, .slice none 0 0, .slice none 0 0] 50).rd
          have HBS : Hid (base ≤ ((w3.alloc (.cells #[.int .i64 4, .int .i64 0, .int .i64 0, .int .i64 0, .string ⟨#[]⟩, .string ⟨#[]⟩, .slice none 0 0, .slice none 0 0, .slice none 0 0] 50)).alloc (.cells #[.int .i64 4, .int .i64 0, .int .i64 0, .int .i64 0, .string ⟨#[]⟩, .string ⟨#[]⟩, .slice none 0 0, .slice none 0 0, .slice none 0 0] 50)).heap.size) := Lib.hid (by simp; omega)
          go_wp2_with (at_builtin; refine wpList_app _ rfl _ _ _ rfl base 50 i0 _ 9 136 Tryz.underlying26 hi0 hz0 hz1 hz2 rfl (by omega) v2 o2.length (o2.flatMap In.cells) rfl HA.out (some ⟨w3.heap.size + 1, 0, none⟩) 1 1 [.int .i64 4, .int .i64 0, .int .i64 0, .int .i64 0, .string ⟨#[]⟩, .string ⟨#[]⟩, .slice none 0 0, .slice none 0 0, .slice none 0 0] rfl HR.out rfl (by simp [Value.oneCell']) (by omega) (by unfold maxLen; omega) HBS.out ?_; intro A5 c5 w5 hle5 hown5 hg5 hat5; have HE5 := Lib.hid (HC2.out.app ⟨4, 0, 0, ⟨#[]⟩⟩ HP2.out hown5 hg5 hat5); clear hown5 hg5 hat5 hle5)
          go_ret2
          have hins : insF ns rs t' = some ⟨4, 0, 0, ⟨#[]⟩⟩ := by unfold insF; rw [HK0.out]; rfl
          rw [HPS.out, hins]
          exact HE5.out.post (fun h => by cases h) rfl
        have HKS := Lib.hid (And.intro k0 (And.intro k1 (And.intro k2 (And.intro k3 (And.intro k4 k5)))))
        have e0 : (t'.kind == 0) = false := by simpa using k0
        have e1 : (t'.kind == 1) = false := by simpa using k1
        have e2 : (t'.kind == 2) = false := by simpa using k2
        have e3 : (t'.kind == 3) = false := by simpa using k3
        have e4 : (t'.kind == 4) = false := by simpa using k4
        have e5 : (t'.kind == 5) = false := by simpa using k5
        clear k0 k1 k2 k3 k4 k5
        have HA := Lib.hid ((HO2.out.alloc (.cells #[.int .i64 t'.kind, .int .i64 0, .int .i64 0, .int .i64 0, .string ⟨#[]⟩, .string ⟨#[]⟩, .slice none 0 0, .slice none 0 0, .slice none 0 0] 50)).alloc (.cells #[.int .i64 t'.kind, .int .i64 0, .int .i64 0, .int .i64 0, .string ⟨#[]⟩, .string ⟨#[]⟩, .slice none 0 0, .slice none 0 0, .slice none 0 0] 50))
        have HR := Lib.hid (blk_next (w := w3.alloc (.cells #[.int .i64 t'.kind, .int .i64 0, .int .i64 0, .int .i64 0, .string ⟨#[]⟩, .string ⟨#[]⟩, .slice none 0 0, .slice none 0 0, .slice none 0 0] 50)) (n := w3.heap.size + 1) (by simp) #[.int .i64 t'.kind, .int .i64 0, .int .i64 0, .int .i64 0, .string ⟨#[]⟩, .string ⟨#[]⟩, .slice none 0 0, .slice none 0 0, .slice none 0 0] 50).rd
        have HBS : Hid (base ≤ ((w3.alloc (.cells #[.int .i64 t'.kind, .int .i64 0, .int .i64 0, .int .i64 0, .string ⟨#[]⟩, .string ⟨#[]⟩, .slice none 0 0, .slice none 0 0, .slice none 0 0] 50)).alloc (.cells #[.int .i64 t'.kind, .int .i64 0, .int .i64 0, .int .i64 0, .string ⟨#[]⟩, .string ⟨#[]⟩, .slice none 0 0, .slice none 0 0, .slice none 0 0] 50)).heap.size) := Lib.hid (by simp; omega)
        go_wp2_with (at_builtin; refine wpList_app _ rfl _ _ _ rfl base 50 i0 _ 9 136 Tryz.underlying26 hi0 hz0 hz1 hz2 rfl (by omega) v2 o2.length (o2.flatMap In.cells) rfl HA.out (some ⟨w3.heap.size + 1, 0, none⟩) 1 1 [.int .i64 t'.kind, .int .i64 0, .int .i64 0, .int .i64 0, .string ⟨#[]⟩, .string ⟨#[]⟩, .slice none 0 0, .slice none 0 0, .slice none 0 0] rfl HR.out rfl (by simp [Value.oneCell']) (by omega) (by unfold maxLen; omega) HBS.out ?_; intro A5 c5 w5 hle5 hown5 hg5 hat5; have HE5 := Lib.hid (HC2.out.app ⟨t'.kind, 0, 0, ⟨#[]⟩⟩ HP2.out hown5 hg5 hat5); clear hown5 hg5 hat5 hle5)
        go_ret2
        have hins : insF ns rs t' = some ⟨t'.kind, 0, 0, ⟨#[]⟩⟩ := by obtain ⟨h0, h1, h2, h3, h4, h5⟩ := HKS.out; unfold insF; rw [if_neg h0, if_neg h1, if_neg h2, if_neg h3, if_neg h4, if_neg h5]
        rw [HPS.out, hins]
        exact HE5.out.post (fun h => by cases h) rfl
set_option maxRecDepth 100000 in
set_option maxHeartbeats 4000000 in
theorem pushes_no (l : List Tm) (A : Option Addr) (c : Nat) (root : Int) (ns : List ByteArray) (An : Option Addr) (cn : Nat) (rs : List Int) (Ar : Option Addr) (cr : Nat) (w : World) (ht : Tms w A l) (hl : l.length ≤ 1000000) (hb : tmF l root = false ∨ ns.length ≠ rs.length) :
    Calls Tryz.prog 6 #[.slice A l.length c, .int .i64 root, .slice An ns.length cn, .slice Ar rs.length cr] w (EmitPost none w) := by
  have CM := Lib.hid (tmay_any l A c root w ht hl)
  have HB := Lib.hid hb
  clear ht hb
  go_enter Tryz.func6, Tryz.ntmps6
  go_wp2_with fail
  refine CM.out.mono ?_
  rintro e w1 ⟨rfl, hb1⟩
  have B1 := Lib.hid hb1
  clear hb1
  rcases hq : tmF l root with _ | _
  · have HQ := Lib.hid hq
    clear hq
    go_wp2_with fail
    go_ret2
    exact emit_none B1.out rfl rfl
  · have hne : ns.length ≠ rs.length := by
      rcases HB.out with h | h
      · rw [hq] at h; cases h
      · exact h
    have e1 : ((ns.length : Int) != (rs.length : Int)) = true := by simp; omega
    have HQ := Lib.hid hq
    clear hq hne
    go_wp2_with fail
    go_ret2
    exact emit_none B1.out rfl rfl
set_option maxRecDepth 100000 in
set_option maxHeartbeats 4000000 in
theorem pushes_yes (l : List Tm) (A : Option Addr) (c : Nat) (root : Int) (ns : List ByteArray) (An : Option Addr) (cn : Nat) (rs : List Int) (Ar : Option Addr) (cr : Nat) (w : World) (ht : Tms w A l) (hns : Strs w An ns) (hrs : Ints w Ar rs) (hl : l.length ≤ 1000000) (hn : ns.length ≤ 1000000)
    (hb : tmF l root = true) (hnr : ns.length = rs.length) (x : Tr) (hx : Gr l root x) (hx0 : x ≠ .nil) (hxs : x.size ≤ 1000) :
    Calls Tryz.prog 6 #[.slice A l.length c, .int .i64 root, .slice An ns.length cn, .slice Ar rs.length cr] w (EmitPost (psF ns rs x []) w) := by
  have hl0 : l ≠ [] := by
    rintro rfl
    unfold tmF at hb
    simp at hb
    omega
  have hne : l.flatMap Tm.cells ≠ [] := by
    rcases l with _ | ⟨t, l⟩
    · exact absurd rfl hl0
    · simp [Tm.cells]
  have CM := Lib.hid (tmay_any l A c root w ht hl)
  have CP : Hid (∀ w1, Below w.heap.size w w1 → Calls Tryz.prog 14 #[.slice A l.length c, .int .i64 root, .slice An ns.length cn, .slice Ar rs.length cr, .slice none 0 0] w1 (PushPost (psF ns rs x []) w1.heap.size (.slice none 0 0) w1)) := Lib.hid fun w1 h1 =>
    push_any l A c ns An cn rs Ar cr w1.heap.size hnr hn x root [] (.slice none 0 0) w1 hx0 hx (by simpa using hxs) (Nat.le_refl _)
      ⟨Rd.below ht h1, Rd.below hns h1, Rd.below hrs h1, fun b o e => Nat.lt_of_lt_of_le (rd_lt ht hne b o e) h1.size, fun q b o e => Nat.lt_of_lt_of_le (rd_lt hns (by simpa using q) b o e) h1.size, fun q b o e => Nat.lt_of_lt_of_le (rd_lt hrs (by simpa using q) b o e) h1.size⟩
      (World.ownsRow_nil _ _ _ _)
  have e1 : ((ns.length : Int) != (rs.length : Int)) = false := by rw [hnr]; simp
  have HQ := Lib.hid hb
  clear ht hns hrs hnr hx hx0 hb hl0 hne
  go_enter Tryz.func6, Tryz.ntmps6
  go_wp2_with fail
  refine CM.out.mono ?_
  rintro e w1 ⟨rfl, hb1⟩
  rw [HQ.out]
  have B1 := Lib.hid hb1
  clear hb1
  go_wp2_with fail
  refine (CP.out w1 B1.out).mono ?_
  rintro e w2 ⟨v2, b2, rfl, hP, hv⟩
  have HB2 : Hid (Below w.heap.size w w2) := Lib.hid (B1.out.trans (hP.1.below (fun i q => by cases q) B1.out.size))
  rcases hp : psF ns rs x [] with _ | o'
  · obtain rfl := hv hp
    obtain rfl := hP.none_ hp
    have HPS := Lib.hid hp
    clear hP hv hp
    go_wp2_with fail
    go_ret2
    exact emit_none HB2.out HPS.out rfl
  · obtain ⟨rfl, ho, _⟩ := hP.some_ hp
    obtain ⟨A2, c2, rfl, _⟩ := own_shape ho
    have HR2 := Lib.hid (own_rd ho)
    have HPS := Lib.hid hp
    clear hP hv hp ho
    go_wp2_with fail
    go_ret2
    exact emit_some HB2.out HPS.out rfl HR2.out
end Go.Proofs.YtngfeflemblljaaGreatDoor
