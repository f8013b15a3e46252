/- Contract: packet.NoteMay at any note. Contract: packet.NoteMay where an agent begins, and at any note. -/
import Derived.Test.YtfaophiaiflecaaNtMay1
import Derived.Deep.DeepCutAuto
namespace Go.Proofs.Ytfaophiaiflecaa
open Go.RowKit

abbrev zVl : Vl := ⟨0, 0, ⟨#[]⟩, []⟩
abbrev eS : ByteArray := ⟨#[]⟩
/-- The note with just its kind's fields. -/
def onlyF (x : Nt) : Nt :=
  if x.kind = 1 then ⟨x.kind, x.agent, x.session, x.seat, x.peer, x.label, x.v, 0, []⟩
  else if x.kind = 2 then ⟨x.kind, x.agent, x.session, x.seat, x.peer, eS, zVl, 0, []⟩
  else if x.kind = 3 ∨ x.kind = 5 then ⟨x.kind, x.agent, eS, 0, eS, eS, zVl, 0, []⟩
  else if x.kind = 4 then ⟨x.kind, x.agent, eS, 0, eS, x.label, x.v, 0, []⟩
  else if x.kind = 6 ∨ x.kind = 7 then ⟨x.kind, eS, x.session, x.seat, eS, eS, zVl, 0, []⟩
  else ⟨x.kind, x.agent, eS, 0, eS, eS, zVl, x.proc, x.env⟩
def agB (x : Nt) (ok : Bool) : Bool := ok && !(x.agent.toList == [])
def seB (x : Nt) (ok : Bool) : Bool := ok && !(x.session.toList == []) && decide (0 ≤ x.seat) && decide (x.seat < 5)
def peB (x : Nt) (ok : Bool) : Bool := ok && nameF x.peer
def leB (x : Nt) (ok : Bool) : Bool := ok && nameF x.label && dataF x.v.kind x.v.n x.v.s x.v.l.length
def prB (x : Nt) (ok : Bool) : Bool := ok && decide (0 ≤ x.proc) && decide (x.proc < 24) && envF x.env
/-- Are its kind's fields as they may be? -/
def okF (x : Nt) : Bool :=
  if x.kind = 1 then leB x (peB x (seB x (agB x true)))
  else if x.kind = 2 then peB x (seB x (agB x true))
  else if x.kind = 3 ∨ x.kind = 5 then agB x true
  else if x.kind = 4 then leB x (agB x true)
  else if x.kind = 6 ∨ x.kind = 7 then seB x true
  else if x.kind = 8 then prB x (agB x true)
  else false
def mayF (x : Nt) : Bool := okF x && decide (x = onlyF x)
theorem NtAt.only {w : World} {x : Nt} {A E : Option Addr} (h : NtAt w x A E) : NtAt w ⟨x.kind, x.agent, x.session, x.seat, x.peer, x.label, x.v, 0, []⟩ A none := ⟨h.a, ⟨[], rfl, Rd.nil, by simp⟩, h.la, by simp, by simp⟩
theorem env_nil (w : World) (A : Option Addr) : Env w A [] := ⟨[], rfl, fun h => absurd rfl h, by simp⟩
set_option maxRecDepth 100000 in
set_option maxHeartbeats 8000000 in
theorem noteMay1_any (ag se : ByteArray) (st : Int) (pe la : ByteArray) (v : Vl) (pr : Int) (en : List Bd) (A E : Option Addr) (c d : Nat) (w : World) (hx : NtAt w ⟨1, ag, se, st, pe, la, v, pr, en⟩ A E) :
    Calls Try.prog 16 #[.agg (Nt.cells ⟨1, ag, se, st, pe, la, v, pr, en⟩ A c E d)] w fun e w' => e = .returned (.bool (mayF ⟨1, ag, se, st, pe, la, v, pr, en⟩)) ∧ Below w.heap.size w w' := by
  have hmf := mf Try.prog
  have HX := Lib.hid hx
  simp only [Nt.cells]
  have h1 := ((Blk.new w #[.int .i64 1, .string ag, .string se, .int .i64 st, .string pe, .string la, .int .i64 v.kind, .int .i64 v.n, .string v.s, .slice A v.l.length c, .int .i64 pr, .slice E en.length d] 41).alloc (.cells #[.int .i64 1, .string eS, .string eS, .int .i64 0, .string eS, .string eS, .int .i64 0, .int .i64 0, .string eS, .slice none 0 0, .int .i64 0, .slice none 0 0] 41)).alloc (.cells #[.bool true] 4)
  have h2 := (Blk.new (w.alloc (.cells #[.int .i64 1, .string ag, .string se, .int .i64 st, .string pe, .string la, .int .i64 v.kind, .int .i64 v.n, .string v.s, .slice A v.l.length c, .int .i64 pr, .slice E en.length d] 41)) #[.int .i64 1, .string eS, .string eS, .int .i64 0, .string eS, .string eS, .int .i64 0, .int .i64 0, .string eS, .slice none 0 0, .int .i64 0, .slice none 0 0] 41).alloc (.cells #[.bool true] 4)
  have h3 := Blk.new ((w.alloc (.cells #[.int .i64 1, .string ag, .string se, .int .i64 st, .string pe, .string la, .int .i64 v.kind, .int .i64 v.n, .string v.s, .slice A v.l.length c, .int .i64 pr, .slice E en.length d] 41)).alloc (.cells #[.int .i64 1, .string eS, .string eS, .int .i64 0, .string eS, .string eS, .int .i64 0, .int .i64 0, .string eS, .slice none 0 0, .int .i64 0, .slice none 0 0] 41)) #[.bool true] 4
  have hb := (below_allocS (below_allocS (below_allocS (Below.refl w.heap.size w) (.cells #[.int .i64 1, .string ag, .string se, .int .i64 st, .string pe, .string la, .int .i64 v.kind, .int .i64 v.n, .string v.s, .slice A v.l.length c, .int .i64 pr, .slice E en.length d] 41)) (.cells #[.int .i64 1, .string eS, .string eS, .int .i64 0, .string eS, .string eS, .int .i64 0, .int .i64 0, .string eS, .slice none 0 0, .int .i64 0, .slice none 0 0] 41)) (.cells #[.bool true] 4))
  rw [World.size_alloc] at h2
  rw [World.size_alloc, World.size_alloc] at h3
  have H1 := Lib.hid h1
  have H2 := Lib.hid h2
  have H3 := Lib.hid h3
  have HB := Lib.hid hb
  clear hx h1 h2 h3 hb
  go_enter Try.func16, Try.ntmps16
  go_wp2_with fail
  refine (may1c_any ag (true) w.heap.size w.heap.size (w.heap.size + 1) (w.heap.size + 1 + 1) _ _ _ 41 _ H1.out rfl H2.out rfl H3.out (by omega) (by omega) (by omega) (by omega) (by omega)).mono ?_
  rintro e w1 ⟨rfl, k1, k2, k3, kb⟩
  have H1 := Lib.hid k1
  have H2 := Lib.hid (show Blk w1 (w.heap.size + 1) #[.int .i64 1, .string ag, .string eS, .int .i64 0, .string eS, .string eS, .int .i64 0, .int .i64 0, .string eS, .slice none 0 0, .int .i64 0, .slice none 0 0] 41 from k2)
  have H3 := Lib.hid (show Blk w1 (w.heap.size + 1 + 1) #[.bool (agB (⟨1, ag, se, st, pe, la, v, pr, en⟩ : Nt) (true))] 4 from k3)
  have HB := Lib.hid (HB.out.trans kb)
  clear k1 k2 k3 kb
  go_wp2_with fail
  refine (may2c_any se st (agB (⟨1, ag, se, st, pe, la, v, pr, en⟩ : Nt) (true)) w.heap.size w.heap.size (w.heap.size + 1) (w.heap.size + 1 + 1) _ _ _ _ 41 _ H1.out rfl rfl H2.out rfl rfl H3.out (by omega) (by omega) (by omega) (by omega) (by omega)).mono ?_
  rintro e w2 ⟨rfl, k1, k2, k3, kb⟩
  have H1 := Lib.hid k1
  have H2 := Lib.hid (show Blk w2 (w.heap.size + 1) #[.int .i64 1, .string ag, .string se, .int .i64 st, .string eS, .string eS, .int .i64 0, .int .i64 0, .string eS, .slice none 0 0, .int .i64 0, .slice none 0 0] 41 from k2)
  have H3 := Lib.hid (show Blk w2 (w.heap.size + 1 + 1) #[.bool (seB (⟨1, ag, se, st, pe, la, v, pr, en⟩ : Nt) (agB (⟨1, ag, se, st, pe, la, v, pr, en⟩ : Nt) (true)))] 4 from k3)
  have HB := Lib.hid (HB.out.trans kb)
  clear k1 k2 k3 kb
  go_wp2_with fail
  refine (may3c_any pe (seB (⟨1, ag, se, st, pe, la, v, pr, en⟩ : Nt) (agB (⟨1, ag, se, st, pe, la, v, pr, en⟩ : Nt) (true))) w.heap.size w.heap.size (w.heap.size + 1) (w.heap.size + 1 + 1) _ _ _ 41 _ H1.out rfl H2.out rfl H3.out (by omega) (by omega) (by omega) (by omega) (by omega)).mono ?_
  rintro e w3 ⟨rfl, k1, k2, k3, kb⟩
  have H1 := Lib.hid k1
  have H2 := Lib.hid (show Blk w3 (w.heap.size + 1) #[.int .i64 1, .string ag, .string se, .int .i64 st, .string pe, .string eS, .int .i64 0, .int .i64 0, .string eS, .slice none 0 0, .int .i64 0, .slice none 0 0] 41 from k2)
  have H3 := Lib.hid (show Blk w3 (w.heap.size + 1 + 1) #[.bool (peB (⟨1, ag, se, st, pe, la, v, pr, en⟩ : Nt) (seB (⟨1, ag, se, st, pe, la, v, pr, en⟩ : Nt) (agB (⟨1, ag, se, st, pe, la, v, pr, en⟩ : Nt) (true))))] 4 from k3)
  have HB := Lib.hid (HB.out.trans kb)
  clear k1 k2 k3 kb
  go_wp2_with fail
  refine (may4c_any la v A c (peB (⟨1, ag, se, st, pe, la, v, pr, en⟩ : Nt) (seB (⟨1, ag, se, st, pe, la, v, pr, en⟩ : Nt) (agB (⟨1, ag, se, st, pe, la, v, pr, en⟩ : Nt) (true)))) w.heap.size w.heap.size (w.heap.size + 1) (w.heap.size + 1 + 1) _ _ _ _ _ _ _ 41 _ H1.out ⟨rfl, rfl, rfl, rfl, rfl⟩ H2.out ⟨rfl, rfl, rfl, rfl, rfl⟩ H3.out (by omega) (by omega) (by omega) (by omega) (by omega) (by have := HB.out.size; omega)).mono ?_
  rintro e w4 ⟨rfl, k1, k2, k3, kb⟩
  have H1 := Lib.hid k1
  have H2 := Lib.hid (show Blk w4 (w.heap.size + 1) #[.int .i64 1, .string ag, .string se, .int .i64 st, .string pe, .string la, .int .i64 v.kind, .int .i64 v.n, .string v.s, .slice A v.l.length c, .int .i64 0, .slice none 0 0] 41 from k2)
  have H3 := Lib.hid (show Blk w4 (w.heap.size + 1 + 1) #[.bool (leB (⟨1, ag, se, st, pe, la, v, pr, en⟩ : Nt) (peB (⟨1, ag, se, st, pe, la, v, pr, en⟩ : Nt) (seB (⟨1, ag, se, st, pe, la, v, pr, en⟩ : Nt) (agB (⟨1, ag, se, st, pe, la, v, pr, en⟩ : Nt) (true)))))] 4 from k3)
  have HB := Lib.hid (HB.out.trans kb)
  clear k1 k2 k3 kb
  have hok : okF (⟨1, ag, se, st, pe, la, v, pr, en⟩ : Nt) = leB (⟨1, ag, se, st, pe, la, v, pr, en⟩ : Nt) (peB (⟨1, ag, se, st, pe, la, v, pr, en⟩ : Nt) (seB (⟨1, ag, se, st, pe, la, v, pr, en⟩ : Nt) (agB (⟨1, ag, se, st, pe, la, v, pr, en⟩ : Nt) (true)))) := by simp [okF]
  have honly : onlyF (⟨1, ag, se, st, pe, la, v, pr, en⟩ : Nt) = ⟨1, ag, se, st, pe, la, v, 0, []⟩ := by simp [onlyF]
  have HMF := Lib.hid (show mayF (⟨1, ag, se, st, pe, la, v, pr, en⟩ : Nt) = (leB (⟨1, ag, se, st, pe, la, v, pr, en⟩ : Nt) (peB (⟨1, ag, se, st, pe, la, v, pr, en⟩ : Nt) (seB (⟨1, ag, se, st, pe, la, v, pr, en⟩ : Nt) (agB (⟨1, ag, se, st, pe, la, v, pr, en⟩ : Nt) (true)))) && decide ((⟨1, ag, se, st, pe, la, v, pr, en⟩ : Nt) = onlyF (⟨1, ag, se, st, pe, la, v, pr, en⟩ : Nt))) by unfold mayF; rw [hok])
  have CS := Lib.hid (psame_any (⟨1, ag, se, st, pe, la, v, pr, en⟩ : Nt) (onlyF (⟨1, ag, se, st, pe, la, v, pr, en⟩ : Nt)) A E A none c d c 0 w4 (HX.out.below HB.out) (by rw [honly]; exact ⟨Rd.below HX.out.a HB.out, env_nil _ _, HX.out.la, by simp, by simp⟩))
  rw [honly] at CS HMF
  simp only [Nt.cells] at CS
  have z0 := H3.out.cell 0
  have x0 : w4.cell? ⟨w.heap.size, 0, none⟩ = some (.int .i64 1) := H1.out.cell 0
  have y0 : w4.cell? ⟨w.heap.size + 1, 0, none⟩ = some (.int .i64 1) := H2.out.cell 0
  have x1 : w4.cell? ⟨w.heap.size, 1, none⟩ = some (.string ag) := H1.out.cell 1
  have y1 : w4.cell? ⟨w.heap.size + 1, 1, none⟩ = some (.string ag) := H2.out.cell 1
  have x2 : w4.cell? ⟨w.heap.size, 2, none⟩ = some (.string se) := H1.out.cell 2
  have y2 : w4.cell? ⟨w.heap.size + 1, 2, none⟩ = some (.string se) := H2.out.cell 2
  have x3 : w4.cell? ⟨w.heap.size, 3, none⟩ = some (.int .i64 st) := H1.out.cell 3
  have y3 : w4.cell? ⟨w.heap.size + 1, 3, none⟩ = some (.int .i64 st) := H2.out.cell 3
  have x4 : w4.cell? ⟨w.heap.size, 4, none⟩ = some (.string pe) := H1.out.cell 4
  have y4 : w4.cell? ⟨w.heap.size + 1, 4, none⟩ = some (.string pe) := H2.out.cell 4
  have x5 : w4.cell? ⟨w.heap.size, 5, none⟩ = some (.string la) := H1.out.cell 5
  have y5 : w4.cell? ⟨w.heap.size + 1, 5, none⟩ = some (.string la) := H2.out.cell 5
  have x6 : w4.cell? ⟨w.heap.size, 6, none⟩ = some (.int .i64 v.kind) := H1.out.cell 6
  have y6 : w4.cell? ⟨w.heap.size + 1, 6, none⟩ = some (.int .i64 v.kind) := H2.out.cell 6
  have x7 : w4.cell? ⟨w.heap.size, 7, none⟩ = some (.int .i64 v.n) := H1.out.cell 7
  have y7 : w4.cell? ⟨w.heap.size + 1, 7, none⟩ = some (.int .i64 v.n) := H2.out.cell 7
  have x8 : w4.cell? ⟨w.heap.size, 8, none⟩ = some (.string v.s) := H1.out.cell 8
  have y8 : w4.cell? ⟨w.heap.size + 1, 8, none⟩ = some (.string v.s) := H2.out.cell 8
  have x9 : w4.cell? ⟨w.heap.size, 9, none⟩ = some (.slice A v.l.length c) := H1.out.cell 9
  have y9 : w4.cell? ⟨w.heap.size + 1, 9, none⟩ = some (.slice A v.l.length c) := H2.out.cell 9
  have x10 : w4.cell? ⟨w.heap.size, 10, none⟩ = some (.int .i64 pr) := H1.out.cell 10
  have y10 : w4.cell? ⟨w.heap.size + 1, 10, none⟩ = some (.int .i64 0) := H2.out.cell 10
  have x11 : w4.cell? ⟨w.heap.size, 11, none⟩ = some (.slice E en.length d) := H1.out.cell 11
  have y11 : w4.cell? ⟨w.heap.size + 1, 11, none⟩ = some (.slice none 0 0) := H2.out.cell 11
  clear hok honly
  generalize leB (⟨1, ag, se, st, pe, la, v, pr, en⟩ : Nt) (peB (⟨1, ag, se, st, pe, la, v, pr, en⟩ : Nt) (seB (⟨1, ag, se, st, pe, la, v, pr, en⟩ : Nt) (agB (⟨1, ag, se, st, pe, la, v, pr, en⟩ : Nt) (true)))) = ok at *
  rcases ok with _ | _
  · have z : w4.cell? ⟨w.heap.size + 1 + 1, 0, none⟩ = some (.bool false) := z0
    go_wp2_with fail
    go_ret
    exact ⟨ret_bool (by rw [HMF.out]; rfl), HB.out⟩
  · have z : w4.cell? ⟨w.heap.size + 1 + 1, 0, none⟩ = some (.bool true) := z0
    go_wp2_with fail
    refine CS.out.mono ?_
    rintro e w9 ⟨rfl, hb9⟩
    have B9 := Lib.hid (below_next HB.out hb9)
    clear hb9 z z0 x0 y0 x1 y1 x2 y2 x3 y3 x4 y4 x5 y5 x6 y6 x7 y7 x8 y8 x9 y9 x10 y10 x11 y11
    go_wp2_with fail
    go_ret
    exact ⟨ret_bool (by rw [HMF.out]; first | rfl | simp), B9.out⟩
set_option maxRecDepth 100000 in
set_option maxHeartbeats 8000000 in
theorem noteMay2_any (ag se : ByteArray) (st : Int) (pe la : ByteArray) (v : Vl) (pr : Int) (en : List Bd) (A E : Option Addr) (c d : Nat) (w : World) (hx : NtAt w ⟨2, ag, se, st, pe, la, v, pr, en⟩ A E) :
    Calls Try.prog 16 #[.agg (Nt.cells ⟨2, ag, se, st, pe, la, v, pr, en⟩ A c E d)] w fun e w' => e = .returned (.bool (mayF ⟨2, ag, se, st, pe, la, v, pr, en⟩)) ∧ Below w.heap.size w w' := by
  have hmf := mf Try.prog
  have HX := Lib.hid hx
  simp only [Nt.cells]
  have h1 := ((Blk.new w #[.int .i64 2, .string ag, .string se, .int .i64 st, .string pe, .string la, .int .i64 v.kind, .int .i64 v.n, .string v.s, .slice A v.l.length c, .int .i64 pr, .slice E en.length d] 41).alloc (.cells #[.int .i64 2, .string eS, .string eS, .int .i64 0, .string eS, .string eS, .int .i64 0, .int .i64 0, .string eS, .slice none 0 0, .int .i64 0, .slice none 0 0] 41)).alloc (.cells #[.bool true] 4)
  have h2 := (Blk.new (w.alloc (.cells #[.int .i64 2, .string ag, .string se, .int .i64 st, .string pe, .string la, .int .i64 v.kind, .int .i64 v.n, .string v.s, .slice A v.l.length c, .int .i64 pr, .slice E en.length d] 41)) #[.int .i64 2, .string eS, .string eS, .int .i64 0, .string eS, .string eS, .int .i64 0, .int .i64 0, .string eS, .slice none 0 0, .int .i64 0, .slice none 0 0] 41).alloc (.cells #[.bool true] 4)
  have h3 := Blk.new ((w.alloc (.cells #[.int .i64 2, .string ag, .string se, .int .i64 st, .string pe, .string la, .int .i64 v.kind, .int .i64 v.n, .string v.s, .slice A v.l.length c, .int .i64 pr, .slice E en.length d] 41)).alloc (.cells #[.int .i64 2, .string eS, .string eS, .int .i64 0, .string eS, .string eS, .int .i64 0, .int .i64 0, .string eS, .slice none 0 0, .int .i64 0, .slice none 0 0] 41)) #[.bool true] 4
  have hb := (below_allocS (below_allocS (below_allocS (Below.refl w.heap.size w) (.cells #[.int .i64 2, .string ag, .string se, .int .i64 st, .string pe, .string la, .int .i64 v.kind, .int .i64 v.n, .string v.s, .slice A v.l.length c, .int .i64 pr, .slice E en.length d] 41)) (.cells #[.int .i64 2, .string eS, .string eS, .int .i64 0, .string eS, .string eS, .int .i64 0, .int .i64 0, .string eS, .slice none 0 0, .int .i64 0, .slice none 0 0] 41)) (.cells #[.bool true] 4))
  rw [World.size_alloc] at h2
  rw [World.size_alloc, World.size_alloc] at h3
  have H1 := Lib.hid h1
  have H2 := Lib.hid h2
  have H3 := Lib.hid h3
  have HB := Lib.hid hb
  clear hx h1 h2 h3 hb
  go_enter Try.func16, Try.ntmps16
  go_wp2_with fail
  refine (may1c_any ag (true) w.heap.size w.heap.size (w.heap.size + 1) (w.heap.size + 1 + 1) _ _ _ 41 _ H1.out rfl H2.out rfl H3.out (by omega) (by omega) (by omega) (by omega) (by omega)).mono ?_
  rintro e w1 ⟨rfl, k1, k2, k3, kb⟩
  have H1 := Lib.hid k1
  have H2 := Lib.hid (show Blk w1 (w.heap.size + 1) #[.int .i64 2, .string ag, .string eS, .int .i64 0, .string eS, .string eS, .int .i64 0, .int .i64 0, .string eS, .slice none 0 0, .int .i64 0, .slice none 0 0] 41 from k2)
  have H3 := Lib.hid (show Blk w1 (w.heap.size + 1 + 1) #[.bool (agB (⟨2, ag, se, st, pe, la, v, pr, en⟩ : Nt) (true))] 4 from k3)
  have HB := Lib.hid (HB.out.trans kb)
  clear k1 k2 k3 kb
  go_wp2_with fail
  refine (may2c_any se st (agB (⟨2, ag, se, st, pe, la, v, pr, en⟩ : Nt) (true)) w.heap.size w.heap.size (w.heap.size + 1) (w.heap.size + 1 + 1) _ _ _ _ 41 _ H1.out rfl rfl H2.out rfl rfl H3.out (by omega) (by omega) (by omega) (by omega) (by omega)).mono ?_
  rintro e w2 ⟨rfl, k1, k2, k3, kb⟩
  have H1 := Lib.hid k1
  have H2 := Lib.hid (show Blk w2 (w.heap.size + 1) #[.int .i64 2, .string ag, .string se, .int .i64 st, .string eS, .string eS, .int .i64 0, .int .i64 0, .string eS, .slice none 0 0, .int .i64 0, .slice none 0 0] 41 from k2)
  have H3 := Lib.hid (show Blk w2 (w.heap.size + 1 + 1) #[.bool (seB (⟨2, ag, se, st, pe, la, v, pr, en⟩ : Nt) (agB (⟨2, ag, se, st, pe, la, v, pr, en⟩ : Nt) (true)))] 4 from k3)
  have HB := Lib.hid (HB.out.trans kb)
  clear k1 k2 k3 kb
  go_wp2_with fail
  refine (may3c_any pe (seB (⟨2, ag, se, st, pe, la, v, pr, en⟩ : Nt) (agB (⟨2, ag, se, st, pe, la, v, pr, en⟩ : Nt) (true))) w.heap.size w.heap.size (w.heap.size + 1) (w.heap.size + 1 + 1) _ _ _ 41 _ H1.out rfl H2.out rfl H3.out (by omega) (by omega) (by omega) (by omega) (by omega)).mono ?_
  rintro e w3 ⟨rfl, k1, k2, k3, kb⟩
  have H1 := Lib.hid k1
  have H2 := Lib.hid (show Blk w3 (w.heap.size + 1) #[.int .i64 2, .string ag, .string se, .int .i64 st, .string pe, .string eS, .int .i64 0, .int .i64 0, .string eS, .slice none 0 0, .int .i64 0, .slice none 0 0] 41 from k2)
  have H3 := Lib.hid (show Blk w3 (w.heap.size + 1 + 1) #[.bool (peB (⟨2, ag, se, st, pe, la, v, pr, en⟩ : Nt) (seB (⟨2, ag, se, st, pe, la, v, pr, en⟩ : Nt) (agB (⟨2, ag, se, st, pe, la, v, pr, en⟩ : Nt) (true))))] 4 from k3)
  have HB := Lib.hid (HB.out.trans kb)
  clear k1 k2 k3 kb
  have hok : okF (⟨2, ag, se, st, pe, la, v, pr, en⟩ : Nt) = peB (⟨2, ag, se, st, pe, la, v, pr, en⟩ : Nt) (seB (⟨2, ag, se, st, pe, la, v, pr, en⟩ : Nt) (agB (⟨2, ag, se, st, pe, la, v, pr, en⟩ : Nt) (true))) := by simp [okF]
  have honly : onlyF (⟨2, ag, se, st, pe, la, v, pr, en⟩ : Nt) = ⟨2, ag, se, st, pe, eS, zVl, 0, []⟩ := by simp [onlyF]
  have HMF := Lib.hid (show mayF (⟨2, ag, se, st, pe, la, v, pr, en⟩ : Nt) = (peB (⟨2, ag, se, st, pe, la, v, pr, en⟩ : Nt) (seB (⟨2, ag, se, st, pe, la, v, pr, en⟩ : Nt) (agB (⟨2, ag, se, st, pe, la, v, pr, en⟩ : Nt) (true))) && decide ((⟨2, ag, se, st, pe, la, v, pr, en⟩ : Nt) = onlyF (⟨2, ag, se, st, pe, la, v, pr, en⟩ : Nt))) by unfold mayF; rw [hok])
  have CS := Lib.hid (psame_any (⟨2, ag, se, st, pe, la, v, pr, en⟩ : Nt) (onlyF (⟨2, ag, se, st, pe, la, v, pr, en⟩ : Nt)) A E none none c d 0 0 w3 (HX.out.below HB.out) (by rw [honly]; exact ⟨Rd.nil, env_nil _ _, by simp, by simp, by simp⟩))
  rw [honly] at CS HMF
  simp only [Nt.cells] at CS
  have z0 := H3.out.cell 0
  have x0 : w3.cell? ⟨w.heap.size, 0, none⟩ = some (.int .i64 2) := H1.out.cell 0
  have y0 : w3.cell? ⟨w.heap.size + 1, 0, none⟩ = some (.int .i64 2) := H2.out.cell 0
  have x1 : w3.cell? ⟨w.heap.size, 1, none⟩ = some (.string ag) := H1.out.cell 1
  have y1 : w3.cell? ⟨w.heap.size + 1, 1, none⟩ = some (.string ag) := H2.out.cell 1
  have x2 : w3.cell? ⟨w.heap.size, 2, none⟩ = some (.string se) := H1.out.cell 2
  have y2 : w3.cell? ⟨w.heap.size + 1, 2, none⟩ = some (.string se) := H2.out.cell 2
  have x3 : w3.cell? ⟨w.heap.size, 3, none⟩ = some (.int .i64 st) := H1.out.cell 3
  have y3 : w3.cell? ⟨w.heap.size + 1, 3, none⟩ = some (.int .i64 st) := H2.out.cell 3
  have x4 : w3.cell? ⟨w.heap.size, 4, none⟩ = some (.string pe) := H1.out.cell 4
  have y4 : w3.cell? ⟨w.heap.size + 1, 4, none⟩ = some (.string pe) := H2.out.cell 4
  have x5 : w3.cell? ⟨w.heap.size, 5, none⟩ = some (.string la) := H1.out.cell 5
  have y5 : w3.cell? ⟨w.heap.size + 1, 5, none⟩ = some (.string eS) := H2.out.cell 5
  have x6 : w3.cell? ⟨w.heap.size, 6, none⟩ = some (.int .i64 v.kind) := H1.out.cell 6
  have y6 : w3.cell? ⟨w.heap.size + 1, 6, none⟩ = some (.int .i64 0) := H2.out.cell 6
  have x7 : w3.cell? ⟨w.heap.size, 7, none⟩ = some (.int .i64 v.n) := H1.out.cell 7
  have y7 : w3.cell? ⟨w.heap.size + 1, 7, none⟩ = some (.int .i64 0) := H2.out.cell 7
  have x8 : w3.cell? ⟨w.heap.size, 8, none⟩ = some (.string v.s) := H1.out.cell 8
  have y8 : w3.cell? ⟨w.heap.size + 1, 8, none⟩ = some (.string eS) := H2.out.cell 8
  have x9 : w3.cell? ⟨w.heap.size, 9, none⟩ = some (.slice A v.l.length c) := H1.out.cell 9
  have y9 : w3.cell? ⟨w.heap.size + 1, 9, none⟩ = some (.slice none 0 0) := H2.out.cell 9
  have x10 : w3.cell? ⟨w.heap.size, 10, none⟩ = some (.int .i64 pr) := H1.out.cell 10
  have y10 : w3.cell? ⟨w.heap.size + 1, 10, none⟩ = some (.int .i64 0) := H2.out.cell 10
  have x11 : w3.cell? ⟨w.heap.size, 11, none⟩ = some (.slice E en.length d) := H1.out.cell 11
  have y11 : w3.cell? ⟨w.heap.size + 1, 11, none⟩ = some (.slice none 0 0) := H2.out.cell 11
  clear hok honly
  generalize peB (⟨2, ag, se, st, pe, la, v, pr, en⟩ : Nt) (seB (⟨2, ag, se, st, pe, la, v, pr, en⟩ : Nt) (agB (⟨2, ag, se, st, pe, la, v, pr, en⟩ : Nt) (true))) = ok at *
  rcases ok with _ | _
  · have z : w3.cell? ⟨w.heap.size + 1 + 1, 0, none⟩ = some (.bool false) := z0
    go_wp2_with fail
    go_ret
    exact ⟨ret_bool (by rw [HMF.out]; rfl), HB.out⟩
  · have z : w3.cell? ⟨w.heap.size + 1 + 1, 0, none⟩ = some (.bool true) := z0
    go_wp2_with fail
    refine CS.out.mono ?_
    rintro e w9 ⟨rfl, hb9⟩
    have B9 := Lib.hid (below_next HB.out hb9)
    clear hb9 z z0 x0 y0 x1 y1 x2 y2 x3 y3 x4 y4 x5 y5 x6 y6 x7 y7 x8 y8 x9 y9 x10 y10 x11 y11
    go_wp2_with fail
    go_ret
    exact ⟨ret_bool (by rw [HMF.out]; first | rfl | simp), B9.out⟩
set_option maxRecDepth 100000 in
set_option maxHeartbeats 8000000 in
theorem noteMay3_any (ag se : ByteArray) (st : Int) (pe la : ByteArray) (v : Vl) (pr : Int) (en : List Bd) (A E : Option Addr) (c d : Nat) (w : World) (hx : NtAt w ⟨3, ag, se, st, pe, la, v, pr, en⟩ A E) :
    Calls Try.prog 16 #[.agg (Nt.cells ⟨3, ag, se, st, pe, la, v, pr, en⟩ A c E d)] w fun e w' => e = .returned (.bool (mayF ⟨3, ag, se, st, pe, la, v, pr, en⟩)) ∧ Below w.heap.size w w' := by
  have hmf := mf Try.prog
  have HX := Lib.hid hx
  simp only [Nt.cells]
  have h1 := ((Blk.new w #[.int .i64 3, .string ag, .string se, .int .i64 st, .string pe, .string la, .int .i64 v.kind, .int .i64 v.n, .string v.s, .slice A v.l.length c, .int .i64 pr, .slice E en.length d] 41).alloc (.cells #[.int .i64 3, .string eS, .string eS, .int .i64 0, .string eS, .string eS, .int .i64 0, .int .i64 0, .string eS, .slice none 0 0, .int .i64 0, .slice none 0 0] 41)).alloc (.cells #[.bool true] 4)
  have h2 := (Blk.new (w.alloc (.cells #[.int .i64 3, .string ag, .string se, .int .i64 st, .string pe, .string la, .int .i64 v.kind, .int .i64 v.n, .string v.s, .slice A v.l.length c, .int .i64 pr, .slice E en.length d] 41)) #[.int .i64 3, .string eS, .string eS, .int .i64 0, .string eS, .string eS, .int .i64 0, .int .i64 0, .string eS, .slice none 0 0, .int .i64 0, .slice none 0 0] 41).alloc (.cells #[.bool true] 4)
  have h3 := Blk.new ((w.alloc (.cells #[.int .i64 3, .string ag, .string se, .int .i64 st, .string pe, .string la, .int .i64 v.kind, .int .i64 v.n, .string v.s, .slice A v.l.length c, .int .i64 pr, .slice E en.length d] 41)).alloc (.cells #[.int .i64 3, .string eS, .string eS, .int .i64 0, .string eS, .string eS, .int .i64 0, .int .i64 0, .string eS, .slice none 0 0, .int .i64 0, .slice none 0 0] 41)) #[.bool true] 4
  have hb := (below_allocS (below_allocS (below_allocS (Below.refl w.heap.size w) (.cells #[.int .i64 3, .string ag, .string se, .int .i64 st, .string pe, .string la, .int .i64 v.kind, .int .i64 v.n, .string v.s, .slice A v.l.length c, .int .i64 pr, .slice E en.length d] 41)) (.cells #[.int .i64 3, .string eS, .string eS, .int .i64 0, .string eS, .string eS, .int .i64 0, .int .i64 0, .string eS, .slice none 0 0, .int .i64 0, .slice none 0 0] 41)) (.cells #[.bool true] 4))
  rw [World.size_alloc] at h2
  rw [World.size_alloc, World.size_alloc] at h3
  have H1 := Lib.hid h1
  have H2 := Lib.hid h2
  have H3 := Lib.hid h3
  have HB := Lib.hid hb
  clear hx h1 h2 h3 hb
  go_enter Try.func16, Try.ntmps16
  go_wp2_with fail
  refine (may1c_any ag (true) w.heap.size w.heap.size (w.heap.size + 1) (w.heap.size + 1 + 1) _ _ _ 41 _ H1.out rfl H2.out rfl H3.out (by omega) (by omega) (by omega) (by omega) (by omega)).mono ?_
  rintro e w1 ⟨rfl, k1, k2, k3, kb⟩
  have H1 := Lib.hid k1
  have H2 := Lib.hid (show Blk w1 (w.heap.size + 1) #[.int .i64 3, .string ag, .string eS, .int .i64 0, .string eS, .string eS, .int .i64 0, .int .i64 0, .string eS, .slice none 0 0, .int .i64 0, .slice none 0 0] 41 from k2)
  have H3 := Lib.hid (show Blk w1 (w.heap.size + 1 + 1) #[.bool (agB (⟨3, ag, se, st, pe, la, v, pr, en⟩ : Nt) (true))] 4 from k3)
  have HB := Lib.hid (HB.out.trans kb)
  clear k1 k2 k3 kb
  have hok : okF (⟨3, ag, se, st, pe, la, v, pr, en⟩ : Nt) = agB (⟨3, ag, se, st, pe, la, v, pr, en⟩ : Nt) (true) := by simp [okF]
  have honly : onlyF (⟨3, ag, se, st, pe, la, v, pr, en⟩ : Nt) = ⟨3, ag, eS, 0, eS, eS, zVl, 0, []⟩ := by simp [onlyF]
  have HMF := Lib.hid (show mayF (⟨3, ag, se, st, pe, la, v, pr, en⟩ : Nt) = (agB (⟨3, ag, se, st, pe, la, v, pr, en⟩ : Nt) (true) && decide ((⟨3, ag, se, st, pe, la, v, pr, en⟩ : Nt) = onlyF (⟨3, ag, se, st, pe, la, v, pr, en⟩ : Nt))) by unfold mayF; rw [hok])
  have CS := Lib.hid (psame_any (⟨3, ag, se, st, pe, la, v, pr, en⟩ : Nt) (onlyF (⟨3, ag, se, st, pe, la, v, pr, en⟩ : Nt)) A E none none c d 0 0 w1 (HX.out.below HB.out) (by rw [honly]; exact ⟨Rd.nil, env_nil _ _, by simp, by simp, by simp⟩))
  rw [honly] at CS HMF
  simp only [Nt.cells] at CS
  have z0 := H3.out.cell 0
  have x0 : w1.cell? ⟨w.heap.size, 0, none⟩ = some (.int .i64 3) := H1.out.cell 0
  have y0 : w1.cell? ⟨w.heap.size + 1, 0, none⟩ = some (.int .i64 3) := H2.out.cell 0
  have x1 : w1.cell? ⟨w.heap.size, 1, none⟩ = some (.string ag) := H1.out.cell 1
  have y1 : w1.cell? ⟨w.heap.size + 1, 1, none⟩ = some (.string ag) := H2.out.cell 1
  have x2 : w1.cell? ⟨w.heap.size, 2, none⟩ = some (.string se) := H1.out.cell 2
  have y2 : w1.cell? ⟨w.heap.size + 1, 2, none⟩ = some (.string eS) := H2.out.cell 2
  have x3 : w1.cell? ⟨w.heap.size, 3, none⟩ = some (.int .i64 st) := H1.out.cell 3
  have y3 : w1.cell? ⟨w.heap.size + 1, 3, none⟩ = some (.int .i64 0) := H2.out.cell 3
  have x4 : w1.cell? ⟨w.heap.size, 4, none⟩ = some (.string pe) := H1.out.cell 4
  have y4 : w1.cell? ⟨w.heap.size + 1, 4, none⟩ = some (.string eS) := H2.out.cell 4
  have x5 : w1.cell? ⟨w.heap.size, 5, none⟩ = some (.string la) := H1.out.cell 5
  have y5 : w1.cell? ⟨w.heap.size + 1, 5, none⟩ = some (.string eS) := H2.out.cell 5
  have x6 : w1.cell? ⟨w.heap.size, 6, none⟩ = some (.int .i64 v.kind) := H1.out.cell 6
  have y6 : w1.cell? ⟨w.heap.size + 1, 6, none⟩ = some (.int .i64 0) := H2.out.cell 6
  have x7 : w1.cell? ⟨w.heap.size, 7, none⟩ = some (.int .i64 v.n) := H1.out.cell 7
  have y7 : w1.cell? ⟨w.heap.size + 1, 7, none⟩ = some (.int .i64 0) := H2.out.cell 7
  have x8 : w1.cell? ⟨w.heap.size, 8, none⟩ = some (.string v.s) := H1.out.cell 8
  have y8 : w1.cell? ⟨w.heap.size + 1, 8, none⟩ = some (.string eS) := H2.out.cell 8
  have x9 : w1.cell? ⟨w.heap.size, 9, none⟩ = some (.slice A v.l.length c) := H1.out.cell 9
  have y9 : w1.cell? ⟨w.heap.size + 1, 9, none⟩ = some (.slice none 0 0) := H2.out.cell 9
  have x10 : w1.cell? ⟨w.heap.size, 10, none⟩ = some (.int .i64 pr) := H1.out.cell 10
  have y10 : w1.cell? ⟨w.heap.size + 1, 10, none⟩ = some (.int .i64 0) := H2.out.cell 10
  have x11 : w1.cell? ⟨w.heap.size, 11, none⟩ = some (.slice E en.length d) := H1.out.cell 11
  have y11 : w1.cell? ⟨w.heap.size + 1, 11, none⟩ = some (.slice none 0 0) := H2.out.cell 11
  clear hok honly
  generalize agB (⟨3, ag, se, st, pe, la, v, pr, en⟩ : Nt) (true) = ok at *
  rcases ok with _ | _
  · have z : w1.cell? ⟨w.heap.size + 1 + 1, 0, none⟩ = some (.bool false) := z0
    go_wp2_with fail
    go_ret
    exact ⟨ret_bool (by rw [HMF.out]; rfl), HB.out⟩
  · have z : w1.cell? ⟨w.heap.size + 1 + 1, 0, none⟩ = some (.bool true) := z0
    go_wp2_with fail
    refine CS.out.mono ?_
    rintro e w9 ⟨rfl, hb9⟩
    have B9 := Lib.hid (below_next HB.out hb9)
    clear hb9 z z0 x0 y0 x1 y1 x2 y2 x3 y3 x4 y4 x5 y5 x6 y6 x7 y7 x8 y8 x9 y9 x10 y10 x11 y11
    go_wp2_with fail
    go_ret
    exact ⟨ret_bool (by rw [HMF.out]; first | rfl | simp), B9.out⟩
set_option maxRecDepth 100000 in
set_option maxHeartbeats 8000000 in
theorem noteMay5_any (ag se : ByteArray) (st : Int) (pe la : ByteArray) (v : Vl) (pr : Int) (en : List Bd) (A E : Option Addr) (c d : Nat) (w : World) (hx : NtAt w ⟨5, ag, se, st, pe, la, v, pr, en⟩ A E) :
    Calls Try.prog 16 #[.agg (Nt.cells ⟨5, ag, se, st, pe, la, v, pr, en⟩ A c E d)] w fun e w' => e = .returned (.bool (mayF ⟨5, ag, se, st, pe, la, v, pr, en⟩)) ∧ Below w.heap.size w w' := by
  have hmf := mf Try.prog
  have HX := Lib.hid hx
  simp only [Nt.cells]
  have h1 := ((Blk.new w #[.int .i64 5, .string ag, .string se, .int .i64 st, .string pe, .string la, .int .i64 v.kind, .int .i64 v.n, .string v.s, .slice A v.l.length c, .int .i64 pr, .slice E en.length d] 41).alloc (.cells #[.int .i64 5, .string eS, .string eS, .int .i64 0, .string eS, .string eS, .int .i64 0, .int .i64 0, .string eS, .slice none 0 0, .int .i64 0, .slice none 0 0] 41)).alloc (.cells #[.bool true] 4)
  have h2 := (Blk.new (w.alloc (.cells #[.int .i64 5, .string ag, .string se, .int .i64 st, .string pe, .string la, .int .i64 v.kind, .int .i64 v.n, .string v.s, .slice A v.l.length c, .int .i64 pr, .slice E en.length d] 41)) #[.int .i64 5, .string eS, .string eS, .int .i64 0, .string eS, .string eS, .int .i64 0, .int .i64 0, .string eS, .slice none 0 0, .int .i64 0, .slice none 0 0] 41).alloc (.cells #[.bool true] 4)
  have h3 := Blk.new ((w.alloc (.cells #[.int .i64 5, .string ag, .string se, .int .i64 st, .string pe, .string la, .int .i64 v.kind, .int .i64 v.n, .string v.s, .slice A v.l.length c, .int .i64 pr, .slice E en.length d] 41)).alloc (.cells #[.int .i64 5, .string eS, .string eS, .int .i64 0, .string eS, .string eS, .int .i64 0, .int .i64 0, .string eS, .slice none 0 0, .int .i64 0, .slice none 0 0] 41)) #[.bool true] 4
  have hb := (below_allocS (below_allocS (below_allocS (Below.refl w.heap.size w) (.cells #[.int .i64 5, .string ag, .string se, .int .i64 st, .string pe, .string la, .int .i64 v.kind, .int .i64 v.n, .string v.s, .slice A v.l.length c, .int .i64 pr, .slice E en.length d] 41)) (.cells #[.int .i64 5, .string eS, .string eS, .int .i64 0, .string eS, .string eS, .int .i64 0, .int .i64 0, .string eS, .slice none 0 0, .int .i64 0, .slice none 0 0] 41)) (.cells #[.bool true] 4))
  rw [World.size_alloc] at h2
  rw [World.size_alloc, World.size_alloc] at h3
  have H1 := Lib.hid h1
  have H2 := Lib.hid h2
  have H3 := Lib.hid h3
  have HB := Lib.hid hb
  clear hx h1 h2 h3 hb
  go_enter Try.func16, Try.ntmps16
  go_wp2_with fail
  refine (may1c_any ag (true) w.heap.size w.heap.size (w.heap.size + 1) (w.heap.size + 1 + 1) _ _ _ 41 _ H1.out rfl H2.out rfl H3.out (by omega) (by omega) (by omega) (by omega) (by omega)).mono ?_
  rintro e w1 ⟨rfl, k1, k2, k3, kb⟩
  have H1 := Lib.hid k1
  have H2 := Lib.hid (show Blk w1 (w.heap.size + 1) #[.int .i64 5, .string ag, .string eS, .int .i64 0, .string eS, .string eS, .int .i64 0, .int .i64 0, .string eS, .slice none 0 0, .int .i64 0, .slice none 0 0] 41 from k2)
  have H3 := Lib.hid (show Blk w1 (w.heap.size + 1 + 1) #[.bool (agB (⟨5, ag, se, st, pe, la, v, pr, en⟩ : Nt) (true))] 4 from k3)
  have HB := Lib.hid (HB.out.trans kb)
  clear k1 k2 k3 kb
  have hok : okF (⟨5, ag, se, st, pe, la, v, pr, en⟩ : Nt) = agB (⟨5, ag, se, st, pe, la, v, pr, en⟩ : Nt) (true) := by simp [okF]
  have honly : onlyF (⟨5, ag, se, st, pe, la, v, pr, en⟩ : Nt) = ⟨5, ag, eS, 0, eS, eS, zVl, 0, []⟩ := by simp [onlyF]
  have HMF := Lib.hid (show mayF (⟨5, ag, se, st, pe, la, v, pr, en⟩ : Nt) = (agB (⟨5, ag, se, st, pe, la, v, pr, en⟩ : Nt) (true) && decide ((⟨5, ag, se, st, pe, la, v, pr, en⟩ : Nt) = onlyF (⟨5, ag, se, st, pe, la, v, pr, en⟩ : Nt))) by unfold mayF; rw [hok])
  have CS := Lib.hid (psame_any (⟨5, ag, se, st, pe, la, v, pr, en⟩ : Nt) (onlyF (⟨5, ag, se, st, pe, la, v, pr, en⟩ : Nt)) A E none none c d 0 0 w1 (HX.out.below HB.out) (by rw [honly]; exact ⟨Rd.nil, env_nil _ _, by simp, by simp, by simp⟩))
  rw [honly] at CS HMF
  simp only [Nt.cells] at CS
  have z0 := H3.out.cell 0
  have x0 : w1.cell? ⟨w.heap.size, 0, none⟩ = some (.int .i64 5) := H1.out.cell 0
  have y0 : w1.cell? ⟨w.heap.size + 1, 0, none⟩ = some (.int .i64 5) := H2.out.cell 0
  have x1 : w1.cell? ⟨w.heap.size, 1, none⟩ = some (.string ag) := H1.out.cell 1
  have y1 : w1.cell? ⟨w.heap.size + 1, 1, none⟩ = some (.string ag) := H2.out.cell 1
  have x2 : w1.cell? ⟨w.heap.size, 2, none⟩ = some (.string se) := H1.out.cell 2
  have y2 : w1.cell? ⟨w.heap.size + 1, 2, none⟩ = some (.string eS) := H2.out.cell 2
  have x3 : w1.cell? ⟨w.heap.size, 3, none⟩ = some (.int .i64 st) := H1.out.cell 3
  have y3 : w1.cell? ⟨w.heap.size + 1, 3, none⟩ = some (.int .i64 0) := H2.out.cell 3
  have x4 : w1.cell? ⟨w.heap.size, 4, none⟩ = some (.string pe) := H1.out.cell 4
  have y4 : w1.cell? ⟨w.heap.size + 1, 4, none⟩ = some (.string eS) := H2.out.cell 4
  have x5 : w1.cell? ⟨w.heap.size, 5, none⟩ = some (.string la) := H1.out.cell 5
  have y5 : w1.cell? ⟨w.heap.size + 1, 5, none⟩ = some (.string eS) := H2.out.cell 5
  have x6 : w1.cell? ⟨w.heap.size, 6, none⟩ = some (.int .i64 v.kind) := H1.out.cell 6
  have y6 : w1.cell? ⟨w.heap.size + 1, 6, none⟩ = some (.int .i64 0) := H2.out.cell 6
  have x7 : w1.cell? ⟨w.heap.size, 7, none⟩ = some (.int .i64 v.n) := H1.out.cell 7
  have y7 : w1.cell? ⟨w.heap.size + 1, 7, none⟩ = some (.int .i64 0) := H2.out.cell 7
  have x8 : w1.cell? ⟨w.heap.size, 8, none⟩ = some (.string v.s) := H1.out.cell 8
  have y8 : w1.cell? ⟨w.heap.size + 1, 8, none⟩ = some (.string eS) := H2.out.cell 8
  have x9 : w1.cell? ⟨w.heap.size, 9, none⟩ = some (.slice A v.l.length c) := H1.out.cell 9
  have y9 : w1.cell? ⟨w.heap.size + 1, 9, none⟩ = some (.slice none 0 0) := H2.out.cell 9
  have x10 : w1.cell? ⟨w.heap.size, 10, none⟩ = some (.int .i64 pr) := H1.out.cell 10
  have y10 : w1.cell? ⟨w.heap.size + 1, 10, none⟩ = some (.int .i64 0) := H2.out.cell 10
  have x11 : w1.cell? ⟨w.heap.size, 11, none⟩ = some (.slice E en.length d) := H1.out.cell 11
  have y11 : w1.cell? ⟨w.heap.size + 1, 11, none⟩ = some (.slice none 0 0) := H2.out.cell 11
  clear hok honly
  generalize agB (⟨5, ag, se, st, pe, la, v, pr, en⟩ : Nt) (true) = ok at *
  rcases ok with _ | _
  · have z : w1.cell? ⟨w.heap.size + 1 + 1, 0, none⟩ = some (.bool false) := z0
    go_wp2_with fail
    go_ret
    exact ⟨ret_bool (by rw [HMF.out]; rfl), HB.out⟩
  · have z : w1.cell? ⟨w.heap.size + 1 + 1, 0, none⟩ = some (.bool true) := z0
    go_wp2_with fail
    refine CS.out.mono ?_
    rintro e w9 ⟨rfl, hb9⟩
    have B9 := Lib.hid (below_next HB.out hb9)
    clear hb9 z z0 x0 y0 x1 y1 x2 y2 x3 y3 x4 y4 x5 y5 x6 y6 x7 y7 x8 y8 x9 y9 x10 y10 x11 y11
    go_wp2_with fail
    go_ret
    exact ⟨ret_bool (by rw [HMF.out]; first | rfl | simp), B9.out⟩
set_option maxRecDepth 100000 in
set_option maxHeartbeats 8000000 in
theorem noteMay4_any (ag se : ByteArray) (st : Int) (pe la : ByteArray) (v : Vl) (pr : Int) (en : List Bd) (A E : Option Addr) (c d : Nat) (w : World) (hx : NtAt w ⟨4, ag, se, st, pe, la, v, pr, en⟩ A E) :
    Calls Try.prog 16 #[.agg (Nt.cells ⟨4, ag, se, st, pe, la, v, pr, en⟩ A c E d)] w fun e w' => e = .returned (.bool (mayF ⟨4, ag, se, st, pe, la, v, pr, en⟩)) ∧ Below w.heap.size w w' := by
  have hmf := mf Try.prog
  have HX := Lib.hid hx
  simp only [Nt.cells]
  have h1 := ((Blk.new w #[.int .i64 4, .string ag, .string se, .int .i64 st, .string pe, .string la, .int .i64 v.kind, .int .i64 v.n, .string v.s, .slice A v.l.length c, .int .i64 pr, .slice E en.length d] 41).alloc (.cells #[.int .i64 4, .string eS, .string eS, .int .i64 0, .string eS, .string eS, .int .i64 0, .int .i64 0, .string eS, .slice none 0 0, .int .i64 0, .slice none 0 0] 41)).alloc (.cells #[.bool true] 4)
  have h2 := (Blk.new (w.alloc (.cells #[.int .i64 4, .string ag, .string se, .int .i64 st, .string pe, .string la, .int .i64 v.kind, .int .i64 v.n, .string v.s, .slice A v.l.length c, .int .i64 pr, .slice E en.length d] 41)) #[.int .i64 4, .string eS, .string eS, .int .i64 0, .string eS, .string eS, .int .i64 0, .int .i64 0, .string eS, .slice none 0 0, .int .i64 0, .slice none 0 0] 41).alloc (.cells #[.bool true] 4)
  have h3 := Blk.new ((w.alloc (.cells #[.int .i64 4, .string ag, .string se, .int .i64 st, .string pe, .string la, .int .i64 v.kind, .int .i64 v.n, .string v.s, .slice A v.l.length c, .int .i64 pr, .slice E en.length d] 41)).alloc (.cells #[.int .i64 4, .string eS, .string eS, .int .i64 0, .string eS, .string eS, .int .i64 0, .int .i64 0, .string eS, .slice none 0 0, .int .i64 0, .slice none 0 0] 41)) #[.bool true] 4
  have hb := (below_allocS (below_allocS (below_allocS (Below.refl w.heap.size w) (.cells #[.int .i64 4, .string ag, .string se, .int .i64 st, .string pe, .string la, .int .i64 v.kind, .int .i64 v.n, .string v.s, .slice A v.l.length c, .int .i64 pr, .slice E en.length d] 41)) (.cells #[.int .i64 4, .string eS, .string eS, .int .i64 0, .string eS, .string eS, .int .i64 0, .int .i64 0, .string eS, .slice none 0 0, .int .i64 0, .slice none 0 0] 41)) (.cells #[.bool true] 4))
  rw [World.size_alloc] at h2
  rw [World.size_alloc, World.size_alloc] at h3
  have H1 := Lib.hid h1
  have H2 := Lib.hid h2
  have H3 := Lib.hid h3
  have HB := Lib.hid hb
  clear hx h1 h2 h3 hb
  go_enter Try.func16, Try.ntmps16
  go_wp2_with fail
  refine (may1c_any ag (true) w.heap.size w.heap.size (w.heap.size + 1) (w.heap.size + 1 + 1) _ _ _ 41 _ H1.out rfl H2.out rfl H3.out (by omega) (by omega) (by omega) (by omega) (by omega)).mono ?_
  rintro e w1 ⟨rfl, k1, k2, k3, kb⟩
  have H1 := Lib.hid k1
  have H2 := Lib.hid (show Blk w1 (w.heap.size + 1) #[.int .i64 4, .string ag, .string eS, .int .i64 0, .string eS, .string eS, .int .i64 0, .int .i64 0, .string eS, .slice none 0 0, .int .i64 0, .slice none 0 0] 41 from k2)
  have H3 := Lib.hid (show Blk w1 (w.heap.size + 1 + 1) #[.bool (agB (⟨4, ag, se, st, pe, la, v, pr, en⟩ : Nt) (true))] 4 from k3)
  have HB := Lib.hid (HB.out.trans kb)
  clear k1 k2 k3 kb
  go_wp2_with fail
  refine (may4c_any la v A c (agB (⟨4, ag, se, st, pe, la, v, pr, en⟩ : Nt) (true)) w.heap.size w.heap.size (w.heap.size + 1) (w.heap.size + 1 + 1) _ _ _ _ _ _ _ 41 _ H1.out ⟨rfl, rfl, rfl, rfl, rfl⟩ H2.out ⟨rfl, rfl, rfl, rfl, rfl⟩ H3.out (by omega) (by omega) (by omega) (by omega) (by omega) (by have := HB.out.size; omega)).mono ?_
  rintro e w4 ⟨rfl, k1, k2, k3, kb⟩
  have H1 := Lib.hid k1
  have H2 := Lib.hid (show Blk w4 (w.heap.size + 1) #[.int .i64 4, .string ag, .string eS, .int .i64 0, .string eS, .string la, .int .i64 v.kind, .int .i64 v.n, .string v.s, .slice A v.l.length c, .int .i64 0, .slice none 0 0] 41 from k2)
  have H3 := Lib.hid (show Blk w4 (w.heap.size + 1 + 1) #[.bool (leB (⟨4, ag, se, st, pe, la, v, pr, en⟩ : Nt) (agB (⟨4, ag, se, st, pe, la, v, pr, en⟩ : Nt) (true)))] 4 from k3)
  have HB := Lib.hid (HB.out.trans kb)
  clear k1 k2 k3 kb
  have hok : okF (⟨4, ag, se, st, pe, la, v, pr, en⟩ : Nt) = leB (⟨4, ag, se, st, pe, la, v, pr, en⟩ : Nt) (agB (⟨4, ag, se, st, pe, la, v, pr, en⟩ : Nt) (true)) := by simp [okF]
  have honly : onlyF (⟨4, ag, se, st, pe, la, v, pr, en⟩ : Nt) = ⟨4, ag, eS, 0, eS, la, v, 0, []⟩ := by simp [onlyF]
  have HMF := Lib.hid (show mayF (⟨4, ag, se, st, pe, la, v, pr, en⟩ : Nt) = (leB (⟨4, ag, se, st, pe, la, v, pr, en⟩ : Nt) (agB (⟨4, ag, se, st, pe, la, v, pr, en⟩ : Nt) (true)) && decide ((⟨4, ag, se, st, pe, la, v, pr, en⟩ : Nt) = onlyF (⟨4, ag, se, st, pe, la, v, pr, en⟩ : Nt))) by unfold mayF; rw [hok])
  have CS := Lib.hid (psame_any (⟨4, ag, se, st, pe, la, v, pr, en⟩ : Nt) (onlyF (⟨4, ag, se, st, pe, la, v, pr, en⟩ : Nt)) A E A none c d c 0 w4 (HX.out.below HB.out) (by rw [honly]; exact ⟨Rd.below HX.out.a HB.out, env_nil _ _, HX.out.la, by simp, by simp⟩))
  rw [honly] at CS HMF
  simp only [Nt.cells] at CS
  have z0 := H3.out.cell 0
  have x0 : w4.cell? ⟨w.heap.size, 0, none⟩ = some (.int .i64 4) := H1.out.cell 0
  have y0 : w4.cell? ⟨w.heap.size + 1, 0, none⟩ = some (.int .i64 4) := H2.out.cell 0
  have x1 : w4.cell? ⟨w.heap.size, 1, none⟩ = some (.string ag) := H1.out.cell 1
  have y1 : w4.cell? ⟨w.heap.size + 1, 1, none⟩ = some (.string ag) := H2.out.cell 1
  have x2 : w4.cell? ⟨w.heap.size, 2, none⟩ = some (.string se) := H1.out.cell 2
  have y2 : w4.cell? ⟨w.heap.size + 1, 2, none⟩ = some (.string eS) := H2.out.cell 2
  have x3 : w4.cell? ⟨w.heap.size, 3, none⟩ = some (.int .i64 st) := H1.out.cell 3
  have y3 : w4.cell? ⟨w.heap.size + 1, 3, none⟩ = some (.int .i64 0) := H2.out.cell 3
  have x4 : w4.cell? ⟨w.heap.size, 4, none⟩ = some (.string pe) := H1.out.cell 4
  have y4 : w4.cell? ⟨w.heap.size + 1, 4, none⟩ = some (.string eS) := H2.out.cell 4
  have x5 : w4.cell? ⟨w.heap.size, 5, none⟩ = some (.string la) := H1.out.cell 5
  have y5 : w4.cell? ⟨w.heap.size + 1, 5, none⟩ = some (.string la) := H2.out.cell 5
  have x6 : w4.cell? ⟨w.heap.size, 6, none⟩ = some (.int .i64 v.kind) := H1.out.cell 6
  have y6 : w4.cell? ⟨w.heap.size + 1, 6, none⟩ = some (.int .i64 v.kind) := H2.out.cell 6
  have x7 : w4.cell? ⟨w.heap.size, 7, none⟩ = some (.int .i64 v.n) := H1.out.cell 7
  have y7 : w4.cell? ⟨w.heap.size + 1, 7, none⟩ = some (.int .i64 v.n) := H2.out.cell 7
  have x8 : w4.cell? ⟨w.heap.size, 8, none⟩ = some (.string v.s) := H1.out.cell 8
  have y8 : w4.cell? ⟨w.heap.size + 1, 8, none⟩ = some (.string v.s) := H2.out.cell 8
  have x9 : w4.cell? ⟨w.heap.size, 9, none⟩ = some (.slice A v.l.length c) := H1.out.cell 9
  have y9 : w4.cell? ⟨w.heap.size + 1, 9, none⟩ = some (.slice A v.l.length c) := H2.out.cell 9
  have x10 : w4.cell? ⟨w.heap.size, 10, none⟩ = some (.int .i64 pr) := H1.out.cell 10
  have y10 : w4.cell? ⟨w.heap.size + 1, 10, none⟩ = some (.int .i64 0) := H2.out.cell 10
  have x11 : w4.cell? ⟨w.heap.size, 11, none⟩ = some (.slice E en.length d) := H1.out.cell 11
  have y11 : w4.cell? ⟨w.heap.size + 1, 11, none⟩ = some (.slice none 0 0) := H2.out.cell 11
  clear hok honly
  generalize leB (⟨4, ag, se, st, pe, la, v, pr, en⟩ : Nt) (agB (⟨4, ag, se, st, pe, la, v, pr, en⟩ : Nt) (true)) = ok at *
  rcases ok with _ | _
  · have z : w4.cell? ⟨w.heap.size + 1 + 1, 0, none⟩ = some (.bool false) := z0
    go_wp2_with fail
    go_ret
    exact ⟨ret_bool (by rw [HMF.out]; rfl), HB.out⟩
  · have z : w4.cell? ⟨w.heap.size + 1 + 1, 0, none⟩ = some (.bool true) := z0
    go_wp2_with fail
    refine CS.out.mono ?_
    rintro e w9 ⟨rfl, hb9⟩
    have B9 := Lib.hid (below_next HB.out hb9)
    clear hb9 z z0 x0 y0 x1 y1 x2 y2 x3 y3 x4 y4 x5 y5 x6 y6 x7 y7 x8 y8 x9 y9 x10 y10 x11 y11
    go_wp2_with fail
    go_ret
    exact ⟨ret_bool (by rw [HMF.out]; first | rfl | simp), B9.out⟩
set_option maxRecDepth 100000 in
set_option maxHeartbeats 8000000 in
theorem noteMay6_any (ag se : ByteArray) (st : Int) (pe la : ByteArray) (v : Vl) (pr : Int) (en : List Bd) (A E : Option Addr) (c d : Nat) (w : World) (hx : NtAt w ⟨6, ag, se, st, pe, la, v, pr, en⟩ A E) :
    Calls Try.prog 16 #[.agg (Nt.cells ⟨6, ag, se, st, pe, la, v, pr, en⟩ A c E d)] w fun e w' => e = .returned (.bool (mayF ⟨6, ag, se, st, pe, la, v, pr, en⟩)) ∧ Below w.heap.size w w' := by
  have hmf := mf Try.prog
  have HX := Lib.hid hx
  simp only [Nt.cells]
  have h1 := ((Blk.new w #[.int .i64 6, .string ag, .string se, .int .i64 st, .string pe, .string la, .int .i64 v.kind, .int .i64 v.n, .string v.s, .slice A v.l.length c, .int .i64 pr, .slice E en.length d] 41).alloc (.cells #[.int .i64 6, .string eS, .string eS, .int .i64 0, .string eS, .string eS, .int .i64 0, .int .i64 0, .string eS, .slice none 0 0, .int .i64 0, .slice none 0 0] 41)).alloc (.cells #[.bool true] 4)
  have h2 := (Blk.new (w.alloc (.cells #[.int .i64 6, .string ag, .string se, .int .i64 st, .string pe, .string la, .int .i64 v.kind, .int .i64 v.n, .string v.s, .slice A v.l.length c, .int .i64 pr, .slice E en.length d] 41)) #[.int .i64 6, .string eS, .string eS, .int .i64 0, .string eS, .string eS, .int .i64 0, .int .i64 0, .string eS, .slice none 0 0, .int .i64 0, .slice none 0 0] 41).alloc (.cells #[.bool true] 4)
  have h3 := Blk.new ((w.alloc (.cells #[.int .i64 6, .string ag, .string se, .int .i64 st, .string pe, .string la, .int .i64 v.kind, .int .i64 v.n, .string v.s, .slice A v.l.length c, .int .i64 pr, .slice E en.length d] 41)).alloc (.cells #[.int .i64 6, .string eS, .string eS, .int .i64 0, .string eS, .string eS, .int .i64 0, .int .i64 0, .string eS, .slice none 0 0, .int .i64 0, .slice none 0 0] 41)) #[.bool true] 4
  have hb := (below_allocS (below_allocS (below_allocS (Below.refl w.heap.size w) (.cells #[.int .i64 6, .string ag, .string se, .int .i64 st, .string pe, .string la, .int .i64 v.kind, .int .i64 v.n, .string v.s, .slice A v.l.length c, .int .i64 pr, .slice E en.length d] 41)) (.cells #[.int .i64 6, .string eS, .string eS, .int .i64 0, .string eS, .string eS, .int .i64 0, .int .i64 0, .string eS, .slice none 0 0, .int .i64 0, .slice none 0 0] 41)) (.cells #[.bool true] 4))
  rw [World.size_alloc] at h2
  rw [World.size_alloc, World.size_alloc] at h3
  have H1 := Lib.hid h1
  have H2 := Lib.hid h2
  have H3 := Lib.hid h3
  have HB := Lib.hid hb
  clear hx h1 h2 h3 hb
  go_enter Try.func16, Try.ntmps16
  go_wp2_with fail
  refine (may2c_any se st (true) w.heap.size w.heap.size (w.heap.size + 1) (w.heap.size + 1 + 1) _ _ _ _ 41 _ H1.out rfl rfl H2.out rfl rfl H3.out (by omega) (by omega) (by omega) (by omega) (by omega)).mono ?_
  rintro e w2 ⟨rfl, k1, k2, k3, kb⟩
  have H1 := Lib.hid k1
  have H2 := Lib.hid (show Blk w2 (w.heap.size + 1) #[.int .i64 6, .string eS, .string se, .int .i64 st, .string eS, .string eS, .int .i64 0, .int .i64 0, .string eS, .slice none 0 0, .int .i64 0, .slice none 0 0] 41 from k2)
  have H3 := Lib.hid (show Blk w2 (w.heap.size + 1 + 1) #[.bool (seB (⟨6, ag, se, st, pe, la, v, pr, en⟩ : Nt) (true))] 4 from k3)
  have HB := Lib.hid (HB.out.trans kb)
  clear k1 k2 k3 kb
  have hok : okF (⟨6, ag, se, st, pe, la, v, pr, en⟩ : Nt) = seB (⟨6, ag, se, st, pe, la, v, pr, en⟩ : Nt) (true) := by simp [okF]
  have honly : onlyF (⟨6, ag, se, st, pe, la, v, pr, en⟩ : Nt) = ⟨6, eS, se, st, eS, eS, zVl, 0, []⟩ := by simp [onlyF]
  have HMF := Lib.hid (show mayF (⟨6, ag, se, st, pe, la, v, pr, en⟩ : Nt) = (seB (⟨6, ag, se, st, pe, la, v, pr, en⟩ : Nt) (true) && decide ((⟨6, ag, se, st, pe, la, v, pr, en⟩ : Nt) = onlyF (⟨6, ag, se, st, pe, la, v, pr, en⟩ : Nt))) by unfold mayF; rw [hok])
  have CS := Lib.hid (psame_any (⟨6, ag, se, st, pe, la, v, pr, en⟩ : Nt) (onlyF (⟨6, ag, se, st, pe, la, v, pr, en⟩ : Nt)) A E none none c d 0 0 w2 (HX.out.below HB.out) (by rw [honly]; exact ⟨Rd.nil, env_nil _ _, by simp, by simp, by simp⟩))
  rw [honly] at CS HMF
  simp only [Nt.cells] at CS
  have z0 := H3.out.cell 0
  have x0 : w2.cell? ⟨w.heap.size, 0, none⟩ = some (.int .i64 6) := H1.out.cell 0
  have y0 : w2.cell? ⟨w.heap.size + 1, 0, none⟩ = some (.int .i64 6) := H2.out.cell 0
  have x1 : w2.cell? ⟨w.heap.size, 1, none⟩ = some (.string ag) := H1.out.cell 1
  have y1 : w2.cell? ⟨w.heap.size + 1, 1, none⟩ = some (.string eS) := H2.out.cell 1
  have x2 : w2.cell? ⟨w.heap.size, 2, none⟩ = some (.string se) := H1.out.cell 2
  have y2 : w2.cell? ⟨w.heap.size + 1, 2, none⟩ = some (.string se) := H2.out.cell 2
  have x3 : w2.cell? ⟨w.heap.size, 3, none⟩ = some (.int .i64 st) := H1.out.cell 3
  have y3 : w2.cell? ⟨w.heap.size + 1, 3, none⟩ = some (.int .i64 st) := H2.out.cell 3
  have x4 : w2.cell? ⟨w.heap.size, 4, none⟩ = some (.string pe) := H1.out.cell 4
  have y4 : w2.cell? ⟨w.heap.size + 1, 4, none⟩ = some (.string eS) := H2.out.cell 4
  have x5 : w2.cell? ⟨w.heap.size, 5, none⟩ = some (.string la) := H1.out.cell 5
  have y5 : w2.cell? ⟨w.heap.size + 1, 5, none⟩ = some (.string eS) := H2.out.cell 5
  have x6 : w2.cell? ⟨w.heap.size, 6, none⟩ = some (.int .i64 v.kind) := H1.out.cell 6
  have y6 : w2.cell? ⟨w.heap.size + 1, 6, none⟩ = some (.int .i64 0) := H2.out.cell 6
  have x7 : w2.cell? ⟨w.heap.size, 7, none⟩ = some (.int .i64 v.n) := H1.out.cell 7
  have y7 : w2.cell? ⟨w.heap.size + 1, 7, none⟩ = some (.int .i64 0) := H2.out.cell 7
  have x8 : w2.cell? ⟨w.heap.size, 8, none⟩ = some (.string v.s) := H1.out.cell 8
  have y8 : w2.cell? ⟨w.heap.size + 1, 8, none⟩ = some (.string eS) := H2.out.cell 8
  have x9 : w2.cell? ⟨w.heap.size, 9, none⟩ = some (.slice A v.l.length c) := H1.out.cell 9
  have y9 : w2.cell? ⟨w.heap.size + 1, 9, none⟩ = some (.slice none 0 0) := H2.out.cell 9
  have x10 : w2.cell? ⟨w.heap.size, 10, none⟩ = some (.int .i64 pr) := H1.out.cell 10
  have y10 : w2.cell? ⟨w.heap.size + 1, 10, none⟩ = some (.int .i64 0) := H2.out.cell 10
  have x11 : w2.cell? ⟨w.heap.size, 11, none⟩ = some (.slice E en.length d) := H1.out.cell 11
  have y11 : w2.cell? ⟨w.heap.size + 1, 11, none⟩ = some (.slice none 0 0) := H2.out.cell 11
  clear hok honly
  generalize seB (⟨6, ag, se, st, pe, la, v, pr, en⟩ : Nt) (true) = ok at *
  rcases ok with _ | _
  · have z : w2.cell? ⟨w.heap.size + 1 + 1, 0, none⟩ = some (.bool false) := z0
    go_wp2_with fail
    go_ret
    exact ⟨ret_bool (by rw [HMF.out]; rfl), HB.out⟩
  · have z : w2.cell? ⟨w.heap.size + 1 + 1, 0, none⟩ = some (.bool true) := z0
    go_wp2_with fail
    refine CS.out.mono ?_
    rintro e w9 ⟨rfl, hb9⟩
    have B9 := Lib.hid (below_next HB.out hb9)
    clear hb9 z z0 x0 y0 x1 y1 x2 y2 x3 y3 x4 y4 x5 y5 x6 y6 x7 y7 x8 y8 x9 y9 x10 y10 x11 y11
    go_wp2_with fail
    go_ret
    exact ⟨ret_bool (by rw [HMF.out]; first | rfl | simp), B9.out⟩
set_option maxRecDepth 100000 in
set_option maxHeartbeats 8000000 in
theorem noteMay7_any (ag se : ByteArray) (st : Int) (pe la : ByteArray) (v : Vl) (pr : Int) (en : List Bd) (A E : Option Addr) (c d : Nat) (w : World) (hx : NtAt w ⟨7, ag, se, st, pe, la, v, pr, en⟩ A E) :
    Calls Try.prog 16 #[.agg (Nt.cells ⟨7, ag, se, st, pe, la, v, pr, en⟩ A c E d)] w fun e w' => e = .returned (.bool (mayF ⟨7, ag, se, st, pe, la, v, pr, en⟩)) ∧ Below w.heap.size w w' := by
  have hmf := mf Try.prog
  have HX := Lib.hid hx
  simp only [Nt.cells]
  have h1 := ((Blk.new w #[.int .i64 7, .string ag, .string se, .int .i64 st, .string pe, .string la, .int .i64 v.kind, .int .i64 v.n, .string v.s, .slice A v.l.length c, .int .i64 pr, .slice E en.length d] 41).alloc (.cells #[.int .i64 7, .string eS, .string eS, .int .i64 0, .string eS, .string eS, .int .i64 0, .int .i64 0, .string eS, .slice none 0 0, .int .i64 0, .slice none 0 0] 41)).alloc (.cells #[.bool true] 4)
  have h2 := (Blk.new (w.alloc (.cells #[.int .i64 7, .string ag, .string se, .int .i64 st, .string pe, .string la, .int .i64 v.kind, .int .i64 v.n, .string v.s, .slice A v.l.length c, .int .i64 pr, .slice E en.length d] 41)) #[.int .i64 7, .string eS, .string eS, .int .i64 0, .string eS, .string eS, .int .i64 0, .int .i64 0, .string eS, .slice none 0 0, .int .i64 0, .slice none 0 0] 41).alloc (.cells #[.bool true] 4)
  have h3 := Blk.new ((w.alloc (.cells #[.int .i64 7, .string ag, .string se, .int .i64 st, .string pe, .string la, .int .i64 v.kind, .int .i64 v.n, .string v.s, .slice A v.l.length c, .int .i64 pr, .slice E en.length d] 41)).alloc (.cells #[.int .i64 7, .string eS, .string eS, .int .i64 0, .string eS, .string eS, .int .i64 0, .int .i64 0, .string eS, .slice none 0 0, .int .i64 0, .slice none 0 0] 41)) #[.bool true] 4
  have hb := (below_allocS (below_allocS (below_allocS (Below.refl w.heap.size w) (.cells #[.int .i64 7, .string ag, .string se, .int .i64 st, .string pe, .string la, .int .i64 v.kind, .int .i64 v.n, .string v.s, .slice A v.l.length c, .int .i64 pr, .slice E en.length d] 41)) (.cells #[.int .i64 7, .string eS, .string eS, .int .i64 0, .string eS, .string eS, .int .i64 0, .int .i64 0, .string eS, .slice none 0 0, .int .i64 0, .slice none 0 0] 41)) (.cells #[.bool true] 4))
  rw [World.size_alloc] at h2
  rw [World.size_alloc, World.size_alloc] at h3
  have H1 := Lib.hid h1
  have H2 := Lib.hid h2
  have H3 := Lib.hid h3
  have HB := Lib.hid hb
  clear hx h1 h2 h3 hb
  go_enter Try.func16, Try.ntmps16
  go_wp2_with fail
  refine (may2c_any se st (true) w.heap.size w.heap.size (w.heap.size + 1) (w.heap.size + 1 + 1) _ _ _ _ 41 _ H1.out rfl rfl H2.out rfl rfl H3.out (by omega) (by omega) (by omega) (by omega) (by omega)).mono ?_
  rintro e w2 ⟨rfl, k1, k2, k3, kb⟩
  have H1 := Lib.hid k1
  have H2 := Lib.hid (show Blk w2 (w.heap.size + 1) #[.int .i64 7, .string eS, .string se, .int .i64 st, .string eS, .string eS, .int .i64 0, .int .i64 0, .string eS, .slice none 0 0, .int .i64 0, .slice none 0 0] 41 from k2)
  have H3 := Lib.hid (show Blk w2 (w.heap.size + 1 + 1) #[.bool (seB (⟨7, ag, se, st, pe, la, v, pr, en⟩ : Nt) (true))] 4 from k3)
  have HB := Lib.hid (HB.out.trans kb)
  clear k1 k2 k3 kb
  have hok : okF (⟨7, ag, se, st, pe, la, v, pr, en⟩ : Nt) = seB (⟨7, ag, se, st, pe, la, v, pr, en⟩ : Nt) (true) := by simp [okF]
  have honly : onlyF (⟨7, ag, se, st, pe, la, v, pr, en⟩ : Nt) = ⟨7, eS, se, st, eS, eS, zVl, 0, []⟩ := by simp [onlyF]
  have HMF := Lib.hid (show mayF (⟨7, ag, se, st, pe, la, v, pr, en⟩ : Nt) = (seB (⟨7, ag, se, st, pe, la, v, pr, en⟩ : Nt) (true) && decide ((⟨7, ag, se, st, pe, la, v, pr, en⟩ : Nt) = onlyF (⟨7, ag, se, st, pe, la, v, pr, en⟩ : Nt))) by unfold mayF; rw [hok])
  have CS := Lib.hid (psame_any (⟨7, ag, se, st, pe, la, v, pr, en⟩ : Nt) (onlyF (⟨7, ag, se, st, pe, la, v, pr, en⟩ : Nt)) A E none none c d 0 0 w2 (HX.out.below HB.out) (by rw [honly]; exact ⟨Rd.nil, env_nil _ _, by simp, by simp, by simp⟩))
  rw [honly] at CS HMF
  simp only [Nt.cells] at CS
  have z0 := H3.out.cell 0
  have x0 : w2.cell? ⟨w.heap.size, 0, none⟩ = some (.int .i64 7) := H1.out.cell 0
  have y0 : w2.cell? ⟨w.heap.size + 1, 0, none⟩ = some (.int .i64 7) := H2.out.cell 0
  have x1 : w2.cell? ⟨w.heap.size, 1, none⟩ = some (.string ag) := H1.out.cell 1
  have y1 : w2.cell? ⟨w.heap.size + 1, 1, none⟩ = some (.string eS) := H2.out.cell 1
  have x2 : w2.cell? ⟨w.heap.size, 2, none⟩ = some (.string se) := H1.out.cell 2
  have y2 : w2.cell? ⟨w.heap.size + 1, 2, none⟩ = some (.string se) := H2.out.cell 2
  have x3 : w2.cell? ⟨w.heap.size, 3, none⟩ = some (.int .i64 st) := H1.out.cell 3
  have y3 : w2.cell? ⟨w.heap.size + 1, 3, none⟩ = some (.int .i64 st) := H2.out.cell 3
  have x4 : w2.cell? ⟨w.heap.size, 4, none⟩ = some (.string pe) := H1.out.cell 4
  have y4 : w2.cell? ⟨w.heap.size + 1, 4, none⟩ = some (.string eS) := H2.out.cell 4
  have x5 : w2.cell? ⟨w.heap.size, 5, none⟩ = some (.string la) := H1.out.cell 5
  have y5 : w2.cell? ⟨w.heap.size + 1, 5, none⟩ = some (.string eS) := H2.out.cell 5
  have x6 : w2.cell? ⟨w.heap.size, 6, none⟩ = some (.int .i64 v.kind) := H1.out.cell 6
  have y6 : w2.cell? ⟨w.heap.size + 1, 6, none⟩ = some (.int .i64 0) := H2.out.cell 6
  have x7 : w2.cell? ⟨w.heap.size, 7, none⟩ = some (.int .i64 v.n) := H1.out.cell 7
  have y7 : w2.cell? ⟨w.heap.size + 1, 7, none⟩ = some (.int .i64 0) := H2.out.cell 7
  have x8 : w2.cell? ⟨w.heap.size, 8, none⟩ = some (.string v.s) := H1.out.cell 8
  have y8 : w2.cell? ⟨w.heap.size + 1, 8, none⟩ = some (.string eS) := H2.out.cell 8
  have x9 : w2.cell? ⟨w.heap.size, 9, none⟩ = some (.slice A v.l.length c) := H1.out.cell 9
  have y9 : w2.cell? ⟨w.heap.size + 1, 9, none⟩ = some (.slice none 0 0) := H2.out.cell 9
  have x10 : w2.cell? ⟨w.heap.size, 10, none⟩ = some (.int .i64 pr) := H1.out.cell 10
  have y10 : w2.cell? ⟨w.heap.size + 1, 10, none⟩ = some (.int .i64 0) := H2.out.cell 10
  have x11 : w2.cell? ⟨w.heap.size, 11, none⟩ = some (.slice E en.length d) := H1.out.cell 11
  have y11 : w2.cell? ⟨w.heap.size + 1, 11, none⟩ = some (.slice none 0 0) := H2.out.cell 11
  clear hok honly
  generalize seB (⟨7, ag, se, st, pe, la, v, pr, en⟩ : Nt) (true) = ok at *
  rcases ok with _ | _
  · have z : w2.cell? ⟨w.heap.size + 1 + 1, 0, none⟩ = some (.bool false) := z0
    go_wp2_with fail
    go_ret
    exact ⟨ret_bool (by rw [HMF.out]; rfl), HB.out⟩
  · have z : w2.cell? ⟨w.heap.size + 1 + 1, 0, none⟩ = some (.bool true) := z0
    go_wp2_with fail
    refine CS.out.mono ?_
    rintro e w9 ⟨rfl, hb9⟩
    have B9 := Lib.hid (below_next HB.out hb9)
    clear hb9 z z0 x0 y0 x1 y1 x2 y2 x3 y3 x4 y4 x5 y5 x6 y6 x7 y7 x8 y8 x9 y9 x10 y10 x11 y11
    go_wp2_with fail
    go_ret
    exact ⟨ret_bool (by rw [HMF.out]; first | rfl | simp), B9.out⟩
end Go.Proofs.Ytfaophiaiflecaa
namespace Go.Proofs.Ytfaophiaiflecaa
open Go.RowKit

set_option maxRecDepth 100000 in
set_option maxHeartbeats 8000000 in
theorem noteMay8_any (ag se : ByteArray) (st : Int) (pe la : ByteArray) (v : Vl) (pr : Int) (en : List Bd) (A E : Option Addr) (c d : Nat) (w : World) (hx : NtAt w ⟨8, ag, se, st, pe, la, v, pr, en⟩ A E) :
    Calls Try.prog 16 #[.agg (Nt.cells ⟨8, ag, se, st, pe, la, v, pr, en⟩ A c E d)] w fun e w' => e = .returned (.bool (mayF ⟨8, ag, se, st, pe, la, v, pr, en⟩)) ∧ Below w.heap.size w w' := by
  have hmf := mf Try.prog
  have HX := Lib.hid hx
  simp only [Nt.cells]
  have h1 := ((Blk.new w #[.int .i64 8, .string ag, .string se, .int .i64 st, .string pe, .string la, .int .i64 v.kind, .int .i64 v.n, .string v.s, .slice A v.l.length c, .int .i64 pr, .slice E en.length d] 41).alloc (.cells #[.int .i64 8, .string eS, .string eS, .int .i64 0, .string eS, .string eS, .int .i64 0, .int .i64 0, .string eS, .slice none 0 0, .int .i64 0, .slice none 0 0] 41)).alloc (.cells #[.bool true] 4)
  have h2 := (Blk.new (w.alloc (.cells #[.int .i64 8, .string ag, .string se, .int .i64 st, .string pe, .string la, .int .i64 v.kind, .int .i64 v.n, .string v.s, .slice A v.l.length c, .int .i64 pr, .slice E en.length d] 41)) #[.int .i64 8, .string eS, .string eS, .int .i64 0, .string eS, .string eS, .int .i64 0, .int .i64 0, .string eS, .slice none 0 0, .int .i64 0, .slice none 0 0] 41).alloc (.cells #[.bool true] 4)
  have h3 := Blk.new ((w.alloc (.cells #[.int .i64 8, .string ag, .string se, .int .i64 st, .string pe, .string la, .int .i64 v.kind, .int .i64 v.n, .string v.s, .slice A v.l.length c, .int .i64 pr, .slice E en.length d] 41)).alloc (.cells #[.int .i64 8, .string eS, .string eS, .int .i64 0, .string eS, .string eS, .int .i64 0, .int .i64 0, .string eS, .slice none 0 0, .int .i64 0, .slice none 0 0] 41)) #[.bool true] 4
  have hb := (below_allocS (below_allocS (below_allocS (Below.refl w.heap.size w) (.cells #[.int .i64 8, .string ag, .string se, .int .i64 st, .string pe, .string la, .int .i64 v.kind, .int .i64 v.n, .string v.s, .slice A v.l.length c, .int .i64 pr, .slice E en.length d] 41)) (.cells #[.int .i64 8, .string eS, .string eS, .int .i64 0, .string eS, .string eS, .int .i64 0, .int .i64 0, .string eS, .slice none 0 0, .int .i64 0, .slice none 0 0] 41)) (.cells #[.bool true] 4))
  rw [World.size_alloc] at h2
  rw [World.size_alloc, World.size_alloc] at h3
  have H1 := Lib.hid h1
  have H2 := Lib.hid h2
  have H3 := Lib.hid h3
  have HB := Lib.hid hb
  clear hx h1 h2 h3 hb
  go_enter Try.func16, Try.ntmps16
  go_wp2_with fail
  refine (may1c_any ag (true) w.heap.size w.heap.size (w.heap.size + 1) (w.heap.size + 1 + 1) _ _ _ 41 _ H1.out rfl H2.out rfl H3.out (by omega) (by omega) (by omega) (by omega) (by omega)).mono ?_
  rintro e w1 ⟨rfl, k1, k2, k3, kb⟩
  have H1 := Lib.hid k1
  have H2 := Lib.hid (show Blk w1 (w.heap.size + 1) #[.int .i64 8, .string ag, .string eS, .int .i64 0, .string eS, .string eS, .int .i64 0, .int .i64 0, .string eS, .slice none 0 0, .int .i64 0, .slice none 0 0] 41 from k2)
  have H3 := Lib.hid (show Blk w1 (w.heap.size + 1 + 1) #[.bool (agB (⟨8, ag, se, st, pe, la, v, pr, en⟩ : Nt) (true))] 4 from k3)
  have HB := Lib.hid (HB.out.trans kb)
  clear k1 k2 k3 kb
  have x10 : w1.cell? ⟨w.heap.size, 10, none⟩ = some (.int .i64 pr) := H1.out.cell 10
  have x11 : w1.cell? ⟨w.heap.size, 11, none⟩ = some (.slice E en.length d) := H1.out.cell 11
  have y10 : w1.cell? ⟨w.heap.size + 1, 10, none⟩ = some (.int .i64 0) := H2.out.cell 10
  have f10 := H2.out.frozen 10
  have y11 : w1.cell? ⟨w.heap.size + 1, 11, none⟩ = some (.slice none 0 0) := H2.out.cell 11
  have f11 := H2.out.frozen 11
  have CE := Lib.hid (fun W (hb : Below w.heap.size w W) => env_any E en d W (HX.out.e.below hb) HX.out.le)
  go_upto_region 29 with fail
  go_cut [] (fun wx => Hid (Blk wx w.heap.size #[.int .i64 8, .string ag, .string se, .int .i64 st, .string pe, .string la, .int .i64 v.kind, .int .i64 v.n, .string v.s, .slice A v.l.length c, .int .i64 pr, .slice E en.length d] 41) ∧ Hid (Blk wx (w.heap.size + 1) #[.int .i64 8, .string ag, .string eS, .int .i64 0, .string eS, .string eS, .int .i64 0, .int .i64 0, .string eS, .slice none 0 0, .int .i64 pr, .slice E en.length d] 41) ∧ Hid (Blk wx (w.heap.size + 1 + 1) #[.bool (agB (⟨8, ag, se, st, pe, la, v, pr, en⟩ : Nt) (true))] 4) ∧ Hid (Below w.heap.size w wx))
  case first =>
    go_region
    all_goals
      go_wp2_with fail
      go_meet
      refine ⟨Lib.hid ?_, Lib.hid ?_, Lib.hid ?_, Lib.hid ?_⟩
      · exact ((H1.out.far (p := ⟨w.heap.size + 1, 10, none⟩) (by simp) _).far (p := ⟨w.heap.size + 1, 11, none⟩) (by simp) _).drew
      · exact ((H2.out.set_ 10 (.int .i64 pr)).set_ 11 (.slice E en.length d)).drew
      · exact ((H3.out.far (p := ⟨w.heap.size + 1, 10, none⟩) (by simp) _).far (p := ⟨w.heap.size + 1, 11, none⟩) (by simp) _).drew
      · exact ((HB.out.setCell (p := ⟨w.heap.size + 1, 10, none⟩) (by simp) _).setCell (p := ⟨w.heap.size + 1, 11, none⟩) (by simp) _).drew
  case rest =>
  obtain ⟨H1, H2, H3, HB⟩ := hcut
  clear x10 x11 y10 y11 f10 f11
  have x10 : wc.cell? ⟨w.heap.size, 10, none⟩ = some (.int .i64 pr) := H1.out.cell 10
  have x11 : wc.cell? ⟨w.heap.size, 11, none⟩ = some (.slice E en.length d) := H1.out.cell 11
  have z0 := H3.out.cell 0
  have zf := H3.out.frozen 0
  have HPR := Lib.hid (show prB (⟨8, ag, se, st, pe, la, v, pr, en⟩ : Nt) (agB (⟨8, ag, se, st, pe, la, v, pr, en⟩ : Nt) (true)) = (agB (⟨8, ag, se, st, pe, la, v, pr, en⟩ : Nt) (true) && decide (0 ≤ pr) && decide (pr < 24) && envF en) from rfl)
  have hsz := HB.out.size
  have hbl := H3.out.lt
  have hok : okF (⟨8, ag, se, st, pe, la, v, pr, en⟩ : Nt) = prB (⟨8, ag, se, st, pe, la, v, pr, en⟩ : Nt) (agB (⟨8, ag, se, st, pe, la, v, pr, en⟩ : Nt) (true)) := by simp [okF]
  have honly : onlyF (⟨8, ag, se, st, pe, la, v, pr, en⟩ : Nt) = ⟨8, ag, eS, 0, eS, eS, zVl, pr, en⟩ := by simp [onlyF]
  have HMF := Lib.hid (show mayF (⟨8, ag, se, st, pe, la, v, pr, en⟩ : Nt) = ((agB (⟨8, ag, se, st, pe, la, v, pr, en⟩ : Nt) (true) && decide (0 ≤ pr) && decide (pr < 24) && envF en) && decide ((⟨8, ag, se, st, pe, la, v, pr, en⟩ : Nt) = onlyF (⟨8, ag, se, st, pe, la, v, pr, en⟩ : Nt))) by unfold mayF; rw [hok]; rfl)
  have CS := Lib.hid (fun W (hb : Below w.heap.size w W) => psame_any (⟨8, ag, se, st, pe, la, v, pr, en⟩ : Nt) (onlyF (⟨8, ag, se, st, pe, la, v, pr, en⟩ : Nt)) A E none E c d 0 d W (HX.out.below hb) (by rw [honly]; exact ⟨Rd.nil, HX.out.e.below hb, by simp, HX.out.le, HX.out.lb⟩))
  rw [honly] at CS HMF
  simp only [Nt.cells] at CS
  clear hok honly HPR
  generalize agB (⟨8, ag, se, st, pe, la, v, pr, en⟩ : Nt) (true) = okv at *
  rcases okv with _ | _
  · have z : wc.cell? ⟨w.heap.size + 1 + 1, 0, none⟩ = some (.bool false) := z0
    go_wp2_with fail
    go_ret
    exact ⟨ret_bool (by rw [HMF.out]; simp), HB.out.setCell (p := ⟨w.heap.size + 1 + 1, 0, none⟩) (by simp; omega) _⟩
  have z : wc.cell? ⟨w.heap.size + 1 + 1, 0, none⟩ = some (.bool true) := z0
  by_cases h0 : 0 ≤ pr
  rotate_left
  · have e0 : decide (0 ≤ pr) = false := decide_eq_false h0
    go_wp2_with fail
    go_ret
    exact ⟨ret_bool (by rw [HMF.out, e0]; simp), HB.out.setCell (p := ⟨w.heap.size + 1 + 1, 0, none⟩) (by simp; omega) _⟩
  have e0 : decide (0 ≤ pr) = true := decide_eq_true h0
  by_cases h1 : pr < 24
  rotate_left
  · have e1 : decide (pr < 24) = false := decide_eq_false h1
    go_wp2_with fail
    go_ret
    exact ⟨ret_bool (by rw [HMF.out, e0, e1]; simp), HB.out.setCell (p := ⟨w.heap.size + 1 + 1, 0, none⟩) (by simp; omega) _⟩
  have e1 : decide (pr < 24) = true := decide_eq_true h1
  rw [e0, e1] at HMF
  go_wp2_with fail
  refine (CE.out _ HB.out).mono ?_
  rintro e w8 ⟨rfl, hb8⟩
  have H1 := Lib.hid (H1.out.belowS hb8)
  have H2 := Lib.hid (H2.out.belowS hb8)
  have H3 := Lib.hid (H3.out.belowS hb8)
  have HB := Lib.hid (below_next HB.out hb8)
  have z8 := H3.out.cell 0
  have zf8 := H3.out.frozen 0
  have hsz := HB.out.size
  clear z z0 zf x10 x11 hb8 hbl CE
  go_upto_region 31 with fail
  have K1 := Lib.hid (H1.out.far (p := ⟨w.heap.size + 1 + 1, 0, none⟩) (by show w.heap.size ≠ w.heap.size + 1 + 1; omega) (.bool (envF en)))
  have K2 := Lib.hid (H2.out.far (p := ⟨w.heap.size + 1 + 1, 0, none⟩) (by show w.heap.size + 1 ≠ w.heap.size + 1 + 1; omega) (.bool (envF en)))
  have K3 := Lib.hid (show Blk (w8.setCell ⟨w.heap.size + 1 + 1, 0, none⟩ (.bool (envF en))) (w.heap.size + 1 + 1) #[.bool (envF en)] 4 from H3.out.set_ 0 (.bool (envF en)))
  have KB := Lib.hid (HB.out.setCell (p := ⟨w.heap.size + 1 + 1, 0, none⟩) (by simp; omega) (.bool (envF en)))
  generalize w8.setCell ⟨w.heap.size + 1 + 1, 0, none⟩ (.bool (envF en)) = W9 at *
  clear z8 zf8 hsz
  have z0 := K3.out.cell 0
  have x0 : W9.cell? ⟨w.heap.size, 0, none⟩ = some (.int .i64 8) := K1.out.cell 0
  have y0 : W9.cell? ⟨w.heap.size + 1, 0, none⟩ = some (.int .i64 8) := K2.out.cell 0
  have x1 : W9.cell? ⟨w.heap.size, 1, none⟩ = some (.string ag) := K1.out.cell 1
  have y1 : W9.cell? ⟨w.heap.size + 1, 1, none⟩ = some (.string ag) := K2.out.cell 1
  have x2 : W9.cell? ⟨w.heap.size, 2, none⟩ = some (.string se) := K1.out.cell 2
  have y2 : W9.cell? ⟨w.heap.size + 1, 2, none⟩ = some (.string eS) := K2.out.cell 2
  have x3 : W9.cell? ⟨w.heap.size, 3, none⟩ = some (.int .i64 st) := K1.out.cell 3
  have y3 : W9.cell? ⟨w.heap.size + 1, 3, none⟩ = some (.int .i64 0) := K2.out.cell 3
  have x4 : W9.cell? ⟨w.heap.size, 4, none⟩ = some (.string pe) := K1.out.cell 4
  have y4 : W9.cell? ⟨w.heap.size + 1, 4, none⟩ = some (.string eS) := K2.out.cell 4
  have x5 : W9.cell? ⟨w.heap.size, 5, none⟩ = some (.string la) := K1.out.cell 5
  have y5 : W9.cell? ⟨w.heap.size + 1, 5, none⟩ = some (.string eS) := K2.out.cell 5
  have x6 : W9.cell? ⟨w.heap.size, 6, none⟩ = some (.int .i64 v.kind) := K1.out.cell 6
  have y6 : W9.cell? ⟨w.heap.size + 1, 6, none⟩ = some (.int .i64 0) := K2.out.cell 6
  have x7 : W9.cell? ⟨w.heap.size, 7, none⟩ = some (.int .i64 v.n) := K1.out.cell 7
  have y7 : W9.cell? ⟨w.heap.size + 1, 7, none⟩ = some (.int .i64 0) := K2.out.cell 7
  have x8 : W9.cell? ⟨w.heap.size, 8, none⟩ = some (.string v.s) := K1.out.cell 8
  have y8 : W9.cell? ⟨w.heap.size + 1, 8, none⟩ = some (.string eS) := K2.out.cell 8
  have x9 : W9.cell? ⟨w.heap.size, 9, none⟩ = some (.slice A v.l.length c) := K1.out.cell 9
  have y9 : W9.cell? ⟨w.heap.size + 1, 9, none⟩ = some (.slice none 0 0) := K2.out.cell 9
  have x10 : W9.cell? ⟨w.heap.size, 10, none⟩ = some (.int .i64 pr) := K1.out.cell 10
  have y10 : W9.cell? ⟨w.heap.size + 1, 10, none⟩ = some (.int .i64 pr) := K2.out.cell 10
  have x11 : W9.cell? ⟨w.heap.size, 11, none⟩ = some (.slice E en.length d) := K1.out.cell 11
  have y11 : W9.cell? ⟨w.heap.size + 1, 11, none⟩ = some (.slice E en.length d) := K2.out.cell 11
  rcases hen : envF en with _ | _
  · rw [hen] at z0
    have z : W9.cell? ⟨w.heap.size + 1 + 1, 0, none⟩ = some (.bool false) := z0
    go_wp2_with fail
    go_ret
    exact ⟨ret_bool (by rw [HMF.out, hen]; simp), KB.out⟩
  · rw [hen] at z0
    have z : W9.cell? ⟨w.heap.size + 1 + 1, 0, none⟩ = some (.bool true) := z0
    have HEN := Lib.hid hen
    clear hen
    go_wp2_with fail
    refine (CS.out _ KB.out).mono ?_
    rintro e w9 ⟨rfl, hb9⟩
    have B9 := Lib.hid (below_next KB.out hb9)
    clear hb9 z z0 x0 y0 x1 y1 x2 y2 x3 y3 x4 y4 x5 y5 x6 y6 x7 y7 x8 y8 x9 y9 x10 y10 x11 y11
    go_wp2_with fail
    go_ret
    exact ⟨ret_bool (by rw [HMF.out, HEN.out]; first | rfl | simp), B9.out⟩
set_option maxRecDepth 100000 in
set_option maxHeartbeats 8000000 in
theorem noteMay_any (x : Nt) (A E : Option Addr) (c d : Nat) (w : World) (hx : NtAt w x A E) :
    Calls Try.prog 16 #[.agg (x.cells A c E d)] w fun e w' => e = .returned (.bool (mayF x)) ∧ Below w.heap.size w w' := by
  obtain ⟨k, ag, se, st, pe, la, v, pr, en⟩ := x
  by_cases h1 : k = 1
  · subst h1
    exact noteMay1_any ag se st pe la v pr en A E c d w hx
  by_cases h2 : k = 2
  · subst h2
    exact noteMay2_any ag se st pe la v pr en A E c d w hx
  by_cases h3 : k = 3
  · subst h3
    exact noteMay3_any ag se st pe la v pr en A E c d w hx
  by_cases h5 : k = 5
  · subst h5
    exact noteMay5_any ag se st pe la v pr en A E c d w hx
  by_cases h4 : k = 4
  · subst h4
    exact noteMay4_any ag se st pe la v pr en A E c d w hx
  by_cases h6 : k = 6
  · subst h6
    exact noteMay6_any ag se st pe la v pr en A E c d w hx
  by_cases h7 : k = 7
  · subst h7
    exact noteMay7_any ag se st pe la v pr en A E c d w hx
  by_cases h8 : k = 8
  · subst h8
    exact noteMay8_any ag se st pe la v pr en A E c d w hx
  have k1 : (k == 1) = false := by simp; exact h1
  have k2 : (k == 2) = false := by simp; exact h2
  have k3 : (k == 3) = false := by simp; exact h3
  have k5 : (k == 5) = false := by simp; exact h5
  have k4 : (k == 4) = false := by simp; exact h4
  have k6 : (k == 6) = false := by simp; exact h6
  have k7 : (k == 7) = false := by simp; exact h7
  have k8 : (k == 8) = false := by simp; exact h8
  have hm : mayF ⟨k, ag, se, st, pe, la, v, pr, en⟩ = false := by simp [mayF, okF, h1, h2, h3, h4, h5, h6, h7, h8]
  have HM := Lib.hid hm
  have hmf := mf Try.prog
  simp only [Nt.cells]
  clear hm hx
  go_enter Try.func16, Try.ntmps16
  go_wp2_with fail
  go_ret
  exact ⟨ret_bool HM.out.symm, below_allocS (below_allocS (below_allocS (Below.refl _ _) _) _) _⟩
end Go.Proofs.Ytfaophiaiflecaa
