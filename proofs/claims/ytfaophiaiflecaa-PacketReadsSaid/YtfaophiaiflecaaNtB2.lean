/- Plain: the bytes of values, bindings and notes. Contract: the writer of a list of bindings. -/
import Derived.Test.YtfaophiaiflecaaNtW2
import Derived.Test.YtfaophiaiflecaaNtB1
import Derived.Test.YtfaophiaiflecaaNtSame3
namespace Go.Proofs.Ytfaophiaiflecaa
open Go.RowKit

def vlB (v : Vl) : List UInt8 := numB v.kind ++ (numB v.n ++ (txt v.s.data.toList ++ l64B v.l))
def bdB (b : Bd) : List UInt8 := txt b.name.data.toList ++ vlB b.v
def bdsB (l : List Bd) : List UInt8 := l.flatMap bdB
def envB (l : List Bd) : List UInt8 := numB l.length ++ bdsB l
def noteB (x : Nt) : List UInt8 := numB x.kind ++ (txt x.agent.data.toList ++ (txt x.session.data.toList ++ (numB x.seat ++ (txt x.peer.data.toList ++ (txt x.label.data.toList ++ (vlB x.v ++ (numB x.proc ++ envB x.env)))))))
structure VlOk (v : Vl) : Prop where
  k : I64 v.kind
  n : I64 v.n
  s : v.s.size ≤ 1000000
  l : v.l.length ≤ 1000000
  i : ∀ x ∈ v.l, I64 x
structure BdOk (b : Bd) : Prop where
  nm : b.name.size ≤ 1000000
  v : VlOk b.v
theorem txt_len (s : ByteArray) : (txt s.data.toList).length ≤ s.size + 10 := by
  have h := numB_le (s.data.toList.length : Int)
  have e : s.data.toList.length = s.size := by rw [Array.length_toList]; rfl
  unfold txt
  rw [List.length_append]; omega
theorem vlB_len {v : Vl} (h : VlOk v) : (vlB v).length ≤ 12000000 := by
  have h1 := numB_le v.kind
  have h2 := numB_le v.n
  have h3 := txt_len v.s
  have h4 := l64B_len v.l
  have := h.s
  have := h.l
  unfold vlB
  rw [List.length_append, List.length_append, List.length_append]; omega
theorem bdB_len {b : Bd} (h : BdOk b) : (bdB b).length ≤ 14000000 := by
  have h1 := vlB_len h.v
  have h2 := txt_len b.name
  have := h.nm
  unfold bdB
  rw [List.length_append]; omega
theorem bdsB_len {l : List Bd} (h : ∀ b ∈ l, BdOk b) : (bdsB l).length ≤ l.length * 14000000 := by
  induction l with
  | nil => simp [bdsB]
  | cons a t ih =>
    have h1 := ih fun b hb => h b (List.mem_cons_of_mem _ hb)
    have h2 := bdB_len (h a List.mem_cons_self)
    have e : bdsB (a :: t) = bdB a ++ bdsB t := rfl
    rw [e, List.length_append, List.length_cons]; omega
theorem bdsB_snoc (l : List Bd) (k : Nat) (h : k < l.length) : bdsB (l.take (k + 1)) = bdsB (l.take k) ++ bdB l[k] := by
  rw [List.take_succ_eq_append_getElem h]
  unfold bdsB
  rw [List.flatMap_append]
  simp
def i64Fd (b : Nat) (n : Int) : Fd := .ext .i64 #[.pointer (some ⟨b, 0, none⟩)] #[.pointer (some ⟨b, 0, none⟩)] (numB n)
def l64Fd (b : Nat) (l : List Int) : Fd := .ext .l64 #[.pointer (some ⟨b, 0, none⟩), .pointer (some ⟨b + 1, 0, none⟩)] #[.pointer (some ⟨b + 1, 0, none⟩), .pointer (some ⟨b, 0, none⟩)] (l64B l)
def lBFd (b : Nat) (l : List Bd) : Fd := .ext .lB #[.pointer (some ⟨b, 0, none⟩), .pointer (some ⟨b + 1, 0, none⟩)] #[.pointer (some ⟨b + 1, 0, none⟩), .pointer (some ⟨b, 0, none⟩)] (envB l)
def vlFds (v : Nat) (x : Vl) : List (Fd × Nat) := [(.num x.kind, v), (i64Fd (v + 2) x.n, 0), (.txt x.s, v + 4), (l64Fd (v + 6) x.l, 0)]
theorem vlFds_bytes (v : Nat) (x : Vl) : fdBytes (vlFds v x) = vlB x := by
  simp [fdBytes, vlFds, vlB, Fd.bytes, i64Fd, l64Fd]
theorem vlFds_at {w : World} {v h o : Nat} {x : Vl} {B : Option Addr} {d : Nat} (q0 : Blk w v #[.pointer (some ⟨h, o, none⟩)] 88) (q1 : Blk w (v + 2) #[.pointer (some ⟨h, o + 1, none⟩)] 106) (q2 : Blk w (v + 4) #[.pointer (some ⟨h, o + 2, none⟩)] 90) (q3 : Blk w (v + 6) #[.pointer (some ⟨h, o + 3, none⟩)] 110) (q4 : Blk w (v + 6 + 1) #[.func (.func 82) #[] #[]] 108)
    (hc : w.cell? ⟨h, o, none⟩ = some (.int .i64 x.kind) ∧ w.cell? ⟨h, o + 1, none⟩ = some (.int .i64 x.n) ∧ w.cell? ⟨h, o + 2, none⟩ = some (.string x.s) ∧ w.cell? ⟨h, o + 3, none⟩ = some (.slice B x.l.length d)) (hB : Ints w B x.l) (hx : VlOk x) : ∀ f ∈ vlFds v x, f.1.at w f.2 := by
  obtain ⟨c0, c1, c2, c3⟩ := hc
  have hl1 := World.block_lt_of_cell? _ _ c1
  intro f hf
  simp only [vlFds, List.mem_cons, List.not_mem_nil, or_false] at hf
  rcases hf with rfl | rfl | rfl | rfl
  · exact ⟨_, q0, c0, hx.k.1, hx.k.2⟩
  · exact ⟨by have := numB_le x.n; omega, fun W hw => number641_any _ _ x.n W (q1.belowS hw) ((hw.cell (p := ⟨h, o + 1, none⟩) hl1).trans c1) hx.n.1 hx.n.2⟩
  · exact ⟨_, q2, c2, by have := hx.s; omega⟩
  · exact ⟨by have h1 := l64B_len x.l; have h2 := hx.l; omega, fun W hw => list641_any _ _ B x.l d W (q3.belowS hw) (q4.belowS hw) ((hw.cell (p := ⟨h, o + 3, none⟩) hl1).trans c3) (Rd.below hB hw) hx.l hx.i⟩
theorem write_bd (A : Option Addr) (b v c h o : Nat) (x : Bd) (B : Option Addr) (d : Nat) (w : World) (hA : Rd w A [txtW b, txtR b, numW v, numR v, n64W (v + 2), n64R (v + 2), txtW (v + 4), txtR (v + 4), l64W (v + 6), l64R (v + 6)])
    (q : Blk w b #[.pointer (some ⟨h, o, none⟩)] 90) (q0 : Blk w v #[.pointer (some ⟨h, o + 1, none⟩)] 88) (q1 : Blk w (v + 2) #[.pointer (some ⟨h, o + 1 + 1, none⟩)] 106) (q2 : Blk w (v + 4) #[.pointer (some ⟨h, o + 1 + 2, none⟩)] 90) (q3 : Blk w (v + 6) #[.pointer (some ⟨h, o + 1 + 3, none⟩)] 110) (q4 : Blk w (v + 6 + 1) #[.func (.func 82) #[] #[]] 108)
    (hc : w.cell? ⟨h, o, none⟩ = some (.string x.name) ∧ (w.cell? ⟨h, o + 1, none⟩ = some (.int .i64 x.v.kind) ∧ w.cell? ⟨h, o + 1 + 1, none⟩ = some (.int .i64 x.v.n) ∧ w.cell? ⟨h, o + 1 + 2, none⟩ = some (.string x.v.s) ∧ w.cell? ⟨h, o + 1 + 3, none⟩ = some (.slice B x.v.l.length d)) ∧ Ints w B x.v.l) (hx : BdOk x) :
    Calls Try.prog 24 #[.slice A 5 c] w fun e w' => e = .returned (.string ⟨(bdB x).toArray⟩) ∧ Below w.heap.size w w' := by
  have k := write_any A ((.txt x.name, b) :: vlFds v x.v) c w hA (by
    intro f hf
    rcases List.mem_cons.1 hf with rfl | hf
    · exact ⟨_, q, hc.1, by have := hx.nm; omega⟩
    · exact vlFds_at q0 q1 q2 q3 q4 hc.2.1 hc.2.2 hx.v f hf) (by simp [vlFds])
  have e : fdBytes ((.txt x.name, b) :: vlFds v x.v) = bdB x := by
    show Fd.bytes (.txt x.name) ++ fdBytes (vlFds v x.v) = _
    rw [vlFds_bytes]; rfl
  rw [e] at k
  exact k
set_option maxRecDepth 100000 in
set_option maxHeartbeats 3200000 in
theorem listB1_any (b : Nat) (p : Addr) (A : Option Addr) (l : List Bd) (c : Nat) (w : World) (hb : Blk w b #[.pointer (some p)] 94) (hf : Blk w (b + 1) #[.func (.func 58) #[] #[]] 95) (hp : w.cell? p = some (.slice A l.length c)) (hA : Env w A l) (hl : l.length ≤ 20) (hi : ∀ x ∈ l, BdOk x) :
    Calls Try.prog 85 #[.pointer (some ⟨b, 0, none⟩), .pointer (some ⟨b + 1, 0, none⟩)] w fun e w' => e = .returned (.string ⟨(envB l).toArray⟩) ∧ Below w.heap.size w w' := by
  have HN := Lib.hid (fun W => number_any l.length W (by omega) (by omega))
  have hpl := World.block_lt_of_cell? w _ hp
  have KS0 := Lib.hid (fun W (hw : Below w.heap.size w W) => show W.cell? ⟨b, 0, none⟩ = some (.pointer (some p)) ∧ W.cell? ⟨b + 1, 0, none⟩ = some (.func (.func 58) #[] #[]) ∧ W.cell? p = some (.slice A l.length c) from ⟨(hw.cell (p := ⟨b, 0, none⟩) hb.lt).trans (hb.cell 0), (hw.cell (p := ⟨b + 1, 0, none⟩) hf.lt).trans (hf.cell 0), (hw.cell hpl).trans hp⟩)
  have HA := Lib.hid (fun W (hw : Below w.heap.size w W) => hA.below hw)
  have HIA := Lib.hid hi
  have HB := Lib.hid (And.intro hb.lt (And.intro hf.lt hpl))
  obtain ⟨x0, _, x1⟩ := KS0.out w (Below.refl _ _)
  clear hb hp hpl hf hA hi
  go_enter Try.func85, Try.ntmps85
  go_wp2_with fail
  refine (HN.out _).mono ?_
  rintro e w1 ⟨rfl, hb⟩
  have B1 := Lib.hid hb
  clear x0 x1 hb
  obtain ⟨x0, _, x1⟩ := KS0.out w1 B1.out
  go_wp2_with fail
  go_loopw [3, 14] (fun s i wr => ∃ k : Nat, k ≤ l.length ∧ i = .int .i64 k ∧ s = .string ⟨(numB l.length ++ bdsB (l.take k)).toArray⟩ ∧ Hid (Below w.heap.size w wr)) (fun _ i _ => l.length - (intOf i).toNat)
  case atStart => exact ⟨0, Nat.zero_le _, rfl, by simp [bdsB], B1⟩
  case round =>
    obtain ⟨k, hk, rfl, rfl, hB⟩ := hrel
    clear x0 x1
    by_cases hlt : k < l.length
    · obtain ⟨F, hF⟩ := env_at (HA.out _ hB.out)
      obtain ⟨ab, ao, rfl, hab, hints, hcs⟩ := hF k hlt
      have hck := hcs k hlt
      have KS := Lib.hid (fun W (hw : Below wr.heap.size wr W) => show Below wr.heap.size wr W ∧ W.cell? ⟨b, 0, none⟩ = some (.pointer (some p)) ∧ W.cell? ⟨b + 1, 0, none⟩ = some (.func (.func 58) #[] #[]) ∧ W.cell? p = some (.slice (some ⟨ab, ao, none⟩) l.length c) from ⟨hw, KS0.out _ (below_next hB.out hw)⟩)
      have KS2 := Lib.hid (fun W (hw : Below wr.heap.size wr W) => show W.cell? ⟨ab, ao + k * 5, none⟩ = some (.string l[k].name) ∧ (W.cell? ⟨ab, ao + k * 5 + 1, none⟩ = some (.int .i64 l[k].v.kind) ∧ W.cell? ⟨ab, ao + k * 5 + 1 + 1, none⟩ = some (.int .i64 l[k].v.n) ∧ W.cell? ⟨ab, ao + k * 5 + 1 + 2, none⟩ = some (.string l[k].v.s) ∧ W.cell? ⟨ab, ao + k * 5 + 1 + 3, none⟩ = some (.slice (F k).1 l[k].v.l.length (F k).2)) ∧ Ints W (F k).1 l[k].v.l from
        have t := fun o => hw.cell (p := ⟨ab, o, none⟩) hab
        ⟨(t _).trans hck.1, ⟨(t _).trans hck.2.1, (t _).trans hck.2.2.1, (t _).trans hck.2.2.2.1, (t _).trans hck.2.2.2.2⟩, Rd.below hints hw⟩)
      have HI := Lib.hid (HIA.out _ (List.getElem_mem hlt))
      have HSN := Lib.hid (bdsB_snoc l k hlt)
      have hn1 := bdsB_len (l := l.take k) fun x hx => HIA.out x (List.mem_of_mem_take hx)
      have hn2 := numB_le (l.length : Int)
      have hn3 := bdB_len HI.out
      have hn4 : (l.take k).length ≤ 20 := by rw [List.length_take]; omega
      have CONE := Lib.hid (fun W (hw : Below wr.heap.size wr W) => bind_any ab (ao + k * 5) W (Nat.lt_of_lt_of_le hab hw.size))
      clear hcs hck hints hF
      generalize l[k] = n at *
      generalize hX : numB l.length ++ bdsB (l.take k) = X at *
      have hxl : X.length ≤ 300000010 := by rw [← hX, List.length_append]; omega
      have HX := Lib.hid hX
      have HAP := Lib.hid (ba_app' X (bdB n))
      have hz1 : ¬ 9223372036854775807 < X.length + (bdB n).length := by omega
      clear hX hn1 hn2 hn3 hn4 hxl
      go_upto_region 5 with fail
      refine wp_region_noPanic ?_
      refine wp_region_held_drew (S := fun W => Below wr.heap.size wr W ∧ W.cell? ⟨b, 0, none⟩ = some (.pointer (some p)) ∧ W.cell? ⟨b + 1, 0, none⟩ = some (.func (.func 58) #[] #[]) ∧ W.cell? p = some (.slice (some ⟨ab, ao, none⟩) l.length c)) (by kernel_rfl) (KS.out _ ((Below.refl _ _).drew)) (fun hHeld => ?_)
      refine held_take (v := ?v1) 0 rfl (by kernel_rfl) (by kernel_rfl) (by kernel_rfl) (fun _ _ _ h => h) (by rfl) ?hy1 (by assumption) ?rest1
      case hy1 => (intro w hSw; (try dsimp only at hSw); go_simp; try with_reducible rfl)
      simp only [Act.put, List.setIfInBounds_toArray, List.set_cons_zero, List.set_cons_succ]
      refine held_take (v := ?v2) 1 rfl (by kernel_rfl) (by kernel_rfl) (by kernel_rfl) (fun _ _ _ h => h) (by rfl) ?hy2 (by assumption) ?rest2
      case hy2 => (intro w hSw; (try dsimp only at hSw); go_simp; try with_reducible rfl)
      simp only [Act.put, List.setIfInBounds_toArray, List.set_cons_zero, List.set_cons_succ]
      refine held_take (v := ?v3) 2 rfl (by kernel_rfl) (by kernel_rfl) (by kernel_rfl) (fun _ _ _ h => h) (by rfl) ?hy3 (by assumption) ?rest3
      case hy3 => (intro w hSw; (try dsimp only at hSw); go_simp; try with_reducible rfl)
      simp only [Act.put, List.setIfInBounds_toArray, List.set_cons_zero, List.set_cons_succ]
      refine held_take (v := ?v4) 3 rfl (by kernel_rfl) (by kernel_rfl) (by kernel_rfl) (fun _ _ _ h => h) (by rfl) ?hy4 (by assumption) ?rest4
      case hy4 => (intro w hSw; (try dsimp only at hSw); go_simp; try with_reducible rfl)
      simp only [Act.put, List.setIfInBounds_toArray, List.set_cons_zero, List.set_cons_succ]
      refine held_take (v := ?v5) 4 rfl (by kernel_rfl) (by kernel_rfl) (by kernel_rfl) (fun _ _ _ h => h) (by rfl) ?hy5 (by assumption) ?rest5
      case hy5 => (intro w hSw; (try dsimp only at hSw); go_simp; try with_reducible rfl)
      simp only [Act.put, List.setIfInBounds_toArray, List.set_cons_zero, List.set_cons_succ]
      refine held_take (v := ?v6) 5 rfl (by kernel_rfl) (by kernel_rfl) (by kernel_rfl) (fun _ _ _ h => h) (by rfl) ?hy6 (by assumption) ?rest6
      case hy6 => (intro w hSw; (try dsimp only at hSw); go_simp; try with_reducible rfl)
      simp only [Act.put, List.setIfInBounds_toArray, List.set_cons_zero, List.set_cons_succ]
      refine held_take (v := ?v7) 6 rfl (by kernel_rfl) (by kernel_rfl) (by kernel_rfl) (fun _ _ _ h => h) (by rfl) ?hy7 (by assumption) ?rest7
      case hy7 => (intro w hSw; (try dsimp only at hSw); go_simp; try with_reducible rfl)
      simp only [Act.put, List.setIfInBounds_toArray, List.set_cons_zero, List.set_cons_succ]
      refine held_call 7 rfl (by kernel_rfl) (by rfl) (fun K hK => ?_)
      go_simp
      go_at_call 58
      refine (CONE.out _ (And.left hHeld)).mono ?_
      rintro e wf ⟨A2, b2, v2, c2, rfl, q0, q1, q2, q3, q4, q5, q6, _, _, _, hbf⟩
      go_simp
      have hHeld := KS.out _ (below_next (And.left hHeld) hbf)
      refine hK _ _ (by assumption) ?_
      clear hK K
      try simp only [Act.put, List.setIfInBounds_toArray, List.set_cons_zero, List.set_cons_succ]
      refine held_call 8 rfl (by kernel_rfl) (by rfl) (fun K hK => ?_)
      go_simp
      go_at_call 24
      refine (write_bd A2 b2 v2 c2 _ _ _ _ _ _ q0 q1 q2 q3 q4 q5 q6 (KS2.out _ (And.left hHeld)) HI.out).mono ?_
      rintro e wg ⟨rfl, hbg⟩
      go_simp
      have hHeld := KS.out _ (below_next (And.left hHeld) hbg)
      refine hK _ _ (by assumption) ?_
      clear hK K
      try simp only [Act.put, List.setIfInBounds_toArray, List.set_cons_zero, List.set_cons_succ]
      refine held_take (v := ?v10) 9 rfl (by kernel_rfl) (by kernel_rfl) (by kernel_rfl) (fun _ _ _ h => h) (by rfl) ?hy10 (by assumption) ?rest10
      case hy10 => (intro w hSw; (try dsimp only at hSw); go_simp; try with_reducible rfl)
      simp only [Act.put, List.setIfInBounds_toArray, List.set_cons_zero, List.set_cons_succ]
      refine held_take (v := ?v11) 10 rfl (by kernel_rfl) (by kernel_rfl) (by kernel_rfl) (fun _ _ _ h => h) (by rfl) ?hy11 (by assumption) ?rest11
      case hy11 => (intro w hSw; (try dsimp only at hSw); go_simp; try with_reducible rfl)
      simp only [Act.put, List.setIfInBounds_toArray, List.set_cons_zero, List.set_cons_succ]
      refine wpAnyH_done (by kernel_rfl) ?_ _
      refine NoPanic.normal ?_
      go_wp2_with fail
      exact ⟨⟨k + 1, by omega, by go_num, by rw [HSN.out, ← List.append_assoc, HX.out, ← HAP.out], Lib.hid (below_next hB.out (And.left (by assumption)))⟩, by simp [intOf]; omega⟩
    · go_wp2_with fail
      go_ret
      rw [show l.take k = l from List.take_of_length_le (by omega)]
      exact ⟨rfl, hB.out⟩
end Go.Proofs.Ytfaophiaiflecaa
