/- Contract: packet.Note at any note. -/
import Derived.Test.YtfaophiaiflecaaNtB2
import Derived.Test.YtfaophiaiflecaaNtMay3
namespace Go.Proofs.Ytfaophiaiflecaa
open Go.RowKit
set_option linter.unusedSimpArgs false

/-- What a note's fields are, that it may be written. -/
structure NtOk (x : Nt) : Prop where
  k : I64 x.kind
  seat : I64 x.seat
  proc : I64 x.proc
  ag : x.agent.size ≤ 1000000
  se : x.session.size ≤ 1000000
  v : VlOk x.v
  le : x.env.length ≤ 20
  env : ∀ b ∈ x.env, BdOk b
theorem nameF_size {s : ByteArray} (h : nameF s = true) : s.size ≤ 12 := by
  simp only [nameF, Bool.and_eq_true, decide_eq_true_eq] at h
  exact h.1.1.1.2
theorem may_sizes {x : Nt} (h : mayF x = true) : x.peer.size ≤ 12 ∧ x.label.size ≤ 12 := by
  obtain ⟨k, ag, se, st, pe, la, v, pr, en⟩ := x
  have n1 : nameF pe = true → pe.size ≤ 12 := nameF_size
  have n2 : nameF la = true → la.size ≤ 12 := nameF_size
  have n3 : pe = eS → pe.size ≤ 12 := by rintro rfl; decide
  have n4 : la = eS → la.size ≤ 12 := by rintro rfl; decide
  show pe.size ≤ 12 ∧ la.size ≤ 12
  by_cases h1 : k = 1
  · subst h1; simp [mayF, okF, onlyF, leB, peB] at h; grind
  by_cases h2 : k = 2
  · subst h2; simp [mayF, okF, onlyF, leB, peB] at h; grind
  by_cases h3 : k = 3
  · subst h3; simp [mayF, okF, onlyF, leB, peB] at h; grind
  by_cases h4 : k = 4
  · subst h4; simp [mayF, okF, onlyF, leB, peB] at h; grind
  by_cases h5 : k = 5
  · subst h5; simp [mayF, okF, onlyF, leB, peB] at h; grind
  by_cases h6 : k = 6
  · subst h6; simp [mayF, okF, onlyF, leB, peB] at h; grind
  by_cases h7 : k = 7
  · subst h7; simp [mayF, okF, onlyF, leB, peB] at h; grind
  by_cases h8 : k = 8
  · subst h8; simp [mayF, okF, onlyF, leB, peB] at h; grind
  simp [mayF, okF, h1, h2, h3, h4, h5, h6, h7, h8] at h
def noteFds (b v u : Nat) (x : Nt) : List (Fd × Nat) := (.num x.kind, b) :: (.txt x.agent, b + 2) :: (.txt x.session, b + 4) :: (.num x.seat, b + 6) :: (.txt x.peer, b + 8) :: (.txt x.label, b + 10) :: (vlFds v x.v ++ [(.num x.proc, u), (lBFd (u + 2) x.env, 0)])
theorem fdBytes_app (l m : List (Fd × Nat)) : fdBytes (l ++ m) = fdBytes l ++ fdBytes m := List.flatMap_append
theorem fdBytes_cons (x : Fd × Nat) (m : List (Fd × Nat)) : fdBytes (x :: m) = x.1.bytes ++ fdBytes m := rfl
theorem noteFds_bytes (b v u : Nat) (x : Nt) : fdBytes (noteFds b v u x) = noteB x := by
  unfold noteFds noteB
  simp only [fdBytes_cons, fdBytes_app, vlFds_bytes]
  simp [fdBytes, Fd.bytes, lBFd]
theorem envB_len {l : List Bd} (h : ∀ b ∈ l, BdOk b) (hl : l.length ≤ 20) : (envB l).length ≤ 280000010 := by
  have h1 := bdsB_len h
  have h2 := numB_le (l.length : Int)
  unfold envB
  rw [List.length_append]; omega
theorem noteB_len {x : Nt} (h : NtOk x) (hp : x.peer.size ≤ 12 ∧ x.label.size ≤ 12) : (noteB x).length ≤ 400000000 := by
  have h1 := numB_le x.kind
  have h2 := numB_le x.seat
  have h3 := numB_le x.proc
  have h4 := txt_len x.agent
  have h5 := txt_len x.session
  have h6 := txt_len x.peer
  have h7 := txt_len x.label
  have h8 := vlB_len h.v
  have h9 := envB_len h.env h.le
  have := h.ag
  have := h.se
  unfold noteB
  simp only [List.length_append]
  omega
theorem write_note (A : Option Addr) (b v u c h : Nat) (x : Nt) (AA EE : Option Addr) (cc dd : Nat) (w : World) (t : TypeId)
    (hA : Rd w A [numW b, numR b, txtW (b + 2), txtR (b + 2), txtW (b + 4), txtR (b + 4), numW (b + 6), numR (b + 6), txtW (b + 8), txtR (b + 8), txtW (b + 10), txtR (b + 10), numW v, numR v, n64W (v + 2), n64R (v + 2), txtW (v + 4), txtR (v + 4), l64W (v + 6), l64R (v + 6), numW u, numR u, lBW (u + 2), lBR (u + 2)])
    (k0 : Blk w b #[.pointer (some ⟨h, 0, none⟩)] 88) (k1 : Blk w (b + 2) #[.pointer (some ⟨h, 1, none⟩)] 90) (k2 : Blk w (b + 4) #[.pointer (some ⟨h, 2, none⟩)] 90) (k3 : Blk w (b + 6) #[.pointer (some ⟨h, 3, none⟩)] 88) (k4 : Blk w (b + 8) #[.pointer (some ⟨h, 4, none⟩)] 90) (k5 : Blk w (b + 10) #[.pointer (some ⟨h, 5, none⟩)] 90)
    (q0 : Blk w v #[.pointer (some ⟨h, 6, none⟩)] 88) (q1 : Blk w (v + 2) #[.pointer (some ⟨h, 7, none⟩)] 106) (q2 : Blk w (v + 4) #[.pointer (some ⟨h, 8, none⟩)] 90) (q3 : Blk w (v + 6) #[.pointer (some ⟨h, 9, none⟩)] 110) (q4 : Blk w (v + 6 + 1) #[.func (.func 82) #[] #[]] 108)
    (r0 : Blk w u #[.pointer (some ⟨h, 10, none⟩)] 88) (r1 : Blk w (u + 2) #[.pointer (some ⟨h, 11, none⟩)] 94) (r2 : Blk w (u + 2 + 1) #[.func (.func 58) #[] #[]] 95)
    (hB : Blk w h (x.cells AA cc EE dd) t) (hx : NtAt w x AA EE) (ok : NtOk x) (hp : x.peer.size ≤ 12 ∧ x.label.size ≤ 12) :
    Calls Try.prog 24 #[.slice A 12 c] w fun e w' => e = .returned (.string ⟨(noteB x).toArray⟩) ∧ Below w.heap.size w w' := by
  have k := write_any A (noteFds b v u x) c w hA (by
    intro f hf
    simp only [noteFds, List.mem_cons, List.mem_append, List.not_mem_nil, or_false] at hf
    rcases hf with rfl | rfl | rfl | rfl | rfl | rfl | hf | rfl | rfl
    · exact ⟨_, k0, hB.cell 0, ok.k.1, ok.k.2⟩
    · exact ⟨_, k1, hB.cell 1, by have := ok.ag; omega⟩
    · exact ⟨_, k2, hB.cell 2, by have := ok.se; omega⟩
    · exact ⟨_, k3, hB.cell 3, ok.seat.1, ok.seat.2⟩
    · exact ⟨_, k4, hB.cell 4, by omega⟩
    · exact ⟨_, k5, hB.cell 5, by omega⟩
    · exact vlFds_at (h := h) (o := 6) q0 q1 q2 q3 q4 ⟨hB.cell 6, hB.cell 7, hB.cell 8, hB.cell 9⟩ hx.a ok.v f hf
    · exact ⟨_, r0, hB.cell 10, ok.proc.1, ok.proc.2⟩
    · exact ⟨by have := envB_len ok.env ok.le; omega, fun W hw => listB1_any _ _ EE x.env dd W (r1.belowS hw) (r2.belowS hw) ((hB.belowS hw).cell 11) (hx.e.below hw) ok.le ok.env⟩) (by simp [noteFds, vlFds])
  rw [noteFds_bytes] at k
  exact k
/-- A note's bytes, and the fault. -/
def noteTF (x : Nt) : ByteArray × Int := if mayF x then (if 4096 < (noteB x).length then (eS, 3801) else (⟨(noteB x).toArray⟩, 0)) else (eS, 3800)
set_option maxRecDepth 100000 in
set_option maxHeartbeats 1600000 in
theorem note_all (x : Nt) (A E : Option Addr) (c d : Nat) (w : World) (hx : NtAt w x A E) (ok : NtOk x) :
    Calls Try.prog 14 #[.agg (x.cells A c E d)] w fun e w' => e = .returned (.tuple #[.string (noteTF x).1, .int .i64 (noteTF x).2]) ∧ Below w.heap.size w w' := by
  have CM := Lib.hid (fun W (hw : Below w.heap.size w W) => noteMay_any x A E c d W (hx.below hw))
  have HTF := Lib.hid (show noteTF x = if mayF x then (if 4096 < (noteB x).length then (eS, 3801) else (⟨(noteB x).toArray⟩, 0)) else (eS, 3800) from rfl)
  have HSZ := Lib.hid (fun h => may_sizes (x := x) h)
  have HNL := Lib.hid (fun h => noteB_len (x := x) ok h)
  have HWN := Lib.hid (fun A' b v u c' h W t => write_note A' b v u c' h x A E c d W t)
  have HX := Lib.hid hx
  have HOK := Lib.hid ok
  have HMF := Lib.hid (show mayF x = mayF x from rfl)
  generalize hcl : x.cells A c E d = cl at *
  have HCL := Lib.hid hcl
  have HB := Lib.hid (Blk.new w cl 41)
  have BF := Lib.hid (below_allocS (Below.refl _ _) (.cells cl 41) : Below w.heap.size w (w.alloc (.cells cl 41)))
  generalize noteB x = BT at *
  clear hx ok
  obtain ⟨k, ag, se, st, pe, la, v, pr, en⟩ := x
  simp only [Nt.cells] at hcl
  subst hcl
  generalize noteTF ⟨k, ag, se, st, pe, la, v, pr, en⟩ = TF at *
  go_enter Try.func14, Try.ntmps14
  go_wp2_with fail
  refine (CM.out _ BF.out).mono ?_
  rintro e w1 ⟨rfl, hb1⟩
  have B1 := Lib.hid (below_next BF.out hb1)
  have HB1 := Lib.hid (HB.out.belowS hb1)
  clear hb1 CM
  rcases hmay : mayF ⟨k, ag, se, st, pe, la, v, pr, en⟩ with _ | _
  · rw [hmay] at HTF
    go_wp2_with fail
    go_ret2
    rw [HTF.out]
    exact ⟨rfl, B1.out⟩
  · have HSZ := Lib.hid (HSZ.out hmay)
    have hbl := HNL.out HSZ.out
    rw [hmay, if_pos rfl] at HTF
    have CN := Lib.hid (noteP_any w.heap.size w1 41 _ HB1.out)
    go_wp2_with fail
    refine CN.out.mono ?_
    rintro e w2 ⟨A', b, v', u, c', rfl, hA, k0, k1, k2, k3, k4, k5, q0, q1, q2, q3, q4, r0, r1, r2, _, _, _, _, hb2⟩
    have CW := Lib.hid (HWN.out A' b v' u c' _ w2 _ hA k0 k1 k2 k3 k4 k5 q0 q1 q2 q3 q4 r0 r1 r2 (HB1.out.belowS hb2) (HX.out.below (below_next B1.out hb2)) HOK.out HSZ.out)
    have B2 := Lib.hid (below_next B1.out hb2)
    clear hA k0 k1 k2 k3 k4 k5 q0 q1 q2 q3 q4 r0 r1 r2 hb2 CN
    go_wp2_with fail
    refine CW.out.mono ?_
    rintro e w3 ⟨rfl, hb3⟩
    have B3 := Lib.hid (below_next B2.out hb3)
    clear hb3 CW
    by_cases hs : 4096 < BT.length
    · have hd : decide ((4096 : Int) < (BT.length : Int)) = true := by simp; omega
      go_wp2_with fail
      go_ret2
      rw [HTF.out, if_pos hs]
      exact ⟨rfl, B3.out⟩
    · have hd : decide ((4096 : Int) < (BT.length : Int)) = false := by simp; omega
      go_wp2_with fail
      go_ret2
      rw [HTF.out, if_neg hs]
      exact ⟨rfl, B3.out⟩
end Go.Proofs.Ytfaophiaiflecaa
