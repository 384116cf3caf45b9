/- The small case that each law begins with: it is true. -/
import Derived.Test.YtjbdjijfbpiccaaDoorLnG
namespace Go.Proofs.YtjbdjijfbpiccaaDoor
open Go.RowKit Go.MapKept
set_option linter.unusedSimpArgs false
set_option linter.unusedVariables false

def noText : ByteArray := ⟨#[]⟩
def urlText : ByteArray := ⟨#[104, 116, 116, 112, 115, 58, 47, 47, 97, 47]⟩
def getText : ByteArray := ⟨#[71, 69, 84]⟩
def evSend : Ev := ⟨8, 0, 1, ⟨#[]⟩, ⟨#[]⟩, ⟨#[]⟩, ⟨#[]⟩, 0, 0, 0⟩
def evPage : Ev := ⟨1, 0, 0, ⟨#[104, 116, 116, 112, 115, 58, 47, 47, 97, 47]⟩, ⟨#[]⟩, ⟨#[]⟩, ⟨#[]⟩, 0, 0, 0⟩
def evStart : Ev := ⟨3, 0, 1, ⟨#[71, 69, 84]⟩, ⟨#[104, 116, 116, 112, 115, 58, 47, 47, 97, 47]⟩, ⟨#[]⟩, ⟨#[]⟩, 0, 0, 0⟩
def evDone : Ev := ⟨14, 0, 1, ⟨#[]⟩, ⟨#[]⟩, ⟨#[]⟩, ⟨#[]⟩, 0, 0, 0⟩
def evResp : Ev := ⟨10, 0, 1, ⟨#[]⟩, ⟨#[]⟩, ⟨#[]⟩, ⟨#[]⟩, 200, 0, 0⟩

def st1 : LSt := newSt.after evSend
def st2 : LSt := st1.after evPage
def st3 : LSt := st2.after evStart
def st4 : LSt := st3.after evSend
def st5 : LSt := st4.after evDone
def st6 : LSt := st5.after evResp
def st7 : LSt := st6.after evDone
def st8 : LSt := st7.after evStart
theorem an1 : newSt.answer evSend = 6 := by kernel_rfl
theorem an2 : st1.answer evPage = 0 := by kernel_rfl
theorem an3 : st2.answer evStart = 0 := by kernel_rfl
theorem an4 : st3.answer evSend = 0 := by kernel_rfl
theorem an5 : st4.answer evDone = 6 := by kernel_rfl
theorem an6 : st5.answer evResp = 0 := by kernel_rfl
theorem an7 : st6.answer evDone = 0 := by kernel_rfl
theorem an8 : st7.answer evStart = 6 := by kernel_rfl
theorem an9 : st8.count = 5 := by kernel_rfl
theorem an10 : st8.opn = 0 := by kernel_rfl

/-- a step of shown -/
structure Sh (w W : World) (p b : Nat) (st : LSt) : Prop where
  line : IsLine W p b st
  kinds : KindsAt W
  below : Below w.heap.size w W
  lt : w.heap.size ≤ p ∧ w.heap.size ≤ b
theorem Sh.step {w W W' : World} {p b : Nat} {st st' : LSt} (h : Sh w W p b st) (hl : IsLine W' p b st') (k : Kp (Two p b) W W') : Sh w W' p b st' :=
  ⟨hl, h.kinds.kp k (by rintro (q | q); exact (h.kinds.ne_line h.line).1 q.symm; exact (h.kinds.ne_line h.line).2 q.symm), h.below.trans (k.below (by rintro i (rfl | rfl); exact h.lt.1; exact h.lt.2) h.below.size), h.lt⟩

set_option maxHeartbeats 2000000 in
theorem shown_calls (w : World) (hK : KindsAt w) : Calls Tryd.prog 8 #[] w fun e w' => e = .returned (.bool true) ∧ Below w.heap.size w w' := by
  have HK := Lib.hid hK
  clear hK
  go_enter Tryd.func8, Tryd.ntmps8
  go_wp2_with fail
  refine (new_calls w).mono ?_
  rintro e0 w0 ⟨p, b, rfl, hp, hb, hl, hB⟩
  have H0 : Hid (Sh w w0 p b newSt) := Lib.hid ⟨hl, (HK.out.kp (Kp.of_below (S := Non) hB) (fun q => q)), hB, hp, hb⟩
  clear hl hB hp hb HK
  go_wp2_with fail
  refine (feed_calls p b newSt evSend _ H0.out.line H0.out.kinds).mono ?_
  rw [an1]
  rintro e1 w1 ⟨rfl, hl, hk⟩
  have H1 : Hid (Sh w w1 p b st1) := Lib.hid (H0.out.step hl hk)
  clear hl hk H0
  go_wp2_with fail
  refine (feed_calls p b st1 evPage _ H1.out.line H1.out.kinds).mono ?_
  rw [an2]
  rintro e2 w2 ⟨rfl, hl, hk⟩
  have H2 : Hid (Sh w w2 p b st2) := Lib.hid (H1.out.step hl hk)
  clear hl hk H1
  go_wp2_with fail
  refine (feed_calls p b st2 evStart _ H2.out.line H2.out.kinds).mono ?_
  rw [an3]
  rintro e3 w3 ⟨rfl, hl, hk⟩
  have H3 : Hid (Sh w w3 p b st3) := Lib.hid (H2.out.step hl hk)
  clear hl hk H2
  go_wp2_with fail
  refine (feed_calls p b st3 evSend _ H3.out.line H3.out.kinds).mono ?_
  rw [an4]
  rintro e4 w4 ⟨rfl, hl, hk⟩
  have H4 : Hid (Sh w w4 p b st4) := Lib.hid (H3.out.step hl hk)
  clear hl hk H3
  go_wp2_with fail
  refine (feed_calls p b st4 evDone _ H4.out.line H4.out.kinds).mono ?_
  rw [an5]
  rintro e5 w5 ⟨rfl, hl, hk⟩
  have H5 : Hid (Sh w w5 p b st5) := Lib.hid (H4.out.step hl hk)
  clear hl hk H4
  go_wp2_with fail
  refine (feed_calls p b st5 evResp _ H5.out.line H5.out.kinds).mono ?_
  rw [an6]
  rintro e6 w6 ⟨rfl, hl, hk⟩
  have H6 : Hid (Sh w w6 p b st6) := Lib.hid (H5.out.step hl hk)
  clear hl hk H5
  go_wp2_with fail
  refine (feed_calls p b st6 evDone _ H6.out.line H6.out.kinds).mono ?_
  rw [an7]
  rintro e7 w7 ⟨rfl, hl, hk⟩
  have H7 : Hid (Sh w w7 p b st7) := Lib.hid (H6.out.step hl hk)
  clear hl hk H6
  go_wp2_with fail
  refine (feed_calls p b st7 evStart _ H7.out.line H7.out.kinds).mono ?_
  rw [an8]
  rintro e8 w8 ⟨rfl, hl, hk⟩
  have H8 : Hid (Sh w w8 p b st8) := Lib.hid (H7.out.step hl hk)
  clear hl hk H7
  go_wp2_with fail
  refine (count_calls p b st8 _ H8.out.line).mono ?_
  rw [an9]
  rintro e9 w9 ⟨rfl, rfl⟩
  go_wp2_with fail
  refine (open_calls p b st8 _ H8.out.line).mono ?_
  rw [an10]
  rintro e10 w10 ⟨rfl, rfl⟩
  go_wp2_with fail
  go_ret
  exact ⟨rfl, H8.out.below⟩
end Go.Proofs.YtjbdjijfbpiccaaDoor
