/- line.Line.Feed: the contract. -/
import Derived.Test.YtjbdjijfbpiccaaDoorLnM
namespace Go.Proofs.YtjbdjijfbpiccaaDoor
open Go.RowKit Go.MapKept
set_option linter.unusedSimpArgs false
set_option linter.unusedVariables false

def LSt.goesOpen (k : Int) (st : LSt) : Int := (if k = 3 then st.opn + 1 else st.opn) - (if k ≠ 3 ∧ (wayOf k).2 = 0 then 1 else 0)
/-- the state behind an event that is taken -/
def LSt.next (st : LSt) (e : Ev) : LSt :=
  if e.kind = 1 ∨ e.kind = 2 then { st with count := st.count + 1, last := e.time }
  else { count := st.count + 1, last := e.time, opn := st.goesOpen e.kind,
         at_ := fun i => if i = e.id then some (if e.kind = 3 then 1 else (wayOf e.kind).2) else st.at_ i,
         n := if (st.at_ e.id).isSome then st.n else st.n + 1 }
def LSt.answer (st : LSt) (e : Ev) : Int :=
  if rightB e = false then 1 else if st.count = 4096 then 5 else if e.time < st.last ∨ st.mayB e = false then 6
  else if e.kind = 3 ∧ st.opn = 64 then 5 else 0
def LSt.after (st : LSt) (e : Ev) : LSt := if st.answer e = 0 then st.next e else st

theorem KindsAt.kp {S : Nat → Prop} {w w' : World} (h : KindsAt w) (k : Kp S w w') (hs : ¬ S 0) : KindsAt w' := fun i n hn => k.cell (h i n hn) hs
theorem KindsAt.ne_line {w : World} {p b : Nat} {st : LSt} (h : KindsAt w) (hl : IsLine w p b st) : p ≠ 0 ∧ b ≠ 0 := by
  have h59 := h 59 0 rfl
  refine ⟨?_, ?_⟩
  · rintro rfl
    rw [row_cell hl.row] at h59
    simp at h59
  · rintro rfl
    obtain ⟨es, c, hb, _⟩ := hl.map
    simp [World.cell?, hb] at h59

/-- what is at hand behind the call of Right -/
structure Boxed2 (w w1 : World) (p b : Nat) (st : LSt) (e : Ev) : Prop where
  line : IsLine w1 p b st
  box : w1.heap[w.heap.size]? = some (.cells e.cells 30 (0, 0))
  below : Below w.heap.size w w1
theorem boxed2 {w w1 : World} {p b : Nat} {st : LSt} {e : Ev} (h : IsLine w p b st) (hB : Below (w.alloc (.cells e.cells 30)).heap.size (w.alloc (.cells e.cells 30)) w1) : Boxed2 w w1 p b st e := by
  have hb : Below w.heap.size w w1 := ((Below.refl _ _).alloc (Nat.le_refl _) _).trans (hB.mono (by simp))
  exact ⟨h.kp (Kp.of_below (S := Non) hb) (fun q => q) (fun q => q), (hB.block _ (by simp)).trans (row_new _ _), hb⟩
theorem feed_wrong (p b : Nat) (st : LSt) (e : Ev) (w : World) (h : IsLine w p b st) (hK : KindsAt w) (hr : rightB e = false) : Calls Tryd.prog 10 #[.pointer (some ⟨p, 0, none⟩), e.val] w fun r w' => r = .returned (.int .i64 1) ∧ IsLine w' p b st ∧ Kp (Two p b) w w' := by
  unfold Ev.val
  have HL := Lib.hid h
  have HK := Lib.hid hK
  clear h hK
  go_enter Tryd.func10, Tryd.ntmps10
  go_wp2_with fail
  refine (right_calls e _ (HK.out.kp ((Kp.refl Non w).alloc _) (fun q => q))).mono ?_
  rintro e1 w1 ⟨rfl, hB1⟩
  have HB := Lib.hid (boxed2 HL.out hB1)
  clear hB1 HL HK
  rw [hr]
  clear hr
  go_wp2
  go_ret
  exact ⟨rfl, HB.out.line, Kp.of_below HB.out.below⟩

theorem feed_full (p b : Nat) (st : LSt) (e : Ev) (w : World) (h : IsLine w p b st) (hK : KindsAt w) (hr : rightB e = true) (hc : st.count = 4096) : Calls Tryd.prog 10 #[.pointer (some ⟨p, 0, none⟩), e.val] w fun r w' => r = .returned (.int .i64 5) ∧ IsLine w' p b st ∧ Kp (Two p b) w w' := by
  unfold Ev.val
  have HL := Lib.hid h
  have HK := Lib.hid hK
  clear h hK
  go_enter Tryd.func10, Tryd.ntmps10
  go_wp2_with fail
  refine (right_calls e _ (HK.out.kp ((Kp.refl Non w).alloc _) (fun q => q))).mono ?_
  rintro e1 w1 ⟨rfl, hB1⟩
  have HB := Lib.hid (boxed2 HL.out hB1)
  clear hB1 HL HK
  rw [hr]
  have hc' : (st.count == 4096) = true := by simpa using hc
  have c0 := HB.out.line.c0
  clear hr hc
  go_wp2
  go_ret
  exact ⟨rfl, HB.out.line, Kp.of_below HB.out.below⟩

theorem feed_late (p b : Nat) (st : LSt) (e : Ev) (w : World) (h : IsLine w p b st) (hK : KindsAt w) (hr : rightB e = true) (hc : st.count ≠ 4096) (ht : e.time < st.last) : Calls Tryd.prog 10 #[.pointer (some ⟨p, 0, none⟩), e.val] w fun r w' => r = .returned (.int .i64 6) ∧ IsLine w' p b st ∧ Kp (Two p b) w w' := by
  unfold Ev.val
  have HL := Lib.hid h
  have HK := Lib.hid hK
  clear h hK
  go_enter Tryd.func10, Tryd.ntmps10
  go_wp2_with fail
  refine (right_calls e _ (HK.out.kp ((Kp.refl Non w).alloc _) (fun q => q))).mono ?_
  rintro e1 w1 ⟨rfl, hB1⟩
  have HB := Lib.hid (boxed2 HL.out hB1)
  clear hB1 HL HK
  rw [hr]
  have hc' : (st.count == 4096) = false := by simpa using hc
  have c0 := HB.out.line.c0
  have c1 := HB.out.line.c1
  clear hr hc
  have x1 : w1.cell? ⟨w.heap.size, 1, none⟩ = some (.int .u64 e.time) := row_cell HB.out.box 1
  go_wp2_with fail
  go_quiet (fail)
  go_wp2
  go_ret
  exact ⟨rfl, HB.out.line.kp ((Kp.refl Non _).drewN _) (fun q => q) (fun q => q), (Kp.of_below HB.out.below).drewN _⟩

theorem Boxed2.trans {w w1 w2 : World} {p b : Nat} {st : LSt} {e : Ev} (h : Boxed2 w w1 p b st e) (hB : Below w1.heap.size w1 w2) : Boxed2 w w2 p b st e :=
  ⟨h.line.kp (Kp.of_below (S := Non) hB) (fun q => q) (fun q => q), (hB.block _ (row_lt h.box)).trans h.box, h.below.trans (hB.mono h.below.size)⟩
theorem below_of_drew {w w' : World} (h : Below w.drew.heap.size w.drew w') : Below w.heap.size w w' := ⟨h.os, h.tape, h.output, h.size, h.block⟩

theorem feed_not (p b : Nat) (st : LSt) (e : Ev) (w : World) (h : IsLine w p b st) (hK : KindsAt w) (hr : rightB e = true) (hc : st.count ≠ 4096) (ht : ¬ e.time < st.last) (hm : st.mayB e = false) : Calls Tryd.prog 10 #[.pointer (some ⟨p, 0, none⟩), e.val] w fun r w' => r = .returned (.int .i64 6) ∧ IsLine w' p b st ∧ Kp (Two p b) w w' := by
  unfold Ev.val
  have HL := Lib.hid h
  have HK := Lib.hid hK
  clear h hK
  go_enter Tryd.func10, Tryd.ntmps10
  go_wp2_with fail
  refine (right_calls e _ (HK.out.kp ((Kp.refl Non w).alloc _) (fun q => q))).mono ?_
  rintro e1 w1 ⟨rfl, hB1⟩
  have HB := Lib.hid (boxed2 HL.out hB1)
  clear hB1 HL HK
  rw [hr]
  have hc' : (st.count == 4096) = false := by simpa using hc
  have c0 := HB.out.line.c0
  have c1 := HB.out.line.c1
  have hd : decide (e.time < st.last) = false := by simpa using ht
  clear hr hc
  have x0 : w1.cell? ⟨w.heap.size, 0, none⟩ = some (.int .i64 e.kind) := row_cell HB.out.box 0
  have x1 : w1.cell? ⟨w.heap.size, 1, none⟩ = some (.int .u64 e.time) := row_cell HB.out.box 1
  have x2 : w1.cell? ⟨w.heap.size, 2, none⟩ = some (.int .u64 e.id) := row_cell HB.out.box 2
  have x3 : w1.cell? ⟨w.heap.size, 3, none⟩ = some (.string e.a) := row_cell HB.out.box 3
  have x4 : w1.cell? ⟨w.heap.size, 4, none⟩ = some (.string e.b) := row_cell HB.out.box 4
  have x5 : w1.cell? ⟨w.heap.size, 5, none⟩ = some (.string e.c) := row_cell HB.out.box 5
  have x6 : w1.cell? ⟨w.heap.size, 6, none⟩ = some (.string e.d) := row_cell HB.out.box 6
  have x7 : w1.cell? ⟨w.heap.size, 7, none⟩ = some (.int .i64 e.x) := row_cell HB.out.box 7
  have x8 : w1.cell? ⟨w.heap.size, 8, none⟩ = some (.int .i64 e.y) := row_cell HB.out.box 8
  have x9 : w1.cell? ⟨w.heap.size, 9, none⟩ = some (.int .i64 e.z) := row_cell HB.out.box 9
  go_wp2_with fail
  go_region_held3 (fun W => W.cell? ⟨w.heap.size, 0, none⟩ = some (.int .i64 e.kind) ∧ W.cell? ⟨w.heap.size, 1, none⟩ = some (.int .u64 e.time) ∧ W.cell? ⟨w.heap.size, 2, none⟩ = some (.int .u64 e.id) ∧ W.cell? ⟨w.heap.size, 3, none⟩ = some (.string e.a) ∧ W.cell? ⟨w.heap.size, 4, none⟩ = some (.string e.b) ∧ W.cell? ⟨w.heap.size, 5, none⟩ = some (.string e.c) ∧ W.cell? ⟨w.heap.size, 6, none⟩ = some (.string e.d) ∧ W.cell? ⟨w.heap.size, 7, none⟩ = some (.int .i64 e.x) ∧ W.cell? ⟨w.heap.size, 8, none⟩ = some (.int .i64 e.y) ∧ W.cell? ⟨w.heap.size, 9, none⟩ = some (.int .i64 e.z) ∧ W.cell? ⟨p, 1, none⟩ = some (.int .u64 st.last)) (first | exact ⟨x0, x1, x2, x3, x4, x5, x6, x7, x8, x9, c1⟩ | exact ⟨y0, y1, y2, y3, y4, y5, y6, y7, y8, y9, d1⟩) (first
    | (go_at_call 21; refine (may_calls p b st e _ (HB.out.line.kp ((Kp.refl Non _).drew) (fun q => q) (fun q => q))).mono ?_; rintro e2 w2 ⟨rfl, hB2⟩; have HB2 := Lib.hid (HB.out.trans (below_of_drew hB2)); clear hB2; have y0 : w2.cell? ⟨w.heap.size, 0, none⟩ = some (.int .i64 e.kind) := row_cell HB2.out.box 0; have y1 : w2.cell? ⟨w.heap.size, 1, none⟩ = some (.int .u64 e.time) := row_cell HB2.out.box 1; have y2 : w2.cell? ⟨w.heap.size, 2, none⟩ = some (.int .u64 e.id) := row_cell HB2.out.box 2; have y3 : w2.cell? ⟨w.heap.size, 3, none⟩ = some (.string e.a) := row_cell HB2.out.box 3; have y4 : w2.cell? ⟨w.heap.size, 4, none⟩ = some (.string e.b) := row_cell HB2.out.box 4; have y5 : w2.cell? ⟨w.heap.size, 5, none⟩ = some (.string e.c) := row_cell HB2.out.box 5; have y6 : w2.cell? ⟨w.heap.size, 6, none⟩ = some (.string e.d) := row_cell HB2.out.box 6; have y7 : w2.cell? ⟨w.heap.size, 7, none⟩ = some (.int .i64 e.x) := row_cell HB2.out.box 7; have y8 : w2.cell? ⟨w.heap.size, 8, none⟩ = some (.int .i64 e.y) := row_cell HB2.out.box 8; have y9 : w2.cell? ⟨w.heap.size, 9, none⟩ = some (.int .i64 e.z) := row_cell HB2.out.box 9; have d1 := HB2.out.line.c1))
  rename_i hHeld
  clear hHeld x0 x1 x2 x3 x4 x5 x6 x7 x8 x9 c0 c1
  go_wp2
  go_ret
  exact ⟨rfl, HB2.out.line, Kp.of_below HB2.out.below⟩

theorem feed_many (p b : Nat) (st : LSt) (e : Ev) (w : World) (h : IsLine w p b st) (hK : KindsAt w) (hr : rightB e = true) (hc : st.count ≠ 4096) (ht : ¬ e.time < st.last) (hm : st.mayB e = true) (hk : e.kind = 3) (ho : st.opn = 64) : Calls Tryd.prog 10 #[.pointer (some ⟨p, 0, none⟩), e.val] w fun r w' => r = .returned (.int .i64 5) ∧ IsLine w' p b st ∧ Kp (Two p b) w w' := by
  have hk' : (e.kind == 3) = true := by simpa using hk
  have ho' : (st.opn == 64) = true := by simpa using ho
  clear hk ho
  unfold Ev.val
  have HL := Lib.hid h
  have HK := Lib.hid hK
  clear h hK
  go_enter Tryd.func10, Tryd.ntmps10
  go_wp2_with fail
  refine (right_calls e _ (HK.out.kp ((Kp.refl Non w).alloc _) (fun q => q))).mono ?_
  rintro e1 w1 ⟨rfl, hB1⟩
  have HB := Lib.hid (boxed2 HL.out hB1)
  clear hB1 HL HK
  rw [hr]
  have hc' : (st.count == 4096) = false := by simpa using hc
  have c0 := HB.out.line.c0
  have c1 := HB.out.line.c1
  have hd : decide (e.time < st.last) = false := by simpa using ht
  clear hr hc
  have x0 : w1.cell? ⟨w.heap.size, 0, none⟩ = some (.int .i64 e.kind) := row_cell HB.out.box 0
  have x1 : w1.cell? ⟨w.heap.size, 1, none⟩ = some (.int .u64 e.time) := row_cell HB.out.box 1
  have x2 : w1.cell? ⟨w.heap.size, 2, none⟩ = some (.int .u64 e.id) := row_cell HB.out.box 2
  have x3 : w1.cell? ⟨w.heap.size, 3, none⟩ = some (.string e.a) := row_cell HB.out.box 3
  have x4 : w1.cell? ⟨w.heap.size, 4, none⟩ = some (.string e.b) := row_cell HB.out.box 4
  have x5 : w1.cell? ⟨w.heap.size, 5, none⟩ = some (.string e.c) := row_cell HB.out.box 5
  have x6 : w1.cell? ⟨w.heap.size, 6, none⟩ = some (.string e.d) := row_cell HB.out.box 6
  have x7 : w1.cell? ⟨w.heap.size, 7, none⟩ = some (.int .i64 e.x) := row_cell HB.out.box 7
  have x8 : w1.cell? ⟨w.heap.size, 8, none⟩ = some (.int .i64 e.y) := row_cell HB.out.box 8
  have x9 : w1.cell? ⟨w.heap.size, 9, none⟩ = some (.int .i64 e.z) := row_cell HB.out.box 9
  go_wp2_with fail
  go_region_held3 (fun W => W.cell? ⟨w.heap.size, 0, none⟩ = some (.int .i64 e.kind) ∧ W.cell? ⟨w.heap.size, 1, none⟩ = some (.int .u64 e.time) ∧ W.cell? ⟨w.heap.size, 2, none⟩ = some (.int .u64 e.id) ∧ W.cell? ⟨w.heap.size, 3, none⟩ = some (.string e.a) ∧ W.cell? ⟨w.heap.size, 4, none⟩ = some (.string e.b) ∧ W.cell? ⟨w.heap.size, 5, none⟩ = some (.string e.c) ∧ W.cell? ⟨w.heap.size, 6, none⟩ = some (.string e.d) ∧ W.cell? ⟨w.heap.size, 7, none⟩ = some (.int .i64 e.x) ∧ W.cell? ⟨w.heap.size, 8, none⟩ = some (.int .i64 e.y) ∧ W.cell? ⟨w.heap.size, 9, none⟩ = some (.int .i64 e.z) ∧ W.cell? ⟨p, 1, none⟩ = some (.int .u64 st.last)) (first | exact ⟨x0, x1, x2, x3, x4, x5, x6, x7, x8, x9, c1⟩ | exact ⟨y0, y1, y2, y3, y4, y5, y6, y7, y8, y9, d1⟩) (first
    | (go_at_call 21; refine (may_calls p b st e _ (HB.out.line.kp ((Kp.refl Non _).drew) (fun q => q) (fun q => q))).mono ?_; rintro e2 w2 ⟨rfl, hB2⟩; have HB2 := Lib.hid (HB.out.trans (below_of_drew hB2)); clear hB2; have y0 : w2.cell? ⟨w.heap.size, 0, none⟩ = some (.int .i64 e.kind) := row_cell HB2.out.box 0; have y1 : w2.cell? ⟨w.heap.size, 1, none⟩ = some (.int .u64 e.time) := row_cell HB2.out.box 1; have y2 : w2.cell? ⟨w.heap.size, 2, none⟩ = some (.int .u64 e.id) := row_cell HB2.out.box 2; have y3 : w2.cell? ⟨w.heap.size, 3, none⟩ = some (.string e.a) := row_cell HB2.out.box 3; have y4 : w2.cell? ⟨w.heap.size, 4, none⟩ = some (.string e.b) := row_cell HB2.out.box 4; have y5 : w2.cell? ⟨w.heap.size, 5, none⟩ = some (.string e.c) := row_cell HB2.out.box 5; have y6 : w2.cell? ⟨w.heap.size, 6, none⟩ = some (.string e.d) := row_cell HB2.out.box 6; have y7 : w2.cell? ⟨w.heap.size, 7, none⟩ = some (.int .i64 e.x) := row_cell HB2.out.box 7; have y8 : w2.cell? ⟨w.heap.size, 8, none⟩ = some (.int .i64 e.y) := row_cell HB2.out.box 8; have y9 : w2.cell? ⟨w.heap.size, 9, none⟩ = some (.int .i64 e.z) := row_cell HB2.out.box 9; have d1 := HB2.out.line.c1))
  rename_i hHeld
  have hc0 : w2.cell? ⟨p, 0, none⟩ = some (.int .i64 st.count) := HB2.out.line.c0
  have hc1 : w2.cell? ⟨p, 1, none⟩ = some (.int .u64 st.last) := HB2.out.line.c1
  have hc3 : w2.cell? ⟨p, 3, none⟩ = some (.int .i64 st.opn) := HB2.out.line.c3
  clear x0 x1 x2 x3 x4 x5 x6 x7 x8 x9 c0 c1 y3 y4 y5 y6 y7 y8 y9 d1 hHeld HB hc' hd
  clear hm
  go_wp2
  go_ret
  exact ⟨rfl, HB2.out.line, Kp.of_below HB2.out.below⟩

/-- A cut: the world is forgotten but for what R says of it. -/
theorem gen_world {P : Program} {c : Code} {Q : Exit → Act → World → Prop} {a : Act} {w : World} (R : World → Prop) (h : R w) (k : ∀ W, R W → c.wp P Q a W) : c.wp P Q a w := k w h

theorem upd_f {st st' : LSt} {id v : Int} (h : st'.at_ = fun i => if i = id then some v else st.at_ i) : ∀ k, IsKey (.int .u64) k → st'.f k = upd st.f (.int .u64 id) (.int .i64 v) k := by
  intro k hk
  cases k <;> simp [IsKey] at hk
  subst hk
  rename_i x
  by_cases hx : x = id
  · subst hx; rw [upd_same]; simp [LSt.f, h]
  · rw [upd_other _ _ (by simpa using hx)]; simp [LSt.f, h, hx]

/-- the line's struct holds this; the rest as before -/
structure Mid (w W : World) (p b : Nat) (st : LSt) (e : Ev) (o : Int) : Prop where
  row : W.heap[p]? = some (.cells #[.int .i64 (st.count + 1), .int .u64 e.time, .map (some b), .int .i64 o] 44 (0, 0))
  map : MapIs W (.int .u64) b st.f st.n
  box : W.heap[w.heap.size]? = some (.cells e.cells 30 (0, 0))
  kp : Kp (Two p b) w W
  lt : p < w.heap.size ∧ b < w.heap.size

theorem Boxed2.mid {w w1 : World} {p b : Nat} {st : LSt} {e : Ev} (h : Boxed2 w w1 p b st e) (hl : p < w.heap.size ∧ b < w.heap.size) (h2 : 0 ≤ st.count) : Mid w ((w1.setCell ⟨p, 0, none⟩ (.int .i64 (st.count + 1))).setCell ⟨p, 1, none⟩ (.int .u64 e.time)) p b st e st.opn := by
  have hbp := h.line.ne
  refine ⟨row_set (row_set h.line.row 0 _) 1 _, (h.line.map.setCell hbp _).setCell hbp _, row_far (row_far h.box (by simp; omega) _) (by simp; omega) _, ?_, hl⟩
  exact ((Kp.of_below h.below).setCell (.inl (.inl rfl)) _).setCell (.inl (.inl rfl)) _
theorem Mid.opn {w W : World} {p b : Nat} {st : LSt} {e : Ev} {o : Int} (h : Mid w W p b st e o) (o' : Int) : Mid w (W.setCell ⟨p, 3, none⟩ (.int .i64 o')) p b st e o' := by
  have hbp := h.map.ne_row h.row
  exact ⟨row_set h.row 3 _, h.map.setCell hbp _, row_far h.box (by have := h.lt.1; simp; omega) _, h.kp.setCell (.inl (.inl rfl)) _, h.lt⟩
theorem Mid.below {w W W' : World} {p b : Nat} {st : LSt} {e : Ev} {o : Int} (h : Mid w W p b st e o) (k : Below W.heap.size W W') : Mid w W' p b st e o :=
  ⟨(k.block _ (row_lt h.row)).trans h.row, h.map.of_heap (k.block _ h.map.lt), (k.block _ (row_lt h.box)).trans h.box, h.kp.andThen (Kp.of_below (S := Non) k) (fun _ _ q => q.elim), h.lt⟩
theorem Mid.drew {w W : World} {p b : Nat} {st : LSt} {e : Ev} {o : Int} (h : Mid w W p b st e o) : Mid w W.drew p b st e o := ⟨h.row, h.map, h.box, h.kp.drew, h.lt⟩

theorem next_ok {st : LSt} (h : st.ok) (hc : st.count ≠ 4096) (e : Ev) : (st.next e).ok := by
  obtain ⟨h1, h2, h3, h4, h5⟩ := h
  unfold LSt.next
  split
  · refine ⟨?_, ?_, ?_, ?_, ?_⟩ <;> simp <;> omega
  · refine ⟨?_, ?_, ?_, ?_, ?_⟩ <;> simp [LSt.goesOpen] <;> (repeat' split) <;> omega

/-- the store into the map, behind all the rest -/
theorem Mid.put {w W : World} {p b : Nat} {st : LSt} {e : Ev} (hk : ¬ (e.kind = 1 ∨ e.kind = 2)) (h : Mid w W p b st e (st.goesOpen e.kind)) (hst : st.ok) (hc : st.count ≠ 4096) :
    ∃ W', (Instr.mapUpdate 42 (.map (some b)) (.int .u64 e.id) (.int .i64 (if e.kind = 3 then 1 else (wayOf e.kind).2))).run Tryd.prog W = .ok () W' ∧ IsLine W' p b (st.next e) ∧ Kp (Two p b) w W' ∧ W'.heap[w.heap.size]? = some (.cells e.cells 30 (0, 0)) := by
  obtain ⟨W', hrun, hM, hg, _⟩ := h.map.update Tryd.underlying42 Tryd.underlying23 (k := .int .u64 e.id) rfl (.int .i64 (if e.kind = 3 then 1 else (wayOf e.kind).2))
  have hbp := h.map.ne_row h.row
  refine ⟨W', hrun, ⟨?_, ?_, next_ok hst hc e⟩, h.kp.grown hg (fun k q => .inl (.inr (by cases q; rfl))), (hg.block _ (row_lt h.box) (by have := h.lt.2; simp; omega)).trans h.box⟩
  · rw [hg.block p (row_lt h.row) (by simpa using fun q => hbp q.symm), h.row]
    simp only [LSt.next, if_neg hk]
  · refine hM.congr (upd_f (by simp only [LSt.next, if_neg hk])) ?_
    rw [LSt.f_is]
    simp only [LSt.next, if_neg hk]

theorem feed_page (p b : Nat) (st : LSt) (e : Ev) (w : World) (h : IsLine w p b st) (hK : KindsAt w) (hr : rightB e = true) (hc : st.count ≠ 4096) (ht : ¬ e.time < st.last) (hm : st.mayB e = true) (hk : e.kind = 1 ∨ e.kind = 2) : Calls Tryd.prog 10 #[.pointer (some ⟨p, 0, none⟩), e.val] w fun r w' => r = .returned (.int .i64 0) ∧ IsLine w' p b (st.next e) ∧ Kp (Two p b) w w' := by
  have hb0 : 0 ≤ st.count := h.ok.1
  have hb1 : st.count ≤ 4096 := h.ok.2.1
  have hb2 : -st.count ≤ st.opn := h.ok.2.2.1
  have hb3 : st.opn ≤ st.count := h.ok.2.2.2.1
  have HLT := Lib.hid (And.intro (row_lt h.row) h.map.lt)
  have HOK := Lib.hid h.ok
  have HC := Lib.hid hc
  have hn : st.next e = { st with count := st.count + 1, last := e.time } := by simp only [LSt.next, if_pos hk]
  have HN : Hid (IsLine = IsLine ∧ st.next e = { st with count := st.count + 1, last := e.time }) := Lib.hid ⟨rfl, hn⟩
  have hk1 : (e.kind == 3) = false := by simp; omega
  have hk2 : (e.kind == 1 || e.kind == 2) = true := by simpa using hk
  have HK2 := Lib.hid hk
  clear hk hn
  unfold Ev.val
  have HL := Lib.hid h
  have HK := Lib.hid hK
  clear h hK
  go_enter Tryd.func10, Tryd.ntmps10
  go_wp2_with fail
  refine (right_calls e _ (HK.out.kp ((Kp.refl Non w).alloc _) (fun q => q))).mono ?_
  rintro e1 w1 ⟨rfl, hB1⟩
  have HB := Lib.hid (boxed2 HL.out hB1)
  clear hB1 HL HK
  rw [hr]
  have hc' : (st.count == 4096) = false := by simpa using hc
  have c0 := HB.out.line.c0
  have c1 := HB.out.line.c1
  have hd : decide (e.time < st.last) = false := by simpa using ht
  clear hr hc
  have x0 : w1.cell? ⟨w.heap.size, 0, none⟩ = some (.int .i64 e.kind) := row_cell HB.out.box 0
  have x1 : w1.cell? ⟨w.heap.size, 1, none⟩ = some (.int .u64 e.time) := row_cell HB.out.box 1
  have x2 : w1.cell? ⟨w.heap.size, 2, none⟩ = some (.int .u64 e.id) := row_cell HB.out.box 2
  have x3 : w1.cell? ⟨w.heap.size, 3, none⟩ = some (.string e.a) := row_cell HB.out.box 3
  have x4 : w1.cell? ⟨w.heap.size, 4, none⟩ = some (.string e.b) := row_cell HB.out.box 4
  have x5 : w1.cell? ⟨w.heap.size, 5, none⟩ = some (.string e.c) := row_cell HB.out.box 5
  have x6 : w1.cell? ⟨w.heap.size, 6, none⟩ = some (.string e.d) := row_cell HB.out.box 6
  have x7 : w1.cell? ⟨w.heap.size, 7, none⟩ = some (.int .i64 e.x) := row_cell HB.out.box 7
  have x8 : w1.cell? ⟨w.heap.size, 8, none⟩ = some (.int .i64 e.y) := row_cell HB.out.box 8
  have x9 : w1.cell? ⟨w.heap.size, 9, none⟩ = some (.int .i64 e.z) := row_cell HB.out.box 9
  go_wp2_with fail
  go_region_held3 (fun W => W.cell? ⟨w.heap.size, 0, none⟩ = some (.int .i64 e.kind) ∧ W.cell? ⟨w.heap.size, 1, none⟩ = some (.int .u64 e.time) ∧ W.cell? ⟨w.heap.size, 2, none⟩ = some (.int .u64 e.id) ∧ W.cell? ⟨w.heap.size, 3, none⟩ = some (.string e.a) ∧ W.cell? ⟨w.heap.size, 4, none⟩ = some (.string e.b) ∧ W.cell? ⟨w.heap.size, 5, none⟩ = some (.string e.c) ∧ W.cell? ⟨w.heap.size, 6, none⟩ = some (.string e.d) ∧ W.cell? ⟨w.heap.size, 7, none⟩ = some (.int .i64 e.x) ∧ W.cell? ⟨w.heap.size, 8, none⟩ = some (.int .i64 e.y) ∧ W.cell? ⟨w.heap.size, 9, none⟩ = some (.int .i64 e.z) ∧ W.cell? ⟨p, 1, none⟩ = some (.int .u64 st.last)) (first | exact ⟨x0, x1, x2, x3, x4, x5, x6, x7, x8, x9, c1⟩ | exact ⟨y0, y1, y2, y3, y4, y5, y6, y7, y8, y9, d1⟩) (first
    | (go_at_call 21; refine (may_calls p b st e _ (HB.out.line.kp ((Kp.refl Non _).drew) (fun q => q) (fun q => q))).mono ?_; rintro e2 w2 ⟨rfl, hB2⟩; have HB2 := Lib.hid (HB.out.trans (below_of_drew hB2)); clear hB2; have y0 : w2.cell? ⟨w.heap.size, 0, none⟩ = some (.int .i64 e.kind) := row_cell HB2.out.box 0; have y1 : w2.cell? ⟨w.heap.size, 1, none⟩ = some (.int .u64 e.time) := row_cell HB2.out.box 1; have y2 : w2.cell? ⟨w.heap.size, 2, none⟩ = some (.int .u64 e.id) := row_cell HB2.out.box 2; have y3 : w2.cell? ⟨w.heap.size, 3, none⟩ = some (.string e.a) := row_cell HB2.out.box 3; have y4 : w2.cell? ⟨w.heap.size, 4, none⟩ = some (.string e.b) := row_cell HB2.out.box 4; have y5 : w2.cell? ⟨w.heap.size, 5, none⟩ = some (.string e.c) := row_cell HB2.out.box 5; have y6 : w2.cell? ⟨w.heap.size, 6, none⟩ = some (.string e.d) := row_cell HB2.out.box 6; have y7 : w2.cell? ⟨w.heap.size, 7, none⟩ = some (.int .i64 e.x) := row_cell HB2.out.box 7; have y8 : w2.cell? ⟨w.heap.size, 8, none⟩ = some (.int .i64 e.y) := row_cell HB2.out.box 8; have y9 : w2.cell? ⟨w.heap.size, 9, none⟩ = some (.int .i64 e.z) := row_cell HB2.out.box 9; have d1 := HB2.out.line.c1))
  rename_i hHeld
  have hc0 : w2.cell? ⟨p, 0, none⟩ = some (.int .i64 st.count) := HB2.out.line.c0
  have hc1 : w2.cell? ⟨p, 1, none⟩ = some (.int .u64 st.last) := HB2.out.line.c1
  have hc3 : w2.cell? ⟨p, 3, none⟩ = some (.int .i64 st.opn) := HB2.out.line.c3
  clear x0 x1 x2 x3 x4 x5 x6 x7 x8 x9 c0 c1 y3 y4 y5 y6 y7 y8 y9 d1 hHeld HB hc' hd
  have g0 : ∀ v, (w2.setCell ⟨p, 0, none⟩ v).cell? ⟨w.heap.size, 0, none⟩ = some (.int .i64 e.kind) := fun v => row_cell (row_far HB2.out.box (by have := HLT.out.1; simp; omega) v) 0
  have f0 : w2.frozen? ⟨p, 0, none⟩ = false := row_frozen HB2.out.line.row 0
  have f1 : w2.frozen? ⟨p, 1, none⟩ = false := row_frozen HB2.out.line.row 1
  clear hm
  rcases HK2.out with hk | hk
  · have hk' : (e.kind == 1) = true := by simpa using hk
    clear hk hk2
    go_wp2
    go_ret
    refine ⟨rfl, ?_, (HB2.out.mid HLT.out hb0).kp⟩
    have hm := HB2.out.mid HLT.out hb0
    exact ⟨by rw [HN.out.2]; exact hm.row, by rw [HN.out.2]; exact hm.map.congr (fun _ _ => rfl) rfl, next_ok HOK.out HC.out e⟩
  · have hk' : (e.kind == 1) = false := by simp; omega
    have hk'' : (e.kind == 2) = true := by simpa using hk
    clear hk hk2
    go_wp2
    go_ret
    refine ⟨rfl, ?_, (HB2.out.mid HLT.out hb0).kp⟩
    have hm := HB2.out.mid HLT.out hb0
    exact ⟨by rw [HN.out.2]; exact hm.row, by rw [HN.out.2]; exact hm.map.congr (fun _ _ => rfl) rfl, next_ok HOK.out HC.out e⟩

theorem feed_start (p b : Nat) (st : LSt) (e : Ev) (w : World) (h : IsLine w p b st) (hK : KindsAt w) (hr : rightB e = true) (hc : st.count ≠ 4096) (ht : ¬ e.time < st.last) (hm : st.mayB e = true) (hk : e.kind = 3) (ho : st.opn ≠ 64) : Calls Tryd.prog 10 #[.pointer (some ⟨p, 0, none⟩), e.val] w fun r w' => r = .returned (.int .i64 0) ∧ IsLine w' p b (st.next e) ∧ Kp (Two p b) w w' := by
  have hb0 : 0 ≤ st.count := h.ok.1
  have hb1 : st.count ≤ 4096 := h.ok.2.1
  have hb2 : -st.count ≤ st.opn := h.ok.2.2.1
  have hb3 : st.opn ≤ st.count := h.ok.2.2.2.1
  have HLT := Lib.hid (And.intro (row_lt h.row) h.map.lt)
  have HOK := Lib.hid h.ok
  have HC := Lib.hid hc
  have HK3 := Lib.hid hk
  have hk1 : (e.kind == 3) = true := by simpa using hk
  have hk2 : (e.kind == 1) = false := by simp; omega
  have hk3 : (e.kind == 2) = false := by simp; omega
  have ho' : (st.opn == 64) = false := by simpa using ho
  clear hk ho
  unfold Ev.val
  have HL := Lib.hid h
  have HK := Lib.hid hK
  clear h hK
  go_enter Tryd.func10, Tryd.ntmps10
  go_wp2_with fail
  refine (right_calls e _ (HK.out.kp ((Kp.refl Non w).alloc _) (fun q => q))).mono ?_
  rintro e1 w1 ⟨rfl, hB1⟩
  have HB := Lib.hid (boxed2 HL.out hB1)
  clear hB1 HL HK
  rw [hr]
  have hc' : (st.count == 4096) = false := by simpa using hc
  have c0 := HB.out.line.c0
  have c1 := HB.out.line.c1
  have hd : decide (e.time < st.last) = false := by simpa using ht
  clear hr hc
  have x0 : w1.cell? ⟨w.heap.size, 0, none⟩ = some (.int .i64 e.kind) := row_cell HB.out.box 0
  have x1 : w1.cell? ⟨w.heap.size, 1, none⟩ = some (.int .u64 e.time) := row_cell HB.out.box 1
  have x2 : w1.cell? ⟨w.heap.size, 2, none⟩ = some (.int .u64 e.id) := row_cell HB.out.box 2
  have x3 : w1.cell? ⟨w.heap.size, 3, none⟩ = some (.string e.a) := row_cell HB.out.box 3
  have x4 : w1.cell? ⟨w.heap.size, 4, none⟩ = some (.string e.b) := row_cell HB.out.box 4
  have x5 : w1.cell? ⟨w.heap.size, 5, none⟩ = some (.string e.c) := row_cell HB.out.box 5
  have x6 : w1.cell? ⟨w.heap.size, 6, none⟩ = some (.string e.d) := row_cell HB.out.box 6
  have x7 : w1.cell? ⟨w.heap.size, 7, none⟩ = some (.int .i64 e.x) := row_cell HB.out.box 7
  have x8 : w1.cell? ⟨w.heap.size, 8, none⟩ = some (.int .i64 e.y) := row_cell HB.out.box 8
  have x9 : w1.cell? ⟨w.heap.size, 9, none⟩ = some (.int .i64 e.z) := row_cell HB.out.box 9
  go_wp2_with fail
  go_region_held3 (fun W => W.cell? ⟨w.heap.size, 0, none⟩ = some (.int .i64 e.kind) ∧ W.cell? ⟨w.heap.size, 1, none⟩ = some (.int .u64 e.time) ∧ W.cell? ⟨w.heap.size, 2, none⟩ = some (.int .u64 e.id) ∧ W.cell? ⟨w.heap.size, 3, none⟩ = some (.string e.a) ∧ W.cell? ⟨w.heap.size, 4, none⟩ = some (.string e.b) ∧ W.cell? ⟨w.heap.size, 5, none⟩ = some (.string e.c) ∧ W.cell? ⟨w.heap.size, 6, none⟩ = some (.string e.d) ∧ W.cell? ⟨w.heap.size, 7, none⟩ = some (.int .i64 e.x) ∧ W.cell? ⟨w.heap.size, 8, none⟩ = some (.int .i64 e.y) ∧ W.cell? ⟨w.heap.size, 9, none⟩ = some (.int .i64 e.z) ∧ W.cell? ⟨p, 1, none⟩ = some (.int .u64 st.last)) (first | exact ⟨x0, x1, x2, x3, x4, x5, x6, x7, x8, x9, c1⟩ | exact ⟨y0, y1, y2, y3, y4, y5, y6, y7, y8, y9, d1⟩) (first
    | (go_at_call 21; refine (may_calls p b st e _ (HB.out.line.kp ((Kp.refl Non _).drew) (fun q => q) (fun q => q))).mono ?_; rintro e2 w2 ⟨rfl, hB2⟩; have HB2 := Lib.hid (HB.out.trans (below_of_drew hB2)); clear hB2; have y0 : w2.cell? ⟨w.heap.size, 0, none⟩ = some (.int .i64 e.kind) := row_cell HB2.out.box 0; have y1 : w2.cell? ⟨w.heap.size, 1, none⟩ = some (.int .u64 e.time) := row_cell HB2.out.box 1; have y2 : w2.cell? ⟨w.heap.size, 2, none⟩ = some (.int .u64 e.id) := row_cell HB2.out.box 2; have y3 : w2.cell? ⟨w.heap.size, 3, none⟩ = some (.string e.a) := row_cell HB2.out.box 3; have y4 : w2.cell? ⟨w.heap.size, 4, none⟩ = some (.string e.b) := row_cell HB2.out.box 4; have y5 : w2.cell? ⟨w.heap.size, 5, none⟩ = some (.string e.c) := row_cell HB2.out.box 5; have y6 : w2.cell? ⟨w.heap.size, 6, none⟩ = some (.string e.d) := row_cell HB2.out.box 6; have y7 : w2.cell? ⟨w.heap.size, 7, none⟩ = some (.int .i64 e.x) := row_cell HB2.out.box 7; have y8 : w2.cell? ⟨w.heap.size, 8, none⟩ = some (.int .i64 e.y) := row_cell HB2.out.box 8; have y9 : w2.cell? ⟨w.heap.size, 9, none⟩ = some (.int .i64 e.z) := row_cell HB2.out.box 9; have d1 := HB2.out.line.c1))
  rename_i hHeld
  have hc0 : w2.cell? ⟨p, 0, none⟩ = some (.int .i64 st.count) := HB2.out.line.c0
  have hc1 : w2.cell? ⟨p, 1, none⟩ = some (.int .u64 st.last) := HB2.out.line.c1
  have hc3 : w2.cell? ⟨p, 3, none⟩ = some (.int .i64 st.opn) := HB2.out.line.c3
  clear x0 x1 x2 x3 x4 x5 x6 x7 x8 x9 c0 c1 y3 y4 y5 y6 y7 y8 y9 d1 hHeld HB hc' hd
  have g0 : ∀ v, (w2.setCell ⟨p, 0, none⟩ v).cell? ⟨w.heap.size, 0, none⟩ = some (.int .i64 e.kind) := fun v => row_cell (row_far HB2.out.box (by have := HLT.out.1; simp; omega) v) 0
  have f0 : w2.frozen? ⟨p, 0, none⟩ = false := row_frozen HB2.out.line.row 0
  have f1 : w2.frozen? ⟨p, 1, none⟩ = false := row_frozen HB2.out.line.row 1
  have f3 : w2.frozen? ⟨p, 3, none⟩ = false := row_frozen HB2.out.line.row 3
  clear hm
  go_wp2_with fail
  refine gen_world (fun W => Mid w W p b st e (st.goesOpen e.kind)) ?_ ?_
  · have hg : st.goesOpen e.kind = st.opn + 1 := by rw [HK3.out]; simp [LSt.goesOpen]
    rw [hg]
    exact (HB2.out.mid HLT.out hb0).opn _
  intro W hM
  have HM := Lib.hid hM
  clear hM y0 y1 y2 hc0 hc1 hc3 g0 f0 f1 f3
  obtain ⟨W4, hrun, hL, hkp, hbox⟩ := HM.out.drew.put (by rw [HK3.out]; omega) HOK.out HC.out
  rw [if_pos HK3.out] at hrun
  have p2 : W.drew.cell? ⟨p, 2, none⟩ = some (.map (some b)) := row_cell HM.out.row 2
  have q2 : W.drew.cell? ⟨w.heap.size, 2, none⟩ = some (.int .u64 e.id) := row_cell HM.out.box 2
  have p3 : W4.cell? ⟨p, 2, none⟩ = some (.map (some b)) := hL.c2
  have q3 : W4.cell? ⟨w.heap.size, 2, none⟩ = some (.int .u64 e.id) := row_cell hbox 2
  have HE := Lib.hid (And.intro hL hkp)
  clear hL hkp hbox
  go_region_held3 (fun W => W.cell? ⟨p, 2, none⟩ = some (.map (some b)) ∧ W.cell? ⟨w.heap.size, 2, none⟩ = some (.int .u64 e.id)) (first | exact ⟨p2, q2⟩ | exact ⟨p3, q3⟩) (first | fail)
  all_goals go_wp2
  all_goals go_ret
  all_goals exact ⟨rfl, HE.out.1, HE.out.2⟩

theorem feed_other (p b : Nat) (st : LSt) (e : Ev) (w : World) (h : IsLine w p b st) (hK : KindsAt w) (hr : rightB e = true) (hc : st.count ≠ 4096) (ht : ¬ e.time < st.last) (hm : st.mayB e = true) (hk : e.kind ≠ 1 ∧ e.kind ≠ 2 ∧ e.kind ≠ 3) : Calls Tryd.prog 10 #[.pointer (some ⟨p, 0, none⟩), e.val] w fun r w' => r = .returned (.int .i64 0) ∧ IsLine w' p b (st.next e) ∧ Kp (Two p b) w w' := by
  have hb0 : 0 ≤ st.count := h.ok.1
  have hb1 : st.count ≤ 4096 := h.ok.2.1
  have hb2 : -st.count ≤ st.opn := h.ok.2.2.1
  have hb3 : st.opn ≤ st.count := h.ok.2.2.2.1
  have HLT := Lib.hid (And.intro (row_lt h.row) h.map.lt)
  have HOK := Lib.hid h.ok
  have HC := Lib.hid hc
  have HK3 := Lib.hid hk
  have hk1 : (e.kind == 3) = false := by simpa using hk.2.2
  have hk2 : (e.kind == 1) = false := by simpa using hk.1
  have hk3 : (e.kind == 2) = false := by simpa using hk.2.1
  clear hk
  unfold Ev.val
  have HL := Lib.hid h
  have HK := Lib.hid hK
  clear h hK
  go_enter Tryd.func10, Tryd.ntmps10
  go_wp2_with fail
  refine (right_calls e _ (HK.out.kp ((Kp.refl Non w).alloc _) (fun q => q))).mono ?_
  rintro e1 w1 ⟨rfl, hB1⟩
  have HB := Lib.hid (boxed2 HL.out hB1)
  clear hB1 HL HK
  rw [hr]
  have hc' : (st.count == 4096) = false := by simpa using hc
  have c0 := HB.out.line.c0
  have c1 := HB.out.line.c1
  have hd : decide (e.time < st.last) = false := by simpa using ht
  clear hr hc
  have x0 : w1.cell? ⟨w.heap.size, 0, none⟩ = some (.int .i64 e.kind) := row_cell HB.out.box 0
  have x1 : w1.cell? ⟨w.heap.size, 1, none⟩ = some (.int .u64 e.time) := row_cell HB.out.box 1
  have x2 : w1.cell? ⟨w.heap.size, 2, none⟩ = some (.int .u64 e.id) := row_cell HB.out.box 2
  have x3 : w1.cell? ⟨w.heap.size, 3, none⟩ = some (.string e.a) := row_cell HB.out.box 3
  have x4 : w1.cell? ⟨w.heap.size, 4, none⟩ = some (.string e.b) := row_cell HB.out.box 4
  have x5 : w1.cell? ⟨w.heap.size, 5, none⟩ = some (.string e.c) := row_cell HB.out.box 5
  have x6 : w1.cell? ⟨w.heap.size, 6, none⟩ = some (.string e.d) := row_cell HB.out.box 6
  have x7 : w1.cell? ⟨w.heap.size, 7, none⟩ = some (.int .i64 e.x) := row_cell HB.out.box 7
  have x8 : w1.cell? ⟨w.heap.size, 8, none⟩ = some (.int .i64 e.y) := row_cell HB.out.box 8
  have x9 : w1.cell? ⟨w.heap.size, 9, none⟩ = some (.int .i64 e.z) := row_cell HB.out.box 9
  go_wp2_with fail
  go_region_held3 (fun W => W.cell? ⟨w.heap.size, 0, none⟩ = some (.int .i64 e.kind) ∧ W.cell? ⟨w.heap.size, 1, none⟩ = some (.int .u64 e.time) ∧ W.cell? ⟨w.heap.size, 2, none⟩ = some (.int .u64 e.id) ∧ W.cell? ⟨w.heap.size, 3, none⟩ = some (.string e.a) ∧ W.cell? ⟨w.heap.size, 4, none⟩ = some (.string e.b) ∧ W.cell? ⟨w.heap.size, 5, none⟩ = some (.string e.c) ∧ W.cell? ⟨w.heap.size, 6, none⟩ = some (.string e.d) ∧ W.cell? ⟨w.heap.size, 7, none⟩ = some (.int .i64 e.x) ∧ W.cell? ⟨w.heap.size, 8, none⟩ = some (.int .i64 e.y) ∧ W.cell? ⟨w.heap.size, 9, none⟩ = some (.int .i64 e.z) ∧ W.cell? ⟨p, 1, none⟩ = some (.int .u64 st.last)) (first | exact ⟨x0, x1, x2, x3, x4, x5, x6, x7, x8, x9, c1⟩ | exact ⟨y0, y1, y2, y3, y4, y5, y6, y7, y8, y9, d1⟩) (first
    | (go_at_call 21; refine (may_calls p b st e _ (HB.out.line.kp ((Kp.refl Non _).drew) (fun q => q) (fun q => q))).mono ?_; rintro e2 w2 ⟨rfl, hB2⟩; have HB2 := Lib.hid (HB.out.trans (below_of_drew hB2)); clear hB2; have y0 : w2.cell? ⟨w.heap.size, 0, none⟩ = some (.int .i64 e.kind) := row_cell HB2.out.box 0; have y1 : w2.cell? ⟨w.heap.size, 1, none⟩ = some (.int .u64 e.time) := row_cell HB2.out.box 1; have y2 : w2.cell? ⟨w.heap.size, 2, none⟩ = some (.int .u64 e.id) := row_cell HB2.out.box 2; have y3 : w2.cell? ⟨w.heap.size, 3, none⟩ = some (.string e.a) := row_cell HB2.out.box 3; have y4 : w2.cell? ⟨w.heap.size, 4, none⟩ = some (.string e.b) := row_cell HB2.out.box 4; have y5 : w2.cell? ⟨w.heap.size, 5, none⟩ = some (.string e.c) := row_cell HB2.out.box 5; have y6 : w2.cell? ⟨w.heap.size, 6, none⟩ = some (.string e.d) := row_cell HB2.out.box 6; have y7 : w2.cell? ⟨w.heap.size, 7, none⟩ = some (.int .i64 e.x) := row_cell HB2.out.box 7; have y8 : w2.cell? ⟨w.heap.size, 8, none⟩ = some (.int .i64 e.y) := row_cell HB2.out.box 8; have y9 : w2.cell? ⟨w.heap.size, 9, none⟩ = some (.int .i64 e.z) := row_cell HB2.out.box 9; have d1 := HB2.out.line.c1))
  rename_i hHeld
  have hc0 : w2.cell? ⟨p, 0, none⟩ = some (.int .i64 st.count) := HB2.out.line.c0
  have hc1 : w2.cell? ⟨p, 1, none⟩ = some (.int .u64 st.last) := HB2.out.line.c1
  have hc3 : w2.cell? ⟨p, 3, none⟩ = some (.int .i64 st.opn) := HB2.out.line.c3
  clear x0 x1 x2 x3 x4 x5 x6 x7 x8 x9 c0 c1 y3 y4 y5 y6 y7 y8 y9 d1 hHeld HB hc' hd
  have g0 : ∀ v, (w2.setCell ⟨p, 0, none⟩ v).cell? ⟨w.heap.size, 0, none⟩ = some (.int .i64 e.kind) := fun v => row_cell (row_far HB2.out.box (by have := HLT.out.1; simp; omega) v) 0
  have f0 : w2.frozen? ⟨p, 0, none⟩ = false := row_frozen HB2.out.line.row 0
  have f1 : w2.frozen? ⟨p, 1, none⟩ = false := row_frozen HB2.out.line.row 1
  clear hm
  go_wp2_with fail
  refine gen_world (fun W => Mid w W p b st e st.opn) (HB2.out.mid HLT.out hb0) ?_
  intro W hM
  have HM := Lib.hid hM
  clear hM y0 y1 y2 hc0 hc1 hc3 g0 f0 f1
  have hfl := field46_1
  have s0 : W.drew.cell? ⟨w.heap.size, 0, none⟩ = some (.int .i64 e.kind) := row_cell HM.out.box 0
  go_region_held3 (fun W => W.cell? ⟨w.heap.size, 0, none⟩ = some (.int .i64 e.kind)) (first | exact s0 | exact t0) (first
    | (go_at_call 22; refine (ways_calls _).mono ?_; rintro e1 w3 ⟨bw, rfl, hbw, hW, hB⟩; have HM3 := Lib.hid (HM.out.below (below_of_drew hB)); have t0 : w3.cell? ⟨w.heap.size, 0, none⟩ = some (.int .i64 e.kind) := row_cell HM3.out.box 0; obtain ⟨v, hrun, A, rfl, hrow⟩ := way_look hW e.kind; clear hrow hB hW hbw))
  rename_i hHeld
  clear hHeld hrun s0 hfl HM
  have z3 : w3.cell? ⟨p, 3, none⟩ = some (.int .i64 st.opn) := row_cell HM3.out.row 3
  have f3 : w3.frozen? ⟨p, 3, none⟩ = false := row_frozen HM3.out.row 3
  by_cases hto : (wayOf e.kind).2 = 0
  · have HTO := Lib.hid hto
    have hto' : ((wayOf e.kind).2 == 0) = true := by simpa using hto
    clear hto
    go_wp2_with fail
    refine gen_world (fun W => Mid w W p b st e (st.goesOpen e.kind)) ?_ ?_
    · have hg : st.goesOpen e.kind = st.opn - 1 := by simp only [LSt.goesOpen, if_neg HK3.out.2.2, if_pos (And.intro HK3.out.2.2 HTO.out)]
      rw [hg]
      exact HM3.out.opn _
    intro W hM
    have HM := Lib.hid hM
    clear hM t0 z3 f3
    obtain ⟨W4, hrun, hL, hkp, hbox⟩ := HM.out.drew.put (by have := HK3.out; omega) HOK.out HC.out
    rw [if_neg HK3.out.2.2] at hrun
    have p2 : W.drew.cell? ⟨p, 2, none⟩ = some (.map (some b)) := row_cell HM.out.row 2
    have q2 : W.drew.cell? ⟨w.heap.size, 2, none⟩ = some (.int .u64 e.id) := row_cell HM.out.box 2
    have p3 : W4.cell? ⟨p, 2, none⟩ = some (.map (some b)) := hL.c2
    have q3 : W4.cell? ⟨w.heap.size, 2, none⟩ = some (.int .u64 e.id) := row_cell hbox 2
    have HE := Lib.hid (And.intro hL hkp)
    clear hL hkp hbox
    go_region_held3 (fun W => W.cell? ⟨p, 2, none⟩ = some (.map (some b)) ∧ W.cell? ⟨w.heap.size, 2, none⟩ = some (.int .u64 e.id)) (first | exact ⟨p2, q2⟩ | exact ⟨p3, q3⟩) (first | fail)
    all_goals go_wp2
    all_goals go_ret
    all_goals exact ⟨rfl, HE.out.1, HE.out.2⟩

  · have hto' : ((wayOf e.kind).2 == 0) = false := by simpa using hto
    have HTO := Lib.hid hto
    clear hto
    go_wp2_with fail
    refine gen_world (fun W => Mid w W p b st e (st.goesOpen e.kind)) ?_ ?_
    · have hg : st.goesOpen e.kind = st.opn := by simp only [LSt.goesOpen, if_neg HK3.out.2.2, if_neg (fun q => HTO.out (And.right q))]; omega
      rw [hg]
      exact HM3.out
    intro W hM
    have HM := Lib.hid hM
    clear hM t0 z3 f3
    obtain ⟨W4, hrun, hL, hkp, hbox⟩ := HM.out.drew.put (by have := HK3.out; omega) HOK.out HC.out
    rw [if_neg HK3.out.2.2] at hrun
    have p2 : W.drew.cell? ⟨p, 2, none⟩ = some (.map (some b)) := row_cell HM.out.row 2
    have q2 : W.drew.cell? ⟨w.heap.size, 2, none⟩ = some (.int .u64 e.id) := row_cell HM.out.box 2
    have p3 : W4.cell? ⟨p, 2, none⟩ = some (.map (some b)) := hL.c2
    have q3 : W4.cell? ⟨w.heap.size, 2, none⟩ = some (.int .u64 e.id) := row_cell hbox 2
    have HE := Lib.hid (And.intro hL hkp)
    clear hL hkp hbox
    go_region_held3 (fun W => W.cell? ⟨p, 2, none⟩ = some (.map (some b)) ∧ W.cell? ⟨w.heap.size, 2, none⟩ = some (.int .u64 e.id)) (first | exact ⟨p2, q2⟩ | exact ⟨p3, q3⟩) (first | fail)
    all_goals go_wp2
    all_goals go_ret
    all_goals exact ⟨rfl, HE.out.1, HE.out.2⟩


theorem feed_calls (p b : Nat) (st : LSt) (e : Ev) (w : World) (h : IsLine w p b st) (hK : KindsAt w) : Calls Tryd.prog 10 #[.pointer (some ⟨p, 0, none⟩), e.val] w fun r w' => r = .returned (.int .i64 (st.answer e)) ∧ IsLine w' p b (st.after e) ∧ Kp (Two p b) w w' := by
  cases hr : rightB e with
  | false =>
    have ha : st.answer e = 1 := by simp only [LSt.answer, if_pos hr]
    have hs : st.after e = st := by simp only [LSt.after, ha]; rfl
    rw [ha, hs]; exact feed_wrong p b st e w h hK hr
  | true =>
    have hr' : ¬ rightB e = false := by simp [hr]
    by_cases hc : st.count = 4096
    · have ha : st.answer e = 5 := by simp only [LSt.answer, if_neg hr', if_pos hc]
      have hs : st.after e = st := by simp only [LSt.after, ha]; rfl
      rw [ha, hs]; exact feed_full p b st e w h hK hr hc
    · by_cases ht : e.time < st.last
      · have ha : st.answer e = 6 := by simp only [LSt.answer, if_neg hr', if_neg hc, if_pos (Or.inl ht)]
        have hs : st.after e = st := by simp only [LSt.after, ha]; rfl
        rw [ha, hs]; exact feed_late p b st e w h hK hr hc ht
      · cases hm : st.mayB e with
        | false =>
          have ha : st.answer e = 6 := by simp only [LSt.answer, if_neg hr', if_neg hc, if_pos (Or.inr hm)]
          have hs : st.after e = st := by simp only [LSt.after, ha]; rfl
          rw [ha, hs]; exact feed_not p b st e w h hK hr hc ht hm
        | true =>
          have hn : ¬ (e.time < st.last ∨ st.mayB e = false) := by simp [hm]; omega
          by_cases h3 : e.kind = 3
          · by_cases ho : st.opn = 64
            · have ha : st.answer e = 5 := by simp only [LSt.answer, if_neg hr', if_neg hc, if_neg hn, if_pos (And.intro h3 ho)]
              have hs : st.after e = st := by simp only [LSt.after, ha]; rfl
              rw [ha, hs]; exact feed_many p b st e w h hK hr hc ht hm h3 ho
            · have ha : st.answer e = 0 := by simp only [LSt.answer, if_neg hr', if_neg hc, if_neg hn, if_neg (fun q => ho (And.right q))]
              have hs : st.after e = st.next e := by simp only [LSt.after, ha]; rfl
              rw [ha, hs]; exact feed_start p b st e w h hK hr hc ht hm h3 ho
          · have ha : st.answer e = 0 := by simp only [LSt.answer, if_neg hr', if_neg hc, if_neg hn, if_neg (fun q => h3 (And.left q))]
            have hs : st.after e = st.next e := by simp only [LSt.after, ha]; rfl
            rw [ha, hs]
            by_cases h12 : e.kind = 1 ∨ e.kind = 2
            · exact feed_page p b st e w h hK hr hc ht hm h12
            · exact feed_other p b st e w h hK hr hc ht hm (by omega)
end Go.Proofs.YtjbdjijfbpiccaaDoor
