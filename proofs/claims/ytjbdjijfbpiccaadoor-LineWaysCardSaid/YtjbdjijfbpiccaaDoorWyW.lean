/- LineWays: the walk. -/
import Derived.Test.YtjbdjijfbpiccaaDoorWyA
import Derived.Test.YtjbdjijfbpiccaaDoorLtW
import Derived.Lib.MinMax
namespace Go.Proofs.YtjbdjijfbpiccaaDoor
open Go.RowKit Go.MapKept
set_option linter.unusedSimpArgs false
set_option linter.unusedVariables false

theorem EvsAt.take {w : World} {A : Option Addr} {l : List Ev} (h : EvsAt w A l) (n : Nat) : EvsAt w A (l.take n) := fun i e he => by
  rw [List.getElem?_take] at he
  split at he
  · exact h i e he
  · cases he

theorem Sh.aside {w W W3 W4 : World} {p b q c : Nat} {st st2 : LSt} (h : Sh w W p b st) (h3 : Sh W W3 q c st2) (k : Kp (Two q c) W3 W4) : Sh w W4 p b st := by
  have hB : Below W.heap.size W W4 := h3.below.trans (k.below (by rintro i (rfl | rfl); exact h3.lt.1; exact h3.lt.2) h3.below.size)
  exact ⟨h.line.kp (Kp.of_below (S := Non) hB) (fun q => q) (fun q => q), h.kinds.kp (Kp.of_below (S := Non) hB) (fun q => q), h.below.trans (hB.mono h.below.size), h.lt⟩
theorem Sh.more {w w0 W : World} {p b : Nat} {st : LSt} (h : Sh w0 W p b st) (hB : Below w.heap.size w w0) : Sh w W p b st :=
  ⟨h.line, h.kinds, hB.trans (h.below.mono hB.size), by have := hB.size; have := h.lt; omega⟩
theorem feds_newcount (m : List Ev) (h : m.length ≤ 100) : (feds newSt m).count ≤ 100 := by
  have h0 : newSt.count = 0 := rfl
  have := feds_ok m newSt (by omega)
  omega
theorem lastOk_feds : ∀ (l : List Ev) (st : LSt), st.lastOk → (∀ e ∈ l, e.wf) → (feds st l).lastOk
  | [], st, h, _ => h
  | e :: l, st, h, hw => lastOk_feds l _ (lastOk_after h (hw e (by simp))) (fun x hx => hw x (by simp [hx]))
def BoxOf (w wr W : World) (p b : Nat) (st : LSt) (E : Ev) : Prop := W.heap[wr.heap.size]? = some (.cells E.cells 30 (0, 0)) ∧ Sh w W p b st
theorem BoxOf.at_ {w wr W : World} {p b : Nat} {st : LSt} {E : Ev} (h : BoxOf w wr W p b st E) : EvAt W.drew ⟨wr.heap.size, 0, none⟩ E := evAt_row (fun j _ => by
  have hr : W.drew.heap[wr.heap.size]? = some (.cells E.cells 30 (0, 0)) := h.1
  rw [row_cell hr, Nat.zero_add]; simp)

theorem nUp_false {st : LSt} {id : Int} {j : Nat} {nu : Int} (h : accK st id (3 + j) = false) (hn : nUp st id j = nu) : nUp st id (j + 1) = nu := by
  rw [nUp, hn, h]; simp
theorem nUp_true {st : LSt} {id : Int} {j : Nat} {nu : Int} (h : accK st id (3 + j) = true) (hn : nUp st id j = nu) : nUp st id (j + 1) = nu + 1 := by
  rw [nUp, hn, h]; simp

def WyRel (w : World) (A : Option Addr) (l : List Ev) (p b : Nat) (st : LSt) (id : Int) (n k : Value) (W : World) : Prop :=
  ∃ j : Nat, j ≤ 12 ∧ k = .int .i64 (3 + j) ∧ n = .int .i64 (nUp st id j) ∧ Sh w W p b st

set_option maxRecDepth 100000 in
set_option maxHeartbeats 4000000 in
/-- the part behind the cut of the row to a hundred -/
theorem ways_walk (A : Option Addr) (cap : Nat) (l : List Ev) (id : Int) (w : World) (hK : KindsAt w) (hl : EvsAt w A l) (hlen : l.length ≤ 9223372036854775807) (hcap : l.length ≤ cap) (hwf : ∀ e ∈ l, e.wf) (wid : (Lit.int .u64 id).wf = true) :
    Calls Tryd.prog 7 #[.slice A l.length cap, .int .u64 id] w fun e w' => e = .returned (.bool true) ∧ Below w.heap.size w w' := by
  have HK := Lib.hid hK
  have HL := Lib.hid hl
  have HW := Lib.hid hwf
  clear hK hl hwf wid
  by_cases hid : id = 0
  · have hid' : (id == 0) = true := by simpa using hid
    clear hid
    go_enter Tryd.func7, Tryd.ntmps7
    go_wp2_with fail
    refine (shown_calls w HK.out).mono ?_
    rintro e0 w0 ⟨rfl, hB0⟩
    go_wp2
    go_ret
    exact ⟨rfl, hB0⟩
  · have hid' : (id == 0) = false := by simpa using hid
    have HID := Lib.hid hid
    clear hid
    by_cases hl0 : l.length = 0
    · have hl0' : ((l.length : Int) == 0) = true := by simp [hl0]
      clear hl0
      go_enter Tryd.func7, Tryd.ntmps7
      go_wp2_with fail
      refine (shown_calls w HK.out).mono ?_
      rintro e0 w0 ⟨rfl, hB0⟩
      go_wp2
      go_ret
      exact ⟨rfl, hB0⟩
    · have hl0' : ((l.length : Int) == 0) = false := by simp; exact fun h => hl0 (by simp [h])
      obtain ⟨m, hm⟩ : ∃ m, m = l.take 100 := ⟨_, rfl⟩
      have hml : (m.length : Int) = min (l.length : Int) 100 := by rw [hm, List.length_take]; omega
      have HM := Lib.hid (hm ▸ HL.out.take 100 : EvsAt w A m)
      have hm100 : m.length ≤ 100 := by rw [hm, List.length_take]; omega
      have hmlen : m.length ≤ l.length := by rw [hm, List.length_take]; omega
      have HML := Lib.hid hml
      clear hl0 hml hm
      go_enter Tryd.func7, Tryd.ntmps7
      go_wp2_with fail
      refine (shown_calls w HK.out).mono ?_
      rintro e0 w0 ⟨rfl, hB0⟩
      have hmin := HML.out.symm
      go_wp2_with fail
      --GEN
      clear hmin
      have hKw0 : KindsAt w0 := HK.out.kp (Kp.of_below (S := Non) hB0) (fun q => q)
      have HB0 := Lib.hid hB0
      clear hB0
      refine (fed_calls A cap m w0 hKw0 (HM.out.below HB0.out) (by omega)).mono ?_
      rintro e1 w1 ⟨p, b, rfl, hS⟩
      have HS : Hid (Sh w w1 p b (feds newSt m)) := Lib.hid (hS.more HB0.out)
      have hcnt := feds_newcount m hm100
      have HSO := Lib.hid (statesOk_feds m newSt (by intro i v h; simp [newSt] at h))
      clear hS hKw0
      obtain ⟨st, hst⟩ : ∃ st, st = feds newSt m := ⟨_, rfl⟩
      rw [← hst] at HS hcnt HSO
      have HST := Lib.hid hst
      clear hst
      go_wp2_with fail
      refine (state_calls p b st id _ HS.out.line).mono ?_
      rintro e2 w2 ⟨rfl, rfl⟩
      go_wp2_with fail
      refine (open_calls p b st _ HS.out.line).mono ?_
      rintro e3 w3 ⟨rfl, rfl⟩
      go_wp2_with fail
      refine (started_calls A cap m id _ HS.out.kinds (HM.out.below HS.out.below) (by omega)).mono ?_
      rw [← HST.out]
      rintro e4 w4 ⟨rfl, hB4⟩
      have HS4 : Hid (Sh w w4 p b st) := Lib.hid ⟨HS.out.line.kp (Kp.of_below (S := Non) hB4) (fun q => q) (fun q => q), HS.out.kinds.kp (Kp.of_below (S := Non) hB4) (fun q => q), HS.out.below.trans (hB4.mono HS.out.below.size), HS.out.lt⟩
      clear hB4 HS
      go_wp2_with fail
      refine (count_calls p b st _ HS4.out.line).mono ?_
      rintro e5 w5 ⟨rfl, rfl⟩
      by_cases hc0 : st.count = 0
      · have hc0' : (st.count == 0) = true := by simpa using hc0
        clear hc0
        go_wp2
        go_ret
        exact ⟨rfl, HS4.out.below⟩
      have hc0' : (st.count == 0) = false := by simpa using hc0
      go_wp2_with fail
      refine (last_calls p b st _ HS4.out.line).mono ?_
      rintro e6 w6 ⟨rfl, rfl⟩
      have hbd : ∃ d : Bool, d = decide ((4611686018427387904 : Int) < st.last) := ⟨_, rfl⟩
      obtain ⟨d, hd⟩ := hbd
      cases d
      rotate_left
      · have hd' : decide ((4611686018427387904 : Int) < st.last) = true := hd.symm
        clear hd hc0
        go_wp2
        go_ret
        exact ⟨rfl, HS4.out.below⟩
      have hd' : decide ((4611686018427387904 : Int) < st.last) = false := hd.symm
      clear hd
      by_cases ho : 64 ≤ st.opn
      · clear hc0
        go_wp2
        go_ret
        exact ⟨rfl, HS4.out.below⟩
      have HC0 := Lib.hid hc0
      clear hc0
      go_wp2_with fail
      clear hd'
      go_loopw [6, 11] (fun n k W => WyRel w A m p b st id n k W) (fun _ k _ => 15 - (intOf k).toNat)
      case atStart => exact ⟨0, by omega, rfl, rfl, HS4.out⟩
      case round =>
        obtain ⟨j, hj, rfl, rfl, hS⟩ := hrel
        have HS := Lib.hid hS
        clear hS HS4
        have hj' : j = 0 ∨ j = 1 ∨ j = 2 ∨ j = 3 ∨ j = 4 ∨ j = 5 ∨ j = 6 ∨ j = 7 ∨ j = 8 ∨ j = 9 ∨ j = 10 ∨ j = 11 ∨ j = 12 := by omega
        have hnb := nUp_bounds st id j
        generalize hnu : nUp st id j = nu at hnb
        have HNU := Lib.hid hnu
        clear hnu
        obtain ⟨hn1, hn2⟩ := hnb
        rcases hj' with rfl | rfl | rfl | rfl | rfl | rfl | rfl | rfl | rfl | rfl | rfl | rfl | rfl
        · have hans := ans_evK st 3 id (by omega) (by omega) HID.out HC0.out (by have := HS.out.line.ok.2.1; omega) (by omega)
          go_wp2_with fail
          refine (last_calls p b st _ HS.out.line).mono ?_
          rintro e7 w7 ⟨rfl, rfl⟩
          go_wp2_with fail
          refine gen_world (fun W => BoxOf w wr W p b st (evK 3 st.last id)) ?_ ?_
          · exact ⟨(row_new wr _).trans (congrArg (fun c => some (Obj.cells c 30 (0, 0))) (by kernel_rfl)), ⟨HS.out.line.kp ((Kp.refl Non _).alloc _) (fun q => q) (fun q => q), HS.out.kinds.kp ((Kp.refl Non _).alloc _) (fun q => q), HS.out.below.alloc HS.out.below.size _, HS.out.lt⟩⟩
          intro W hR
          generalize evK 3 st.last id = E at hR hans
          have HR := Lib.hid hR
          have yy := HR.out.at_
          have y0 := yy.c0; have y1 := yy.c1; have y2 := yy.c2; have y3 := yy.c3; have y4 := yy.c4; have y5 := yy.c5; have y6 := yy.c6; have y7 := yy.c7; have y8 := yy.c8; have y9 := yy.c9
          clear hR yy
          go_region_held3 (fun W => W.cell? ⟨wr.heap.size, 0, none⟩ = some (.int .i64 E.kind) ∧ W.cell? ⟨wr.heap.size, 1, none⟩ = some (.int .u64 E.time) ∧ W.cell? ⟨wr.heap.size, 2, none⟩ = some (.int .u64 E.id) ∧ W.cell? ⟨wr.heap.size, 3, none⟩ = some (.string E.a) ∧ W.cell? ⟨wr.heap.size, 4, none⟩ = some (.string E.b) ∧ W.cell? ⟨wr.heap.size, 5, none⟩ = some (.string E.c) ∧ W.cell? ⟨wr.heap.size, 6, none⟩ = some (.string E.d) ∧ W.cell? ⟨wr.heap.size, 7, none⟩ = some (.int .i64 E.x) ∧ W.cell? ⟨wr.heap.size, 8, none⟩ = some (.int .i64 E.y) ∧ W.cell? ⟨wr.heap.size, 9, none⟩ = some (.int .i64 E.z)) (first | exact ⟨y0, y1, y2, y3, y4, y5, y6, y7, y8, y9⟩ | exact ⟨z0, z1, z2, z3, z4, z5, z6, z7, z8, z9⟩ | exact ⟨v0, v1, v2, v3, v4, v5, v6, v7, v8, v9⟩) (first
            | (go_at_call 19; refine (fed_calls A cap m _ HR.out.2.drew.kinds (HM.out.below HR.out.2.drew.below) (by omega)).mono ?_; rintro e8 w8 ⟨p2, b2, rfl, hS8⟩; rw [← HST.out] at hS8; have HS8 := Lib.hid hS8; have zz := HR.out.at_.below hS8.below; have z0 := zz.c0; have z1 := zz.c1; have z2 := zz.c2; have z3 := zz.c3; have z4 := zz.c4; have z5 := zz.c5; have z6 := zz.c6; have z7 := zz.c7; have z8 := zz.c8; have z9 := zz.c9; clear zz hS8)
            | (go_at_call 10; refine (feed_agg p2 b2 st E _ HS8.out.line HS8.out.kinds).mono ?_; rintro e9 w9 ⟨rfl, hl9, hk9⟩; have HS9 := Lib.hid (HR.out.2.drew.aside HS8.out hk9); have hB9 := HS8.out.below.trans (hk9.below (B := W.drew.heap.size) (by rintro i (rfl | rfl); exact HS8.out.lt.1; exact HS8.out.lt.2) HS8.out.below.size); have vv := HR.out.at_.below hB9; have v0 := vv.c0; have v1 := vv.c1; have v2 := vv.c2; have v3 := vv.c3; have v4 := vv.c4; have v5 := vv.c5; have v6 := vv.c6; have v7 := vv.c7; have v8 := vv.c8; have v9 := vv.c9; clear vv hl9 hk9 hB9))
          generalize hacc : accK st id 3 = acc at hans
          have HACC := Lib.hid hacc
          clear hacc HR
          cases acc
          · go_wp2
            go_roundw
            case rel => exact ⟨1, by omega, by go_num, by rw [nUp_false HACC.out HNU.out], HS9.out⟩
            case measure => simp [intOf]
          · go_wp2
            go_roundw
            case rel => exact ⟨1, by omega, by go_num, by rw [nUp_true HACC.out HNU.out], HS9.out⟩
            case measure => simp [intOf]
        · have hans := ans_evK st 4 id (by omega) (by omega) HID.out HC0.out (by have := HS.out.line.ok.2.1; omega) (by omega)
          go_wp2_with fail
          refine (last_calls p b st _ HS.out.line).mono ?_
          rintro e7 w7 ⟨rfl, rfl⟩
          go_wp2_with fail
          refine gen_world (fun W => BoxOf w wr W p b st (evK 4 st.last id)) ?_ ?_
          · exact ⟨(row_new wr _).trans (congrArg (fun c => some (Obj.cells c 30 (0, 0))) (by kernel_rfl)), ⟨HS.out.line.kp ((Kp.refl Non _).alloc _) (fun q => q) (fun q => q), HS.out.kinds.kp ((Kp.refl Non _).alloc _) (fun q => q), HS.out.below.alloc HS.out.below.size _, HS.out.lt⟩⟩
          intro W hR
          generalize evK 4 st.last id = E at hR hans
          have HR := Lib.hid hR
          have yy := HR.out.at_
          have y0 := yy.c0; have y1 := yy.c1; have y2 := yy.c2; have y3 := yy.c3; have y4 := yy.c4; have y5 := yy.c5; have y6 := yy.c6; have y7 := yy.c7; have y8 := yy.c8; have y9 := yy.c9
          clear hR yy
          go_region_held3 (fun W => W.cell? ⟨wr.heap.size, 0, none⟩ = some (.int .i64 E.kind) ∧ W.cell? ⟨wr.heap.size, 1, none⟩ = some (.int .u64 E.time) ∧ W.cell? ⟨wr.heap.size, 2, none⟩ = some (.int .u64 E.id) ∧ W.cell? ⟨wr.heap.size, 3, none⟩ = some (.string E.a) ∧ W.cell? ⟨wr.heap.size, 4, none⟩ = some (.string E.b) ∧ W.cell? ⟨wr.heap.size, 5, none⟩ = some (.string E.c) ∧ W.cell? ⟨wr.heap.size, 6, none⟩ = some (.string E.d) ∧ W.cell? ⟨wr.heap.size, 7, none⟩ = some (.int .i64 E.x) ∧ W.cell? ⟨wr.heap.size, 8, none⟩ = some (.int .i64 E.y) ∧ W.cell? ⟨wr.heap.size, 9, none⟩ = some (.int .i64 E.z)) (first | exact ⟨y0, y1, y2, y3, y4, y5, y6, y7, y8, y9⟩ | exact ⟨z0, z1, z2, z3, z4, z5, z6, z7, z8, z9⟩ | exact ⟨v0, v1, v2, v3, v4, v5, v6, v7, v8, v9⟩) (first
            | (go_at_call 19; refine (fed_calls A cap m _ HR.out.2.drew.kinds (HM.out.below HR.out.2.drew.below) (by omega)).mono ?_; rintro e8 w8 ⟨p2, b2, rfl, hS8⟩; rw [← HST.out] at hS8; have HS8 := Lib.hid hS8; have zz := HR.out.at_.below hS8.below; have z0 := zz.c0; have z1 := zz.c1; have z2 := zz.c2; have z3 := zz.c3; have z4 := zz.c4; have z5 := zz.c5; have z6 := zz.c6; have z7 := zz.c7; have z8 := zz.c8; have z9 := zz.c9; clear zz hS8)
            | (go_at_call 10; refine (feed_agg p2 b2 st E _ HS8.out.line HS8.out.kinds).mono ?_; rintro e9 w9 ⟨rfl, hl9, hk9⟩; have HS9 := Lib.hid (HR.out.2.drew.aside HS8.out hk9); have hB9 := HS8.out.below.trans (hk9.below (B := W.drew.heap.size) (by rintro i (rfl | rfl); exact HS8.out.lt.1; exact HS8.out.lt.2) HS8.out.below.size); have vv := HR.out.at_.below hB9; have v0 := vv.c0; have v1 := vv.c1; have v2 := vv.c2; have v3 := vv.c3; have v4 := vv.c4; have v5 := vv.c5; have v6 := vv.c6; have v7 := vv.c7; have v8 := vv.c8; have v9 := vv.c9; clear vv hl9 hk9 hB9))
          generalize hacc : accK st id 4 = acc at hans
          have HACC := Lib.hid hacc
          clear hacc HR
          cases acc
          · go_wp2
            go_roundw
            case rel => exact ⟨2, by omega, by go_num, by rw [nUp_false HACC.out HNU.out], HS9.out⟩
            case measure => simp [intOf]
          · go_wp2
            go_roundw
            case rel => exact ⟨2, by omega, by go_num, by rw [nUp_true HACC.out HNU.out], HS9.out⟩
            case measure => simp [intOf]
        · have hans := ans_evK st 5 id (by omega) (by omega) HID.out HC0.out (by have := HS.out.line.ok.2.1; omega) (by omega)
          go_wp2_with fail
          refine (last_calls p b st _ HS.out.line).mono ?_
          rintro e7 w7 ⟨rfl, rfl⟩
          go_wp2_with fail
          refine gen_world (fun W => BoxOf w wr W p b st (evK 5 st.last id)) ?_ ?_
          · exact ⟨(row_new wr _).trans (congrArg (fun c => some (Obj.cells c 30 (0, 0))) (by kernel_rfl)), ⟨HS.out.line.kp ((Kp.refl Non _).alloc _) (fun q => q) (fun q => q), HS.out.kinds.kp ((Kp.refl Non _).alloc _) (fun q => q), HS.out.below.alloc HS.out.below.size _, HS.out.lt⟩⟩
          intro W hR
          generalize evK 5 st.last id = E at hR hans
          have HR := Lib.hid hR
          have yy := HR.out.at_
          have y0 := yy.c0; have y1 := yy.c1; have y2 := yy.c2; have y3 := yy.c3; have y4 := yy.c4; have y5 := yy.c5; have y6 := yy.c6; have y7 := yy.c7; have y8 := yy.c8; have y9 := yy.c9
          clear hR yy
          go_region_held3 (fun W => W.cell? ⟨wr.heap.size, 0, none⟩ = some (.int .i64 E.kind) ∧ W.cell? ⟨wr.heap.size, 1, none⟩ = some (.int .u64 E.time) ∧ W.cell? ⟨wr.heap.size, 2, none⟩ = some (.int .u64 E.id) ∧ W.cell? ⟨wr.heap.size, 3, none⟩ = some (.string E.a) ∧ W.cell? ⟨wr.heap.size, 4, none⟩ = some (.string E.b) ∧ W.cell? ⟨wr.heap.size, 5, none⟩ = some (.string E.c) ∧ W.cell? ⟨wr.heap.size, 6, none⟩ = some (.string E.d) ∧ W.cell? ⟨wr.heap.size, 7, none⟩ = some (.int .i64 E.x) ∧ W.cell? ⟨wr.heap.size, 8, none⟩ = some (.int .i64 E.y) ∧ W.cell? ⟨wr.heap.size, 9, none⟩ = some (.int .i64 E.z)) (first | exact ⟨y0, y1, y2, y3, y4, y5, y6, y7, y8, y9⟩ | exact ⟨z0, z1, z2, z3, z4, z5, z6, z7, z8, z9⟩ | exact ⟨v0, v1, v2, v3, v4, v5, v6, v7, v8, v9⟩) (first
            | (go_at_call 19; refine (fed_calls A cap m _ HR.out.2.drew.kinds (HM.out.below HR.out.2.drew.below) (by omega)).mono ?_; rintro e8 w8 ⟨p2, b2, rfl, hS8⟩; rw [← HST.out] at hS8; have HS8 := Lib.hid hS8; have zz := HR.out.at_.below hS8.below; have z0 := zz.c0; have z1 := zz.c1; have z2 := zz.c2; have z3 := zz.c3; have z4 := zz.c4; have z5 := zz.c5; have z6 := zz.c6; have z7 := zz.c7; have z8 := zz.c8; have z9 := zz.c9; clear zz hS8)
            | (go_at_call 10; refine (feed_agg p2 b2 st E _ HS8.out.line HS8.out.kinds).mono ?_; rintro e9 w9 ⟨rfl, hl9, hk9⟩; have HS9 := Lib.hid (HR.out.2.drew.aside HS8.out hk9); have hB9 := HS8.out.below.trans (hk9.below (B := W.drew.heap.size) (by rintro i (rfl | rfl); exact HS8.out.lt.1; exact HS8.out.lt.2) HS8.out.below.size); have vv := HR.out.at_.below hB9; have v0 := vv.c0; have v1 := vv.c1; have v2 := vv.c2; have v3 := vv.c3; have v4 := vv.c4; have v5 := vv.c5; have v6 := vv.c6; have v7 := vv.c7; have v8 := vv.c8; have v9 := vv.c9; clear vv hl9 hk9 hB9))
          generalize hacc : accK st id 5 = acc at hans
          have HACC := Lib.hid hacc
          clear hacc HR
          cases acc
          · go_wp2
            go_roundw
            case rel => exact ⟨3, by omega, by go_num, by rw [nUp_false HACC.out HNU.out], HS9.out⟩
            case measure => simp [intOf]
          · go_wp2
            go_roundw
            case rel => exact ⟨3, by omega, by go_num, by rw [nUp_true HACC.out HNU.out], HS9.out⟩
            case measure => simp [intOf]
        · have hans := ans_evK st 6 id (by omega) (by omega) HID.out HC0.out (by have := HS.out.line.ok.2.1; omega) (by omega)
          go_wp2_with fail
          refine (last_calls p b st _ HS.out.line).mono ?_
          rintro e7 w7 ⟨rfl, rfl⟩
          go_wp2_with fail
          refine gen_world (fun W => BoxOf w wr W p b st (evK 6 st.last id)) ?_ ?_
          · exact ⟨(row_new wr _).trans (congrArg (fun c => some (Obj.cells c 30 (0, 0))) (by kernel_rfl)), ⟨HS.out.line.kp ((Kp.refl Non _).alloc _) (fun q => q) (fun q => q), HS.out.kinds.kp ((Kp.refl Non _).alloc _) (fun q => q), HS.out.below.alloc HS.out.below.size _, HS.out.lt⟩⟩
          intro W hR
          generalize evK 6 st.last id = E at hR hans
          have HR := Lib.hid hR
          have yy := HR.out.at_
          have y0 := yy.c0; have y1 := yy.c1; have y2 := yy.c2; have y3 := yy.c3; have y4 := yy.c4; have y5 := yy.c5; have y6 := yy.c6; have y7 := yy.c7; have y8 := yy.c8; have y9 := yy.c9
          clear hR yy
          go_region_held3 (fun W => W.cell? ⟨wr.heap.size, 0, none⟩ = some (.int .i64 E.kind) ∧ W.cell? ⟨wr.heap.size, 1, none⟩ = some (.int .u64 E.time) ∧ W.cell? ⟨wr.heap.size, 2, none⟩ = some (.int .u64 E.id) ∧ W.cell? ⟨wr.heap.size, 3, none⟩ = some (.string E.a) ∧ W.cell? ⟨wr.heap.size, 4, none⟩ = some (.string E.b) ∧ W.cell? ⟨wr.heap.size, 5, none⟩ = some (.string E.c) ∧ W.cell? ⟨wr.heap.size, 6, none⟩ = some (.string E.d) ∧ W.cell? ⟨wr.heap.size, 7, none⟩ = some (.int .i64 E.x) ∧ W.cell? ⟨wr.heap.size, 8, none⟩ = some (.int .i64 E.y) ∧ W.cell? ⟨wr.heap.size, 9, none⟩ = some (.int .i64 E.z)) (first | exact ⟨y0, y1, y2, y3, y4, y5, y6, y7, y8, y9⟩ | exact ⟨z0, z1, z2, z3, z4, z5, z6, z7, z8, z9⟩ | exact ⟨v0, v1, v2, v3, v4, v5, v6, v7, v8, v9⟩) (first
            | (go_at_call 19; refine (fed_calls A cap m _ HR.out.2.drew.kinds (HM.out.below HR.out.2.drew.below) (by omega)).mono ?_; rintro e8 w8 ⟨p2, b2, rfl, hS8⟩; rw [← HST.out] at hS8; have HS8 := Lib.hid hS8; have zz := HR.out.at_.below hS8.below; have z0 := zz.c0; have z1 := zz.c1; have z2 := zz.c2; have z3 := zz.c3; have z4 := zz.c4; have z5 := zz.c5; have z6 := zz.c6; have z7 := zz.c7; have z8 := zz.c8; have z9 := zz.c9; clear zz hS8)
            | (go_at_call 10; refine (feed_agg p2 b2 st E _ HS8.out.line HS8.out.kinds).mono ?_; rintro e9 w9 ⟨rfl, hl9, hk9⟩; have HS9 := Lib.hid (HR.out.2.drew.aside HS8.out hk9); have hB9 := HS8.out.below.trans (hk9.below (B := W.drew.heap.size) (by rintro i (rfl | rfl); exact HS8.out.lt.1; exact HS8.out.lt.2) HS8.out.below.size); have vv := HR.out.at_.below hB9; have v0 := vv.c0; have v1 := vv.c1; have v2 := vv.c2; have v3 := vv.c3; have v4 := vv.c4; have v5 := vv.c5; have v6 := vv.c6; have v7 := vv.c7; have v8 := vv.c8; have v9 := vv.c9; clear vv hl9 hk9 hB9))
          generalize hacc : accK st id 6 = acc at hans
          have HACC := Lib.hid hacc
          clear hacc HR
          cases acc
          · go_wp2
            go_roundw
            case rel => exact ⟨4, by omega, by go_num, by rw [nUp_false HACC.out HNU.out], HS9.out⟩
            case measure => simp [intOf]
          · go_wp2
            go_roundw
            case rel => exact ⟨4, by omega, by go_num, by rw [nUp_true HACC.out HNU.out], HS9.out⟩
            case measure => simp [intOf]
        · have hans := ans_evK st 7 id (by omega) (by omega) HID.out HC0.out (by have := HS.out.line.ok.2.1; omega) (by omega)
          go_wp2_with fail
          refine (last_calls p b st _ HS.out.line).mono ?_
          rintro e7 w7 ⟨rfl, rfl⟩
          go_wp2_with fail
          refine gen_world (fun W => BoxOf w wr W p b st (evK 7 st.last id)) ?_ ?_
          · exact ⟨(row_new wr _).trans (congrArg (fun c => some (Obj.cells c 30 (0, 0))) (by kernel_rfl)), ⟨HS.out.line.kp ((Kp.refl Non _).alloc _) (fun q => q) (fun q => q), HS.out.kinds.kp ((Kp.refl Non _).alloc _) (fun q => q), HS.out.below.alloc HS.out.below.size _, HS.out.lt⟩⟩
          intro W hR
          generalize evK 7 st.last id = E at hR hans
          have HR := Lib.hid hR
          have yy := HR.out.at_
          have y0 := yy.c0; have y1 := yy.c1; have y2 := yy.c2; have y3 := yy.c3; have y4 := yy.c4; have y5 := yy.c5; have y6 := yy.c6; have y7 := yy.c7; have y8 := yy.c8; have y9 := yy.c9
          clear hR yy
          go_region_held3 (fun W => W.cell? ⟨wr.heap.size, 0, none⟩ = some (.int .i64 E.kind) ∧ W.cell? ⟨wr.heap.size, 1, none⟩ = some (.int .u64 E.time) ∧ W.cell? ⟨wr.heap.size, 2, none⟩ = some (.int .u64 E.id) ∧ W.cell? ⟨wr.heap.size, 3, none⟩ = some (.string E.a) ∧ W.cell? ⟨wr.heap.size, 4, none⟩ = some (.string E.b) ∧ W.cell? ⟨wr.heap.size, 5, none⟩ = some (.string E.c) ∧ W.cell? ⟨wr.heap.size, 6, none⟩ = some (.string E.d) ∧ W.cell? ⟨wr.heap.size, 7, none⟩ = some (.int .i64 E.x) ∧ W.cell? ⟨wr.heap.size, 8, none⟩ = some (.int .i64 E.y) ∧ W.cell? ⟨wr.heap.size, 9, none⟩ = some (.int .i64 E.z)) (first | exact ⟨y0, y1, y2, y3, y4, y5, y6, y7, y8, y9⟩ | exact ⟨z0, z1, z2, z3, z4, z5, z6, z7, z8, z9⟩ | exact ⟨v0, v1, v2, v3, v4, v5, v6, v7, v8, v9⟩) (first
            | (go_at_call 19; refine (fed_calls A cap m _ HR.out.2.drew.kinds (HM.out.below HR.out.2.drew.below) (by omega)).mono ?_; rintro e8 w8 ⟨p2, b2, rfl, hS8⟩; rw [← HST.out] at hS8; have HS8 := Lib.hid hS8; have zz := HR.out.at_.below hS8.below; have z0 := zz.c0; have z1 := zz.c1; have z2 := zz.c2; have z3 := zz.c3; have z4 := zz.c4; have z5 := zz.c5; have z6 := zz.c6; have z7 := zz.c7; have z8 := zz.c8; have z9 := zz.c9; clear zz hS8)
            | (go_at_call 10; refine (feed_agg p2 b2 st E _ HS8.out.line HS8.out.kinds).mono ?_; rintro e9 w9 ⟨rfl, hl9, hk9⟩; have HS9 := Lib.hid (HR.out.2.drew.aside HS8.out hk9); have hB9 := HS8.out.below.trans (hk9.below (B := W.drew.heap.size) (by rintro i (rfl | rfl); exact HS8.out.lt.1; exact HS8.out.lt.2) HS8.out.below.size); have vv := HR.out.at_.below hB9; have v0 := vv.c0; have v1 := vv.c1; have v2 := vv.c2; have v3 := vv.c3; have v4 := vv.c4; have v5 := vv.c5; have v6 := vv.c6; have v7 := vv.c7; have v8 := vv.c8; have v9 := vv.c9; clear vv hl9 hk9 hB9))
          generalize hacc : accK st id 7 = acc at hans
          have HACC := Lib.hid hacc
          clear hacc HR
          cases acc
          · go_wp2
            go_roundw
            case rel => exact ⟨5, by omega, by go_num, by rw [nUp_false HACC.out HNU.out], HS9.out⟩
            case measure => simp [intOf]
          · go_wp2
            go_roundw
            case rel => exact ⟨5, by omega, by go_num, by rw [nUp_true HACC.out HNU.out], HS9.out⟩
            case measure => simp [intOf]
        · have hans := ans_evK st 8 id (by omega) (by omega) HID.out HC0.out (by have := HS.out.line.ok.2.1; omega) (by omega)
          go_wp2_with fail
          refine (last_calls p b st _ HS.out.line).mono ?_
          rintro e7 w7 ⟨rfl, rfl⟩
          go_wp2_with fail
          refine gen_world (fun W => BoxOf w wr W p b st (evK 8 st.last id)) ?_ ?_
          · exact ⟨(row_new wr _).trans (congrArg (fun c => some (Obj.cells c 30 (0, 0))) (by kernel_rfl)), ⟨HS.out.line.kp ((Kp.refl Non _).alloc _) (fun q => q) (fun q => q), HS.out.kinds.kp ((Kp.refl Non _).alloc _) (fun q => q), HS.out.below.alloc HS.out.below.size _, HS.out.lt⟩⟩
          intro W hR
          generalize evK 8 st.last id = E at hR hans
          have HR := Lib.hid hR
          have yy := HR.out.at_
          have y0 := yy.c0; have y1 := yy.c1; have y2 := yy.c2; have y3 := yy.c3; have y4 := yy.c4; have y5 := yy.c5; have y6 := yy.c6; have y7 := yy.c7; have y8 := yy.c8; have y9 := yy.c9
          clear hR yy
          go_region_held3 (fun W => W.cell? ⟨wr.heap.size, 0, none⟩ = some (.int .i64 E.kind) ∧ W.cell? ⟨wr.heap.size, 1, none⟩ = some (.int .u64 E.time) ∧ W.cell? ⟨wr.heap.size, 2, none⟩ = some (.int .u64 E.id) ∧ W.cell? ⟨wr.heap.size, 3, none⟩ = some (.string E.a) ∧ W.cell? ⟨wr.heap.size, 4, none⟩ = some (.string E.b) ∧ W.cell? ⟨wr.heap.size, 5, none⟩ = some (.string E.c) ∧ W.cell? ⟨wr.heap.size, 6, none⟩ = some (.string E.d) ∧ W.cell? ⟨wr.heap.size, 7, none⟩ = some (.int .i64 E.x) ∧ W.cell? ⟨wr.heap.size, 8, none⟩ = some (.int .i64 E.y) ∧ W.cell? ⟨wr.heap.size, 9, none⟩ = some (.int .i64 E.z)) (first | exact ⟨y0, y1, y2, y3, y4, y5, y6, y7, y8, y9⟩ | exact ⟨z0, z1, z2, z3, z4, z5, z6, z7, z8, z9⟩ | exact ⟨v0, v1, v2, v3, v4, v5, v6, v7, v8, v9⟩) (first
            | (go_at_call 19; refine (fed_calls A cap m _ HR.out.2.drew.kinds (HM.out.below HR.out.2.drew.below) (by omega)).mono ?_; rintro e8 w8 ⟨p2, b2, rfl, hS8⟩; rw [← HST.out] at hS8; have HS8 := Lib.hid hS8; have zz := HR.out.at_.below hS8.below; have z0 := zz.c0; have z1 := zz.c1; have z2 := zz.c2; have z3 := zz.c3; have z4 := zz.c4; have z5 := zz.c5; have z6 := zz.c6; have z7 := zz.c7; have z8 := zz.c8; have z9 := zz.c9; clear zz hS8)
            | (go_at_call 10; refine (feed_agg p2 b2 st E _ HS8.out.line HS8.out.kinds).mono ?_; rintro e9 w9 ⟨rfl, hl9, hk9⟩; have HS9 := Lib.hid (HR.out.2.drew.aside HS8.out hk9); have hB9 := HS8.out.below.trans (hk9.below (B := W.drew.heap.size) (by rintro i (rfl | rfl); exact HS8.out.lt.1; exact HS8.out.lt.2) HS8.out.below.size); have vv := HR.out.at_.below hB9; have v0 := vv.c0; have v1 := vv.c1; have v2 := vv.c2; have v3 := vv.c3; have v4 := vv.c4; have v5 := vv.c5; have v6 := vv.c6; have v7 := vv.c7; have v8 := vv.c8; have v9 := vv.c9; clear vv hl9 hk9 hB9))
          generalize hacc : accK st id 8 = acc at hans
          have HACC := Lib.hid hacc
          clear hacc HR
          cases acc
          · go_wp2
            go_roundw
            case rel => exact ⟨6, by omega, by go_num, by rw [nUp_false HACC.out HNU.out], HS9.out⟩
            case measure => simp [intOf]
          · go_wp2
            go_roundw
            case rel => exact ⟨6, by omega, by go_num, by rw [nUp_true HACC.out HNU.out], HS9.out⟩
            case measure => simp [intOf]
        · have hans := ans_evK st 9 id (by omega) (by omega) HID.out HC0.out (by have := HS.out.line.ok.2.1; omega) (by omega)
          go_wp2_with fail
          refine (last_calls p b st _ HS.out.line).mono ?_
          rintro e7 w7 ⟨rfl, rfl⟩
          go_wp2_with fail
          refine gen_world (fun W => BoxOf w wr W p b st (evK 9 st.last id)) ?_ ?_
          · exact ⟨(row_new wr _).trans (congrArg (fun c => some (Obj.cells c 30 (0, 0))) (by kernel_rfl)), ⟨HS.out.line.kp ((Kp.refl Non _).alloc _) (fun q => q) (fun q => q), HS.out.kinds.kp ((Kp.refl Non _).alloc _) (fun q => q), HS.out.below.alloc HS.out.below.size _, HS.out.lt⟩⟩
          intro W hR
          generalize evK 9 st.last id = E at hR hans
          have HR := Lib.hid hR
          have yy := HR.out.at_
          have y0 := yy.c0; have y1 := yy.c1; have y2 := yy.c2; have y3 := yy.c3; have y4 := yy.c4; have y5 := yy.c5; have y6 := yy.c6; have y7 := yy.c7; have y8 := yy.c8; have y9 := yy.c9
          clear hR yy
          go_region_held3 (fun W => W.cell? ⟨wr.heap.size, 0, none⟩ = some (.int .i64 E.kind) ∧ W.cell? ⟨wr.heap.size, 1, none⟩ = some (.int .u64 E.time) ∧ W.cell? ⟨wr.heap.size, 2, none⟩ = some (.int .u64 E.id) ∧ W.cell? ⟨wr.heap.size, 3, none⟩ = some (.string E.a) ∧ W.cell? ⟨wr.heap.size, 4, none⟩ = some (.string E.b) ∧ W.cell? ⟨wr.heap.size, 5, none⟩ = some (.string E.c) ∧ W.cell? ⟨wr.heap.size, 6, none⟩ = some (.string E.d) ∧ W.cell? ⟨wr.heap.size, 7, none⟩ = some (.int .i64 E.x) ∧ W.cell? ⟨wr.heap.size, 8, none⟩ = some (.int .i64 E.y) ∧ W.cell? ⟨wr.heap.size, 9, none⟩ = some (.int .i64 E.z)) (first | exact ⟨y0, y1, y2, y3, y4, y5, y6, y7, y8, y9⟩ | exact ⟨z0, z1, z2, z3, z4, z5, z6, z7, z8, z9⟩ | exact ⟨v0, v1, v2, v3, v4, v5, v6, v7, v8, v9⟩) (first
            | (go_at_call 19; refine (fed_calls A cap m _ HR.out.2.drew.kinds (HM.out.below HR.out.2.drew.below) (by omega)).mono ?_; rintro e8 w8 ⟨p2, b2, rfl, hS8⟩; rw [← HST.out] at hS8; have HS8 := Lib.hid hS8; have zz := HR.out.at_.below hS8.below; have z0 := zz.c0; have z1 := zz.c1; have z2 := zz.c2; have z3 := zz.c3; have z4 := zz.c4; have z5 := zz.c5; have z6 := zz.c6; have z7 := zz.c7; have z8 := zz.c8; have z9 := zz.c9; clear zz hS8)
            | (go_at_call 10; refine (feed_agg p2 b2 st E _ HS8.out.line HS8.out.kinds).mono ?_; rintro e9 w9 ⟨rfl, hl9, hk9⟩; have HS9 := Lib.hid (HR.out.2.drew.aside HS8.out hk9); have hB9 := HS8.out.below.trans (hk9.below (B := W.drew.heap.size) (by rintro i (rfl | rfl); exact HS8.out.lt.1; exact HS8.out.lt.2) HS8.out.below.size); have vv := HR.out.at_.below hB9; have v0 := vv.c0; have v1 := vv.c1; have v2 := vv.c2; have v3 := vv.c3; have v4 := vv.c4; have v5 := vv.c5; have v6 := vv.c6; have v7 := vv.c7; have v8 := vv.c8; have v9 := vv.c9; clear vv hl9 hk9 hB9))
          generalize hacc : accK st id 9 = acc at hans
          have HACC := Lib.hid hacc
          clear hacc HR
          cases acc
          · go_wp2
            go_roundw
            case rel => exact ⟨7, by omega, by go_num, by rw [nUp_false HACC.out HNU.out], HS9.out⟩
            case measure => simp [intOf]
          · go_wp2
            go_roundw
            case rel => exact ⟨7, by omega, by go_num, by rw [nUp_true HACC.out HNU.out], HS9.out⟩
            case measure => simp [intOf]
        · have hans := ans_evK st 10 id (by omega) (by omega) HID.out HC0.out (by have := HS.out.line.ok.2.1; omega) (by omega)
          go_wp2_with fail
          refine (last_calls p b st _ HS.out.line).mono ?_
          rintro e7 w7 ⟨rfl, rfl⟩
          go_wp2_with fail
          refine gen_world (fun W => BoxOf w wr W p b st (evK 10 st.last id)) ?_ ?_
          · exact ⟨(row_new wr _).trans (congrArg (fun c => some (Obj.cells c 30 (0, 0))) (by kernel_rfl)), ⟨HS.out.line.kp ((Kp.refl Non _).alloc _) (fun q => q) (fun q => q), HS.out.kinds.kp ((Kp.refl Non _).alloc _) (fun q => q), HS.out.below.alloc HS.out.below.size _, HS.out.lt⟩⟩
          intro W hR
          generalize evK 10 st.last id = E at hR hans
          have HR := Lib.hid hR
          have yy := HR.out.at_
          have y0 := yy.c0; have y1 := yy.c1; have y2 := yy.c2; have y3 := yy.c3; have y4 := yy.c4; have y5 := yy.c5; have y6 := yy.c6; have y7 := yy.c7; have y8 := yy.c8; have y9 := yy.c9
          clear hR yy
          go_region_held3 (fun W => W.cell? ⟨wr.heap.size, 0, none⟩ = some (.int .i64 E.kind) ∧ W.cell? ⟨wr.heap.size, 1, none⟩ = some (.int .u64 E.time) ∧ W.cell? ⟨wr.heap.size, 2, none⟩ = some (.int .u64 E.id) ∧ W.cell? ⟨wr.heap.size, 3, none⟩ = some (.string E.a) ∧ W.cell? ⟨wr.heap.size, 4, none⟩ = some (.string E.b) ∧ W.cell? ⟨wr.heap.size, 5, none⟩ = some (.string E.c) ∧ W.cell? ⟨wr.heap.size, 6, none⟩ = some (.string E.d) ∧ W.cell? ⟨wr.heap.size, 7, none⟩ = some (.int .i64 E.x) ∧ W.cell? ⟨wr.heap.size, 8, none⟩ = some (.int .i64 E.y) ∧ W.cell? ⟨wr.heap.size, 9, none⟩ = some (.int .i64 E.z)) (first | exact ⟨y0, y1, y2, y3, y4, y5, y6, y7, y8, y9⟩ | exact ⟨z0, z1, z2, z3, z4, z5, z6, z7, z8, z9⟩ | exact ⟨v0, v1, v2, v3, v4, v5, v6, v7, v8, v9⟩) (first
            | (go_at_call 19; refine (fed_calls A cap m _ HR.out.2.drew.kinds (HM.out.below HR.out.2.drew.below) (by omega)).mono ?_; rintro e8 w8 ⟨p2, b2, rfl, hS8⟩; rw [← HST.out] at hS8; have HS8 := Lib.hid hS8; have zz := HR.out.at_.below hS8.below; have z0 := zz.c0; have z1 := zz.c1; have z2 := zz.c2; have z3 := zz.c3; have z4 := zz.c4; have z5 := zz.c5; have z6 := zz.c6; have z7 := zz.c7; have z8 := zz.c8; have z9 := zz.c9; clear zz hS8)
            | (go_at_call 10; refine (feed_agg p2 b2 st E _ HS8.out.line HS8.out.kinds).mono ?_; rintro e9 w9 ⟨rfl, hl9, hk9⟩; have HS9 := Lib.hid (HR.out.2.drew.aside HS8.out hk9); have hB9 := HS8.out.below.trans (hk9.below (B := W.drew.heap.size) (by rintro i (rfl | rfl); exact HS8.out.lt.1; exact HS8.out.lt.2) HS8.out.below.size); have vv := HR.out.at_.below hB9; have v0 := vv.c0; have v1 := vv.c1; have v2 := vv.c2; have v3 := vv.c3; have v4 := vv.c4; have v5 := vv.c5; have v6 := vv.c6; have v7 := vv.c7; have v8 := vv.c8; have v9 := vv.c9; clear vv hl9 hk9 hB9))
          generalize hacc : accK st id 10 = acc at hans
          have HACC := Lib.hid hacc
          clear hacc HR
          cases acc
          · go_wp2
            go_roundw
            case rel => exact ⟨8, by omega, by go_num, by rw [nUp_false HACC.out HNU.out], HS9.out⟩
            case measure => simp [intOf]
          · go_wp2
            go_roundw
            case rel => exact ⟨8, by omega, by go_num, by rw [nUp_true HACC.out HNU.out], HS9.out⟩
            case measure => simp [intOf]
        · have hans := ans_evK st 11 id (by omega) (by omega) HID.out HC0.out (by have := HS.out.line.ok.2.1; omega) (by omega)
          go_wp2_with fail
          refine (last_calls p b st _ HS.out.line).mono ?_
          rintro e7 w7 ⟨rfl, rfl⟩
          go_wp2_with fail
          refine gen_world (fun W => BoxOf w wr W p b st (evK 11 st.last id)) ?_ ?_
          · exact ⟨(row_new wr _).trans (congrArg (fun c => some (Obj.cells c 30 (0, 0))) (by kernel_rfl)), ⟨HS.out.line.kp ((Kp.refl Non _).alloc _) (fun q => q) (fun q => q), HS.out.kinds.kp ((Kp.refl Non _).alloc _) (fun q => q), HS.out.below.alloc HS.out.below.size _, HS.out.lt⟩⟩
          intro W hR
          generalize evK 11 st.last id = E at hR hans
          have HR := Lib.hid hR
          have yy := HR.out.at_
          have y0 := yy.c0; have y1 := yy.c1; have y2 := yy.c2; have y3 := yy.c3; have y4 := yy.c4; have y5 := yy.c5; have y6 := yy.c6; have y7 := yy.c7; have y8 := yy.c8; have y9 := yy.c9
          clear hR yy
          go_region_held3 (fun W => W.cell? ⟨wr.heap.size, 0, none⟩ = some (.int .i64 E.kind) ∧ W.cell? ⟨wr.heap.size, 1, none⟩ = some (.int .u64 E.time) ∧ W.cell? ⟨wr.heap.size, 2, none⟩ = some (.int .u64 E.id) ∧ W.cell? ⟨wr.heap.size, 3, none⟩ = some (.string E.a) ∧ W.cell? ⟨wr.heap.size, 4, none⟩ = some (.string E.b) ∧ W.cell? ⟨wr.heap.size, 5, none⟩ = some (.string E.c) ∧ W.cell? ⟨wr.heap.size, 6, none⟩ = some (.string E.d) ∧ W.cell? ⟨wr.heap.size, 7, none⟩ = some (.int .i64 E.x) ∧ W.cell? ⟨wr.heap.size, 8, none⟩ = some (.int .i64 E.y) ∧ W.cell? ⟨wr.heap.size, 9, none⟩ = some (.int .i64 E.z)) (first | exact ⟨y0, y1, y2, y3, y4, y5, y6, y7, y8, y9⟩ | exact ⟨z0, z1, z2, z3, z4, z5, z6, z7, z8, z9⟩ | exact ⟨v0, v1, v2, v3, v4, v5, v6, v7, v8, v9⟩) (first
            | (go_at_call 19; refine (fed_calls A cap m _ HR.out.2.drew.kinds (HM.out.below HR.out.2.drew.below) (by omega)).mono ?_; rintro e8 w8 ⟨p2, b2, rfl, hS8⟩; rw [← HST.out] at hS8; have HS8 := Lib.hid hS8; have zz := HR.out.at_.below hS8.below; have z0 := zz.c0; have z1 := zz.c1; have z2 := zz.c2; have z3 := zz.c3; have z4 := zz.c4; have z5 := zz.c5; have z6 := zz.c6; have z7 := zz.c7; have z8 := zz.c8; have z9 := zz.c9; clear zz hS8)
            | (go_at_call 10; refine (feed_agg p2 b2 st E _ HS8.out.line HS8.out.kinds).mono ?_; rintro e9 w9 ⟨rfl, hl9, hk9⟩; have HS9 := Lib.hid (HR.out.2.drew.aside HS8.out hk9); have hB9 := HS8.out.below.trans (hk9.below (B := W.drew.heap.size) (by rintro i (rfl | rfl); exact HS8.out.lt.1; exact HS8.out.lt.2) HS8.out.below.size); have vv := HR.out.at_.below hB9; have v0 := vv.c0; have v1 := vv.c1; have v2 := vv.c2; have v3 := vv.c3; have v4 := vv.c4; have v5 := vv.c5; have v6 := vv.c6; have v7 := vv.c7; have v8 := vv.c8; have v9 := vv.c9; clear vv hl9 hk9 hB9))
          generalize hacc : accK st id 11 = acc at hans
          have HACC := Lib.hid hacc
          clear hacc HR
          cases acc
          · go_wp2
            go_roundw
            case rel => exact ⟨9, by omega, by go_num, by rw [nUp_false HACC.out HNU.out], HS9.out⟩
            case measure => simp [intOf]
          · go_wp2
            go_roundw
            case rel => exact ⟨9, by omega, by go_num, by rw [nUp_true HACC.out HNU.out], HS9.out⟩
            case measure => simp [intOf]
        · have hans := ans_evK st 12 id (by omega) (by omega) HID.out HC0.out (by have := HS.out.line.ok.2.1; omega) (by omega)
          go_wp2_with fail
          refine (last_calls p b st _ HS.out.line).mono ?_
          rintro e7 w7 ⟨rfl, rfl⟩
          go_wp2_with fail
          refine gen_world (fun W => BoxOf w wr W p b st (evK 12 st.last id)) ?_ ?_
          · exact ⟨(row_new wr _).trans (congrArg (fun c => some (Obj.cells c 30 (0, 0))) (by kernel_rfl)), ⟨HS.out.line.kp ((Kp.refl Non _).alloc _) (fun q => q) (fun q => q), HS.out.kinds.kp ((Kp.refl Non _).alloc _) (fun q => q), HS.out.below.alloc HS.out.below.size _, HS.out.lt⟩⟩
          intro W hR
          generalize evK 12 st.last id = E at hR hans
          have HR := Lib.hid hR
          have yy := HR.out.at_
          have y0 := yy.c0; have y1 := yy.c1; have y2 := yy.c2; have y3 := yy.c3; have y4 := yy.c4; have y5 := yy.c5; have y6 := yy.c6; have y7 := yy.c7; have y8 := yy.c8; have y9 := yy.c9
          clear hR yy
          go_region_held3 (fun W => W.cell? ⟨wr.heap.size, 0, none⟩ = some (.int .i64 E.kind) ∧ W.cell? ⟨wr.heap.size, 1, none⟩ = some (.int .u64 E.time) ∧ W.cell? ⟨wr.heap.size, 2, none⟩ = some (.int .u64 E.id) ∧ W.cell? ⟨wr.heap.size, 3, none⟩ = some (.string E.a) ∧ W.cell? ⟨wr.heap.size, 4, none⟩ = some (.string E.b) ∧ W.cell? ⟨wr.heap.size, 5, none⟩ = some (.string E.c) ∧ W.cell? ⟨wr.heap.size, 6, none⟩ = some (.string E.d) ∧ W.cell? ⟨wr.heap.size, 7, none⟩ = some (.int .i64 E.x) ∧ W.cell? ⟨wr.heap.size, 8, none⟩ = some (.int .i64 E.y) ∧ W.cell? ⟨wr.heap.size, 9, none⟩ = some (.int .i64 E.z)) (first | exact ⟨y0, y1, y2, y3, y4, y5, y6, y7, y8, y9⟩ | exact ⟨z0, z1, z2, z3, z4, z5, z6, z7, z8, z9⟩ | exact ⟨v0, v1, v2, v3, v4, v5, v6, v7, v8, v9⟩) (first
            | (go_at_call 19; refine (fed_calls A cap m _ HR.out.2.drew.kinds (HM.out.below HR.out.2.drew.below) (by omega)).mono ?_; rintro e8 w8 ⟨p2, b2, rfl, hS8⟩; rw [← HST.out] at hS8; have HS8 := Lib.hid hS8; have zz := HR.out.at_.below hS8.below; have z0 := zz.c0; have z1 := zz.c1; have z2 := zz.c2; have z3 := zz.c3; have z4 := zz.c4; have z5 := zz.c5; have z6 := zz.c6; have z7 := zz.c7; have z8 := zz.c8; have z9 := zz.c9; clear zz hS8)
            | (go_at_call 10; refine (feed_agg p2 b2 st E _ HS8.out.line HS8.out.kinds).mono ?_; rintro e9 w9 ⟨rfl, hl9, hk9⟩; have HS9 := Lib.hid (HR.out.2.drew.aside HS8.out hk9); have hB9 := HS8.out.below.trans (hk9.below (B := W.drew.heap.size) (by rintro i (rfl | rfl); exact HS8.out.lt.1; exact HS8.out.lt.2) HS8.out.below.size); have vv := HR.out.at_.below hB9; have v0 := vv.c0; have v1 := vv.c1; have v2 := vv.c2; have v3 := vv.c3; have v4 := vv.c4; have v5 := vv.c5; have v6 := vv.c6; have v7 := vv.c7; have v8 := vv.c8; have v9 := vv.c9; clear vv hl9 hk9 hB9))
          generalize hacc : accK st id 12 = acc at hans
          have HACC := Lib.hid hacc
          clear hacc HR
          cases acc
          · go_wp2
            go_roundw
            case rel => exact ⟨10, by omega, by go_num, by rw [nUp_false HACC.out HNU.out], HS9.out⟩
            case measure => simp [intOf]
          · go_wp2
            go_roundw
            case rel => exact ⟨10, by omega, by go_num, by rw [nUp_true HACC.out HNU.out], HS9.out⟩
            case measure => simp [intOf]
        · have hans := ans_evK st 13 id (by omega) (by omega) HID.out HC0.out (by have := HS.out.line.ok.2.1; omega) (by omega)
          go_wp2_with fail
          refine (last_calls p b st _ HS.out.line).mono ?_
          rintro e7 w7 ⟨rfl, rfl⟩
          go_wp2_with fail
          refine gen_world (fun W => BoxOf w wr W p b st (evK 13 st.last id)) ?_ ?_
          · exact ⟨(row_new wr _).trans (congrArg (fun c => some (Obj.cells c 30 (0, 0))) (by kernel_rfl)), ⟨HS.out.line.kp ((Kp.refl Non _).alloc _) (fun q => q) (fun q => q), HS.out.kinds.kp ((Kp.refl Non _).alloc _) (fun q => q), HS.out.below.alloc HS.out.below.size _, HS.out.lt⟩⟩
          intro W hR
          generalize evK 13 st.last id = E at hR hans
          have HR := Lib.hid hR
          have yy := HR.out.at_
          have y0 := yy.c0; have y1 := yy.c1; have y2 := yy.c2; have y3 := yy.c3; have y4 := yy.c4; have y5 := yy.c5; have y6 := yy.c6; have y7 := yy.c7; have y8 := yy.c8; have y9 := yy.c9
          clear hR yy
          go_region_held3 (fun W => W.cell? ⟨wr.heap.size, 0, none⟩ = some (.int .i64 E.kind) ∧ W.cell? ⟨wr.heap.size, 1, none⟩ = some (.int .u64 E.time) ∧ W.cell? ⟨wr.heap.size, 2, none⟩ = some (.int .u64 E.id) ∧ W.cell? ⟨wr.heap.size, 3, none⟩ = some (.string E.a) ∧ W.cell? ⟨wr.heap.size, 4, none⟩ = some (.string E.b) ∧ W.cell? ⟨wr.heap.size, 5, none⟩ = some (.string E.c) ∧ W.cell? ⟨wr.heap.size, 6, none⟩ = some (.string E.d) ∧ W.cell? ⟨wr.heap.size, 7, none⟩ = some (.int .i64 E.x) ∧ W.cell? ⟨wr.heap.size, 8, none⟩ = some (.int .i64 E.y) ∧ W.cell? ⟨wr.heap.size, 9, none⟩ = some (.int .i64 E.z)) (first | exact ⟨y0, y1, y2, y3, y4, y5, y6, y7, y8, y9⟩ | exact ⟨z0, z1, z2, z3, z4, z5, z6, z7, z8, z9⟩ | exact ⟨v0, v1, v2, v3, v4, v5, v6, v7, v8, v9⟩) (first
            | (go_at_call 19; refine (fed_calls A cap m _ HR.out.2.drew.kinds (HM.out.below HR.out.2.drew.below) (by omega)).mono ?_; rintro e8 w8 ⟨p2, b2, rfl, hS8⟩; rw [← HST.out] at hS8; have HS8 := Lib.hid hS8; have zz := HR.out.at_.below hS8.below; have z0 := zz.c0; have z1 := zz.c1; have z2 := zz.c2; have z3 := zz.c3; have z4 := zz.c4; have z5 := zz.c5; have z6 := zz.c6; have z7 := zz.c7; have z8 := zz.c8; have z9 := zz.c9; clear zz hS8)
            | (go_at_call 10; refine (feed_agg p2 b2 st E _ HS8.out.line HS8.out.kinds).mono ?_; rintro e9 w9 ⟨rfl, hl9, hk9⟩; have HS9 := Lib.hid (HR.out.2.drew.aside HS8.out hk9); have hB9 := HS8.out.below.trans (hk9.below (B := W.drew.heap.size) (by rintro i (rfl | rfl); exact HS8.out.lt.1; exact HS8.out.lt.2) HS8.out.below.size); have vv := HR.out.at_.below hB9; have v0 := vv.c0; have v1 := vv.c1; have v2 := vv.c2; have v3 := vv.c3; have v4 := vv.c4; have v5 := vv.c5; have v6 := vv.c6; have v7 := vv.c7; have v8 := vv.c8; have v9 := vv.c9; clear vv hl9 hk9 hB9))
          generalize hacc : accK st id 13 = acc at hans
          have HACC := Lib.hid hacc
          clear hacc HR
          cases acc
          · go_wp2
            go_roundw
            case rel => exact ⟨11, by omega, by go_num, by rw [nUp_false HACC.out HNU.out], HS9.out⟩
            case measure => simp [intOf]
          · go_wp2
            go_roundw
            case rel => exact ⟨11, by omega, by go_num, by rw [nUp_true HACC.out HNU.out], HS9.out⟩
            case measure => simp [intOf]
        · have hans := ans_evK st 14 id (by omega) (by omega) HID.out HC0.out (by have := HS.out.line.ok.2.1; omega) (by omega)
          go_wp2_with fail
          refine (last_calls p b st _ HS.out.line).mono ?_
          rintro e7 w7 ⟨rfl, rfl⟩
          go_wp2_with fail
          refine gen_world (fun W => BoxOf w wr W p b st (evK 14 st.last id)) ?_ ?_
          · exact ⟨(row_new wr _).trans (congrArg (fun c => some (Obj.cells c 30 (0, 0))) (by kernel_rfl)), ⟨HS.out.line.kp ((Kp.refl Non _).alloc _) (fun q => q) (fun q => q), HS.out.kinds.kp ((Kp.refl Non _).alloc _) (fun q => q), HS.out.below.alloc HS.out.below.size _, HS.out.lt⟩⟩
          intro W hR
          generalize evK 14 st.last id = E at hR hans
          have HR := Lib.hid hR
          have yy := HR.out.at_
          have y0 := yy.c0; have y1 := yy.c1; have y2 := yy.c2; have y3 := yy.c3; have y4 := yy.c4; have y5 := yy.c5; have y6 := yy.c6; have y7 := yy.c7; have y8 := yy.c8; have y9 := yy.c9
          clear hR yy
          go_region_held3 (fun W => W.cell? ⟨wr.heap.size, 0, none⟩ = some (.int .i64 E.kind) ∧ W.cell? ⟨wr.heap.size, 1, none⟩ = some (.int .u64 E.time) ∧ W.cell? ⟨wr.heap.size, 2, none⟩ = some (.int .u64 E.id) ∧ W.cell? ⟨wr.heap.size, 3, none⟩ = some (.string E.a) ∧ W.cell? ⟨wr.heap.size, 4, none⟩ = some (.string E.b) ∧ W.cell? ⟨wr.heap.size, 5, none⟩ = some (.string E.c) ∧ W.cell? ⟨wr.heap.size, 6, none⟩ = some (.string E.d) ∧ W.cell? ⟨wr.heap.size, 7, none⟩ = some (.int .i64 E.x) ∧ W.cell? ⟨wr.heap.size, 8, none⟩ = some (.int .i64 E.y) ∧ W.cell? ⟨wr.heap.size, 9, none⟩ = some (.int .i64 E.z)) (first | exact ⟨y0, y1, y2, y3, y4, y5, y6, y7, y8, y9⟩ | exact ⟨z0, z1, z2, z3, z4, z5, z6, z7, z8, z9⟩ | exact ⟨v0, v1, v2, v3, v4, v5, v6, v7, v8, v9⟩) (first
            | (go_at_call 19; refine (fed_calls A cap m _ HR.out.2.drew.kinds (HM.out.below HR.out.2.drew.below) (by omega)).mono ?_; rintro e8 w8 ⟨p2, b2, rfl, hS8⟩; rw [← HST.out] at hS8; have HS8 := Lib.hid hS8; have zz := HR.out.at_.below hS8.below; have z0 := zz.c0; have z1 := zz.c1; have z2 := zz.c2; have z3 := zz.c3; have z4 := zz.c4; have z5 := zz.c5; have z6 := zz.c6; have z7 := zz.c7; have z8 := zz.c8; have z9 := zz.c9; clear zz hS8)
            | (go_at_call 10; refine (feed_agg p2 b2 st E _ HS8.out.line HS8.out.kinds).mono ?_; rintro e9 w9 ⟨rfl, hl9, hk9⟩; have HS9 := Lib.hid (HR.out.2.drew.aside HS8.out hk9); have hB9 := HS8.out.below.trans (hk9.below (B := W.drew.heap.size) (by rintro i (rfl | rfl); exact HS8.out.lt.1; exact HS8.out.lt.2) HS8.out.below.size); have vv := HR.out.at_.below hB9; have v0 := vv.c0; have v1 := vv.c1; have v2 := vv.c2; have v3 := vv.c3; have v4 := vv.c4; have v5 := vv.c5; have v6 := vv.c6; have v7 := vv.c7; have v8 := vv.c8; have v9 := vv.c9; clear vv hl9 hk9 hB9))
          generalize hacc : accK st id 14 = acc at hans
          have HACC := Lib.hid hacc
          clear hacc HR
          cases acc
          · go_wp2
            go_roundw
            case rel => exact ⟨12, by omega, by go_num, by rw [nUp_false HACC.out HNU.out], HS9.out⟩
            case measure => simp [intOf]
          · go_wp2
            go_roundw
            case rel => exact ⟨12, by omega, by go_num, by rw [nUp_true HACC.out HNU.out], HS9.out⟩
            case measure => simp [intOf]
        · have h12 := nUp_12 st id HSO.out
          rw [HNU.out] at h12
          have hsr := state_range HSO.out id
          generalize (st.at_ id).isSome = bg at *
          generalize st.state id = sv at *
          have hsv : sv = 0 ∨ sv = 1 ∨ sv = 2 ∨ sv = 3 ∨ sv = 4 ∨ sv = 5 ∨ sv = 6 ∨ sv = 7 := by omega
          clear hsr
          rcases hsv with rfl | rfl | rfl | rfl | rfl | rfl | rfl | rfl <;> cases bg
          all_goals (simp [wantOf] at h12; subst h12; go_wp2)
          all_goals (go_ret; exact ⟨rfl, HS.out.below.alloc HS.out.below.size _⟩)
end Go.Proofs.YtjbdjijfbpiccaaDoor
