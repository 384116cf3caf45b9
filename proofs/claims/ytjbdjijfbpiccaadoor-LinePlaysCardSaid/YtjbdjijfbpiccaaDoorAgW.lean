/- LineAgain: the walk. -/
import Derived.Test.YtjbdjijfbpiccaaDoorLnT
import Derived.Test.YtjbdjijfbpiccaaDoorApA
namespace Go.Proofs.YtjbdjijfbpiccaaDoor
open Go.RowKit Go.MapKept
set_option linter.unusedSimpArgs false
set_option linter.unusedVariables false

def AgRel (w : World) (p b : Nat) (n : Nat) (v i : Value) (W : World) : Prop :=
  ∃ (k : Nat) (st : LSt) (t : List Ev), k ≤ n ∧ i = .int .i64 k ∧ Sh w W p b st ∧ Taken w.heap.size W v t ∧ t.length ≤ k ∧ t.length ≤ 200 ∧ Runs newSt t st
def AgRel2 (w : World) (p b q c : Nat) (t : List Ev) (st : LSt) (i : Value) (W : World) : Prop :=
  ∃ (k : Nat) (su : LSt), k ≤ t.length ∧ i = .int .i64 k ∧ Sh2 w W p b q c st su ∧ Runs su (t.drop k) st

theorem Sh.but {w W W' : World} {p b : Nat} {st : LSt} (h : Sh w W p b st) (hb : ButEvs W W') (k : Below w.heap.size W W') (h0 : 0 < w.heap.size) : Sh w W' p b st :=
  ⟨h.line.but hb, fun i n hn => (k.cell h0).trans (h.kinds i n hn), h.below.trans k, h.lt⟩
theorem KindsAt.pos {w : World} (h : KindsAt w) : 0 < w.heap.size := World.block_lt_of_cell? w _ (h 0 0 rfl)

set_option maxRecDepth 100000 in
set_option maxHeartbeats 2000000 in
theorem again_walk (A : Option Addr) (cap : Nat) (l : List Ev) (w : World) (hK : KindsAt w) (hl : EvsAt w A l) (hlen : l.length ≤ 9223372036854775807) :
    Calls Tryd.prog 5 #[.slice A l.length cap] w fun e w' => e = .returned (.bool true) ∧ Below w.heap.size w w' := by
  have HK := Lib.hid hK
  have HL := Lib.hid hl
  have H0 := Lib.hid hK.pos
  clear hK hl
  go_enter Tryd.func5, Tryd.ntmps5
  go_wp2_with fail
  refine (shown_calls w HK.out).mono ?_
  rintro e0 w0 ⟨rfl, hB0⟩
  have HB0 := Lib.hid hB0
  clear hB0
  go_wp2_with fail
  refine (new_calls w0).mono ?_
  rintro e1 w1 ⟨p, b, rfl, hp, hb, hl1, hB1⟩
  have H1 : Hid (Sh w w1 p b newSt) := by
    have hz := HB0.out.size
    have hBB := HB0.out.trans (hB1.mono hz)
    exact Lib.hid ⟨hl1, HK.out.kp (Kp.of_below (S := Non) hBB) (fun q => q), hBB, by omega⟩
  clear hl1 hB1 hp hb HB0 HK
  go_wp2_with fail
  go_loopw [5, 6] (fun v i W => AgRel w p b l.length v i W) (fun _ i _ => l.length - (intOf i).toNat)
  case atStart => exact ⟨0, newSt, [], by omega, rfl, H1.out, Taken.nil _ _, by simp, by simp, .nil _⟩
  case round =>
    obtain ⟨k, st, t, hk, rfl, hS, hT, ht, ht2, hR⟩ := hrel
    have HS := Lib.hid hS
    have HT := Lib.hid hT
    have HR := Lib.hid hR
    clear hS hT hR H1
    by_cases hlt : k < l.length ∧ k < 200
    · obtain ⟨hlt, h200⟩ := hlt
      obtain ⟨ad, rfl, hat⟩ := HL.out k l[k] (by simp [hlt])
      have HE := Lib.hid hat
      clear hat
      generalize hev : l[k] = ev at HE
      clear hev
      have x := HE.out.below HS.out.below
      have x0 := x.c0
      have x1 := x.c1
      have x2 := x.c2
      have x3 := x.c3
      have x4 := x.c4
      have x5 := x.c5
      have x6 := x.c6
      have x7 := x.c7
      have x8 := x.c8
      have x9 := x.c9
      clear x
      go_wp2_with fail
      refine (feed_calls p b st ev _ HS.out.line HS.out.kinds).mono ?_
      rintro e3 w3 ⟨rfl, hl3, hk3⟩
      have HS3 := Lib.hid (HS.out.step hl3 hk3)
      have HT3 := Lib.hid (HT.out.feed HS.out.line hk3)
      clear hl3 hk3 x0 x1 x2 x3 x4 x5 x6 x7 x8 x9 HS HT
      by_cases ha : st.answer ev = 0
      · have HR3 := Lib.hid (HR.out.snoc ha)
        have y := HE.out.below HS3.out.below
        have y0 := y.c0
        have y1 := y.c1
        have y2 := y.c2
        have y3 := y.c3
        have y4 := y.c4
        have y5 := y.c5
        have y6 := y.c6
        have y7 := y.c7
        have y8 := y.c8
        have y9 := y.c9
        rw [ha]
        clear ha HR y
        go_wp2_with (at_builtin; refine wpList_take rfl _ _ rfl w.heap.size u5 t ev _ _ rfl rfl rfl rfl HT3.out (by omega) HS3.out.below.size ?_; intro v' w4 hT4 hB4 hb4; have HS4 := Lib.hid (HS3.out.but hB4 hb4 H0.out); have HT4 := Lib.hid hT4; clear hT4 hB4 hb4)
        go_roundw
        case rel => exact ⟨k + 1, st.after ev, t ++ [ev], by omega, by go_num, HS4.out, HT4.out, by simp; omega, by simp; omega, HR3.out⟩
        case measure => simp [intOf]; omega
      · have hs3 : (st.answer ev != 0) = true := by simpa using ha
        have hs4 : (st.answer ev == 0) = false := by simpa using ha
        have hst : st.after ev = st := after_not ha
        have HS5 : Hid (Sh w w3 p b st) := by rw [hst] at HS3; exact HS3
        generalize st.answer ev = an at hs3 hs4
        clear ha hst HS3
        go_wp2
        go_roundw
        case rel => exact ⟨k + 1, st, t, by omega, by go_num, HS5.out, HT3.out, by omega, ht2, HR.out⟩
        case measure => simp [intOf]; omega
    · obtain ⟨A2, cap2, hv, hE2⟩ := HT.out.shape
      have HE2 := Lib.hid hE2
      subst hv
      clear hE2 HT
      by_cases hlt1 : k < l.length
      · have h200 : ¬ k < 200 := fun q => hlt ⟨hlt1, q⟩
        clear hlt
        go_wp2_with fail
        refine (new_calls wr).mono ?_
        rintro e2 w2 ⟨q, c, rfl, hq, hc, hl2, hB2⟩
        have H2 : Hid (Sh2 w w2 p b q c st newSt) := Lib.hid (HS.out.two hl2 ⟨hq, hc⟩ hB2)
        have HE3 := Lib.hid (HE2.out.below hB2)
        have HLT := Lib.hid (And.intro hq hc)
        have HB2 := Lib.hid hB2
        clear hl2 hB2 hq hc HS
        go_wp2_with fail
        go_loopw [8] (fun i W => AgRel2 w p b q c t st i W ∧ Below wr.heap.size wr W) (fun i _ => t.length - (intOf i).toNat)
        case atStart => exact ⟨⟨0, newSt, by omega, rfl, H2.out, HR.out⟩, HB2.out⟩
        case round =>
          obtain ⟨⟨j, su, hj, rfl, hS, hR⟩, hBr⟩ := hrel
          have HS := Lib.hid hS
          have HBr := Lib.hid hBr
          by_cases hjt : j < t.length
          · obtain ⟨ad2, rfl, hat⟩ := HE2.out j t[j] (by simp [hjt])
            have hdr : t.drop j = t[j] :: t.drop (j + 1) := (List.drop_eq_getElem_cons hjt)
            rw [hdr] at hR
            have HE := Lib.hid hat
            clear hat hdr hS hBr
            generalize t[j] = ev at HE hR
            cases hR with
            | cons ha hR =>
              have HR2 := Lib.hid hR
              have hright := (answer_ok ha).1
              clear hR
              have x := HE.out.below HBr.out
              have x0 := x.c0
              have x1 := x.c1
              have x2 := x.c2
              have x3 := x.c3
              have x4 := x.c4
              have x5 := x.c5
              have x6 := x.c6
              have x7 := x.c7
              have x8 := x.c8
              have x9 := x.c9
              clear x
              go_wp2_with fail
              refine (right_calls ev _ HS.out.one.kinds).mono ?_
              rw [hright]
              rintro e4 w4 ⟨rfl, hB4⟩
              have HS4 : Hid (Sh2 w w4 p b q c st su) := Lib.hid (HS.out.later hB4)
              have HBr4 := Lib.hid (HBr.out.trans (hB4.mono HBr.out.size))
              clear hB4 x0 x1 x2 x3 x4 x5 x6 x7 x8 x9 HS HBr hright
              have x := HE.out.below HBr4.out
              have x0 := x.c0
              have x1 := x.c1
              have x2 := x.c2
              have x3 := x.c3
              have x4 := x.c4
              have x5 := x.c5
              have x6 := x.c6
              have x7 := x.c7
              have x8 := x.c8
              have x9 := x.c9
              clear x
              go_wp2_with fail
              refine (feed_calls q c su ev _ HS4.out.two.line HS4.out.two.kinds).mono ?_
              rw [ha]
              rintro e5 w5 ⟨rfl, hl5, hk5⟩
              have HS5 := Lib.hid (HS4.out.step2 hl5 hk5)
              have HBr5 := Lib.hid (HBr4.out.trans (hk5.below (by rintro i (rfl | rfl); exact HLT.out.1; exact HLT.out.2) HBr4.out.size))
              clear ha hl5 hk5 x0 x1 x2 x3 x4 x5 x6 x7 x8 x9 HS4 HBr4
              go_wp2
              go_roundw
              case rel => exact ⟨⟨j + 1, su.after ev, by omega, by go_num, HS5.out, HR2.out⟩, HBr5.out⟩
              case measure => simp [intOf]; omega
          · have hjj : j = t.length := by omega
            rw [List.drop_of_length_le (by omega)] at hR
            cases hR
            clear hS hBr hjj
            go_wp2_with fail
            refine (count_calls q c st _ HS.out.two.line).mono ?_
            rintro e9 w9 ⟨rfl, rfl⟩
            go_wp2_with fail
            refine (count_calls p b st _ HS.out.one.line).mono ?_
            rintro e9 w9 ⟨rfl, rfl⟩
            go_wp2_with fail
            refine (open_calls q c st _ HS.out.two.line).mono ?_
            rintro e9 w9 ⟨rfl, rfl⟩
            go_wp2_with fail
            refine (open_calls p b st _ HS.out.one.line).mono ?_
            rintro e9 w9 ⟨rfl, rfl⟩
            go_wp2_with fail
            refine (last_calls q c st _ HS.out.two.line).mono ?_
            rintro e9 w9 ⟨rfl, rfl⟩
            go_wp2_with fail
            refine (last_calls p b st _ HS.out.one.line).mono ?_
            rintro e9 w9 ⟨rfl, rfl⟩
            go_wp2
            go_ret
            exact ⟨rfl, HS.out.one.below⟩
      · clear hlt
        go_wp2_with fail
        refine (new_calls wr).mono ?_
        rintro e2 w2 ⟨q, c, rfl, hq, hc, hl2, hB2⟩
        have H2 : Hid (Sh2 w w2 p b q c st newSt) := Lib.hid (HS.out.two hl2 ⟨hq, hc⟩ hB2)
        have HE3 := Lib.hid (HE2.out.below hB2)
        have HLT := Lib.hid (And.intro hq hc)
        have HB2 := Lib.hid hB2
        clear hl2 hB2 hq hc HS
        go_wp2_with fail
        go_loopw [8] (fun i W => AgRel2 w p b q c t st i W ∧ Below wr.heap.size wr W) (fun i _ => t.length - (intOf i).toNat)
        case atStart => exact ⟨⟨0, newSt, by omega, rfl, H2.out, HR.out⟩, HB2.out⟩
        case round =>
          obtain ⟨⟨j, su, hj, rfl, hS, hR⟩, hBr⟩ := hrel
          have HS := Lib.hid hS
          have HBr := Lib.hid hBr
          by_cases hjt : j < t.length
          · obtain ⟨ad2, rfl, hat⟩ := HE2.out j t[j] (by simp [hjt])
            have hdr : t.drop j = t[j] :: t.drop (j + 1) := (List.drop_eq_getElem_cons hjt)
            rw [hdr] at hR
            have HE := Lib.hid hat
            clear hat hdr hS hBr
            generalize t[j] = ev at HE hR
            cases hR with
            | cons ha hR =>
              have HR2 := Lib.hid hR
              have hright := (answer_ok ha).1
              clear hR
              have x := HE.out.below HBr.out
              have x0 := x.c0
              have x1 := x.c1
              have x2 := x.c2
              have x3 := x.c3
              have x4 := x.c4
              have x5 := x.c5
              have x6 := x.c6
              have x7 := x.c7
              have x8 := x.c8
              have x9 := x.c9
              clear x
              go_wp2_with fail
              refine (right_calls ev _ HS.out.one.kinds).mono ?_
              rw [hright]
              rintro e4 w4 ⟨rfl, hB4⟩
              have HS4 : Hid (Sh2 w w4 p b q c st su) := Lib.hid (HS.out.later hB4)
              have HBr4 := Lib.hid (HBr.out.trans (hB4.mono HBr.out.size))
              clear hB4 x0 x1 x2 x3 x4 x5 x6 x7 x8 x9 HS HBr hright
              have x := HE.out.below HBr4.out
              have x0 := x.c0
              have x1 := x.c1
              have x2 := x.c2
              have x3 := x.c3
              have x4 := x.c4
              have x5 := x.c5
              have x6 := x.c6
              have x7 := x.c7
              have x8 := x.c8
              have x9 := x.c9
              clear x
              go_wp2_with fail
              refine (feed_calls q c su ev _ HS4.out.two.line HS4.out.two.kinds).mono ?_
              rw [ha]
              rintro e5 w5 ⟨rfl, hl5, hk5⟩
              have HS5 := Lib.hid (HS4.out.step2 hl5 hk5)
              have HBr5 := Lib.hid (HBr4.out.trans (hk5.below (by rintro i (rfl | rfl); exact HLT.out.1; exact HLT.out.2) HBr4.out.size))
              clear ha hl5 hk5 x0 x1 x2 x3 x4 x5 x6 x7 x8 x9 HS4 HBr4
              go_wp2
              go_roundw
              case rel => exact ⟨⟨j + 1, su.after ev, by omega, by go_num, HS5.out, HR2.out⟩, HBr5.out⟩
              case measure => simp [intOf]; omega
          · have hjj : j = t.length := by omega
            rw [List.drop_of_length_le (by omega)] at hR
            cases hR
            clear hS hBr hjj
            go_wp2_with fail
            refine (count_calls q c st _ HS.out.two.line).mono ?_
            rintro e9 w9 ⟨rfl, rfl⟩
            go_wp2_with fail
            refine (count_calls p b st _ HS.out.one.line).mono ?_
            rintro e9 w9 ⟨rfl, rfl⟩
            go_wp2_with fail
            refine (open_calls q c st _ HS.out.two.line).mono ?_
            rintro e9 w9 ⟨rfl, rfl⟩
            go_wp2_with fail
            refine (open_calls p b st _ HS.out.one.line).mono ?_
            rintro e9 w9 ⟨rfl, rfl⟩
            go_wp2_with fail
            refine (last_calls q c st _ HS.out.two.line).mono ?_
            rintro e9 w9 ⟨rfl, rfl⟩
            go_wp2_with fail
            refine (last_calls p b st _ HS.out.one.line).mono ?_
            rintro e9 w9 ⟨rfl, rfl⟩
            go_wp2
            go_ret
            exact ⟨rfl, HS.out.one.below⟩
end Go.Proofs.YtjbdjijfbpiccaaDoor
