/- LineApart: the walk. -/
import Derived.Test.YtjbdjijfbpiccaaDoorApA
import Derived.LoopTactic
namespace Go.Proofs.YtjbdjijfbpiccaaDoor
open Go.RowKit Go.MapKept
set_option linter.unusedSimpArgs false
set_option linter.unusedVariables false

def ApRel (w : World) (p b q c : Nat) (id : Int) (n : Nat) (i : Value) (W : World) : Prop :=
  ∃ (k : Nat) (st su : LSt), k ≤ n ∧ i = .int .i64 k ∧ Sh2 w W p b q c st su ∧ Apart id st su

set_option maxRecDepth 100000 in
set_option maxHeartbeats 2000000 in
theorem apart_walk (A : Option Addr) (cap : Nat) (l : List Ev) (id : Int) (w : World) (hK : KindsAt w) (hl : EvsAt w A l) (hlen : l.length ≤ 9223372036854775807) :
    Calls Tryd.prog 3 #[.slice A l.length cap, .int .u64 id] w fun e w' => e = .returned (.bool true) ∧ Below w.heap.size w w' := by
  have HK := Lib.hid hK
  have HL := Lib.hid hl
  clear hK hl
  go_enter Tryd.func3, Tryd.ntmps3
  go_wp2_with fail
  refine (shown_calls w HK.out).mono ?_
  rintro e0 w0 ⟨rfl, hB0⟩
  have HB0 := Lib.hid hB0
  clear hB0
  go_wp2_with fail
  refine (new_calls w0).mono ?_
  rintro e1 w1 ⟨p, b, rfl, hp, hb, hl1, hB1⟩
  have H1 : Hid (Sh w w1 p b newSt) := by
    have hz := HB0.out.size
    have hBB := HB0.out.trans (hB1.mono hz)
    exact Lib.hid ⟨hl1, HK.out.kp (Kp.of_below (S := Non) hBB) (fun q => q), hBB, by omega⟩
  clear hl1 hB1 hp hb HB0 HK
  go_wp2_with fail
  refine (new_calls w1).mono ?_
  rintro e2 w2 ⟨q, c, rfl, hq, hc, hl2, hB2⟩
  have H2 : Hid (Sh2 w w2 p b q c newSt newSt) := Lib.hid (H1.out.two hl2 ⟨hq, hc⟩ hB2)
  clear hl2 hB2 hq hc H1
  go_wp2_with fail
  go_loopw [8] (fun i W => ApRel w p b q c id l.length i W) (fun i _ => l.length - (intOf i).toNat)
  case atStart => exact ⟨0, newSt, newSt, by omega, rfl, H2.out, Apart.new id⟩
  case round =>
    obtain ⟨k, st, su, hk, rfl, hS, hA⟩ := hrel
    have HS := Lib.hid hS
    have HA := Lib.hid hA
    clear hS hA H2
    by_cases hlt : k < l.length
    · by_cases h150 : k < 150
      · obtain ⟨ad, rfl, hat⟩ := HL.out k l[k] (by simp [hlt])
        have HE := Lib.hid hat
        clear hat
        generalize hev : l[k] = ev at HE
        clear hev
        have x := HE.out.below HS.out.one.below
        have x0 := x.c0
        have x1 := x.c1
        have x2 := x.c2
        have x3 := x.c3
        have x4 := x.c4
        have x5 := x.c5
        have x6 := x.c6
        have x7 := x.c7
        have x8 := x.c8
        have x9 := x.c9
        clear x
        go_wp2_with fail
        refine (feed_calls p b st ev _ HS.out.one.line HS.out.one.kinds).mono ?_
        rintro e3 w3 ⟨rfl, hl3, hk3⟩
        have HS3 := Lib.hid (HS.out.step1 hl3 hk3)
        have hok := Lib.hid HS.out.one.line.ok
        clear hl3 hk3 x0 x1 x2 x3 x4 x5 x6 x7 x8 x9 HS
        have y := HE.out.below HS3.out.one.below
        have y0 := y.c0
        have y2 := y.c2
        by_cases ha : st.answer ev = 0
        · by_cases hs : 3 ≤ ev.kind ∧ ev.id ≠ id
          · have HA' := Lib.hid (HA.out.skip (.inr hs))
            obtain ⟨hs1, hs2⟩ := hs
            have hs3 : (ev.id != id) = true := by simpa using hs2
            have hs4 : (ev.id == id) = false := by simpa using hs2
            rw [ha]
            clear ha HA hs2 y
            go_wp2
            go_roundw
            case rel => exact ⟨k + 1, st.after ev, su, by omega, by go_num, HS3.out, HA'.out⟩
            case measure => simp [intOf]; omega
          · obtain ⟨hau, hA'⟩ := HA.out.take hok.out ha (by omega)
            have HA' := Lib.hid hA'
            have y1 := y.c1
            have y3 := y.c3
            have y4 := y.c4
            have y5 := y.c5
            have y6 := y.c6
            have y7 := y.c7
            have y8 := y.c8
            have y9 := y.c9
            rw [ha]
            clear ha HA hA' y
            by_cases hk3 : 3 ≤ ev.kind
            · have hid : ev.id = id := by omega
              have hs3 : (ev.id != id) = false := by simpa using hid
              have hs4 : (ev.id == id) = true := by simpa using hid
              clear hid hs
              go_wp2_with fail
              refine (feed_calls q c su ev _ HS3.out.two.line HS3.out.two.kinds).mono ?_
              rw [hau]
              rintro e4 w4 ⟨rfl, hl4, hk4⟩
              have HS4 := Lib.hid (HS3.out.step2 hl4 hk4)
              clear hau hl4 hk4 HS3 y0 y1 y2 y3 y4 y5 y6 y7 y8 y9
              have z := HE.out.below HS4.out.one.below
              have z0 := z.c0
              clear z
              go_wp2_with fail
              refine (state_calls q c (su.after ev) id _ HS4.out.two.line).mono ?_
              rintro e5 w5 ⟨rfl, rfl⟩
              go_wp2_with fail
              refine (state_calls p b (st.after ev) id _ HS4.out.one.line).mono ?_
              rintro e6 w6 ⟨rfl, rfl⟩
              have hst : (su.after ev).state id = (st.after ev).state id := by simp only [LSt.state, HA'.out.at_]
              rw [hst]
              clear hst
              go_wp2
              go_roundw
              case rel => exact ⟨k + 1, st.after ev, su.after ev, by omega, by go_num, HS4.out, HA'.out⟩
              case measure => simp [intOf]; omega
            · clear hs
              go_wp2_with fail
              refine (feed_calls q c su ev _ HS3.out.two.line HS3.out.two.kinds).mono ?_
              rw [hau]
              rintro e4 w4 ⟨rfl, hl4, hk4⟩
              have HS4 := Lib.hid (HS3.out.step2 hl4 hk4)
              clear hau hl4 hk4 HS3 y0 y1 y2 y3 y4 y5 y6 y7 y8 y9
              have z := HE.out.below HS4.out.one.below
              have z0 := z.c0
              clear z
              go_wp2
              go_roundw
              case rel => exact ⟨k + 1, st.after ev, su.after ev, by omega, by go_num, HS4.out, HA'.out⟩
              case measure => simp [intOf]; omega
        · have HA' := Lib.hid (HA.out.skip (.inl ha))
          have hs3 : (st.answer ev != 0) = true := by simpa using ha
          have hs4 : (st.answer ev == 0) = false := by simpa using ha
          have HS5 : Hid (Sh2 w w3 p b q c (st.after ev) su) := HS3
          generalize st.answer ev = an at hs3 hs4
          clear ha HA y y0 y2 HS3
          go_wp2
          go_roundw
          case rel => exact ⟨k + 1, st.after ev, su, by omega, by go_num, HS5.out, HA'.out⟩
          case measure => simp [intOf]; omega
      · go_wp2
        go_ret
        exact ⟨rfl, HS.out.one.below⟩
    · go_wp2
      go_ret
      exact ⟨rfl, HS.out.one.below⟩
end Go.Proofs.YtjbdjijfbpiccaaDoor
