/- LineLater: the walk. -/
import Derived.Test.YtjbdjijfbpiccaaDoorLnT
import Derived.Test.YtjbdjijfbpiccaaDoorApA
namespace Go.Proofs.YtjbdjijfbpiccaaDoor
open Go.RowKit Go.MapKept
set_option linter.unusedSimpArgs false
set_option linter.unusedVariables false

/-- the time of the last one is a time -/
def LSt.lastOk (st : LSt) : Prop := 0 ≤ st.last ∧ st.last < 18446744073709551616
theorem lastOk_after {st : LSt} {e : Ev} (h : st.lastOk) (he : e.wf) : (st.after e).lastOk := by
  unfold LSt.after
  split
  · unfold LSt.next
    split <;> exact ⟨he.1, he.2.1⟩
  · exact h
theorem wrap_last {st : LSt} (h : st.lastOk) (h0 : 0 < st.last) : IntKind.u64.wrap (st.last - 1) = st.last - 1 := by
  obtain ⟨h1, h2⟩ := h
  simp [IntKind.wrap, IntKind.signed, IntKind.bits]
  omega
def LtRel (w : World) (p b q c : Nat) (n : Nat) (i : Value) (W : World) : Prop :=
  ∃ (k : Nat) (st : LSt), k ≤ n ∧ i = .int .i64 k ∧ Sh2 w W p b q c st st ∧ st.lastOk
theorem Sh.drew {w W : World} {p b : Nat} {st : LSt} (h : Sh w W p b st) : Sh w W.drew p b st := ⟨⟨h.line.row, h.line.map, h.line.ok⟩, h.kinds, h.below.drew, h.lt⟩
theorem Sh2.drew {w W : World} {p b q c : Nat} {st su : LSt} (h : Sh2 w W p b q c st su) : Sh2 w W.drew p b q c st su := ⟨h.one.drew, h.two.drew, h.sep⟩
theorem feed_agg (p b : Nat) (st : LSt) (e : Ev) (w : World) (h : IsLine w p b st) (hK : KindsAt w) : Calls Tryd.prog 10 #[.pointer (some ⟨p, 0, none⟩), .agg #[.int .i64 e.kind, .int .u64 e.time, .int .u64 e.id, .string e.a, .string e.b, .string e.c, .string e.d, .int .i64 e.x, .int .i64 e.y, .int .i64 e.z]] w fun r w' => r = .returned (.int .i64 (st.answer e)) ∧ IsLine w' p b (st.after e) ∧ Kp (Two p b) w w' :=
  feed_calls p b st e w h hK
/-- what is late is refused -/
theorem late_answer {st : LSt} {e : Ev} (h : e.time < st.last) : st.answer e = 1 ∨ st.answer e = 5 ∨ st.answer e = 6 := by
  unfold LSt.answer
  split
  · exact .inl rfl
  · split
    · exact .inr (.inl rfl)
    · rw [if_pos (.inl h)]; exact .inr (.inr rfl)
def Ev.at_ (e : Ev) (t : Int) : Ev := { e with time := t }

set_option maxRecDepth 100000 in
set_option maxHeartbeats 4000000 in
theorem later_walk (A : Option Addr) (cap : Nat) (l : List Ev) (w : World) (hK : KindsAt w) (hl : EvsAt w A l) (hlen : l.length ≤ 9223372036854775807) (hwf : ∀ e ∈ l, e.wf) :
    Calls Tryd.prog 6 #[.slice A l.length cap] w fun e w' => e = .returned (.bool true) ∧ Below w.heap.size w w' := by
  have HK := Lib.hid hK
  have HL := Lib.hid hl
  have HW := Lib.hid hwf
  clear hK hl hwf
  go_enter Tryd.func6, Tryd.ntmps6
  go_wp2_with fail
  refine (shown_calls w HK.out).mono ?_
  rintro e0 w0 ⟨rfl, hB0⟩
  have HB0 := Lib.hid hB0
  clear hB0
  go_wp2_with fail
  refine (new_calls w0).mono ?_
  rintro e1 w1 ⟨p, b, rfl, hp, hb, hl1, hB1⟩
  have H1 : Hid (Sh w w1 p b newSt) := by
    have hz := HB0.out.size
    have hBB := HB0.out.trans (hB1.mono hz)
    exact Lib.hid ⟨hl1, HK.out.kp (Kp.of_below (S := Non) hBB) (fun q => q), hBB, by omega⟩
  clear hl1 hB1 hp hb HB0 HK
  go_wp2_with fail
  refine (new_calls w1).mono ?_
  rintro e2 w2 ⟨q, c, rfl, hq, hc, hl2, hB2⟩
  have H2 : Hid (Sh2 w w2 p b q c newSt newSt) := Lib.hid (H1.out.two hl2 ⟨hq, hc⟩ hB2)
  clear hl2 hB2 hq hc H1
  go_wp2_with fail
  go_loopw [6] (fun i W => LtRel w p b q c l.length i W) (fun i _ => l.length - (intOf i).toNat)
  case atStart => exact ⟨0, newSt, by omega, rfl, H2.out, by simp [LSt.lastOk, newSt]⟩
  case round =>
    obtain ⟨k, st, hk, rfl, hS, hLO⟩ := hrel
    have HS := Lib.hid hS
    have HLO := Lib.hid hLO
    clear hS hLO H2
    by_cases hlt : k < l.length ∧ k < 150
    · obtain ⟨hlt, h150⟩ := hlt
      have HWF := Lib.hid (HW.out l[k] (List.getElem_mem hlt))
      obtain ⟨ad, rfl, hat⟩ := HL.out k l[k] (by simp [hlt])
      have HE := Lib.hid hat
      clear hat
      generalize hev : l[k] = ev at HE HWF
      clear hev
      have HLA := Lib.hid (lastOk_after HLO.out HWF.out)
      by_cases h0 : 0 < st.last
      · have hwr := wrap_last HLO.out h0
        have x := HE.out.below HS.out.one.below
        have x0 := x.c0
        have x1 := x.c1
        have x2 := x.c2
        have x3 := x.c3
        have x4 := x.c4
        have x5 := x.c5
        have x6 := x.c6
        have x7 := x.c7
        have x8 := x.c8
        have x9 := x.c9
        clear x
        have HL0 := Lib.hid h0
        go_wp2_with fail
        refine (last_calls p b st _ HS.out.one.line).mono ?_
        rintro e9 w9 ⟨rfl, rfl⟩
        go_wp2_with fail
        have HSb : ∀ cs, Hid (Sh2 w (wr.alloc (.cells cs 30)) p b q c st st) := fun cs => Lib.hid (HS.out.later ((Below.refl _ _).alloc (Nat.le_refl _) _))
        refine (last_calls p b st _ (HSb _).out.one.line).mono ?_
        rintro e9 w9 ⟨rfl, rfl⟩
        go_wp2_with fail
        refine (count_calls p b st _ (HSb _).out.one.line).mono ?_
        rintro e9 w9 ⟨rfl, rfl⟩
        go_wp2_with fail
        refine (feed_agg p b st ⟨ev.kind, st.last - 1, ev.id, ev.a, ev.b, ev.c, ev.d, ev.x, ev.y, ev.z⟩ _ (HSb _).out.one.line (HSb _).out.one.kinds).mono ?_
        have ha := late_answer (st := st) (e := ⟨ev.kind, st.last - 1, ev.id, ev.a, ev.b, ev.c, ev.d, ev.x, ev.y, ev.z⟩) (by show st.last - 1 < st.last; omega)
        have hsame : st.after ⟨ev.kind, st.last - 1, ev.id, ev.a, ev.b, ev.c, ev.d, ev.x, ev.y, ev.z⟩ = st := after_not (by omega)
        rw [hsame]
        clear hsame
        rintro e8 w8 ⟨rfl, hl8, hk8⟩
        have HS8 : Hid (Sh2 w w8 p b q c st st) := Lib.hid ((HSb _).out.step1 hl8 hk8)
        clear hl8 hk8 HSb HS x0 x1 x2 x3 x4 x5 x6 x7 x8 x9 hwr h0
        have HS := HS8
        clear HS8
        generalize st.answer ⟨ev.kind, st.last - 1, ev.id, ev.a, ev.b, ev.c, ev.d, ev.x, ev.y, ev.z⟩ = an at ha
        rcases ha with rfl | rfl | rfl
        · go_wp2_with fail
          refine (count_calls p b st _ HS.out.one.line).mono ?_
          rintro e9 w9 ⟨rfl, rfl⟩
          go_wp2_with fail
          have HSd : Hid (Sh2 w w8.drew p b q c st st) := Lib.hid (HS.out.drew)
          have yy := HE.out.below HSd.out.one.below
          have y0 := yy.c0; have y1 := yy.c1; have y2 := yy.c2; have y3 := yy.c3; have y4 := yy.c4; have y5 := yy.c5; have y6 := yy.c6; have y7 := yy.c7; have y8 := yy.c8; have y9 := yy.c9
          clear yy
          go_region_held3 (fun W => W.cell? (ad.add (k * 10)) = some (.int .i64 ev.kind) ∧ W.cell? ⟨(ad.add (k * 10)).block, (ad.add (k * 10)).off + 1, none⟩ = some (.int .u64 ev.time) ∧ W.cell? ⟨(ad.add (k * 10)).block, (ad.add (k * 10)).off + 2, none⟩ = some (.int .u64 ev.id) ∧ W.cell? ⟨(ad.add (k * 10)).block, (ad.add (k * 10)).off + 3, none⟩ = some (.string ev.a) ∧ W.cell? ⟨(ad.add (k * 10)).block, (ad.add (k * 10)).off + 4, none⟩ = some (.string ev.b) ∧ W.cell? ⟨(ad.add (k * 10)).block, (ad.add (k * 10)).off + 5, none⟩ = some (.string ev.c) ∧ W.cell? ⟨(ad.add (k * 10)).block, (ad.add (k * 10)).off + 6, none⟩ = some (.string ev.d) ∧ W.cell? ⟨(ad.add (k * 10)).block, (ad.add (k * 10)).off + 7, none⟩ = some (.int .i64 ev.x) ∧ W.cell? ⟨(ad.add (k * 10)).block, (ad.add (k * 10)).off + 8, none⟩ = some (.int .i64 ev.y) ∧ W.cell? ⟨(ad.add (k * 10)).block, (ad.add (k * 10)).off + 9, none⟩ = some (.int .i64 ev.z)) (first | exact ⟨y0, y1, y2, y3, y4, y5, y6, y7, y8, y9⟩ | exact ⟨z0, z1, z2, z3, z4, z5, z6, z7, z8, z9⟩ | exact ⟨v0, v1, v2, v3, v4, v5, v6, v7, v8, v9⟩) (first
            | (go_at_call 10; ((with_reducible refine (feed_agg p b st ev _ HSd.out.one.line HSd.out.one.kinds).mono ?_)); rintro e3 w3 ⟨rfl, hl3, hk3⟩; have HS3 := Lib.hid (HSd.out.step1 hl3 hk3); clear hl3 hk3; have zz := HE.out.below HS3.out.one.below; have z0 := zz.c0; have z1 := zz.c1; have z2 := zz.c2; have z3 := zz.c3; have z4 := zz.c4; have z5 := zz.c5; have z6 := zz.c6; have z7 := zz.c7; have z8 := zz.c8; have z9 := zz.c9; clear zz)
            | (go_at_call 10; ((with_reducible refine (feed_agg q c st ev _ HS3.out.two.line HS3.out.two.kinds).mono ?_)); rintro e4 w4 ⟨rfl, hl4, hk4⟩; have HS4 := Lib.hid (HS3.out.step2 hl4 hk4); clear hl4 hk4; have vv := HE.out.below HS4.out.one.below; have v0 := vv.c0; have v1 := vv.c1; have v2 := vv.c2; have v3 := vv.c3; have v4 := vv.c4; have v5 := vv.c5; have v6 := vv.c6; have v7 := vv.c7; have v8 := vv.c8; have v9 := vv.c9; clear vv))
          all_goals go_wp2
          all_goals go_roundw
          case rel => exact ⟨k + 1, st.after ev, by omega, by go_num, HS4.out, HLA.out⟩
          case measure => simp [intOf]; omega
        · go_wp2_with fail
          refine (count_calls p b st _ HS.out.one.line).mono ?_
          rintro e9 w9 ⟨rfl, rfl⟩
          go_wp2_with fail
          have HSd : Hid (Sh2 w w8.drew p b q c st st) := Lib.hid (HS.out.drew)
          have yy := HE.out.below HSd.out.one.below
          have y0 := yy.c0; have y1 := yy.c1; have y2 := yy.c2; have y3 := yy.c3; have y4 := yy.c4; have y5 := yy.c5; have y6 := yy.c6; have y7 := yy.c7; have y8 := yy.c8; have y9 := yy.c9
          clear yy
          go_region_held3 (fun W => W.cell? (ad.add (k * 10)) = some (.int .i64 ev.kind) ∧ W.cell? ⟨(ad.add (k * 10)).block, (ad.add (k * 10)).off + 1, none⟩ = some (.int .u64 ev.time) ∧ W.cell? ⟨(ad.add (k * 10)).block, (ad.add (k * 10)).off + 2, none⟩ = some (.int .u64 ev.id) ∧ W.cell? ⟨(ad.add (k * 10)).block, (ad.add (k * 10)).off + 3, none⟩ = some (.string ev.a) ∧ W.cell? ⟨(ad.add (k * 10)).block, (ad.add (k * 10)).off + 4, none⟩ = some (.string ev.b) ∧ W.cell? ⟨(ad.add (k * 10)).block, (ad.add (k * 10)).off + 5, none⟩ = some (.string ev.c) ∧ W.cell? ⟨(ad.add (k * 10)).block, (ad.add (k * 10)).off + 6, none⟩ = some (.string ev.d) ∧ W.cell? ⟨(ad.add (k * 10)).block, (ad.add (k * 10)).off + 7, none⟩ = some (.int .i64 ev.x) ∧ W.cell? ⟨(ad.add (k * 10)).block, (ad.add (k * 10)).off + 8, none⟩ = some (.int .i64 ev.y) ∧ W.cell? ⟨(ad.add (k * 10)).block, (ad.add (k * 10)).off + 9, none⟩ = some (.int .i64 ev.z)) (first | exact ⟨y0, y1, y2, y3, y4, y5, y6, y7, y8, y9⟩ | exact ⟨z0, z1, z2, z3, z4, z5, z6, z7, z8, z9⟩ | exact ⟨v0, v1, v2, v3, v4, v5, v6, v7, v8, v9⟩) (first
            | (go_at_call 10; ((with_reducible refine (feed_agg p b st ev _ HSd.out.one.line HSd.out.one.kinds).mono ?_)); rintro e3 w3 ⟨rfl, hl3, hk3⟩; have HS3 := Lib.hid (HSd.out.step1 hl3 hk3); clear hl3 hk3; have zz := HE.out.below HS3.out.one.below; have z0 := zz.c0; have z1 := zz.c1; have z2 := zz.c2; have z3 := zz.c3; have z4 := zz.c4; have z5 := zz.c5; have z6 := zz.c6; have z7 := zz.c7; have z8 := zz.c8; have z9 := zz.c9; clear zz)
            | (go_at_call 10; ((with_reducible refine (feed_agg q c st ev _ HS3.out.two.line HS3.out.two.kinds).mono ?_)); rintro e4 w4 ⟨rfl, hl4, hk4⟩; have HS4 := Lib.hid (HS3.out.step2 hl4 hk4); clear hl4 hk4; have vv := HE.out.below HS4.out.one.below; have v0 := vv.c0; have v1 := vv.c1; have v2 := vv.c2; have v3 := vv.c3; have v4 := vv.c4; have v5 := vv.c5; have v6 := vv.c6; have v7 := vv.c7; have v8 := vv.c8; have v9 := vv.c9; clear vv))
          all_goals go_wp2
          all_goals go_roundw
          case rel => exact ⟨k + 1, st.after ev, by omega, by go_num, HS4.out, HLA.out⟩
          case measure => simp [intOf]; omega
        · go_wp2_with fail
          refine (count_calls p b st _ HS.out.one.line).mono ?_
          rintro e9 w9 ⟨rfl, rfl⟩
          go_wp2_with fail
          have HSd : Hid (Sh2 w w8.drew p b q c st st) := Lib.hid (HS.out.drew)
          have yy := HE.out.below HSd.out.one.below
          have y0 := yy.c0; have y1 := yy.c1; have y2 := yy.c2; have y3 := yy.c3; have y4 := yy.c4; have y5 := yy.c5; have y6 := yy.c6; have y7 := yy.c7; have y8 := yy.c8; have y9 := yy.c9
          clear yy
          go_region_held3 (fun W => W.cell? (ad.add (k * 10)) = some (.int .i64 ev.kind) ∧ W.cell? ⟨(ad.add (k * 10)).block, (ad.add (k * 10)).off + 1, none⟩ = some (.int .u64 ev.time) ∧ W.cell? ⟨(ad.add (k * 10)).block, (ad.add (k * 10)).off + 2, none⟩ = some (.int .u64 ev.id) ∧ W.cell? ⟨(ad.add (k * 10)).block, (ad.add (k * 10)).off + 3, none⟩ = some (.string ev.a) ∧ W.cell? ⟨(ad.add (k * 10)).block, (ad.add (k * 10)).off + 4, none⟩ = some (.string ev.b) ∧ W.cell? ⟨(ad.add (k * 10)).block, (ad.add (k * 10)).off + 5, none⟩ = some (.string ev.c) ∧ W.cell? ⟨(ad.add (k * 10)).block, (ad.add (k * 10)).off + 6, none⟩ = some (.string ev.d) ∧ W.cell? ⟨(ad.add (k * 10)).block, (ad.add (k * 10)).off + 7, none⟩ = some (.int .i64 ev.x) ∧ W.cell? ⟨(ad.add (k * 10)).block, (ad.add (k * 10)).off + 8, none⟩ = some (.int .i64 ev.y) ∧ W.cell? ⟨(ad.add (k * 10)).block, (ad.add (k * 10)).off + 9, none⟩ = some (.int .i64 ev.z)) (first | exact ⟨y0, y1, y2, y3, y4, y5, y6, y7, y8, y9⟩ | exact ⟨z0, z1, z2, z3, z4, z5, z6, z7, z8, z9⟩ | exact ⟨v0, v1, v2, v3, v4, v5, v6, v7, v8, v9⟩) (first
            | (go_at_call 10; ((with_reducible refine (feed_agg p b st ev _ HSd.out.one.line HSd.out.one.kinds).mono ?_)); rintro e3 w3 ⟨rfl, hl3, hk3⟩; have HS3 := Lib.hid (HSd.out.step1 hl3 hk3); clear hl3 hk3; have zz := HE.out.below HS3.out.one.below; have z0 := zz.c0; have z1 := zz.c1; have z2 := zz.c2; have z3 := zz.c3; have z4 := zz.c4; have z5 := zz.c5; have z6 := zz.c6; have z7 := zz.c7; have z8 := zz.c8; have z9 := zz.c9; clear zz)
            | (go_at_call 10; ((with_reducible refine (feed_agg q c st ev _ HS3.out.two.line HS3.out.two.kinds).mono ?_)); rintro e4 w4 ⟨rfl, hl4, hk4⟩; have HS4 := Lib.hid (HS3.out.step2 hl4 hk4); clear hl4 hk4; have vv := HE.out.below HS4.out.one.below; have v0 := vv.c0; have v1 := vv.c1; have v2 := vv.c2; have v3 := vv.c3; have v4 := vv.c4; have v5 := vv.c5; have v6 := vv.c6; have v7 := vv.c7; have v8 := vv.c8; have v9 := vv.c9; clear vv))
          all_goals go_wp2
          all_goals go_roundw
          case rel => exact ⟨k + 1, st.after ev, by omega, by go_num, HS4.out, HLA.out⟩
          case measure => simp [intOf]; omega
      · go_wp2_with fail
        refine (last_calls p b st _ HS.out.one.line).mono ?_
        rintro e9 w9 ⟨rfl, rfl⟩
        go_wp2_with fail
        have HSd : Hid (Sh2 w wr.drew p b q c st st) := Lib.hid (HS.out.drew)
        have yy := HE.out.below HSd.out.one.below
        have y0 := yy.c0; have y1 := yy.c1; have y2 := yy.c2; have y3 := yy.c3; have y4 := yy.c4; have y5 := yy.c5; have y6 := yy.c6; have y7 := yy.c7; have y8 := yy.c8; have y9 := yy.c9
        clear yy
        go_region_held3 (fun W => W.cell? (ad.add (k * 10)) = some (.int .i64 ev.kind) ∧ W.cell? ⟨(ad.add (k * 10)).block, (ad.add (k * 10)).off + 1, none⟩ = some (.int .u64 ev.time) ∧ W.cell? ⟨(ad.add (k * 10)).block, (ad.add (k * 10)).off + 2, none⟩ = some (.int .u64 ev.id) ∧ W.cell? ⟨(ad.add (k * 10)).block, (ad.add (k * 10)).off + 3, none⟩ = some (.string ev.a) ∧ W.cell? ⟨(ad.add (k * 10)).block, (ad.add (k * 10)).off + 4, none⟩ = some (.string ev.b) ∧ W.cell? ⟨(ad.add (k * 10)).block, (ad.add (k * 10)).off + 5, none⟩ = some (.string ev.c) ∧ W.cell? ⟨(ad.add (k * 10)).block, (ad.add (k * 10)).off + 6, none⟩ = some (.string ev.d) ∧ W.cell? ⟨(ad.add (k * 10)).block, (ad.add (k * 10)).off + 7, none⟩ = some (.int .i64 ev.x) ∧ W.cell? ⟨(ad.add (k * 10)).block, (ad.add (k * 10)).off + 8, none⟩ = some (.int .i64 ev.y) ∧ W.cell? ⟨(ad.add (k * 10)).block, (ad.add (k * 10)).off + 9, none⟩ = some (.int .i64 ev.z)) (first | exact ⟨y0, y1, y2, y3, y4, y5, y6, y7, y8, y9⟩ | exact ⟨z0, z1, z2, z3, z4, z5, z6, z7, z8, z9⟩ | exact ⟨v0, v1, v2, v3, v4, v5, v6, v7, v8, v9⟩) (first
          | (go_at_call 10; ((with_reducible refine (feed_agg p b st ev _ HSd.out.one.line HSd.out.one.kinds).mono ?_)); rintro e3 w3 ⟨rfl, hl3, hk3⟩; have HS3 := Lib.hid (HSd.out.step1 hl3 hk3); clear hl3 hk3; have zz := HE.out.below HS3.out.one.below; have z0 := zz.c0; have z1 := zz.c1; have z2 := zz.c2; have z3 := zz.c3; have z4 := zz.c4; have z5 := zz.c5; have z6 := zz.c6; have z7 := zz.c7; have z8 := zz.c8; have z9 := zz.c9; clear zz)
          | (go_at_call 10; ((with_reducible refine (feed_agg q c st ev _ HS3.out.two.line HS3.out.two.kinds).mono ?_)); rintro e4 w4 ⟨rfl, hl4, hk4⟩; have HS4 := Lib.hid (HS3.out.step2 hl4 hk4); clear hl4 hk4; have vv := HE.out.below HS4.out.one.below; have v0 := vv.c0; have v1 := vv.c1; have v2 := vv.c2; have v3 := vv.c3; have v4 := vv.c4; have v5 := vv.c5; have v6 := vv.c6; have v7 := vv.c7; have v8 := vv.c8; have v9 := vv.c9; clear vv))
        all_goals go_wp2
        all_goals go_roundw
        case rel => exact ⟨k + 1, st.after ev, by omega, by go_num, HS4.out, HLA.out⟩
        case measure => simp [intOf]; omega
    · by_cases hlt1 : k < l.length
      · have h150 : ¬ k < 150 := fun q => hlt ⟨hlt1, q⟩
        clear hlt
        go_wp2_with fail
        refine (count_calls p b st _ HS.out.one.line).mono ?_
        rintro e9 w9 ⟨rfl, rfl⟩
        go_wp2_with fail
        refine (count_calls q c st _ HS.out.two.line).mono ?_
        rintro e9 w9 ⟨rfl, rfl⟩
        go_wp2_with fail
        refine (open_calls p b st _ HS.out.one.line).mono ?_
        rintro e9 w9 ⟨rfl, rfl⟩
        go_wp2_with fail
        refine (open_calls q c st _ HS.out.two.line).mono ?_
        rintro e9 w9 ⟨rfl, rfl⟩
        go_wp2_with fail
        refine (last_calls p b st _ HS.out.one.line).mono ?_
        rintro e9 w9 ⟨rfl, rfl⟩
        go_wp2_with fail
        refine (last_calls q c st _ HS.out.two.line).mono ?_
        rintro e9 w9 ⟨rfl, rfl⟩
        go_wp2_with fail
        go_ret
        exact ⟨by simp, HS.out.one.below⟩
      · clear hlt
        go_wp2_with fail
        refine (count_calls p b st _ HS.out.one.line).mono ?_
        rintro e9 w9 ⟨rfl, rfl⟩
        go_wp2_with fail
        refine (count_calls q c st _ HS.out.two.line).mono ?_
        rintro e9 w9 ⟨rfl, rfl⟩
        go_wp2_with fail
        refine (open_calls p b st _ HS.out.one.line).mono ?_
        rintro e9 w9 ⟨rfl, rfl⟩
        go_wp2_with fail
        refine (open_calls q c st _ HS.out.two.line).mono ?_
        rintro e9 w9 ⟨rfl, rfl⟩
        go_wp2_with fail
        refine (last_calls p b st _ HS.out.one.line).mono ?_
        rintro e9 w9 ⟨rfl, rfl⟩
        go_wp2_with fail
        refine (last_calls q c st _ HS.out.two.line).mono ?_
        rintro e9 w9 ⟨rfl, rfl⟩
        go_wp2_with fail
        go_ret
        exact ⟨by simp, HS.out.one.below⟩
end Go.Proofs.YtjbdjijfbpiccaaDoor
