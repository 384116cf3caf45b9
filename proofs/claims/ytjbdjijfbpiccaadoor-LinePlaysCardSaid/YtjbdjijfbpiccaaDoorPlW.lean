/- LinePlays: the walk. -/
import Derived.Test.YtjbdjijfbpiccaaDoorPlB
import Derived.Test.YtjbdjijfbpiccaaDoorAgW
import Derived.Test.YtjbdjijfbpiccaaDoorLtW
import Derived.Deep.RegionHeld3
namespace Go.Proofs.YtjbdjijfbpiccaaDoor
open Go.RowKit Go.MapKept PLinePlays Go.Proofs.YtjbdjijfbpiccaaDoorW.PrintWords
set_option linter.unusedSimpArgs false
set_option linter.unusedVariables false

theorem add_more (ad : Addr) (n i : Nat) (h : 0 < i) : ad.add (n + i) = ⟨(ad.add n).block, (ad.add n).off + i, none⟩ := by
  unfold Addr.add
  rw [if_neg (by omega)]
  split
  · subst_vars; simp
  · simp; omega
theorem rowAt_of {w : World} {A : Option Addr} {t : List Ev} (h : EvsAt w A t) (hl : t.length ≤ 1000) : Kd.C k30 w A (t.map sOf).length (t.map sOf) := by
  refine ⟨rfl, by simp; omega, fun h0 => ?_⟩
  have h0' : 0 < t.length := by simpa using h0
  obtain ⟨ad, hA, _⟩ := h 0 t[0] (by simp [h0'])
  refine ⟨ad, hA, ?_⟩
  intro j p hp
  rw [List.getElem?_map] at hp
  cases hq : t[j]? with
  | none => simp [hq] at hp
  | some e =>
    simp [hq] at hp
    subst hp
    obtain ⟨ad', hA', hat⟩ := h j e hq
    rw [hA] at hA'
    obtain rfl := Option.some.inj hA'
    refine ⟨_, rfl, k30_mk w (sOf e), ?_⟩
    intro i u hu
    have hi : i < 10 := by
      have := (List.getElem?_eq_some_iff.1 hu).1
      simpa using this
    have h10 : i = 0 ∨ i = 1 ∨ i = 2 ∨ i = 3 ∨ i = 4 ∨ i = 5 ∨ i = 6 ∨ i = 7 ∨ i = 8 ∨ i = 9 := by omega
    rcases h10 with rfl | rfl | rfl | rfl | rfl | rfl | rfl | rfl | rfl | rfl <;> cases hu
    · exact hat.c0
    all_goals refine (congrArg w.cell? (add_more ad (j * 10) _ (by omega))).trans ?_
    · exact hat.c1
    · exact hat.c2
    · exact hat.c3
    · exact hat.c4
    · exact hat.c5
    · exact hat.c6
    · exact hat.c7
    · exact hat.c8
    · exact hat.c9
theorem feedR (A : Option Addr) (cap : Nat) (t : List Ev) (st : LSt) (e : Ev) (w : World) (h : EvsAt w A t) (hc : t.length ≤ cap) (hi : PlInv st t) (hl : t.length ≤ 1000) (he : 0 ≤ e.time) :
    Calls Tryd.prog 12 #[.slice A t.length cap, e.val] w fun r w' => r = .returned (.int .i64 (st.answer e)) ∧ Below w.heap.size w w' := by
  have := transeptref15_Feed.calls 4000 A cap (t.map sOf) e.kind e.time e.id e.a e.b e.c e.d e.x e.y e.z (st.answer e) w (rowAt_of h hl) (by simpa using hc) (feed_f st t e hi hl he 4000 (by omega))
  rw [List.length_map] at this
  exact this
theorem openR (A : Option Addr) (cap : Nat) (t : List Ev) (st : LSt) (w : World) (h : EvsAt w A t) (hc : t.length ≤ cap) (hi : PlInv st t) (hl : t.length ≤ 1000) :
    Calls Tryd.prog 15 #[.slice A t.length cap] w fun r w' => r = .returned (.int .i64 st.opn) ∧ Below w.heap.size w w' := by
  have := transeptref15_Open.calls 4000 A cap (t.map sOf) (openOf t) w (rowAt_of h hl) (by simpa using hc) (open_f t hl 4000 (by omega))
  rw [List.length_map, ← hi.opn] at this
  exact this
theorem stateR (A : Option Addr) (cap : Nat) (t : List Ev) (st : LSt) (id : Int) (w : World) (h : EvsAt w A t) (hc : t.length ≤ cap) (hi : PlInv st t) (hl : t.length ≤ 1000) :
    Calls Tryd.prog 17 #[.slice A t.length cap, .int .u64 id] w fun r w' => r = .returned (.int .i64 (st.state id)) ∧ Below w.heap.size w w' := by
  have := transeptref15_State.calls 4000 A cap (t.map sOf) id (stOf id t) w (rowAt_of h hl) (by simpa using hc) (state_f t id hl 4000 (by omega))
  rw [List.length_map, ← hi.sts] at this
  exact this
theorem Taken.reads {B : Nat} {W : World} {v : Value} {l : List Ev} (h : Taken B W v l) : ∃ A cap, v = .slice A l.length cap ∧ l.length ≤ cap ∧ EvsAt W A l := by
  obtain ⟨A, cap, hv, hE⟩ := h.shape
  refine ⟨A, cap, hv, ?_, hE⟩
  obtain ⟨h1, h2⟩ := h
  rcases h2 with ⟨rfl, h2⟩ | ⟨g, cap', cur, rfl, hg, hh, hc, hm, hsz, ht⟩
  · simp at hv; omega
  · simp at hv
    obtain ⟨_, rfl⟩ := hv
    exact hc
theorem openRn (n : Nat) (A : Option Addr) (cap : Nat) (t : List Ev) (st : LSt) (w : World) (hn : t.length = n) (h : EvsAt w A t) (hc : n ≤ cap) (hi : PlInv st t) (hl : n ≤ 1000) :
    Calls Tryd.prog 15 #[.slice A n cap] w fun r w' => r = .returned (.int .i64 st.opn) ∧ Below w.heap.size w w' := by
  subst hn; exact openR A cap t st w h hc hi hl
theorem stateRn (n : Nat) (A : Option Addr) (cap : Nat) (t : List Ev) (st : LSt) (id : Int) (w : World) (hn : t.length = n) (h : EvsAt w A t) (hc : n ≤ cap) (hi : PlInv st t) (hl : n ≤ 1000) :
    Calls Tryd.prog 17 #[.slice A n cap, .int .u64 id] w fun r w' => r = .returned (.int .i64 (st.state id)) ∧ Below w.heap.size w w' := by
  subst hn; exact stateR A cap t st id w h hc hi hl
theorem feedRv {B : Nat} (v : Value) (t : List Ev) (st : LSt) (e : Ev) (w : World) (h : Taken B w v t) (hi : PlInv st t) (hl : t.length ≤ 1000) (he : 0 ≤ e.time) :
    Calls Tryd.prog 12 #[v, e.val] w fun r w' => r = .returned (.int .i64 (st.answer e)) ∧ Below w.heap.size w w' := by
  obtain ⟨A, cap, rfl, hc, hE⟩ := h.reads
  exact feedR A cap t st e w hE hc hi hl he

def PlRel (w : World) (p b : Nat) (n : Nat) (v i : Value) (W : World) : Prop :=
  ∃ (k : Nat) (st : LSt) (t : List Ev), k ≤ n ∧ i = .int .i64 k ∧ Sh w W p b st ∧ Taken w.heap.size W v t ∧ t.length ≤ k ∧ t.length ≤ 200 ∧ PlInv st t
theorem Sh.on {w W W' : World} {p b : Nat} {st : LSt} (h : Sh w W p b st) (hB : Below W.heap.size W W') : Sh w W' p b st :=
  ⟨h.line.kp (Kp.of_below (S := Non) hB) (fun q => q) (fun q => q), h.kinds.kp (Kp.of_below (S := Non) hB) (fun q => q), h.below.trans (hB.mono h.below.size), h.lt⟩
theorem Taken.on {B : Nat} {W W' : World} {v : Value} {l : List Ev} (h : Taken B W v l) (hB : Below W.heap.size W W') : Taken B W' v l :=
  h.kp (Kp.of_below (S := Non) hB) (fun _ _ _ q => q)

set_option maxRecDepth 100000 in
set_option maxHeartbeats 16000000 in
theorem plays_walk (A : Option Addr) (cap : Nat) (l : List Ev) (w : World) (hK : KindsAt w) (hl : EvsAt w A l) (hlen : l.length ≤ 9223372036854775807) (hwf : ∀ e ∈ l, e.wf) :
    Calls Tryd.prog 4 #[.slice A l.length cap] w fun e w' => e = .returned (.bool true) ∧ Below w.heap.size w w' := by
  have HK := Lib.hid hK
  have HL := Lib.hid hl
  have H0 := Lib.hid hK.pos
  have HW := Lib.hid hwf
  clear hK hl hwf
  go_enter Tryd.func4, Tryd.ntmps4
  go_wp2_with fail
  refine (shown_calls w HK.out).mono ?_
  rintro e0 w0 ⟨rfl, hB0⟩
  have HB0 := Lib.hid hB0
  clear hB0
  go_wp2_with fail
  refine (new_calls w0).mono ?_
  rintro e1 w1 ⟨p, b, rfl, hp, hb, hl1, hB1⟩
  have H1 : Hid (Sh w w1 p b newSt) := by
    have hz := HB0.out.size
    have hBB := HB0.out.trans (hB1.mono hz)
    exact Lib.hid ⟨hl1, HK.out.kp (Kp.of_below (S := Non) hBB) (fun q => q), hBB, by omega⟩
  clear hl1 hB1 hp hb HB0 HK
  go_wp2_with fail
  go_loopw [5, 6] (fun v i W => PlRel w p b l.length v i W) (fun _ i _ => l.length - (intOf i).toNat)
  case atStart => exact ⟨0, newSt, [], by omega, rfl, H1.out, Taken.nil _ _, by simp, by simp, PlInv.new⟩
  case round =>
    obtain ⟨k, st, t, hk, rfl, hS, hT, ht, ht2, hR⟩ := hrel
    have HS := Lib.hid hS
    have HT := Lib.hid hT
    have HR := Lib.hid hR
    clear hS hT hR H1
    by_cases hlt : k < l.length ∧ k < 200
    · obtain ⟨hlt, h200⟩ := hlt
      obtain ⟨ad, rfl, hat⟩ := HL.out k l[k] (by simp [hlt])
      have HE := Lib.hid hat
      have hw := HW.out l[k] (by simp)
      clear hat
      generalize hev : l[k] = ev at HE hw
      clear hev
      have htime := hw.1
      clear hw
      have x := HE.out.below HS.out.below
      have x0 := x.c0
      have x1 := x.c1
      have x2 := x.c2
      have x3 := x.c3
      have x4 := x.c4
      have x5 := x.c5
      have x6 := x.c6
      have x7 := x.c7
      have x8 := x.c8
      have x9 := x.c9
      clear x
      go_wp2_with fail
      refine (feed_calls p b st ev _ HS.out.line HS.out.kinds).mono ?_
      rintro e3 w3 ⟨rfl, hl3, hk3⟩
      have HS3 := Lib.hid (HS.out.step hl3 hk3)
      have HT3 := Lib.hid (HT.out.feed HS.out.line hk3)
      clear hl3 hk3 x0 x1 x2 x3 x4 x5 x6 x7 x8 x9 HS HT
      have y := HE.out.below HS3.out.below
      have y0 := y.c0
      have y1 := y.c1
      have y2 := y.c2
      have y3 := y.c3
      have y4 := y.c4
      have y5 := y.c5
      have y6 := y.c6
      have y7 := y.c7
      have y8 := y.c8
      have y9 := y.c9
      clear y
      go_wp2_with fail
      refine (feedRv _ t st ev _ HT3.out HR.out (by omega) htime).mono ?_
      rintro e4 w4 ⟨rfl, hB4⟩
      have HS4 := Lib.hid (HS3.out.on hB4)
      have HT4 := Lib.hid (HT3.out.on hB4)
      clear hB4 y0 y1 y2 y3 y4 y5 y6 y7 y8 y9 HS3 HT3
      --TAIL
      by_cases ha : st.answer ev = 0
      · have HR4 := Lib.hid (HR.out.step ha)
        have hls : (st.after ev).last = ev.time := HR4.out.last ev (by simp)
        have HLS := Lib.hid hls
        have y := HE.out.below HS4.out.below
        have y0 := y.c0
        have y1 := y.c1
        have y2 := y.c2
        have y3 := y.c3
        have y4 := y.c4
        have y5 := y.c5
        have y6 := y.c6
        have y7 := y.c7
        have y8 := y.c8
        have y9 := y.c9
        rw [ha]
        clear ha HR y hls
        generalize st.after ev = sv at *
        go_wp2_with (at_builtin; refine wpList_take rfl _ _ rfl w.heap.size u5 t ev _ _ rfl rfl rfl rfl HT4.out (by omega) HS4.out.below.size ?_; intro v' w5 hT5 hB5 hb5; have HS5 := Lib.hid (HS4.out.but hB5 hb5 H0.out); have HT5 := Lib.hid hT5; clear hB5 hb5 HS4 HT4 y0 y1 y2 y3 y4 y5 y6 y7 y8 y9; obtain ⟨A5, cap5, hv5, hcap5, hE5⟩ := hT5.reads; clear hT5; subst hv5; have HE5 := Lib.hid hE5; obtain ⟨ad5, hA5, hat5⟩ := hE5 t.length ev (by simp); subst hA5; have q1 := hat5.c1; clear hat5 hE5; simp only [List.length_append, List.length_cons, List.length_nil, Nat.zero_add] at *)
        go_wp2_with fail
        have HD := Lib.hid (HS5.out.drew)
        have HTD := Lib.hid (HT5.out.on ((Below.refl _ _).drew))
        have HED := Lib.hid (HE5.out.below ((Below.refl _ _).drew))
        have z := HE.out.below HD.out.below
        have z2 := z.c2
        clear z HS5 HT5 HE5
        go_region_held3 (fun W => W.cell? ⟨(ad.add (k * 10)).block, (ad.add (k * 10)).off + 2, none⟩ = some (.int .u64 ev.id)) (first | exact z2 | exact z6 | exact z7) (first
          | (go_at_call 13; refine (count_calls p b sv _ HD.out.line).mono ?_; rintro e9 w9 ⟨rfl, rfl⟩; rw [HR4.out.cnt])
          | (go_at_call 14; refine (open_calls p b sv _ HD.out.line).mono ?_; rintro e9 w9 ⟨rfl, rfl⟩)
          | (go_at_call 15; refine (openRn (t.length + 1) _ cap5 (t ++ [ev]) sv _ (by simp) HED.out (by omega) HR4.out (by omega)).mono ?_; rintro e9 w6 ⟨rfl, hB6⟩; have HS6 := Lib.hid (HD.out.on hB6); have HT6 := Lib.hid (HTD.out.on hB6); have HE6 := Lib.hid (HED.out.below hB6); have zz := HE.out.below HS6.out.below; have z6 := zz.c2; clear zz hB6)
          | (go_at_call 16; refine (last_calls p b sv _ HS6.out.line).mono ?_; rintro e9 w9 ⟨rfl, rfl⟩; rw [HLS.out])
          | (go_at_call 11; refine (state_calls p b sv ev.id _ HS6.out.line).mono ?_; rintro e9 w9 ⟨rfl, rfl⟩)
          | (go_at_call 17; refine (stateRn (t.length + 1) _ cap5 (t ++ [ev]) sv ev.id _ (by simp) HE6.out (by omega) HR4.out (by omega)).mono ?_; rintro e9 w7 ⟨rfl, hB7⟩; have HS7 := Lib.hid (HS6.out.on hB7); have HT7 := Lib.hid (HT6.out.on hB7); have zz := HE.out.below HS7.out.below; have z7 := zz.c2; clear zz hB7))
        go_wp2
        go_roundw
        case rel => exact ⟨k + 1, sv, (t ++ [ev]), by omega, by go_num, HS7.out, HT7.out, by first | omega | (simp; omega), by first | omega | (simp; omega), HR4.out⟩
        case measure => simp [intOf]; omega
      · have hs4 : (st.answer ev == 0) = false := by simpa using ha
        have hst : st.after ev = st := after_not ha
        rw [hst] at HS4
        obtain ⟨A4, cap4, hv4, hcap4, hE4⟩ := HT4.out.reads
        subst hv4
        have HE4 := Lib.hid hE4
        generalize st.answer ev = an at hs4
        clear ha hst
        by_cases ht0 : t.length = 0
        · have hnil : t = [] := List.length_eq_zero_iff.1 ht0
          have hls : st.last = 0 := HR.out.nil hnil
          have HLS := Lib.hid hls
          have hz : ¬ 0 < t.length := by omega
          clear hls hnil hE4 ht0
          go_wp2_with fail
          have HD := Lib.hid (HS4.out.drew)
          have HTD := Lib.hid (HT4.out.on ((Below.refl _ _).drew))
          have HED := Lib.hid (HE4.out.below ((Below.refl _ _).drew))
          have z := HE.out.below HD.out.below
          have z2 := z.c2
          clear z HS4 HT4 HE4
          go_region_held3 (fun W => W.cell? ⟨(ad.add (k * 10)).block, (ad.add (k * 10)).off + 2, none⟩ = some (.int .u64 ev.id)) (first | exact z2 | exact z6 | exact z7) (first
            | (go_at_call 13; refine (count_calls p b st _ HD.out.line).mono ?_; rintro e9 w9 ⟨rfl, rfl⟩; rw [HR.out.cnt])
            | (go_at_call 14; refine (open_calls p b st _ HD.out.line).mono ?_; rintro e9 w9 ⟨rfl, rfl⟩)
            | (go_at_call 15; refine (openRn t.length _ cap4 t st _ (by simp) HED.out (by omega) HR.out (by omega)).mono ?_; rintro e9 w6 ⟨rfl, hB6⟩; have HS6 := Lib.hid (HD.out.on hB6); have HT6 := Lib.hid (HTD.out.on hB6); have HE6 := Lib.hid (HED.out.below hB6); have zz := HE.out.below HS6.out.below; have z6 := zz.c2; clear zz hB6)
            | (go_at_call 16; refine (last_calls p b st _ HS6.out.line).mono ?_; rintro e9 w9 ⟨rfl, rfl⟩; rw [HLS.out])
            | (go_at_call 11; refine (state_calls p b st ev.id _ HS6.out.line).mono ?_; rintro e9 w9 ⟨rfl, rfl⟩)
            | (go_at_call 17; refine (stateRn t.length _ cap4 t st ev.id _ (by simp) HE6.out (by omega) HR.out (by omega)).mono ?_; rintro e9 w7 ⟨rfl, hB7⟩; have HS7 := Lib.hid (HS6.out.on hB7); have HT7 := Lib.hid (HT6.out.on hB7); have zz := HE.out.below HS7.out.below; have z7 := zz.c2; clear zz hB7))
          go_wp2
          go_roundw
          case rel => exact ⟨k + 1, st, t, by omega, by go_num, HS7.out, HT7.out, by first | omega | (simp; omega), by first | omega | (simp; omega), HR.out⟩
          case measure => simp [intOf]; omega
        · obtain ⟨ad4, rfl, hat4⟩ := hE4 (t.length - 1) (t[t.length - 1]'(by omega)) (by simp [show t.length - 1 < t.length by omega])
          have hls := HR.out.last (t[t.length - 1]'(by omega)) (by rw [List.getLast?_eq_getElem?]; simp [show t.length - 1 < t.length by omega])
          generalize t[t.length - 1]'(by omega) = lv at hat4 hls
          have q1 := hat4.c1
          have HLS := Lib.hid hls
          have hz : 0 < t.length := by omega
          clear hat4 hls hE4 ht0
          go_wp2_with fail
          have HD := Lib.hid (HS4.out.drew)
          have HTD := Lib.hid (HT4.out.on ((Below.refl _ _).drew))
          have HED := Lib.hid (HE4.out.below ((Below.refl _ _).drew))
          have z := HE.out.below HD.out.below
          have z2 := z.c2
          clear z HS4 HT4 HE4
          go_region_held3 (fun W => W.cell? ⟨(ad.add (k * 10)).block, (ad.add (k * 10)).off + 2, none⟩ = some (.int .u64 ev.id)) (first | exact z2 | exact z6 | exact z7) (first
            | (go_at_call 13; refine (count_calls p b st _ HD.out.line).mono ?_; rintro e9 w9 ⟨rfl, rfl⟩; rw [HR.out.cnt])
            | (go_at_call 14; refine (open_calls p b st _ HD.out.line).mono ?_; rintro e9 w9 ⟨rfl, rfl⟩)
            | (go_at_call 15; refine (openRn t.length _ cap4 t st _ (by simp) HED.out (by omega) HR.out (by omega)).mono ?_; rintro e9 w6 ⟨rfl, hB6⟩; have HS6 := Lib.hid (HD.out.on hB6); have HT6 := Lib.hid (HTD.out.on hB6); have HE6 := Lib.hid (HED.out.below hB6); have zz := HE.out.below HS6.out.below; have z6 := zz.c2; clear zz hB6)
            | (go_at_call 16; refine (last_calls p b st _ HS6.out.line).mono ?_; rintro e9 w9 ⟨rfl, rfl⟩; rw [HLS.out])
            | (go_at_call 11; refine (state_calls p b st ev.id _ HS6.out.line).mono ?_; rintro e9 w9 ⟨rfl, rfl⟩)
            | (go_at_call 17; refine (stateRn t.length _ cap4 t st ev.id _ (by simp) HE6.out (by omega) HR.out (by omega)).mono ?_; rintro e9 w7 ⟨rfl, hB7⟩; have HS7 := Lib.hid (HS6.out.on hB7); have HT7 := Lib.hid (HT6.out.on hB7); have zz := HE.out.below HS7.out.below; have z7 := zz.c2; clear zz hB7))
          go_wp2
          go_roundw
          case rel => exact ⟨k + 1, st, t, by omega, by go_num, HS7.out, HT7.out, by first | omega | (simp; omega), by first | omega | (simp; omega), HR.out⟩
          case measure => simp [intOf]; omega
    · clear HT
      by_cases hlt1 : k < l.length
      · have h200 : ¬ k < 200 := fun q => hlt ⟨hlt1, q⟩
        clear hlt
        go_wp2
        go_ret
        exact ⟨rfl, HS.out.below⟩
      · clear hlt
        go_wp2
        go_ret
        exact ⟨rfl, HS.out.below⟩
end Go.Proofs.YtjbdjijfbpiccaaDoor
