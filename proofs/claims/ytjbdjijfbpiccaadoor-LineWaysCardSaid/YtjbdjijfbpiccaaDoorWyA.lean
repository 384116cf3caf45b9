/- LineWays: a line that took what it takes; what the law says of the plain states. -/
import Derived.Test.YtjbdjijfbpiccaaDoorLnT
import Derived.Test.YtjbdjijfbpiccaaDoorApA
namespace Go.Proofs.YtjbdjijfbpiccaaDoor
open Go.RowKit Go.MapKept
set_option linter.unusedSimpArgs false
set_option linter.unusedVariables false

def feds (st : LSt) (l : List Ev) : LSt := l.foldl LSt.after st
theorem feds_snoc (st : LSt) (l : List Ev) (e : Ev) : feds st (l ++ [e]) = (feds st l).after e := by simp [feds]
theorem feds_take (st : LSt) (l : List Ev) (k : Nat) (h : k < l.length) : feds st (l.take (k + 1)) = (feds st (l.take k)).after l[k] := by
  rw [List.take_succ_eq_append_getElem h, feds_snoc]

def FedRel (w : World) (p b : Nat) (l : List Ev) (i : Value) (W : World) : Prop := ∃ k : Nat, k ≤ l.length ∧ i = .int .i64 k ∧ Sh w W p b (feds newSt (l.take k))

set_option maxHeartbeats 1000000 in
theorem fed_calls (A : Option Addr) (cap : Nat) (l : List Ev) (w : World) (hK : KindsAt w) (hl : EvsAt w A l) (hlen : l.length ≤ 4096) :
    Calls Tryd.prog 19 #[.slice A l.length cap] w fun e w' => ∃ p b, e = .returned (.pointer (some ⟨p, 0, none⟩)) ∧ Sh w w' p b (feds newSt l) := by
  have HK := Lib.hid hK
  have HL := Lib.hid hl
  clear hK hl
  go_enter Tryd.func19, Tryd.ntmps19
  go_wp2_with fail
  refine (new_calls w).mono ?_
  rintro e1 w1 ⟨p, b, rfl, hp, hb, hl1, hB1⟩
  have H1 : Hid (Sh w w1 p b newSt) := Lib.hid ⟨hl1, HK.out.kp (Kp.of_below (S := Non) hB1) (fun q => q), hB1, hp, hb⟩
  clear hl1 hB1 hp hb HK
  go_wp2_with fail
  go_loopw [4] (fun i W => FedRel w p b l i W) (fun i _ => l.length - (intOf i).toNat)
  case atStart => exact ⟨0, by omega, rfl, H1.out⟩
  case round =>
    obtain ⟨k, hk, rfl, hS⟩ := hrel
    have HS := Lib.hid hS
    clear hS H1
    by_cases hlt : k < l.length
    · have hft := feds_take newSt l k hlt
      obtain ⟨ad, rfl, hat⟩ := HL.out k l[k] (by simp [hlt])
      have HE := Lib.hid hat
      clear hat
      generalize l[k] = ev at HE hft
      have HFT := Lib.hid hft
      clear hft
      generalize feds newSt (l.take k) = st at HS HFT
      have x := HE.out.below HS.out.below
      have x0 := x.c0
      have x1 := x.c1
      have x2 := x.c2
      have x3 := x.c3
      have x4 := x.c4
      have x5 := x.c5
      have x6 := x.c6
      have x7 := x.c7
      have x8 := x.c8
      have x9 := x.c9
      clear x
      go_wp2_with fail
      refine (feed_calls p b st ev _ HS.out.line HS.out.kinds).mono ?_
      rintro e3 w3 ⟨rfl, hl3, hk3⟩
      have HS3 := Lib.hid (HS.out.step hl3 hk3)
      clear hl3 hk3 x0 x1 x2 x3 x4 x5 x6 x7 x8 x9 HS
      go_wp2
      go_roundw
      case rel => exact ⟨k + 1, by omega, by go_num, by rw [HFT.out]; exact HS3.out⟩
      case measure => simp [intOf]; omega
    · have hkl : k = l.length := by omega
      subst hkl
      have HS' : Hid (Sh w wr p b (feds newSt l)) := by have := HS.out; rw [List.take_length] at this; exact Lib.hid this
      clear HS
      go_wp2
      go_ret
      exact ⟨p, b, rfl, HS'.out⟩

/-- what becomes of one fetch -/
theorem after_is (st : LSt) (e : Ev) (id : Int) : ((st.after e).at_ id).isSome = ((st.at_ id).isSome || (decide (st.answer e = 0) && (decide (e.kind = 3) && decide (e.id = id)))) := by
  by_cases ha : st.answer e = 0
  · rw [after_ok ha]
    obtain ⟨hr, hc, ht, hm, ho⟩ := answer_ok ha
    by_cases hk : e.kind = 1 ∨ e.kind = 2
    · simp only [LSt.next, if_pos hk]
      have : decide (e.kind = 3) = false := by simp; omega
      simp [this]
    · simp only [LSt.next, if_neg hk, ha]
      by_cases hid : id = e.id
      · subst hid
        by_cases h3 : e.kind = 3
        · simp [h3]
        · have hk1 := (rightB_kind hr).1
          unfold LSt.mayB at hm
          have h1 : ¬ (e.kind = 1 ∨ st.count = 0) := by
            rintro (q | q)
            · omega
            · rw [if_pos (Or.inr q)] at hm; simp at hm; omega
          rw [if_neg h1, if_neg (by omega), if_neg h3] at hm
          have hs := wayOf_from _ _ hm
          have : (st.at_ e.id).isSome = true := by
            cases hq : st.at_ e.id with
            | none => simp [LSt.state, hq] at hs
            | some v => rfl
          simp [this]
      · simp [hid]
        intro _ q
        exact absurd q.symm hid
  · rw [after_not ha]; simp [ha]

def StRel (w : World) (p b : Nat) (l : List Ev) (id : Int) (is i : Value) (W : World) : Prop := ∃ k : Nat, k ≤ l.length ∧ i = .int .i64 k ∧ is = .bool ((feds newSt (l.take k)).at_ id).isSome ∧ Sh w W p b (feds newSt (l.take k))

set_option maxHeartbeats 1000000 in
theorem started_calls (A : Option Addr) (cap : Nat) (l : List Ev) (id : Int) (w : World) (hK : KindsAt w) (hl : EvsAt w A l) (hlen : l.length ≤ 4096) :
    Calls Tryd.prog 20 #[.slice A l.length cap, .int .u64 id] w fun e w' => e = .returned (.bool ((feds newSt l).at_ id).isSome) ∧ Below w.heap.size w w' := by
  have HK := Lib.hid hK
  have HL := Lib.hid hl
  clear hK hl
  go_enter Tryd.func20, Tryd.ntmps20
  go_wp2_with fail
  refine (new_calls w).mono ?_
  rintro e1 w1 ⟨p, b, rfl, hp, hb, hl1, hB1⟩
  have H1 : Hid (Sh w w1 p b newSt) := Lib.hid ⟨hl1, HK.out.kp (Kp.of_below (S := Non) hB1) (fun q => q), hB1, hp, hb⟩
  clear hl1 hB1 hp hb HK
  go_wp2_with fail
  go_loopw [6, 7] (fun is i W => StRel w p b l id is i W) (fun _ i _ => l.length - (intOf i).toNat)
  case atStart => exact ⟨0, by omega, rfl, rfl, H1.out⟩
  case round =>
    obtain ⟨k, hk, rfl, rfl, hS⟩ := hrel
    have HS := Lib.hid hS
    clear hS H1
    by_cases hlt : k < l.length
    · have hft := feds_take newSt l k hlt
      obtain ⟨ad, rfl, hat⟩ := HL.out k l[k] (by simp [hlt])
      have HE := Lib.hid hat
      clear hat
      generalize l[k] = ev at HE hft
      have HFT := Lib.hid hft
      clear hft
      generalize feds newSt (l.take k) = st at HS HFT
      have hst : ∃ s : Bool, s = (st.at_ id).isSome := ⟨_, rfl⟩
      obtain ⟨s, hs⟩ := hst
      rw [← hs]
      have HSS := Lib.hid hs
      clear hs
      have x := HE.out.below HS.out.below
      have x0 := x.c0
      have x1 := x.c1
      have x2 := x.c2
      have x3 := x.c3
      have x4 := x.c4
      have x5 := x.c5
      have x6 := x.c6
      have x7 := x.c7
      have x8 := x.c8
      have x9 := x.c9
      clear x
      go_wp2_with fail
      refine (feed_calls p b st ev _ HS.out.line HS.out.kinds).mono ?_
      rintro e3 w3 ⟨rfl, hl3, hk3⟩
      have HS3 := Lib.hid (HS.out.step hl3 hk3)
      clear hl3 hk3 x0 x1 x2 x3 x4 x5 x6 x7 x8 x9 HS
      have y := HE.out.below HS3.out.below
      have y0 := y.c0
      have y2 := y.c2
      clear y
      have hai := after_is st ev id
      have HAI := Lib.hid hai
      clear hai
      cases s
      · by_cases ha : st.answer ev = 0
        · rw [ha]
          by_cases h3 : ev.kind = 3
          · have h3' : (ev.kind == 3) = true := by simpa using h3
            by_cases hid : ev.id = id
            · have hid' : (ev.id == id) = true := by simpa using hid
              have hres : ((st.after ev).at_ id).isSome = true := by rw [HAI.out]; simp [ha, h3, hid]
              have HRES := Lib.hid hres
              clear ha h3 hid hres
              go_wp2
              go_roundw
              case rel => exact ⟨k + 1, by omega, by go_num, by rw [HFT.out, HRES.out], by rw [HFT.out]; exact HS3.out⟩
              case measure => simp [intOf]; omega
            · have hid' : (ev.id == id) = false := by simpa using hid
              have hres : ((st.after ev).at_ id).isSome = false := by rw [HAI.out, ← HSS.out]; simp [hid]
              have HRES := Lib.hid hres
              clear ha h3 hid hres
              go_wp2
              go_roundw
              case rel => exact ⟨k + 1, by omega, by go_num, by rw [HFT.out, HRES.out], by rw [HFT.out]; exact HS3.out⟩
              case measure => simp [intOf]; omega
          · have h3' : (ev.kind == 3) = false := by simpa using h3
            have hres : ((st.after ev).at_ id).isSome = false := by rw [HAI.out, ← HSS.out]; simp [h3]
            have HRES := Lib.hid hres
            clear ha h3 hres
            go_wp2
            go_roundw
            case rel => exact ⟨k + 1, by omega, by go_num, by rw [HFT.out, HRES.out], by rw [HFT.out]; exact HS3.out⟩
            case measure => simp [intOf]; omega
        · have ha' : (st.answer ev == 0) = false := by simpa using ha
          have hres : ((st.after ev).at_ id).isSome = false := by rw [HAI.out, ← HSS.out]; simp [ha]
          have HRES := Lib.hid hres
          clear ha hres
          go_wp2
          go_roundw
          case rel => exact ⟨k + 1, by omega, by go_num, by rw [HFT.out, HRES.out], by rw [HFT.out]; exact HS3.out⟩
          case measure => simp [intOf]; omega
      · have hres : ((st.after ev).at_ id).isSome = true := by rw [HAI.out, ← HSS.out]; simp
        have HRES := Lib.hid hres
        clear hres
        go_wp2
        go_roundw
        case rel => exact ⟨k + 1, by omega, by go_num, by rw [HFT.out, HRES.out], by rw [HFT.out]; exact HS3.out⟩
        case measure => simp [intOf]; omega
    · have hkl : k = l.length := by omega
      subst hkl
      rw [List.take_length]
      have HS' : Hid (Sh w wr p b (feds newSt l)) := by have := HS.out; rw [List.take_length] at this; exact Lib.hid this
      clear HS
      go_wp2
      go_ret
      exact ⟨rfl, HS'.out.below⟩

/-! ### the plain law -/
def urlE : ByteArray := ⟨#[104, 116, 116, 112, 115, 58, 47, 47, 97, 46, 101, 120, 97, 109, 112, 108, 101, 47]⟩
def evK (k t id : Int) : Ev :=
  ⟨k, t, id, if k = 3 then ⟨#[71, 69, 84]⟩ else if k = 4 ∨ k = 6 ∨ k = 9 ∨ k = 12 then ⟨#[97]⟩ else if k = 11 then urlE else ⟨#[]⟩, if k = 3 then urlE else ⟨#[]⟩, ⟨#[]⟩, ⟨#[]⟩, if k = 7 ∨ k = 10 then 200 else 0, 0, 0⟩
def accK (st : LSt) (id k : Int) : Bool := if k = 3 then !(st.at_ id).isSome else (wayOf k).1.contains (st.state id)
def nUp (st : LSt) (id : Int) : Nat → Int
  | 0 => 0
  | j + 1 => nUp st id j + if accK st id (3 + j) then 1 else 0
theorem nUp_bounds (st : LSt) (id : Int) : ∀ j, 0 ≤ nUp st id j ∧ nUp st id j ≤ j
  | 0 => by simp [nUp]
  | j + 1 => by have := nUp_bounds st id j; simp only [nUp]; split <;> omega

theorem right_evK (k t id : Int) (h1 : 3 ≤ k) (h2 : k ≤ 14) (hid : id ≠ 0) : rightB (evK k t id) = true := by
  have hid' : (id == 0) = false := by simpa using hid
  have hk : k = 3 ∨ k = 4 ∨ k = 5 ∨ k = 6 ∨ k = 7 ∨ k = 8 ∨ k = 9 ∨ k = 10 ∨ k = 11 ∨ k = 12 ∨ k = 13 ∨ k = 14 := by omega
  rcases hk with rfl | rfl | rfl | rfl | rfl | rfl | rfl | rfl | rfl | rfl | rfl | rfl <;> (rw [rightB, show ((evK _ t id).id == 0) = false from hid']; refine Eq.trans ?_ (rfl : true = true); kernel_rfl)

theorem ans_evK (st : LSt) (k id : Int) (h1 : 3 ≤ k) (h2 : k ≤ 14) (hid : id ≠ 0) (hc : st.count ≠ 0) (hc2 : st.count ≠ 4096) (ho : st.opn < 64) : (st.answer (evK k st.last id) == 0) = accK st id k := by
  have hr := right_evK k st.last id h1 h2 hid
  have hm : st.mayB (evK k st.last id) = accK st id k := by
    unfold LSt.mayB accK
    rw [if_neg (by show ¬ (k = 1 ∨ st.count = 0); omega), if_neg (by show ¬ k = 2; omega)]
    rfl
  cases ha : accK st id k with
  | true =>
    have := answer_of hr hc2 (show ¬ st.last < st.last by omega) (hm.trans ha) (by omega)
    simp [this]
  | false =>
    have : st.answer (evK k st.last id) = 6 := by
      unfold LSt.answer
      rw [if_neg (by simp [hr]), if_neg hc2, if_pos (.inr (hm.trans ha))]
    simp [this]

/-- the states are known ones -/
def StatesOk (st : LSt) : Prop := ∀ i v, st.at_ i = some v → 0 ≤ v ∧ v ≤ 7
theorem wayOf_to (k : Int) : 0 ≤ (wayOf k).2 ∧ (wayOf k).2 ≤ 7 := by
  unfold wayOf
  cases hq : wayTable.find? (fun e => e.1 == k) with
  | none => simp
  | some e =>
    have := List.mem_of_find?_eq_some hq
    simp [wayTable] at this
    rcases this with rfl | rfl | rfl | rfl | rfl | rfl | rfl | rfl | rfl | rfl | rfl <;> simp
theorem statesOk_after {st : LSt} {e : Ev} (h : StatesOk st) : StatesOk (st.after e) := by
  unfold LSt.after
  split
  · unfold LSt.next
    split
    · exact h
    · intro i v hv
      simp only at hv
      split at hv
      · simp at hv
        subst hv
        split
        · omega
        · exact wayOf_to _
      · exact h i v hv
  · exact h
theorem statesOk_feds : ∀ (l : List Ev) (st : LSt), StatesOk st → StatesOk (feds st l)
  | [], st, h => h
  | e :: l, st, h => statesOk_feds l _ (statesOk_after h)
theorem state_range {st : LSt} (h : StatesOk st) (id : Int) : 0 ≤ st.state id ∧ st.state id ≤ 7 := by
  unfold LSt.state
  cases hq : st.at_ id with
  | none => simp
  | some v => exact h id v hq

def wantOf (s : Int) : Int := ([1, 4, 3, 2, 3, 4, 3, 2] : List Int).getD s.toNat 0
theorem nUp_12 (st : LSt) (id : Int) (h : StatesOk st) : nUp st id 12 = if (st.at_ id).isSome ∧ st.state id = 0 then 0 else wantOf (st.state id) := by
  have hr := state_range h id
  have h0 : (st.at_ id).isSome = false → st.state id = 0 := by
    intro q
    unfold LSt.state
    cases hq : st.at_ id with
    | none => rfl
    | some v => simp [hq] at q
  cases hs : (st.at_ id).isSome with
  | false =>
    have := h0 hs
    simp only [nUp, accK, this, hs]
    rfl
  | true =>
    have hk : st.state id = 0 ∨ st.state id = 1 ∨ st.state id = 2 ∨ st.state id = 3 ∨ st.state id = 4 ∨ st.state id = 5 ∨ st.state id = 6 ∨ st.state id = 7 := by omega
    rcases hk with q | q | q | q | q | q | q | q <;> simp only [nUp, accK, q, hs] <;> rfl
theorem feds_ok : ∀ (l : List Ev) (st : LSt), st.count + l.length ≤ 4000 → (feds st l).count ≤ st.count + l.length
  | [], st, h => by simp [feds]
  | e :: l, st, h => by
    have h1 : (st.after e).count ≤ st.count + 1 := by
      unfold LSt.after
      split
      · unfold LSt.next; split <;> simp
      · omega
    have := feds_ok l (st.after e) (by simp at h; omega)
    simp only [feds, List.foldl_cons, List.length_cons] at *
    omega
end Go.Proofs.YtjbdjijfbpiccaaDoor
