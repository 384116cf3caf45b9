/- From what comes in (data, the laid table) to cells: for the rows of the laws. -/
import Derived.Test.YtjbdjijfbpiccaaDoorRows
import Derived.Test.YtjbdjijfbpiccaaDoorLnE
import Derived.ProofKit
import Derived.LaidMore
import Derived.LaidLaws
import Derived.OpenShut
import Derived.ChangeVars
import Derived.Stop.Joined
import Derived.Deep.Slices
import Derived.SizedLaws
namespace Go.Proofs.YtjbdjijfbpiccaaDoor
open Go.ChangeShapes Go.WideShapes Go.ChangeAt Go.RowKit Go.Deep
set_option linter.unusedVariables false
set_option linter.unusedSimpArgs false

theorem own : ownKnob Tryd.prog.godebug = none := by kernel_rfl
theorem laidOut : laidOutB Tryd.prog = true := by kernel_rfl
theorem gKinds : Tryd.prog.globalNamed "transept/event.kinds" = some 0 := by kernel_rfl
theorem tKinds : (Tryd.prog.globals[0]?).map (·.type) = some 55 := by kernel_rfl
theorem cells3 : Tryd.prog.cellsOf 3 = 1 := by kernel_rfl
theorem cells9 : Tryd.prog.cellsOf 9 = 1 := by kernel_rfl
theorem cells23 : Tryd.prog.cellsOf 23 = 1 := by kernel_rfl
theorem cells30 : Tryd.prog.cellsOf 30 = 10 := by kernel_rfl
theorem cells52 : Tryd.prog.cellsOf 52 = 3 := by kernel_rfl
theorem cells54 : Tryd.prog.cellsOf 54 = 4 := by kernel_rfl
theorem cells55 : Tryd.prog.cellsOf 55 = 60 := by kernel_rfl

abbrev laidL : List (String × DataW Unit) := [("transept/event.kinds", Rows.laid_transept_event_kinds)]

theorem door_met (os : Os) (args : Array Value) : laidMetH Tryd.prog laidL ((World.doorLaid Tryd.prog 400 os).forCall (fun _ _ => 0) ⟨#[], args, []⟩).memory :=
  laidMetH_of_parts3 (fuel := 8) (laidMet_of_run' 8 (by kernel_rfl) (by kernel_rfl)) (by kernel_rfl) (by kernel_rfl)

section
variable {H : Type} {enc : TypeId × Value → H} {w : World} {base : Nat} {sp : Nat → Bool} {held : Bool} {fuel : Nat} {cs : List Value} {x : DataW H × List MemPlace}

theorem int_of_drop {cs : List Value} {o : Nat} {v : Value} (h : (cs.drop o).take 1 = [v]) : cs[o]? = some v := by
  have := congrArg (·[0]?) h
  simpa using this

theorem nums_cells (h : DataW.trod enc Tryd.prog w base sp held fuel 52 cs = some x) {a b c : Int} (hx : x.1 = .agg [.lit (.int .i64 a), .lit (.int .i64 b), .lit (.int .i64 c)]) : cs = [.int .i64 a, .int .i64 b, .int .i64 c] := by
  obtain ⟨xs, m, rfl, rfl, hl, hn, hel⟩ := DataW.trod_array Tryd.underlying52 h
  rw [cells52] at hl
  match xs, hn, hx with
  | [x0, x1, x2], _, hx =>
    simp only [List.map_cons, List.map_nil, DataW.agg.injEq, List.cons.injEq, and_true] at hx
    have e0 := hel 0 (by omega)
    have e1 := hel 1 (by omega)
    have e2 := hel 2 (by omega)
    rw [cells3] at e0 e1 e2
    simp only [List.getElem?_cons_zero, List.getElem?_cons_succ] at e0 e1 e2
    obtain ⟨n0, d0, y0, _⟩ := DataW.trod_int Tryd.underlying3 e0
    obtain ⟨n1, d1, y1, _⟩ := DataW.trod_int Tryd.underlying3 e1
    obtain ⟨n2, d2, y2, _⟩ := DataW.trod_int Tryd.underlying3 e2
    subst y0 y1 y2
    simp at hx
    obtain ⟨rfl, rfl, rfl⟩ := hx
    match cs, hl, d0, d1, d2 with
    | [c0, c1, c2], _, d0, d1, d2 => simp at d0 d1 d2; simp [d0, d1, d2]

theorem kind_cells (h : DataW.trod enc Tryd.prog w base sp held fuel 54 cs = some x) {t a b c : Int} (hx : x.1 = .agg [.lit (.int .i64 t), .agg [.lit (.int .i64 a), .lit (.int .i64 b), .lit (.int .i64 c)]]) : cs = [.int .i64 t, .int .i64 a, .int .i64 b, .int .i64 c] := by
  obtain ⟨xs, m, rfl, rfl, hl, hn, hel⟩ := DataW.trod_struct Tryd.underlying54 h
  rw [cells54] at hl
  match xs, hn, hx with
  | [x0, x1], _, hx =>
    simp only [List.map_cons, List.map_nil, DataW.agg.injEq, List.cons.injEq, and_true] at hx
    have e0 : DataW.trod enc Tryd.prog w base sp held m 3 ((cs.drop 0).take (Tryd.prog.cellsOf 3)) = some x0 := hel 0 _ rfl
    have e1 : DataW.trod enc Tryd.prog w base sp held m 52 ((cs.drop 1).take (Tryd.prog.cellsOf 52)) = some x1 := hel 1 _ rfl
    rw [cells3] at e0
    rw [cells52] at e1
    obtain ⟨n0, d0, y0, _⟩ := DataW.trod_int Tryd.underlying3 e0
    subst y0
    have d1 := nums_cells e1 hx.2
    have := hx.1
    simp at this
    subst this
    match cs, hl, d0, d1 with
    | [c0, c1, c2, c3], _, d0, d1 => simp at d0 d1; simp [d0, d1]

theorem kinds_of_laid {W : World} (h : laidMetH Tryd.prog laidL W) : KindsAt W := by
  rw [MakeChecks.laidMetH_plain _ _ _ (by kernel_rfl)] at h
  obtain ⟨ps, ⟨g0, t0, cs0, f0, p0, q0, hg0, ht0, hv0, hd0, _⟩, _⟩ := h
  obtain rfl := Option.some.inj (gKinds.symm.trans hg0)
  obtain rfl := Option.some.inj (tKinds.symm.trans ht0)
  obtain ⟨xs, m, rfl, hx, hl, hn, hel⟩ := DataW.trod_array Tryd.underlying55 hd0
  rw [cells55] at hl
  simp only [Prod.mk.injEq, Rows.laid_transept_event_kinds, DataW.agg.injEq] at hx
  have hxs := hx.1
  intro i n hi
  have hlt : i < 60 := by
    have := (List.getElem?_eq_some_iff.1 hi).1
    simpa [kindTab] using this
  rw [World.var?_cell hg0 hv0]
  have hrow : ∀ k, k < 15 → ∃ y, xs[k]? = some y ∧ DataW.trod (fun _ => ()) Tryd.prog W 0 (fun _ => true) false m 54 ((cs0.toList.drop (k * 4)).take 4) = some y := by
    intro k hk
    have := hel k hk
    rw [cells54] at this
    exact ⟨xs[k]'(by omega), by simp [hn, hk], by rw [this]; simp [hn, hk]⟩
  have key : ∀ k, k < 15 → ∃ t a b c : Int, (cs0.toList.drop (k * 4)).take 4 = [.int .i64 t, .int .i64 a, .int .i64 b, .int .i64 c] ∧ kindTab[k]? = some [t, a, b, c] := by
    intro k hk
    obtain ⟨y, hy, hd⟩ := hrow k hk
    have hy1 : (xs.map (·.1))[k]? = some y.1 := by simp [hy]
    rw [← hxs] at hy1
    have : k = 0 ∨ k = 1 ∨ k = 2 ∨ k = 3 ∨ k = 4 ∨ k = 5 ∨ k = 6 ∨ k = 7 ∨ k = 8 ∨ k = 9 ∨ k = 10 ∨ k = 11 ∨ k = 12 ∨ k = 13 ∨ k = 14 := by omega
    rcases this with rfl | rfl | rfl | rfl | rfl | rfl | rfl | rfl | rfl | rfl | rfl | rfl | rfl | rfl | rfl <;>
      exact ⟨_, _, _, _, kind_cells hd (Option.some.inj hy1).symm, rfl⟩
  obtain ⟨t, a, b, c, hc, ht⟩ := key (i / 4) (by omega)
  have hj : i % 4 < 4 := Nat.mod_lt _ (by omega)
  have e1 : cs0[i]? = ((cs0.toList.drop (i / 4 * 4)).take 4)[i % 4]? := by
    rw [List.getElem?_take, if_pos hj, List.getElem?_drop, show i / 4 * 4 + i % 4 = i by omega]
    simp
  have e2 : kindTab.flatten[i]? = ([t, a, b, c] : List Int)[i % 4]? := by
    have : i / 4 = 0 ∨ i / 4 = 1 ∨ i / 4 = 2 ∨ i / 4 = 3 ∨ i / 4 = 4 ∨ i / 4 = 5 ∨ i / 4 = 6 ∨ i / 4 = 7 ∨ i / 4 = 8 ∨ i / 4 = 9 ∨ i / 4 = 10 ∨ i / 4 = 11 ∨ i / 4 = 12 ∨ i / 4 = 13 ∨ i / 4 = 14 := by omega
    have h4 : i % 4 = 0 ∨ i % 4 = 1 ∨ i % 4 = 2 ∨ i % 4 = 3 := by omega
    have hi' : i = i / 4 * 4 + i % 4 := by omega
    generalize i / 4 = q at *
    generalize i % 4 = r at *
    subst hi'
    rcases this with rfl | rfl | rfl | rfl | rfl | rfl | rfl | rfl | rfl | rfl | rfl | rfl | rfl | rfl | rfl <;> cases ht <;> rcases h4 with rfl | rfl | rfl | rfl <;> rfl
  rw [e1, hc]
  rw [e2] at hi
  have h4 : i % 4 = 0 ∨ i % 4 = 1 ∨ i % 4 = 2 ∨ i % 4 = 3 := by omega
  rcases h4 with q | q | q | q <;> rw [q] at hi ⊢ <;> simp at hi ⊢ <;> exact hi

theorem wf_u64 {n : Int} (h : (Lit.int .u64 n).wf = true) : 0 ≤ n ∧ n < 18446744073709551616 := by
  have := bounds_u64 h
  omega

/-- an event, read -/
theorem ev_cells (h : DataW.trod enc Tryd.prog w base sp held fuel 30 cs = some x) : ∃ e : Ev, e.wf ∧ cs = e.cells.toList := by
  obtain ⟨xs, m, rfl, rfl, hl, hn, hel⟩ := DataW.trod_struct Tryd.underlying30 h
  rw [cells30] at hl
  match xs, hn with
  | [x0, x1, x2, x3, x4, x5, x6, x7, x8, x9], _ =>
    have e0 : DataW.trod enc Tryd.prog w base sp held m 3 ((cs.drop 0).take (Tryd.prog.cellsOf 3)) = some x0 := hel 0 _ rfl
    have e1 : DataW.trod enc Tryd.prog w base sp held m 23 ((cs.drop 1).take (Tryd.prog.cellsOf 23)) = some x1 := hel 1 _ rfl
    have e2 : DataW.trod enc Tryd.prog w base sp held m 23 ((cs.drop 2).take (Tryd.prog.cellsOf 23)) = some x2 := hel 2 _ rfl
    have e3 : DataW.trod enc Tryd.prog w base sp held m 9 ((cs.drop 3).take (Tryd.prog.cellsOf 9)) = some x3 := hel 3 _ rfl
    have e4 : DataW.trod enc Tryd.prog w base sp held m 9 ((cs.drop 4).take (Tryd.prog.cellsOf 9)) = some x4 := hel 4 _ rfl
    have e5 : DataW.trod enc Tryd.prog w base sp held m 9 ((cs.drop 5).take (Tryd.prog.cellsOf 9)) = some x5 := hel 5 _ rfl
    have e6 : DataW.trod enc Tryd.prog w base sp held m 9 ((cs.drop 6).take (Tryd.prog.cellsOf 9)) = some x6 := hel 6 _ rfl
    have e7 : DataW.trod enc Tryd.prog w base sp held m 3 ((cs.drop 7).take (Tryd.prog.cellsOf 3)) = some x7 := hel 7 _ rfl
    have e8 : DataW.trod enc Tryd.prog w base sp held m 3 ((cs.drop 8).take (Tryd.prog.cellsOf 3)) = some x8 := hel 8 _ rfl
    have e9 : DataW.trod enc Tryd.prog w base sp held m 3 ((cs.drop 9).take (Tryd.prog.cellsOf 3)) = some x9 := hel 9 _ rfl
    rw [cells3] at e0 e7 e8 e9
    rw [cells23] at e1 e2
    rw [cells9] at e3 e4 e5 e6
    obtain ⟨n0, d0, _, _⟩ := DataW.trod_int Tryd.underlying3 e0
    obtain ⟨n1, d1, _, w1⟩ := DataW.trod_int Tryd.underlying23 e1
    obtain ⟨n2, d2, _, w2⟩ := DataW.trod_int Tryd.underlying23 e2
    obtain ⟨n3, d3, _, _⟩ := DataW.trod_string Tryd.underlying9 e3
    obtain ⟨n4, d4, _, _⟩ := DataW.trod_string Tryd.underlying9 e4
    obtain ⟨n5, d5, _, _⟩ := DataW.trod_string Tryd.underlying9 e5
    obtain ⟨n6, d6, _, _⟩ := DataW.trod_string Tryd.underlying9 e6
    obtain ⟨n7, d7, _, _⟩ := DataW.trod_int Tryd.underlying3 e7
    obtain ⟨n8, d8, _, _⟩ := DataW.trod_int Tryd.underlying3 e8
    obtain ⟨n9, d9, _, _⟩ := DataW.trod_int Tryd.underlying3 e9
    refine ⟨⟨n0, n1, n2, n3, n4, n5, n6, n7, n8, n9⟩, ⟨(wf_u64 w1).1, (wf_u64 w1).2, (wf_u64 w2).1, (wf_u64 w2).2⟩, ?_⟩
    match cs, hl with
    | [c0, c1, c2, c3, c4, c5, c6, c7, c8, c9], _ =>
      simp at d0 d1 d2 d3 d4 d5 d6 d7 d8 d9
      simp [Ev.cells, d0, d1, d2, d3, d4, d5, d6, d7, d8, d9]

theorem evAt_of {a : Addr} {e : Ev} (h : ∀ j, j < 10 → w.cell? (a.add j) = e.cells.toList[j]?) : EvAt w a e := by
  have g : ∀ j, 0 < j → j < 10 → w.cell? ⟨a.block, a.off + j, none⟩ = e.cells.toList[j]? := fun j h0 hj => by
    rw [← h j hj]
    unfold Addr.add
    rw [if_neg (by omega)]
  have h0 := h 0 (by omega)
  rw [show a.add 0 = a by simp [Addr.add]] at h0
  exact ⟨h0, g 1 (by omega) (by omega), g 2 (by omega) (by omega), g 3 (by omega) (by omega), g 4 (by omega) (by omega), g 5 (by omega) (by omega), g 6 (by omega) (by omega), g 7 (by omega) (by omega), g 8 (by omega) (by omega), g 9 (by omega) (by omega)⟩

instance : Inhabited Ev := ⟨⟨0, 0, 0, ⟨#[]⟩, ⟨#[]⟩, ⟨#[]⟩, ⟨#[]⟩, 0, 0, 0⟩⟩

/-- a row of events, read -/
theorem open_evs {A : Option Addr} {len cap : Nat} {d : DataW H} {ps : List MemPlace} (h : DataW.Trod enc Tryd.prog w 0 sp held 22 (.slice A len cap) d ps) :
    ∃ l : List Ev, l.length = len ∧ EvsAt w A l ∧ len ≤ 9223372036854775807 ∧ ∀ e ∈ l, e.wf := by
  obtain ⟨fuel, hf⟩ := h
  rcases open_slice Tryd.underlying22 hf with ⟨hcs, _⟩ | ⟨a, len', cap', m, n, D, Pl, hcs, _, hl, hm, hmm, _, hx⟩
  · simp [Value.cells] at hcs
    obtain ⟨rfl, rfl, rfl⟩ := hcs
    exact ⟨[], rfl, by intro i e he; simp at he, by omega, by simp⟩
  · simp [Value.cells] at hcs
    obtain ⟨rfl, rfl, rfl⟩ := hcs
    have hle : len ≤ m := by rw [hmm]; split <;> omega
    have key : ∀ i, i < len → ∃ e : Ev, e.wf ∧ EvAt w (a.add (i * 10)) e := by
      intro i hi
      obtain ⟨cs', h1, h2⟩ := hx i (by omega)
      rw [cells30] at h1
      obtain ⟨_, _, hc⟩ := World.cells?_some h1
      obtain ⟨e, hwf, rfl⟩ := ev_cells h2
      exact ⟨e, hwf, evAt_of hc⟩
    obtain ⟨E, hE⟩ := choose_lt key
    refine ⟨(List.range len).map E, by simp, ?_, by unfold maxLen at hm; omega, ?_⟩
    · intro i e he
      have hi : i < len := by
        have := (List.getElem?_eq_some_iff.1 he).1
        simpa using this
      simp [hi] at he
      subst he
      exact ⟨a, rfl, (hE i hi).2⟩
    · intro e he
      simp at he
      obtain ⟨i, hi, rfl⟩ := he
      exact (hE i hi).1
end
end Go.Proofs.YtjbdjijfbpiccaaDoor
