/- Cache: from what comes in to rows of ops. -/
import Derived.Test.YtgleankpalihaaaPyW
import Derived.Test.YtgleankpalihaaaChO
import Derived.Deep.Slices
namespace Go.Proofs.Ytgleankpalihaaa
open Go.ChangeShapes Go.WideShapes Go.ChangeAt Go.RowKit Go.Deep
set_option linter.unusedVariables false
set_option linter.unusedSimpArgs false
theorem cells3 : Try.prog.cellsOf 3 = 1 := by kernel_rfl
theorem cells9 : Try.prog.cellsOf 9 = 1 := by kernel_rfl
theorem cells23 : Try.prog.cellsOf 23 = 1 := by kernel_rfl
theorem cells33 : Try.prog.cellsOf 33 = 3 := by kernel_rfl
section
variable {H : Type} {enc : TypeId × Value → H} {w : World} {base : Nat} {sp : Nat → Bool} {held : Bool} {fuel : Nat} {cs : List Value} {x : DataW H × List MemPlace}
theorem op_cells (h : DataW.trod enc Try.prog w base sp held fuel 33 cs = some x) : ∃ e : Opx, cs = [.int .i64 e.kd, .string e.key, .int .u64 e.n] := by
  obtain ⟨xs, m, rfl, rfl, hl, hn, hel⟩ := DataW.trod_struct Try.underlying33 h
  rw [cells33] at hl
  match xs, hn with
  | [x0, x1, x2], _ =>
    have e0 : DataW.trod enc Try.prog w base sp held m 3 ((cs.drop 0).take (Try.prog.cellsOf 3)) = some x0 := hel 0 _ rfl
    have e1 : DataW.trod enc Try.prog w base sp held m 9 ((cs.drop 1).take (Try.prog.cellsOf 9)) = some x1 := hel 1 _ rfl
    have e2 : DataW.trod enc Try.prog w base sp held m 23 ((cs.drop 2).take (Try.prog.cellsOf 23)) = some x2 := hel 2 _ rfl
    rw [cells3] at e0
    rw [cells9] at e1
    rw [cells23] at e2
    obtain ⟨n0, d0, _, _⟩ := DataW.trod_int Try.underlying3 e0
    obtain ⟨n1, d1, _, _⟩ := DataW.trod_string Try.underlying9 e1
    obtain ⟨n2, d2, _, _⟩ := DataW.trod_int Try.underlying23 e2
    refine ⟨⟨n0, n1, n2⟩, ?_⟩
    match cs, hl with
    | [c0, c1, c2], _ =>
      simp at d0 d1 d2
      simp [d0, d1, d2]
theorem opAt_of {a : Addr} {e : Opx} (h : ∀ j, j < 3 → w.cell? (a.add j) = ([.int .i64 e.kd, .string e.key, .int .u64 e.n] : List Value)[j]?) : OpAt w a e := by
  have g : ∀ j, 0 < j → j < 3 → w.cell? ⟨a.block, a.off + j, none⟩ = ([.int .i64 e.kd, .string e.key, .int .u64 e.n] : List Value)[j]? := fun j h0 hj => by
    rw [← h j hj]
    unfold Addr.add
    rw [if_neg (by omega)]
  have h0 := h 0 (by omega)
  rw [show a.add 0 = a by simp [Addr.add]] at h0
  exact ⟨h0, g 1 (by omega) (by omega), g 2 (by omega) (by omega)⟩
instance : Inhabited Opx := ⟨⟨0, ⟨#[]⟩, 0⟩⟩
theorem open_ops {A : Option Addr} {len cap : Nat} {d : DataW H} {ps : List MemPlace} (h : DataW.Trod enc Try.prog w 0 sp held 22 (.slice A len cap) d ps) :
    ∃ l : List Opx, l.length = len ∧ OpsAt w A l ∧ True := by
  obtain ⟨fuel, hf⟩ := h
  rcases open_slice Try.underlying22 hf with ⟨hcs, _⟩ | ⟨a, len', cap', m, n, D, Pl, hcs, _, hl, hm, hmm, _, hx⟩
  · simp [Value.cells] at hcs
    obtain ⟨rfl, rfl, rfl⟩ := hcs
    exact ⟨[], rfl, by intro i e he; simp at he, trivial⟩
  · simp [Value.cells] at hcs
    obtain ⟨rfl, rfl, rfl⟩ := hcs
    have hle : len ≤ m := by rw [hmm]; split <;> omega
    have key : ∀ i, i < len → ∃ e : Opx, OpAt w (a.add (i * 3)) e := by
      intro i hi
      obtain ⟨cs', h1, h2⟩ := hx i (by omega)
      rw [cells33] at h1
      obtain ⟨_, _, hc⟩ := World.cells?_some h1
      obtain ⟨e, rfl⟩ := op_cells h2
      exact ⟨e, opAt_of hc⟩
    obtain ⟨E, hE⟩ := choose_lt key
    refine ⟨(List.range len).map E, by simp, ?_, trivial⟩
    intro i e he
    have hi : i < len := by
      have := (List.getElem?_eq_some_iff.1 he).1
      simpa using this
    simp [hi] at he
    subst he
    exact ⟨a, rfl, hE i hi⟩
end
end Go.Proofs.Ytgleankpalihaaa
