/- Cache: from what comes in to rows of numbers and texts. -/
import Derived.Test.YtgleankpalihaaaRows
import Derived.Test.YtgleankpalihaaaChG
import Derived.WalkKit
import Derived.ProofKit
import Derived.OpenShut
import Derived.ShutString
import Derived.ChangeOld
import Derived.Below
import Derived.SliceStrings
import Derived.ChangeSlices
import Derived.ChangeMaps5
namespace Go.Proofs.Ytgleankpalihaaa
open Go.ChangeShapes Go.WideShapes Go.ChangeAt Go.RowKit
set_option linter.unusedVariables false
set_option linter.unusedSimpArgs false
theorem own : ownKnob Try.prog.godebug = none := by kernel_rfl
theorem laidOut : laidOutB Try.prog = true := by kernel_rfl
section
variable {H : Type} {enc : TypeId × Value → H} {w : World} {sp : Nat → Bool} {held : Bool}
theorem wf_u64 {n : Int} (h : (Lit.int .u64 n).wf = true) : 0 ≤ n ∧ n ≤ 18446744073709551615 := by
  have := bounds_u64 h
  omega
theorem open_nums {A : Option Addr} {len cap : Nat} {d : DataW H} {ps : List MemPlace} (h : DataW.Trod enc Try.prog w 0 sp held 40 (.slice A len cap) d ps) :
    ∃ l : List Int, l.length = len ∧ NumsAt w A l ∧ ∀ t ∈ l, 0 ≤ t ∧ t ≤ 18446744073709551615 := by
  obtain ⟨fuel, hf⟩ := h
  rcases open_ints Try.underlying40 Try.underlying23 (by kernel_rfl) hf with ⟨hcs, _⟩ | ⟨x, l, c, zs, hcs, _, hl, hm, hz, _, hcell, hwz⟩
  · simp [Value.cells] at hcs
    obtain ⟨rfl, rfl, rfl⟩ := hcs
    exact ⟨[], rfl, by intro i u hu; simp at hu, by simp⟩
  · simp [Value.cells] at hcs
    obtain ⟨rfl, rfl, rfl⟩ := hcs
    have hle : len ≤ zs.length := by rw [hz]; split <;> omega
    refine ⟨zs.take len, by simp; omega, ?_, ?_⟩
    · intro i u hu
      have hi : i < len := by
        have := (List.getElem?_eq_some_iff.1 hu).1
        simp at this; omega
      refine ⟨x, rfl, ?_⟩
      have h2 := hcell i (by omega)
      rw [List.getElem?_take, if_pos hi] at hu
      rw [h2, List.getD_eq_getElem?_getD, hu]; rfl
    · intro t ht
      exact wf_u64 (hwz t (List.mem_of_mem_take ht))
theorem open_strs {A : Option Addr} {len cap : Nat} {d : DataW H} {ps : List MemPlace} (h : DataW.Trod enc Try.prog w 0 sp held 39 (.slice A len cap) d ps) :
    ∃ l : List ByteArray, l.length = len ∧ StrsAt w A l := by
  obtain ⟨fuel, hf⟩ := h
  rcases open_strings Try.underlying39 Try.underlying9 (by kernel_rfl) hf with ⟨hcs, _⟩ | ⟨x, l, c, zs, hcs, _, hl, hm, hz, _, hcell, hwz⟩
  · simp [Value.cells] at hcs
    obtain ⟨rfl, rfl, rfl⟩ := hcs
    exact ⟨[], rfl, by intro i u hu; simp at hu⟩
  · simp [Value.cells] at hcs
    obtain ⟨rfl, rfl, rfl⟩ := hcs
    have hle : len ≤ zs.length := by rw [hz]; split <;> omega
    refine ⟨zs.take len, by simp; omega, ?_⟩
    intro i u hu
    have hi : i < len := by
      have := (List.getElem?_eq_some_iff.1 hu).1
      simp at this; omega
    refine ⟨x, rfl, ?_⟩
    have h2 := hcell i (by omega)
    rw [List.getElem?_take, if_pos hi] at hu
    rw [h2, List.getD_eq_getElem?_getD, hu]; rfl
end
end Go.Proofs.Ytgleankpalihaaa
