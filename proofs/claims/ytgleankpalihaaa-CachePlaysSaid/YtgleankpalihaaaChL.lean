/- Cache: queue.Less. -/
import Derived.Test.YtgleankpalihaaaChC
import Derived.Test.YtgleankpalihaaaCmMap
import Derived.Deep.RegionHeld3
import Derived.Carry
namespace Go.Proofs.Ytgleankpalihaaa
open Go.RowKit Go.MapKept
set_option linter.unusedSimpArgs false
set_option linter.unusedVariables false
theorem keep_alloc {w : World} {p : Addr} {v : Value} (h : w.cell? p = some v) (o : Obj) : (w.drew.alloc o).cell? p = some v :=
  (((Below.refl w.drew.heap.size w.drew).alloc (Nat.le_refl _) o).cell (World.block_lt_of_cell? w _ h)).trans h
def lessB (ki kj : ByteArray) (ui uj : Int) : Bool := decide (orI (cmpI ui uj) (cmpS ki kj) < 0)
theorem less_calls (A : Addr) (n c : Nat) (i j : Nat) (gi gj : Nat) (ki kj : ByteArray) (ui uj : Int) (w : World) (hi : i < n) (hj : j < n)
    (ci : w.cell? (A.add i) = some (.pointer (some ⟨gi, 0, none⟩))) (cj : w.cell? (A.add j) = some (.pointer (some ⟨gj, 0, none⟩)))
    (ki0 : w.cell? ⟨gi, 0, none⟩ = some (.string ki)) (ki1 : w.cell? ⟨gi, 1, none⟩ = some (.int .u64 ui))
    (kj0 : w.cell? ⟨gj, 0, none⟩ = some (.string kj)) (kj1 : w.cell? ⟨gj, 1, none⟩ = some (.int .u64 uj)) :
    Calls Try.prog 42 #[.slice (some A) n c, .int .i64 i, .int .i64 j] w fun e w' => e = .returned (.bool (lessB ki kj ui uj)) ∧ Below w.heap.size w w' := by
  go_enter Try.func42, Try.ntmps42
  go_wp2_with fail
  have a0 := keep_alloc ci
  have a1 := keep_alloc cj
  have a2 := keep_alloc ki0
  have a3 := keep_alloc ki1
  have a4 := keep_alloc kj0
  have a5 := keep_alloc kj1
  go_region_held3 (fun W => W.cell? (A.add i) = some (.pointer (some ⟨gi, 0, none⟩)) ∧ W.cell? (A.add j) = some (.pointer (some ⟨gj, 0, none⟩)) ∧ W.cell? ⟨gi, 0, none⟩ = some (.string ki) ∧ W.cell? ⟨gi, 1, none⟩ = some (.int .u64 ui) ∧ W.cell? ⟨gj, 0, none⟩ = some (.string kj) ∧ W.cell? ⟨gj, 1, none⟩ = some (.int .u64 uj)) (first | exact ⟨ci, cj, ki0, ki1, kj0, kj1⟩ | exact ⟨a0 _, a1 _, a2 _, a3 _, a4 _, a5 _⟩) (first
    | (go_at_call 45; refine (cmp64_calls _ _ _).mono ?_; rintro e9 w9 ⟨rfl, rfl⟩)
    | (go_at_call 46; refine (cmpS_calls _ _ _).mono ?_; rintro e9 w9 ⟨rfl, rfl⟩)
    | (go_at_call 44; refine (or_calls _ _ _ _ (row_cell (row_new _ _) 0) (row_cell (row_new _ _) 1)).mono ?_; rintro e9 w9 ⟨rfl, rfl⟩))
  all_goals go_wp2
  all_goals go_ret
  all_goals exact ⟨rfl, ((Below.refl _ _).alloc (Nat.le_refl _) _).drew⟩
end Go.Proofs.Ytgleankpalihaaa
