/- line.Line.may: the other kinds. -/
import Derived.Test.YtjbdjijfbpiccaaDoorLnF
namespace Go.Proofs.YtjbdjijfbpiccaaDoor
open Go.RowKit Go.MapKept
set_option linter.unusedSimpArgs false
set_option linter.unusedVariables false

theorem may_policy (p b : Nat) (st : LSt) (e : Ev) (w : World) (h : IsLine w p b st) (h0 : e.kind ≠ 1 ∧ st.count ≠ 0) (hk : e.kind = 2) : Calls Tryd.prog 21 #[.pointer (some ⟨p, 0, none⟩), e.val] w fun r w' => r = .returned (.bool (st.mayB e)) ∧ Below w.heap.size w w' := by
  unfold Ev.val
  have c0 := fun o => row_cell (row_alloc h.row o) 0
  have c2 := fun o => row_cell (row_alloc h.row o) 2
  simp only [List.getElem?_toArray, List.getElem?_cons_zero, List.getElem?_cons_succ] at c0 c2
  have hlen := fun o ty => (h.map.alloc o).len (ty := ty) Tryd.underlying42
  have hm : st.mayB e = decide (st.n = 0) := by simp only [LSt.mayB, if_neg (show ¬ (e.kind = 1 ∨ st.count = 0) by omega), if_pos hk]
  have h1' : (e.kind == 1) = false := by simpa using h0.1
  have h2' : (st.count == 0) = false := by simpa using h0.2
  have h3' : (e.kind == 2) = true := by simpa using hk
  have hn : ((st.n : Int) == 0) = decide (st.n = 0) := by rw [Bool.eq_iff_iff]; simp
  rw [hm, ← hn]
  clear h hm h0 hk hn
  go_enter Tryd.func21, Tryd.ntmps21
  go_wp2
  go_ret
  exact ⟨rfl, (Below.refl _ _).alloc (Nat.le_refl _) _⟩

theorem may_start (p b : Nat) (st : LSt) (e : Ev) (w : World) (h : IsLine w p b st) (h0 : e.kind ≠ 1 ∧ st.count ≠ 0) (hk : e.kind = 3) : Calls Tryd.prog 21 #[.pointer (some ⟨p, 0, none⟩), e.val] w fun r w' => r = .returned (.bool (st.mayB e)) ∧ Below w.heap.size w w' := by
  unfold Ev.val
  have c0 := fun o => row_cell (row_alloc h.row o) 0
  have c2 := fun o => row_cell (row_alloc h.row o) 2
  simp only [List.getElem?_toArray, List.getElem?_cons_zero, List.getElem?_cons_succ] at c0 c2
  have hl : ∀ (o : Obj) (n : Nat), (Instr.lookup 42 (.map (some b)) (.int .u64 e.id) true).run Tryd.prog ((w.alloc o).drewN n) = .ok (.tuple #[.int .i64 (st.state e.id), .bool (st.at_ e.id).isSome]) ((w.alloc o).drewN n) := by
    intro o n
    have := ((h.map.alloc o).of_heap (w' := (w.alloc o).drewN n) rfl).lookup Tryd.underlying42 Tryd.underlying23 (zero3 _) (k := .int .u64 e.id) rfl true
    rw [LSt.f_at, LSt.f_is] at this
    simpa using this
  have hm : st.mayB e = !(st.at_ e.id).isSome := by simp only [LSt.mayB, if_neg (show ¬ (e.kind = 1 ∨ st.count = 0) by omega), if_neg (show ¬ e.kind = 2 by omega), if_pos hk]
  have h1' : (e.kind == 1) = false := by simpa using h0.1
  have h2' : (st.count == 0) = false := by simpa using h0.2
  have h3' : (e.kind == 2) = false := by simp; omega
  have h4' : (e.kind == 3) = true := by simpa using hk
  rw [hm]
  clear h hm h0 hk
  generalize (st.at_ e.id).isSome = is at hl
  go_enter Tryd.func21, Tryd.ntmps21
  go_wp2_with fail
  go_quiet (fail)
  go_wp2
  go_ret
  exact ⟨rfl, ((Below.refl _ _).alloc (Nat.le_refl _) _).drewN' _⟩

theorem field46_0 (A : Option Addr) (n : Nat) (t : Int) (W : World) : (Instr.field 46 (.agg #[.slice A n n, .int .i64 t]) 0).run Tryd.prog W = .ok (.slice A n n) W := by kernel_rfl
theorem field46_1 (A : Option Addr) (n : Nat) (t : Int) (W : World) : (Instr.field 46 (.agg #[.slice A n n, .int .i64 t]) 1).run Tryd.prog W = .ok (.int .i64 t) W := by kernel_rfl
theorem may_other (p b : Nat) (st : LSt) (e : Ev) (w : World) (h : IsLine w p b st) (h0 : e.kind ≠ 1 ∧ st.count ≠ 0) (hk : e.kind ≠ 2 ∧ e.kind ≠ 3) : Calls Tryd.prog 21 #[.pointer (some ⟨p, 0, none⟩), e.val] w fun r w' => r = .returned (.bool (st.mayB e)) ∧ Below w.heap.size w w' := by
  unfold Ev.val
  have c0 := fun o => row_cell (row_alloc h.row o) 0
  simp only [List.getElem?_toArray, List.getElem?_cons_zero, List.getElem?_cons_succ] at c0
  have hm : st.mayB e = (wayOf e.kind).1.contains (st.state e.id) := by simp only [LSt.mayB, if_neg (show ¬ (e.kind = 1 ∨ st.count = 0) by omega), if_neg hk.1, if_neg hk.2]
  have h1' : (e.kind == 1) = false := by simpa using h0.1
  have h2' : (st.count == 0) = false := by simpa using h0.2
  have h3' : (e.kind == 2) = false := by simpa using hk.1
  have h4' : (e.kind == 3) = false := by simpa using hk.2
  have HL := Lib.hid h
  rw [hm]
  clear h hm h0 hk
  go_enter Tryd.func21, Tryd.ntmps21
  go_wp2_with fail
  have hz : w.heap.size < (w.alloc (.cells e.cells 30)).drew.heap.size := by simp [World.drew]
  have s0 : (w.alloc (.cells e.cells 30)).drew.cell? ⟨w.heap.size, 0, none⟩ = some (.int .i64 e.kind) := row_cell (row_new w (.cells e.cells 30)) 0
  have s2 : (w.alloc (.cells e.cells 30)).drew.cell? ⟨w.heap.size, 2, none⟩ = some (.int .u64 e.id) := row_cell (row_new w (.cells e.cells 30)) 2
  have HL0 : Hid (IsLine (w.alloc (.cells e.cells 30)).drew p b st) := Lib.hid (HL.out.kp ((Kp.refl Non w).alloc _).drew (fun q => q) (fun q => q))
  have hfl := field46_0
  unfold Ev.cells at s0 s2 HL0 hz
  go_region_held3 (fun W => W.cell? ⟨w.heap.size, 0, none⟩ = some (.int .i64 e.kind) ∧ W.cell? ⟨w.heap.size, 2, none⟩ = some (.int .u64 e.id)) (first | exact ⟨s0, s2⟩ | exact ⟨t0, t2⟩) (first
    | (go_at_call 22; refine (ways_calls _).mono ?_; rintro e1 w1 ⟨bw, rfl, hbw, hW, hB⟩; have t0 := (hB.cell hz).trans s0; have t2 := (hB.cell hz).trans s2; have HL1 := Lib.hid (HL0.out.kp (Kp.of_below (S := Non) hB) (fun q => q) (fun q => q)); obtain ⟨v, hrun, A, rfl, hrow⟩ := way_look hW e.kind; have HR := Lib.hid hrow; have HB := Lib.hid hB; clear hrow hB hW hbw)
    | (go_at_call 11; refine (state_calls p b st e.id _ HL1.out).mono ?_; rintro e2 w2 ⟨rfl, rfl⟩)
    | (go_at_call 30; refine (contains_calls A _ _ _ HR.out (Nat.le_trans (wayOf_len _) (by omega))).mono ?_; rintro e3 w3 ⟨rfl, rfl⟩))
  all_goals go_wp2
  all_goals go_ret
  all_goals exact ⟨by simp, (((Below.refl _ _).alloc (Nat.le_refl _) _).drew).trans (HB.out.mono (by simp [World.drew]))⟩

theorem may_calls (p b : Nat) (st : LSt) (e : Ev) (w : World) (h : IsLine w p b st) : Calls Tryd.prog 21 #[.pointer (some ⟨p, 0, none⟩), e.val] w fun r w' => r = .returned (.bool (st.mayB e)) ∧ Below w.heap.size w w' := by
  by_cases h0 : e.kind = 1 ∨ st.count = 0
  · exact may_first p b st e w h h0
  · by_cases h2 : e.kind = 2
    · exact may_policy p b st e w h (by omega) h2
    · by_cases h3 : e.kind = 3
      · exact may_start p b st e w h (by omega) h3
      · exact may_other p b st e w h (by omega) ⟨h2, h3⟩
end Go.Proofs.YtjbdjijfbpiccaaDoor
