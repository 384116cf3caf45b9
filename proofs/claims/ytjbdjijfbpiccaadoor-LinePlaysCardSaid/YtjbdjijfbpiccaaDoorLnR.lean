/- event.Right: may an event be, as a plain function. -/
import Derived.Test.YtjbdjijfbpiccaaDoorProg
import Derived.Test.YtjbdjijfbpiccaaDoorCmMap
import Derived.WalkKit
import Derived.Outline
import Derived.WalkLawsBesides
import Derived.WalkSpells
import Derived.RegionTactic
import Derived.ChangeAlike
import Derived.BigRegion
import Derived.Deep.QuietTactic
import Derived.BigQuiet
import Derived.KernelRfl
import Derived.Lib.Hide
import Derived.Deep.Draws
import Derived.Lib.MinMax
namespace Go.Proofs.YtjbdjijfbpiccaaDoor
open Go.RowKit Go.MapKept
set_option linter.unusedSimpArgs false
set_option linter.unusedVariables false

theorem _root_.Go.RowKit.Below.drewN' {B : Nat} {w W : World} (h : Below B w W) (n : Nat) : Below B w (W.drewN n) := ⟨h.os, h.tape, h.output, h.size, h.block⟩

theorem known_calls (k : Int) (w : World) : Calls Tryd.prog 26 #[.int .i64 k] w fun e w' => e = .returned (.bool (decide (1 ≤ k) && decide (k ≤ 14))) ∧ w = w' := by
  by_cases h : 1 ≤ k
  · go_enter Tryd.func26, Tryd.ntmps26
    go_wp2
    go_ret
    exact ⟨by simp [h], rfl⟩
  · go_enter Tryd.func26, Tryd.ntmps26
    go_wp2
    go_ret
    exact ⟨by simp [show ¬ 1 ≤ k from by omega], rfl⟩
theorem alone_calls (k : Int) (w : World) : Calls Tryd.prog 27 #[.int .i64 k] w fun e w' => e = .returned (.bool (k == 1 || k == 2)) ∧ w = w' := by
  by_cases h : k = 1
  · subst h
    go_enter Tryd.func27, Tryd.ntmps27
    go_wp2
    go_ret
    exact ⟨rfl, rfl⟩
  · have h' : (k == 1) = false := by simpa using h
    go_enter Tryd.func27, Tryd.ntmps27
    go_wp2
    go_ret
    exact ⟨by simp [h'], rfl⟩

theorem texts_calls (b : Nat) (w : World) : Calls Tryd.prog 28 #[.pointer (some ⟨b, 0, none⟩)] w fun e w' =>
    ∃ g, e = .returned (.slice (some ⟨g, 0, none⟩) 4 4) ∧ w.heap.size ≤ g ∧ w'.heap[g]? = some (.cells #[.pointer (some ⟨b, 3, none⟩), .pointer (some ⟨b, 4, none⟩), .pointer (some ⟨b, 5, none⟩), .pointer (some ⟨b, 6, none⟩)] 59 (0, 0)) ∧ Below w.heap.size w w' := by
  go_enter Tryd.func28, Tryd.ntmps28
  go_wp2
  go_region
  all_goals go_wp2
  all_goals go_ret
  all_goals exact ⟨_, rfl, Nat.le_refl _, row_new _ _, ((Below.refl _ _).alloc (Nat.le_refl _) _).drew⟩

theorem numbers_calls (b : Nat) (w : World) : Calls Tryd.prog 29 #[.pointer (some ⟨b, 0, none⟩)] w fun e w' =>
    ∃ g, e = .returned (.slice (some ⟨g, 0, none⟩) 3 3) ∧ w.heap.size ≤ g ∧ w'.heap[g]? = some (.cells #[.pointer (some ⟨b, 7, none⟩), .pointer (some ⟨b, 8, none⟩), .pointer (some ⟨b, 9, none⟩)] 62 (0, 0)) ∧ Below w.heap.size w w' := by
  go_enter Tryd.func29, Tryd.ntmps29
  go_wp2
  go_region
  all_goals go_wp2
  all_goals go_ret
  all_goals exact ⟨_, rfl, Nat.le_refl _, row_new _ _, ((Below.refl _ _).alloc (Nat.le_refl _) _).drew⟩

structure Ev where
  kind : Int
  time : Int
  id : Int
  a : ByteArray
  b : ByteArray
  c : ByteArray
  d : ByteArray
  x : Int
  y : Int
  z : Int
def Ev.val (e : Ev) : Value := .agg #[.int .i64 e.kind, .int .u64 e.time, .int .u64 e.id, .string e.a, .string e.b, .string e.c, .string e.d, .int .i64 e.x, .int .i64 e.y, .int .i64 e.z]
def Ev.cells (e : Ev) : Array Value := #[.int .i64 e.kind, .int .u64 e.time, .int .u64 e.id, .string e.a, .string e.b, .string e.c, .string e.d, .int .i64 e.x, .int .i64 e.y, .int .i64 e.z]
def Ev.text (e : Ev) : Nat → ByteArray | 0 => e.a | 1 => e.b | 2 => e.c | _ => e.d
def Ev.num (e : Ev) : Nat → Int | 0 => e.x | 1 => e.y | _ => e.z

/-- what kinds holds: how many texts, below what the numbers are -/
def kindTab : List (List Int) :=
  [[0, 0, 0, 0], [1, 0, 0, 0], [1, 0, 0, 0], [4, 4, 3, 3], [2, 0, 0, 0], [0, 0, 0, 0], [2, 0, 0, 0], [0, 1000, 0, 0], [0, 0, 0, 0], [2, 0, 0, 0], [0, 1000, 0, 0], [1, 0, 0, 0], [1, 0, 0, 0], [0, 0, 0, 0], [0, 4, 0, 0]]
def KindsAt (w : World) : Prop := ∀ (i : Nat) (n : Int), kindTab.flatten[i]? = some n → w.cell? ⟨0, i, none⟩ = some (.int .i64 n)
def kindRow (k : Int) (j : Nat) : Int := (kindTab.getD k.toNat []).getD j 0

/-- a text that an event of that kind may have in that place -/
def tb (T : Int) (s : ByteArray) (i : Int) : Bool := decide ((s.size : Int) ≤ 4096) && (decide (i < T) || s.toList.isEmpty)
theorem tb_big {T : Int} {s : ByteArray} {i : Int} (h : (4096 : Int) < s.size) : tb T s i = false := by simp [tb]; omega
theorem tb_more {T : Int} {s : ByteArray} {i : Int} (h : T ≤ i) (h2 : (4096 : Int) < s.size ∨ (!s.toList.isEmpty) = true) : tb T s i = false := by
  rcases h2 with h2 | h2
  · exact tb_big h2
  · have : s.toList.isEmpty = false := by simpa using h2
    simp [tb, this]; omega
theorem tb_in {T : Int} {s : ByteArray} {i : Int} (h : (s.size : Int) ≤ 4096) (h2 : ¬ T ≤ i) : tb T s i = true := by simp [tb]; omega
theorem tb_none {T : Int} {s : ByteArray} {i : Int} (h : (s.size : Int) ≤ 4096) (h2 : (!s.toList.isEmpty) = false) : tb T s i = true := by
  have : s.toList.isEmpty = true := by simpa using h2
  simp [tb, this]; omega
/-- a number that it may have -/
def nb (N x : Int) : Bool := decide (0 ≤ x) && decide (x < max N 1)
theorem nb_neg {N x : Int} (h : x < 0) : nb N x = false := by simp [nb]; omega
theorem nb_big {N x : Int} (h : max N 1 ≤ x) : nb N x = false := by simp [nb]; omega
theorem nb_in {N x : Int} (h : 0 ≤ x) (h2 : x < max N 1) : nb N x = true := by simp [nb]; omega
def rightB (e : Ev) : Bool :=
  decide (1 ≤ e.kind) && decide (e.kind ≤ 14) && ((e.kind == 1 || e.kind == 2) == (e.id == 0)) &&
    (tb (kindRow e.kind 0) e.a 0 && tb (kindRow e.kind 0) e.b 1 && tb (kindRow e.kind 0) e.c 2 && tb (kindRow e.kind 0) e.d 3) &&
    (nb (kindRow e.kind 1) e.x && nb (kindRow e.kind 2) e.y && nb (kindRow e.kind 3) e.z)
def AllT (T : Int) (e : Ev) (k : Nat) : Prop := (0 < k → tb T e.a 0 = true) ∧ (1 < k → tb T e.b 1 = true) ∧ (2 < k → tb T e.c 2 = true) ∧ (3 < k → tb T e.d 3 = true)
def AllN (N1 N2 N3 : Int) (e : Ev) (k : Nat) : Prop := (0 < k → nb N1 e.x = true) ∧ (1 < k → nb N2 e.y = true) ∧ (2 < k → nb N3 e.z = true)
def RelT (T : Int) (e : Ev) (i : Value) : Prop := ∃ k : Nat, k ≤ 4 ∧ i = .int .i64 k ∧ AllT T e k
def RelN (N1 N2 N3 : Int) (e : Ev) (i : Value) : Prop := ∃ k : Nat, k ≤ 3 ∧ i = .int .i64 k ∧ AllN N1 N2 N3 e k
/-- what is answered of texts and numbers, the rest being right -/
def tailB (T N1 N2 N3 : Int) (e : Ev) : Bool := (tb T e.a 0 && tb T e.b 1 && tb T e.c 2 && tb T e.d 3) && (nb N1 e.x && nb N2 e.y && nb N3 e.z)
theorem tail_t {T N1 N2 N3 : Int} {e : Ev} (h : tb T e.a 0 = false ∨ tb T e.b 1 = false ∨ tb T e.c 2 = false ∨ tb T e.d 3 = false) : tailB T N1 N2 N3 e = false := by
  rcases h with h | h | h | h <;> simp [tailB, h]
theorem tail_n {T N1 N2 N3 : Int} {e : Ev} (h : nb N1 e.x = false ∨ nb N2 e.y = false ∨ nb N3 e.z = false) : tailB T N1 N2 N3 e = false := by
  rcases h with h | h | h <;> simp [tailB, h]
theorem tail_all {T N1 N2 N3 : Int} {e : Ev} (h : AllT T e 4) (h' : AllN N1 N2 N3 e 3) : tailB T N1 N2 N3 e = true := by
  obtain ⟨h0, h1, h2, h3⟩ := h
  obtain ⟨g0, g1, g2⟩ := h'
  simp [tailB, h0, h1, h2, h3, g0, g1, g2]

theorem right_bad1 (e : Ev) (w : World) (h : ¬ (1 ≤ e.kind ∧ e.kind ≤ 14)) : Calls Tryd.prog 18 #[e.val] w fun r w' => r = .returned (.bool false) ∧ Below w.heap.size w w' := by
  unfold Ev.val
  have hkn : (decide (1 ≤ e.kind) && decide (e.kind ≤ 14)) = false := by simp; omega
  go_enter Tryd.func18, Tryd.ntmps18
  go_wp2_with fail
  go_quiet ((first | (go_at_call 26; exact Calls.quiet_of_same ((known_calls _ _).mono fun _ _ ⟨h1, h2⟩ => ⟨h1, h2.symm⟩))))
  go_wp2
  go_ret
  exact ⟨rfl, ((Below.refl _ _).alloc (Nat.le_refl _) _).drewN' _⟩

theorem right_bad2 (e : Ev) (w : World) (h : 1 ≤ e.kind ∧ e.kind ≤ 14) (h2 : ((e.kind == 1 || e.kind == 2) == (e.id == 0)) = false) : Calls Tryd.prog 18 #[e.val] w fun r w' => r = .returned (.bool false) ∧ Below w.heap.size w w' := by
  unfold Ev.val
  have hkn : (decide (1 ≤ e.kind) && decide (e.kind ≤ 14)) = true := by simp [h]
  have h2' : (!(e.kind == 1 || e.kind == 2) == (e.id == 0)) = true := by rw [h2]; rfl
  obtain ⟨hk1, hk2⟩ := h
  clear h2
  go_enter Tryd.func18, Tryd.ntmps18
  go_wp2_with fail
  go_quiet ((first | (go_at_call 26; exact Calls.quiet_of_same ((known_calls _ _).mono fun _ _ ⟨h1, h2⟩ => ⟨h1, h2.symm⟩)) | (go_at_call 27; exact Calls.quiet_of_same ((alone_calls _ _).mono fun _ _ ⟨h1, h2⟩ => ⟨h1, h2.symm⟩))))
  go_wp2
  go_ret
  exact ⟨rfl, ((Below.refl _ _).alloc (Nat.le_refl _) _).drewN' _⟩

theorem kinds_cell {w : World} (hK : KindsAt w) (k : Int) (h : 1 ≤ k ∧ k ≤ 14) (o : Obj) (j : Nat) (hj : j < 4) : (w.alloc o).cell? ⟨0, k.toNat * 4 + j, none⟩ = some (.int .i64 (kindRow k j)) := by
  have key : ∀ n, kindTab.flatten[k.toNat * 4 + j]? = some n → (w.alloc o).cell? ⟨0, k.toNat * 4 + j, none⟩ = some (.int .i64 n) := fun n hn => by
    have h0 := hK _ n hn
    exact (World.cell?_of_block (w := w) (Below.heap_alloc w o 0 (World.block_lt_of_cell? w _ h0))).trans h0
  apply key
  clear key
  obtain ⟨h1, h2⟩ := h
  have : k = 1 ∨ k = 2 ∨ k = 3 ∨ k = 4 ∨ k = 5 ∨ k = 6 ∨ k = 7 ∨ k = 8 ∨ k = 9 ∨ k = 10 ∨ k = 11 ∨ k = 12 ∨ k = 13 ∨ k = 14 := by omega
  have hj' : j = 0 ∨ j = 1 ∨ j = 2 ∨ j = 3 := by omega
  rcases this with rfl | rfl | rfl | rfl | rfl | rfl | rfl | rfl | rfl | rfl | rfl | rfl | rfl | rfl <;> rcases hj' with rfl | rfl | rfl | rfl <;> rfl

set_option maxHeartbeats 1000000 in
theorem right_loops (e : Ev) (w : World) (h : 1 ≤ e.kind ∧ e.kind ≤ 14) (h2 : ((e.kind == 1 || e.kind == 2) == (e.id == 0)) = true) (hK : KindsAt w) : Calls Tryd.prog 18 #[e.val] w fun r w' => r = .returned (.bool (tailB (kindRow e.kind 0) (kindRow e.kind 1) (kindRow e.kind 2) (kindRow e.kind 3) e)) ∧ Below w.heap.size w w' := by
  unfold Ev.val
  have hkn : (decide (1 ≤ e.kind) && decide (e.kind ≤ 14)) = true := by simp [h]
  have h2' : (!(e.kind == 1 || e.kind == 2) == (e.id == 0)) = false := by rw [h2]; rfl
  have hc0 := fun o => kinds_cell hK e.kind h o 0 (by omega)
  have hc1 := fun o => kinds_cell hK e.kind h o 1 (by omega)
  have hc2 := fun o => kinds_cell hK e.kind h o 2 (by omega)
  have hc3 := fun o => kinds_cell hK e.kind h o 3 (by omega)
  obtain ⟨hk1, hk2⟩ := h
  simp only [Nat.add_zero] at hc0
  clear h2 hK
  generalize kindRow e.kind 0 = T at hc0
  generalize kindRow e.kind 1 = N1 at hc1
  generalize kindRow e.kind 2 = N2 at hc2
  generalize kindRow e.kind 3 = N3 at hc3
  go_enter Tryd.func18, Tryd.ntmps18
  go_wp2_with fail
  go_quiet ((first | (go_at_call 26; exact Calls.quiet_of_same ((known_calls _ _).mono fun _ _ ⟨h1, h2⟩ => ⟨h1, h2.symm⟩)) | (go_at_call 27; exact Calls.quiet_of_same ((alone_calls _ _).mono fun _ _ ⟨h1, h2⟩ => ⟨h1, h2.symm⟩))))
  go_wp2_with fail
  refine (texts_calls _ _).mono ?_
  rintro e1 w1 ⟨g, rfl, hg1, hgb, hB1⟩
  have hb0 : w1.heap[w.heap.size]? = some (.cells e.cells 30 (0, 0)) := (hB1.block _ (by simp; omega)).trans ((Below.heap_alloc _ _ _ (by simp [World.drewN])).trans (row_new w _))
  have hb1 : w1.heap[w.heap.size + 1]? = some (.cells #[.int .i64 T, .int .i64 N1, .int .i64 N2, .int .i64 N3] 54 (0, 0)) := (hB1.block _ (by simp)).trans (by
    have := row_new ((w.alloc (.cells e.cells 30)).drewN nq) (.cells #[.int .i64 T, .int .i64 N1, .int .i64 N2, .int .i64 N3] 54)
    have hz : ((w.alloc (.cells e.cells 30)).drewN nq).heap.size = w.heap.size + 1 := by simp [World.drewN]
    rw [hz] at this
    exact this)
  have hBw : Below w.heap.size w w1 := ((((Below.refl _ w).alloc (Nat.le_refl _) (.cells e.cells 30)).drewN' nq).alloc (by simp [World.drewN]) _).trans (hB1.mono (by simp [World.drewN]; omega))
  have HB := Lib.hid hBw
  clear hB1 hBw hg1 hc0 hc1 hc2 hc3
  have a0 : w1.cell? ⟨w.heap.size, 3, none⟩ = some (.string e.a) := row_cell hb0 3
  have a1 : w1.cell? ⟨w.heap.size, 4, none⟩ = some (.string e.b) := row_cell hb0 4
  have a2 : w1.cell? ⟨w.heap.size, 5, none⟩ = some (.string e.c) := row_cell hb0 5
  have a3 : w1.cell? ⟨w.heap.size, 6, none⟩ = some (.string e.d) := row_cell hb0 6
  have k0 : w1.cell? ⟨w.heap.size + 1, 0, none⟩ = some (.int .i64 T) := row_cell hb1 0
  have p0 : w1.cell? ⟨g, 0, none⟩ = some (.pointer (some ⟨w.heap.size, 3, none⟩)) := row_cell hgb 0
  have p1 : w1.cell? ⟨g, 1, none⟩ = some (.pointer (some ⟨w.heap.size, 4, none⟩)) := row_cell hgb 1
  have p2 : w1.cell? ⟨g, 2, none⟩ = some (.pointer (some ⟨w.heap.size, 5, none⟩)) := row_cell hgb 2
  have p3 : w1.cell? ⟨g, 3, none⟩ = some (.pointer (some ⟨w.heap.size, 6, none⟩)) := row_cell hgb 3
  have H0 := Lib.hid hb0
  have H1 := Lib.hid hb1
  clear hb0 hb1 hgb
  go_wp2_with fail
  go_loop [27] (fun i => RelT T e i) (fun i => 4 - (intOf i).toNat)
  case atStart => exact ⟨0, by omega, rfl, ⟨fun h => absurd h (by omega), fun h => absurd h (by omega), fun h => absurd h (by omega), fun h => absurd h (by omega)⟩⟩
  case round =>
    obtain ⟨k, hk, rfl, hT⟩ := hrel
    have hk' : k = 0 ∨ k = 1 ∨ k = 2 ∨ k = 3 ∨ k = 4 := by omega
    have HT := Lib.hid hT
    clear hT
    rcases hk' with rfl | rfl | rfl | rfl | rfl
    · go_wp2_with fail
      all_goals first
        | (go_ret; exact ⟨by rw [tail_t (.inl (tb_big ‹_›))]; rfl, HB.out⟩)
        | (go_ret; exact ⟨by rw [tail_t (.inl (tb_more ‹_› ‹_›))]; rfl, HB.out⟩)
        | (go_round
           case rel => exact ⟨1, by omega, by go_num, ⟨fun _ => tb_in ‹_› ‹_›, fun h => absurd h (by omega), fun h => absurd h (by omega), fun h => absurd h (by omega)⟩⟩
           case measure => simp [intOf])
        | (go_round
           case rel => exact ⟨1, by omega, by go_num, ⟨fun _ => tb_none ‹_› (And.right ‹_›), fun h => absurd h (by omega), fun h => absurd h (by omega), fun h => absurd h (by omega)⟩⟩
           case measure => simp [intOf])
    · go_wp2_with fail
      all_goals first
        | (go_ret; exact ⟨by rw [tail_t (.inr (.inl (tb_big ‹_›)))]; rfl, HB.out⟩)
        | (go_ret; exact ⟨by rw [tail_t (.inr (.inl (tb_more ‹_› ‹_›)))]; rfl, HB.out⟩)
        | (go_round
           case rel => exact ⟨2, by omega, by go_num, ⟨fun _ => HT.out.1 (by omega), fun _ => tb_in ‹_› ‹_›, fun h => absurd h (by omega), fun h => absurd h (by omega)⟩⟩
           case measure => simp [intOf])
        | (go_round
           case rel => exact ⟨2, by omega, by go_num, ⟨fun _ => HT.out.1 (by omega), fun _ => tb_none ‹_› (And.right ‹_›), fun h => absurd h (by omega), fun h => absurd h (by omega)⟩⟩
           case measure => simp [intOf])
    · go_wp2_with fail
      all_goals first
        | (go_ret; exact ⟨by rw [tail_t (.inr (.inr (.inl (tb_big ‹_›))))]; rfl, HB.out⟩)
        | (go_ret; exact ⟨by rw [tail_t (.inr (.inr (.inl (tb_more ‹_› ‹_›))))]; rfl, HB.out⟩)
        | (go_round
           case rel => exact ⟨3, by omega, by go_num, ⟨fun _ => HT.out.1 (by omega), fun _ => HT.out.2.1 (by omega), fun _ => tb_in ‹_› ‹_›, fun h => absurd h (by omega)⟩⟩
           case measure => simp [intOf])
        | (go_round
           case rel => exact ⟨3, by omega, by go_num, ⟨fun _ => HT.out.1 (by omega), fun _ => HT.out.2.1 (by omega), fun _ => tb_none ‹_› (And.right ‹_›), fun h => absurd h (by omega)⟩⟩
           case measure => simp [intOf])
    · go_wp2_with fail
      all_goals first
        | (go_ret; exact ⟨by rw [tail_t (.inr (.inr (.inr (tb_big ‹_›))))]; rfl, HB.out⟩)
        | (go_ret; exact ⟨by rw [tail_t (.inr (.inr (.inr (tb_more ‹_› ‹_›))))]; rfl, HB.out⟩)
        | (go_round
           case rel => exact ⟨4, by omega, by go_num, ⟨fun _ => HT.out.1 (by omega), fun _ => HT.out.2.1 (by omega), fun _ => HT.out.2.2.1 (by omega), fun _ => tb_in ‹_› ‹_›⟩⟩
           case measure => simp [intOf])
        | (go_round
           case rel => exact ⟨4, by omega, by go_num, ⟨fun _ => HT.out.1 (by omega), fun _ => HT.out.2.1 (by omega), fun _ => HT.out.2.2.1 (by omega), fun _ => tb_none ‹_› (And.right ‹_›)⟩⟩
           case measure => simp [intOf])
    · go_wp2_with fail
      refine (numbers_calls _ _).mono ?_
      rintro e2 w2 ⟨g2, rfl, hg2, hgb, hB2⟩
      have hB1 := HB.out
      have hBw : Below w.heap.size w w2 := hB1.trans (hB2.mono hB1.size)
      have hb0 := (hB2.block _ (row_lt H0.out)).trans H0.out
      have hb1 := (hB2.block _ (row_lt H1.out)).trans H1.out
      have HB2 := Lib.hid hBw
      clear hBw hB1 hB2 hg2 HB a0 a1 a2 a3 k0 p0 p1 p2 p3 H0 H1
      have a0 : w2.cell? ⟨w.heap.size, 7, none⟩ = some (.int .i64 e.x) := row_cell hb0 7
      have a1 : w2.cell? ⟨w.heap.size, 8, none⟩ = some (.int .i64 e.y) := row_cell hb0 8
      have a2 : w2.cell? ⟨w.heap.size, 9, none⟩ = some (.int .i64 e.z) := row_cell hb0 9
      have k1 : w2.cell? ⟨w.heap.size + 1, 1, none⟩ = some (.int .i64 N1) := row_cell hb1 1
      have k2 : w2.cell? ⟨w.heap.size + 1, 2, none⟩ = some (.int .i64 N2) := row_cell hb1 2
      have k3 : w2.cell? ⟨w.heap.size + 1, 3, none⟩ = some (.int .i64 N3) := row_cell hb1 3
      have p0 : w2.cell? ⟨g2, 0, none⟩ = some (.pointer (some ⟨w.heap.size, 7, none⟩)) := row_cell hgb 0
      have p1 : w2.cell? ⟨g2, 1, none⟩ = some (.pointer (some ⟨w.heap.size, 8, none⟩)) := row_cell hgb 1
      have p2 : w2.cell? ⟨g2, 2, none⟩ = some (.pointer (some ⟨w.heap.size, 9, none⟩)) := row_cell hgb 2
      clear hb0 hb1 hgb
      go_wp2_with fail
      go_loopw [52] (fun i wr => RelN N1 N2 N3 e i ∧ ∃ n, wr = w2.drewN n) (fun i _ => 3 - (intOf i).toNat)
      case atStart => exact ⟨⟨0, by omega, rfl, ⟨fun h => absurd h (by omega), fun h => absurd h (by omega), fun h => absurd h (by omega)⟩⟩, 0, rfl⟩
      case round =>
        obtain ⟨⟨k, hk, rfl, hN⟩, n, rfl⟩ := hrel
        have hk' : k = 0 ∨ k = 1 ∨ k = 2 ∨ k = 3 := by omega
        have HN := Lib.hid hN
        clear hN
        rcases hk' with rfl | rfl | rfl | rfl
        · by_cases hx : e.x < 0
          · go_wp2_with fail
            go_quiet (fail)
            go_wp2
            go_ret
            exact ⟨by rw [tail_n (.inl (nb_neg hx))]; rfl, by first | exact HB2.out.drewN' _ | exact (HB2.out.drewN' _).drewN' _⟩
          · have hd : decide (e.x < 0) = false := by simpa using hx
            go_wp2_with fail
            go_quiet (fail)
            go_wp2
            all_goals first
              | (go_ret; exact ⟨by rw [tail_n (.inl (nb_big ‹_›))]; rfl, by first | exact HB2.out.drewN' _ | exact (HB2.out.drewN' _).drewN' _⟩)
              | (go_roundw
                 case rel => exact ⟨⟨1, by omega, by go_num, ⟨fun _ => nb_in hx ‹_›, fun h => absurd h (by omega), fun h => absurd h (by omega)⟩⟩, _, rfl⟩
                 case measure => simp [intOf])
        · by_cases hx : e.y < 0
          · go_wp2_with fail
            go_quiet (fail)
            go_wp2
            go_ret
            exact ⟨by rw [tail_n (.inr (.inl (nb_neg hx)))]; rfl, by first | exact HB2.out.drewN' _ | exact (HB2.out.drewN' _).drewN' _⟩
          · have hd : decide (e.y < 0) = false := by simpa using hx
            go_wp2_with fail
            go_quiet (fail)
            go_wp2
            all_goals first
              | (go_ret; exact ⟨by rw [tail_n (.inr (.inl (nb_big ‹_›)))]; rfl, by first | exact HB2.out.drewN' _ | exact (HB2.out.drewN' _).drewN' _⟩)
              | (go_roundw
                 case rel => exact ⟨⟨2, by omega, by go_num, ⟨fun _ => HN.out.1 (by omega), fun _ => nb_in hx ‹_›, fun h => absurd h (by omega)⟩⟩, _, rfl⟩
                 case measure => simp [intOf])
        · by_cases hx : e.z < 0
          · go_wp2_with fail
            go_quiet (fail)
            go_wp2
            go_ret
            exact ⟨by rw [tail_n (.inr (.inr (nb_neg hx)))]; rfl, by first | exact HB2.out.drewN' _ | exact (HB2.out.drewN' _).drewN' _⟩
          · have hd : decide (e.z < 0) = false := by simpa using hx
            go_wp2_with fail
            go_quiet (fail)
            go_wp2
            all_goals first
              | (go_ret; exact ⟨by rw [tail_n (.inr (.inr (nb_big ‹_›)))]; rfl, by first | exact HB2.out.drewN' _ | exact (HB2.out.drewN' _).drewN' _⟩)
              | (go_roundw
                 case rel => exact ⟨⟨3, by omega, by go_num, ⟨fun _ => HN.out.1 (by omega), fun _ => HN.out.2.1 (by omega), fun _ => nb_in hx ‹_›⟩⟩, _, rfl⟩
                 case measure => simp [intOf])
        · go_wp2
          go_ret
          exact ⟨by rw [tail_all HT.out HN.out]; rfl, by first | exact HB2.out.drewN' _ | exact (HB2.out.drewN' _).drewN' _⟩

theorem right_calls (e : Ev) (w : World) (hK : KindsAt w) : Calls Tryd.prog 18 #[e.val] w fun r w' => r = .returned (.bool (rightB e)) ∧ Below w.heap.size w w' := by
  by_cases h : 1 ≤ e.kind ∧ e.kind ≤ 14
  · cases h2 : ((e.kind == 1 || e.kind == 2) == (e.id == 0)) with
    | false =>
      have : rightB e = false := by simp only [rightB, h2, Bool.and_false, Bool.false_and]
      rw [this]
      exact right_bad2 e w h h2
    | true =>
      have : rightB e = tailB (kindRow e.kind 0) (kindRow e.kind 1) (kindRow e.kind 2) (kindRow e.kind 3) e := by
        have h1 : (decide (1 ≤ e.kind) && decide (e.kind ≤ 14)) = true := by simp [h]
        simp only [rightB, tailB, h1, h2, Bool.true_and]
      rw [this]
      exact right_loops e w h h2 hK
  · have : rightB e = false := by
      have h1 : (decide (1 ≤ e.kind) && decide (e.kind ≤ 14)) = false := by simp; omega
      simp only [rightB, h1, Bool.false_and]
    rw [this]
    exact right_bad1 e w h
end Go.Proofs.YtjbdjijfbpiccaaDoor
