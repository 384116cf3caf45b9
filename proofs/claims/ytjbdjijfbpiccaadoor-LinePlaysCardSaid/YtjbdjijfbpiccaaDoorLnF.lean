/- line.Line: its state, and what Feed answers and makes of it, as plain functions; the contracts. -/
import Derived.Test.YtjbdjijfbpiccaaDoorLnR
import Derived.Test.YtjbdjijfbpiccaaDoorLnW
import Derived.Deep.RegionHeld3
import Derived.StillTailTactics
import Derived.Deep.DeepCutAuto
namespace Go.Proofs.YtjbdjijfbpiccaaDoor
open Go.RowKit Go.MapKept
set_option linter.unusedSimpArgs false
set_option linter.unusedVariables false

structure LSt where
  count : Int
  last : Int
  opn : Int
  at_ : Int → Option Int
  n : Nat
def LSt.f (st : LSt) : Value → Option Value
  | .int .u64 i => (st.at_ i).map (Value.int .i64)
  | _ => none
def LSt.ok (st : LSt) : Prop := 0 ≤ st.count ∧ st.count ≤ 4096 ∧ -st.count ≤ st.opn ∧ st.opn ≤ st.count ∧ (st.n : Int) ≤ st.count
def LSt.state (st : LSt) (id : Int) : Int := (st.at_ id).getD 0

/-- A line lies in the blocks p (its struct) and b (its map). -/
structure IsLine (w : World) (p b : Nat) (st : LSt) : Prop where
  row : w.heap[p]? = some (.cells #[.int .i64 st.count, .int .u64 st.last, .map (some b), .int .i64 st.opn] 44 (0, 0))
  map : MapIs w (.int .u64) b st.f st.n
  ok : st.ok

theorem IsLine.ne {w : World} {p b : Nat} {st : LSt} (h : IsLine w p b st) : b ≠ p := h.map.ne_row h.row
theorem IsLine.kp {S : Nat → Prop} {w w' : World} {p b : Nat} {st : LSt} (h : IsLine w p b st) (k : Kp S w w') (hp : ¬ S p) (hb : ¬ S b) : IsLine w' p b st :=
  ⟨k.blk h.row hp, h.map.kp k hb, h.ok⟩
theorem IsLine.c0 {w : World} {p b : Nat} {st : LSt} (h : IsLine w p b st) : w.cell? ⟨p, 0, none⟩ = some (.int .i64 st.count) := row_cell h.row 0
theorem IsLine.c1 {w : World} {p b : Nat} {st : LSt} (h : IsLine w p b st) : w.cell? ⟨p, 1, none⟩ = some (.int .u64 st.last) := row_cell h.row 1
theorem IsLine.c2 {w : World} {p b : Nat} {st : LSt} (h : IsLine w p b st) : w.cell? ⟨p, 2, none⟩ = some (.map (some b)) := row_cell h.row 2
theorem IsLine.c3 {w : World} {p b : Nat} {st : LSt} (h : IsLine w p b st) : w.cell? ⟨p, 3, none⟩ = some (.int .i64 st.opn) := row_cell h.row 3

def newSt : LSt := ⟨0, 0, 0, fun _ => none, 0⟩

theorem new_calls (w : World) : Calls Tryd.prog 9 #[] w fun e w' => ∃ p b, e = .returned (.pointer (some ⟨p, 0, none⟩)) ∧ w.heap.size ≤ p ∧ w.heap.size ≤ b ∧ IsLine w' p b newSt ∧ Below w.heap.size w w' := by
  have hmm := @run_makeMap Tryd.prog
  go_enter Tryd.func9, Tryd.ntmps9
  go_wp2
  go_ret
  refine ⟨w.heap.size + 1, w.heap.size, rfl, by omega, Nat.le_refl _, ⟨?_, ?_, ?_⟩, ((Below.refl _ _).alloc (Nat.le_refl _) _).alloc (by simp) _⟩
  · have := row_new (w.alloc (.map #[] 0)) (.cells #[.int .i64 0, .int .u64 0, .map (some w.heap.size), .int .i64 0] 44)
    rw [show (w.alloc (.map #[] 0)).heap.size = w.heap.size + 1 by simp] at this
    exact this
  · exact ((MapIs.made w (.int .u64)).alloc _).congr (fun k hk => by cases k <;> simp_all [IsKey, LSt.f, newSt]) rfl
  · simp [LSt.ok, newSt]

theorem count_calls (p b : Nat) (st : LSt) (w : World) (h : IsLine w p b st) : Calls Tryd.prog 13 #[.pointer (some ⟨p, 0, none⟩)] w fun e w' => e = .returned (.int .i64 st.count) ∧ w = w' := by
  have c0 := h.c0
  clear h
  go_enter Tryd.func13, Tryd.ntmps13
  go_wp2
  go_ret
  exact ⟨rfl, rfl⟩
theorem open_calls (p b : Nat) (st : LSt) (w : World) (h : IsLine w p b st) : Calls Tryd.prog 14 #[.pointer (some ⟨p, 0, none⟩)] w fun e w' => e = .returned (.int .i64 st.opn) ∧ w = w' := by
  have c0 := h.c3
  clear h
  go_enter Tryd.func14, Tryd.ntmps14
  go_wp2
  go_ret
  exact ⟨rfl, rfl⟩
theorem last_calls (p b : Nat) (st : LSt) (w : World) (h : IsLine w p b st) : Calls Tryd.prog 16 #[.pointer (some ⟨p, 0, none⟩)] w fun e w' => e = .returned (.int .u64 st.last) ∧ w = w' := by
  have c0 := h.c1
  clear h
  go_enter Tryd.func16, Tryd.ntmps16
  go_wp2
  go_ret
  exact ⟨rfl, rfl⟩

theorem zero3 (w : World) : (zeroValue 3).run Tryd.prog w = .ok (.int .i64 0) w := by kernel_rfl
theorem zero46 (w : World) : (zeroValue 46).run Tryd.prog w = .ok (.agg #[.slice none 0 0, .int .i64 0]) w := by kernel_rfl
theorem LSt.f_at (st : LSt) (id : Int) : (st.f (.int .u64 id)).getD (.int .i64 0) = .int .i64 (st.state id) := by
  cases h : st.at_ id <;> simp [LSt.f, LSt.state, h]
theorem LSt.f_is (st : LSt) (id : Int) : (st.f (.int .u64 id)).isSome = (st.at_ id).isSome := by
  cases h : st.at_ id <;> simp [LSt.f, h]

theorem state_calls (p b : Nat) (st : LSt) (id : Int) (w : World) (h : IsLine w p b st) : Calls Tryd.prog 11 #[.pointer (some ⟨p, 0, none⟩), .int .u64 id] w fun e w' => e = .returned (.int .i64 (st.state id)) ∧ w = w' := by
  have c2 := h.c2
  have hl := h.map.lookup Tryd.underlying42 Tryd.underlying23 (zero3 w) (k := .int .u64 id) rfl false
  rw [LSt.f_at] at hl
  simp only [Bool.false_eq_true, if_false] at hl
  clear h
  go_enter Tryd.func11, Tryd.ntmps11
  go_wp2
  go_ret
  exact ⟨rfl, rfl⟩

/-! ### slices.Contains of a short row -/
/-- A row of ints that is read: nil and empty, or a block of its own. -/
def RowOf (w : World) (A : Option Addr) (fs : List Int) : Prop := fs = [] ∨ ∃ g, A = some ⟨g, 0, none⟩ ∧ w.heap[g]? = some (.cells ((fs.map (Value.int .i64)).toArray) 3 (0, 0))
theorem RowOf.kp {S : Nat → Prop} {w w' : World} {A : Option Addr} {fs : List Int} (h : RowOf w A fs) (k : Kp S w w') (hs : ∀ g, A = some ⟨g, 0, none⟩ → ¬ S g) : RowOf w' A fs := by
  rcases h with h | ⟨g, hA, hg⟩
  · exact .inl h
  · exact .inr ⟨g, hA, k.blk hg (hs g hA)⟩

def IdxIs (fs : List Int) (v : Int) (w : World) (e : Ending) (w' : World) : Prop := ∃ r : Int, e = .returned (.int .i64 r) ∧ (0 ≤ r ↔ v ∈ fs) ∧ w = w'
def IdxRel (fs : List Int) (v : Int) (i : Value) : Prop := ∃ k : Nat, k ≤ fs.length ∧ i = .int .i64 k ∧ ∀ j < k, fs[j]? ≠ some v

theorem index_calls (A : Option Addr) (fs : List Int) (v : Int) (w : World) (h : RowOf w A fs) (hl : fs.length ≤ 100) : Calls Tryd.prog 34 #[.slice A fs.length fs.length, .int .i64 v] w (IdxIs fs v w) := by
  have H := Lib.hid h
  clear h
  go_enter Tryd.func34, Tryd.ntmps34
  go_wp2
  go_loop [8] (fun i => IdxRel fs v i) (fun i => fs.length - (intOf i).toNat)
  case atStart => exact ⟨0, by omega, rfl, fun j hj => absurd hj (by omega)⟩
  case round =>
    obtain ⟨k, hk, rfl, hno⟩ := hrel
    have HN := Lib.hid hno
    clear hno
    by_cases hlt : k < fs.length
    · rcases H.out with he | ⟨g, rfl, hg⟩
      · exact absurd hlt (by simp [he])
      · have hc : w.cell? ⟨g, k, none⟩ = some (.int .i64 (fs[k])) := by rw [row_cell hg]; simp [hlt]
        clear hg
        go_wp2
        · go_ret
          have hv : (v == fs[k]) = true := by assumption
          have hv' : fs[k] = v := by simpa using (eq_of_beq hv).symm
          exact ⟨k, rfl, ⟨fun _ => hv' ▸ List.getElem_mem _, fun _ => by omega⟩, rfl⟩
        · have hv : (v == fs[k]) = false := by assumption
          have hv' : fs[k] ≠ v := fun q => by simp [q] at hv
          go_round
          case rel =>
            refine ⟨k + 1, by omega, by go_num, fun j hj => ?_⟩
            by_cases hjk : j = k
            · subst hjk
              simpa [hlt] using hv'
            · exact HN.out j (by omega)
          case measure => simp [intOf]; omega
    · go_wp2
      go_ret
      refine ⟨-1, rfl, ⟨fun h => absurd h (by omega), fun h => ?_⟩, rfl⟩
      obtain ⟨j, hj⟩ := List.getElem?_of_mem h
      have hjl : j < fs.length := (List.getElem?_eq_some_iff.1 hj).1
      exact absurd hj (HN.out j (by omega))

theorem contains_calls (A : Option Addr) (fs : List Int) (v : Int) (w : World) (h : RowOf w A fs) (hl : fs.length ≤ 100) : Calls Tryd.prog 30 #[.slice A fs.length fs.length, .int .i64 v] w fun e w' => e = .returned (.bool (fs.contains v)) ∧ w = w' := by
  have key : ∀ c : Bool, fs.contains v = c → Calls Tryd.prog 30 #[.slice A fs.length fs.length, .int .i64 v] w fun e w' => e = .returned (.bool c) ∧ w = w' := by
    intro c hc
    go_enter Tryd.func30, Tryd.ntmps30
    go_wp2_with fail
    refine (index_calls A fs v w h hl).mono ?_
    rintro e w' ⟨r, rfl, hr, rfl⟩
    have hd : decide (0 ≤ r) = c := by
      rw [← hc, Bool.eq_iff_iff]
      simp [hr]
    clear hr h hc
    subst hd
    go_wp2
    go_ret
    exact ⟨rfl, rfl⟩
  exact key _ rfl

/-! ### a look-up in the map of the kinds -/
def wayA (w : World) (v : Value) (k : Int) : Prop := ∃ A, v = .agg #[.slice A (wayOf k).1.length (wayOf k).1.length, .int .i64 (wayOf k).2] ∧ RowOf w A (wayOf k).1
theorem WaysGot.kp {S : Nat → Prop} {w w' : World} {b : Nat} (h : WaysGot w b) (k : Kp S w w') (hs : ∀ i, S i → False) : WaysGot w' b := by
  obtain ⟨l, hl, ht⟩ := h
  exact ⟨l, hl.kp k (fun q => hs _ q) (fun _ _ q => hs _ q), ht⟩
theorem way_look {w : World} {b : Nat} (h : WaysGot w b) (k : Int) : ∃ v, (Instr.lookup 47 (.map (some b)) (.int .i64 k) false).run Tryd.prog w = .ok v w ∧ wayA w v k := by
  obtain ⟨l, ⟨hm, hr⟩, ht⟩ := h
  have hl := hm.lookup Tryd.underlying47 Tryd.underlying3 (zero46 w) (k := .int .i64 k) rfl false
  refine ⟨_, hl, ?_⟩
  simp only [Bool.false_eq_true, if_false, wayF]
  have hfind : (l.find? (fun e => e.1 == k)).map (fun e => (e.1, e.2.2)) = wayTable.find? (fun e => e.1 == k) := by
    rw [← ht, List.find?_map]; rfl
  cases hq : l.find? (fun e => e.1 == k) with
  | none =>
    rw [hq] at hfind
    have hw : wayOf k = ([], 0) := by simp only [wayOf, ← hfind]; rfl
    exact ⟨none, by rw [hw]; rfl, .inl (by rw [hw])⟩
  | some e =>
    rw [hq] at hfind
    have hw : wayOf k = (e.2.2.1, e.2.2.2) := by simp only [wayOf, ← hfind]; rfl
    exact ⟨some ⟨e.2.1, 0, none⟩, by rw [hw]; rfl, .inr ⟨e.2.1, rfl, by rw [hw]; exact hr e (List.mem_of_find?_eq_some hq)⟩⟩
theorem wayOf_len (k : Int) : (wayOf k).1.length ≤ 6 := by
  unfold wayOf
  cases h : wayTable.find? (fun e => e.1 == k) with
  | none => simp
  | some e =>
    have := List.mem_of_find?_eq_some h
    simp [wayTable] at this
    rcases this with rfl | rfl | rfl | rfl | rfl | rfl | rfl | rfl | rfl | rfl | rfl <;> simp

/-! ### may -/
def LSt.mayB (st : LSt) (e : Ev) : Bool :=
  if e.kind = 1 ∨ st.count = 0 then decide (e.kind = 1) && decide (st.count = 0)
  else if e.kind = 2 then decide (st.n = 0)
  else if e.kind = 3 then !(st.at_ e.id).isSome
  else (wayOf e.kind).1.contains (st.state e.id)

theorem may_first (p b : Nat) (st : LSt) (e : Ev) (w : World) (h : IsLine w p b st) (hc : e.kind = 1 ∨ st.count = 0) : Calls Tryd.prog 21 #[.pointer (some ⟨p, 0, none⟩), e.val] w fun r w' => r = .returned (.bool (st.mayB e)) ∧ Below w.heap.size w w' := by
  unfold Ev.val
  have c0 := fun o => row_cell (row_alloc h.row o) 0
  simp only [List.getElem?_toArray, List.getElem?_cons_zero] at c0
  have hm : st.mayB e = (decide (e.kind = 1) && decide (st.count = 0)) := by simp only [LSt.mayB, if_pos hc]
  rw [hm]
  clear h hm
  by_cases h1 : e.kind = 1
  · have h1' : (e.kind == 1) = true := by simpa using h1
    have h1d : decide (e.kind = 1) = true := by simpa using h1
    rw [h1d]
    clear hc h1 h1d
    by_cases h2 : st.count = 0
    · have h2' : (st.count == 0) = true := by simpa using h2
      have h2d : decide (st.count = 0) = true := by simpa using h2
      rw [h2d]
      clear h2 h2d
      go_enter Tryd.func21, Tryd.ntmps21
      go_wp2
      go_ret
      exact ⟨rfl, (Below.refl _ _).alloc (Nat.le_refl _) _⟩
    · have h2' : (st.count == 0) = false := by simpa using h2
      have h2d : decide (st.count = 0) = false := by simpa using h2
      rw [h2d]
      clear h2 h2d
      go_enter Tryd.func21, Tryd.ntmps21
      go_wp2
      go_ret
      exact ⟨rfl, (Below.refl _ _).alloc (Nat.le_refl _) _⟩
  · have h2 : st.count = 0 := by simpa [h1] using hc
    have h1' : (e.kind == 1) = false := by simpa using h1
    have h1d : decide (e.kind = 1) = false := by simpa using h1
    have h2' : (st.count == 0) = true := by simpa using h2
    rw [h1d]
    clear hc h1 h1d h2
    go_enter Tryd.func21, Tryd.ntmps21
    go_wp2
    go_ret
    exact ⟨rfl, (Below.refl _ _).alloc (Nat.le_refl _) _⟩
end Go.Proofs.YtjbdjijfbpiccaaDoor
