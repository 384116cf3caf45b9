/- What line.ways makes: a map of all kinds, each with the states from which it leads and the one to which. -/
import Derived.Test.YtjbdjijfbpiccaaDoorProg
import Derived.Test.YtjbdjijfbpiccaaDoorCmMap
import Derived.WalkKit
import Derived.Outline
import Derived.WalkLawsBesides
import Derived.WalkSpells
import Derived.KernelRfl
namespace Go.Proofs.YtjbdjijfbpiccaaDoor
open Go.RowKit Go.MapKept
set_option linter.unusedSimpArgs false
set_option linter.unusedVariables false

/-- kind, where its row lies, from which states, to which -/
abbrev WayE := Int × Nat × List Int × Int
def wayV (e : WayE) : Value := .agg #[.slice (some ⟨e.2.1, 0, none⟩) e.2.2.1.length e.2.2.1.length, .int .i64 e.2.2.2]
def wayF (l : List WayE) : Value → Option Value
  | .int .i64 x => (l.find? (fun e => e.1 == x)).map wayV
  | _ => none
def WaysAt (w : World) (b : Nat) (l : List WayE) : Prop :=
  MapIs w (.int .i64) b (wayF l) l.length ∧ ∀ e ∈ l, w.heap[e.2.1]? = some (.cells ((e.2.2.1.map (Value.int .i64)).toArray) 3 (0, 0))

def wayTable : List (Int × List Int × Int) :=
  [(4, [1], 1), (5, [1, 6], 2), (6, [2], 2), (7, [2], 3), (8, [1, 6, 3], 4), (9, [4], 4), (10, [4], 5), (11, [5], 6), (12, [5, 7], 7), (14, [5, 7], 0), (13, [1, 2, 3, 4, 5, 6], 0)]
def wayOf (k : Int) : List Int × Int := ((wayTable.find? (fun e => e.1 == k)).map (·.2)).getD ([], 0)

theorem WaysAt.made (w : World) : WaysAt (w.alloc (.map #[] 0)) w.heap.size [] :=
  ⟨(MapIs.made w _).congr (fun k hk => by cases k <;> simp_all [IsKey, wayF]) rfl, by simp⟩

theorem wayF_snoc (l : List WayE) (e : WayE) (hf : ∀ x ∈ l, x.1 ≠ e.1) : ∀ k, IsKey (.int .i64) k → wayF (l ++ [e]) k = upd (wayF l) (.int .i64 e.1) (wayV e) k := by
  intro k hk
  cases k <;> simp [IsKey] at hk
  subst hk
  rename_i x
  by_cases hx : x = e.1
  · subst hx
    rw [upd_same]
    have : l.find? (fun y => y.1 == e.1) = none := by simpa using hf
    simp [wayF, List.find?_append, this]
  · rw [upd_other _ _ (by simpa using hx)]
    simp only [wayF, List.find?_append]
    cases hq : l.find? (fun y => y.1 == x) with
    | none =>
      have hx' : (e.1 == x) = false := by simpa using fun q => hx q.symm
      simp [hx']
    | some y => simp

theorem wayF_fresh (l : List WayE) (x : Int) (hf : ∀ y ∈ l, y.1 ≠ x) : wayF l (.int .i64 x) = none := by
  have : l.find? (fun y => y.1 == x) = none := by simpa using hf
  simp [wayF, this]

section
variable {P : Program} {W : World} {ops : Array Oper} {rest : List Oper} {o : Oper} {a : Act} {Q : Exit → Act → World → Prop}
theorem wpList_way (hg : o.guard = none) (m v : Operand) (x t : Int) (fs : List Int) (b : Nat) (l : List WayE) (cs : Array Value) (n g : Nat)
    (hop : o.op = Op.insert 47 m (.const (.int .i64 x)) v) (hm : P.underlying 47 = some (.map 3 46)) (hd : P.underlying 3 = some (.int .i64))
    (hmv : a.eval m = .map (some b)) (hv : a.eval v = .agg #[.slice (some ⟨g, 0, none⟩) n n, .int .i64 t]) (hgs : g = W.heap.size) (hn : n = fs.length) (hcs : cs = (fs.map (Value.int .i64)).toArray)
    (hW : WaysAt W b l) (hf : ∀ y ∈ l, y.1 ≠ x)
    (hK : ∀ w', WaysAt w' b (l ++ [(x, W.heap.size, fs, t)]) → Kp (One b) W w' → wpList P ops Q rest (a.put o.dst undef) w') :
    wpList P ops Q (o :: rest) a (W.alloc (.cells cs 3)) := by
  subst hn hcs hgs
  refine wpList_insert_is hg 47 m _ v hop hm hd hmv (hW.1.alloc _) (.int .i64 x) _ rfl hv rfl ?_
  intro w' hM hg' hs
  refine hK w' ⟨?_, ?_⟩ ?_
  · rw [wayF_fresh l x hf] at hM
    exact hM.congr (wayF_snoc l _ hf) (by simp)
  · intro e he
    simp only [List.mem_append, List.mem_singleton] at he
    rcases he with he | rfl
    · have h0 := hW.2 e he
      have hne : b ≠ e.2.1 := hW.1.ne_row h0
      exact (hg'.block _ (row_lt (row_alloc h0 _)) (by simpa using fun q => hne q.symm)).trans (row_alloc h0 _)
    · have hb := hW.1.lt
      exact (hg'.block _ (by simp) (by simp; omega)).trans (row_new _ _)
  · exact ((Kp.refl (One b) W).alloc _).grown hg' (fun k hk => .inl (by cases hk; rfl))
end

def WaysGot (w : World) (b : Nat) : Prop := ∃ l : List WayE, WaysAt w b l ∧ l.map (fun e => (e.1, e.2.2)) = wayTable

theorem WaysAt.kp {S : Nat → Prop} {w w' : World} {b : Nat} {l : List WayE} (h : WaysAt w b l) (k : Kp S w w') (hs : ¬ S b) (hl : ∀ e ∈ l, ¬ S e.2.1) : WaysAt w' b l :=
  ⟨h.1.kp k hs, fun e he => k.blk (h.2 e he) (hl e he)⟩

set_option maxRecDepth 100000 in
theorem ways_calls (w : World) :
    Calls Tryd.prog 22 #[] w fun e w' => ∃ b, e = .returned (.map (some b)) ∧ w.heap.size ≤ b ∧ WaysGot w' b ∧ Below w.heap.size w w' := by
  have hmm := @run_makeMap Tryd.prog
  go_enter Tryd.func22, Tryd.ntmps22
  have hW0 := WaysAt.made w
  have hK0 : Kp Non w (w.alloc (.map #[] 0)) := (Kp.refl _ w).alloc _
  go_wp2_with (first
    | ((with_reducible refine gate none (.insert 47 _ (.const (.int .i64 4)) _) ?_); refine wpList_way rfl _ _ 4 1 [1] w.heap.size _ _ _ _ rfl Tryd.underlying47 Tryd.underlying3 rfl rfl (by simp) rfl rfl hW0 (by simp) ?_; intro w1 hW1 hk1; have hK1 : Kp Non w w1 := hK0.andThen hk1 (fun i hi q => by cases q; omega); clear hk1 hW0 hK0)
    | ((with_reducible refine gate none (.insert 47 _ (.const (.int .i64 5)) _) ?_); refine wpList_way rfl _ _ 5 2 [1, 6] w.heap.size _ _ _ _ rfl Tryd.underlying47 Tryd.underlying3 rfl rfl (by simp) rfl rfl hW1 (by simp) ?_; intro w2 hW2 hk2; have hK2 : Kp Non w w2 := hK1.andThen hk2 (fun i hi q => by cases q; omega); clear hk2 hW1 hK1)
    | ((with_reducible refine gate none (.insert 47 _ (.const (.int .i64 6)) _) ?_); refine wpList_way rfl _ _ 6 2 [2] w.heap.size _ _ _ _ rfl Tryd.underlying47 Tryd.underlying3 rfl rfl (by simp) rfl rfl hW2 (by simp) ?_; intro w3 hW3 hk3; have hK3 : Kp Non w w3 := hK2.andThen hk3 (fun i hi q => by cases q; omega); clear hk3 hW2 hK2)
    | ((with_reducible refine gate none (.insert 47 _ (.const (.int .i64 7)) _) ?_); refine wpList_way rfl _ _ 7 3 [2] w.heap.size _ _ _ _ rfl Tryd.underlying47 Tryd.underlying3 rfl rfl (by simp) rfl rfl hW3 (by simp) ?_; intro w4 hW4 hk4; have hK4 : Kp Non w w4 := hK3.andThen hk4 (fun i hi q => by cases q; omega); clear hk4 hW3 hK3)
    | ((with_reducible refine gate none (.insert 47 _ (.const (.int .i64 8)) _) ?_); refine wpList_way rfl _ _ 8 4 [1, 6, 3] w.heap.size _ _ _ _ rfl Tryd.underlying47 Tryd.underlying3 rfl rfl (by simp) rfl rfl hW4 (by simp) ?_; intro w5 hW5 hk5; have hK5 : Kp Non w w5 := hK4.andThen hk5 (fun i hi q => by cases q; omega); clear hk5 hW4 hK4)
    | ((with_reducible refine gate none (.insert 47 _ (.const (.int .i64 9)) _) ?_); refine wpList_way rfl _ _ 9 4 [4] w.heap.size _ _ _ _ rfl Tryd.underlying47 Tryd.underlying3 rfl rfl (by simp) rfl rfl hW5 (by simp) ?_; intro w6 hW6 hk6; have hK6 : Kp Non w w6 := hK5.andThen hk6 (fun i hi q => by cases q; omega); clear hk6 hW5 hK5)
    | ((with_reducible refine gate none (.insert 47 _ (.const (.int .i64 10)) _) ?_); refine wpList_way rfl _ _ 10 5 [4] w.heap.size _ _ _ _ rfl Tryd.underlying47 Tryd.underlying3 rfl rfl (by simp) rfl rfl hW6 (by simp) ?_; intro w7 hW7 hk7; have hK7 : Kp Non w w7 := hK6.andThen hk7 (fun i hi q => by cases q; omega); clear hk7 hW6 hK6)
    | ((with_reducible refine gate none (.insert 47 _ (.const (.int .i64 11)) _) ?_); refine wpList_way rfl _ _ 11 6 [5] w.heap.size _ _ _ _ rfl Tryd.underlying47 Tryd.underlying3 rfl rfl (by simp) rfl rfl hW7 (by simp) ?_; intro w8 hW8 hk8; have hK8 : Kp Non w w8 := hK7.andThen hk8 (fun i hi q => by cases q; omega); clear hk8 hW7 hK7)
    | ((with_reducible refine gate none (.insert 47 _ (.const (.int .i64 12)) _) ?_); refine wpList_way rfl _ _ 12 7 [5, 7] w.heap.size _ _ _ _ rfl Tryd.underlying47 Tryd.underlying3 rfl rfl (by simp) rfl rfl hW8 (by simp) ?_; intro w9 hW9 hk9; have hK9 : Kp Non w w9 := hK8.andThen hk9 (fun i hi q => by cases q; omega); clear hk9 hW8 hK8)
    | ((with_reducible refine gate none (.insert 47 _ (.const (.int .i64 14)) _) ?_); refine wpList_way rfl _ _ 14 0 [5, 7] w.heap.size _ _ _ _ rfl Tryd.underlying47 Tryd.underlying3 rfl rfl (by simp) rfl rfl hW9 (by simp) ?_; intro w10 hW10 hk10; have hK10 : Kp Non w w10 := hK9.andThen hk10 (fun i hi q => by cases q; omega); clear hk10 hW9 hK9)
    | ((with_reducible refine gate none (.insert 47 _ (.const (.int .i64 13)) _) ?_); refine wpList_way rfl _ _ 13 0 [1, 2, 3, 4, 5, 6] w.heap.size _ _ _ _ rfl Tryd.underlying47 Tryd.underlying3 rfl rfl (by simp) rfl rfl hW10 (by simp) ?_; intro w11 hW11 hk11; have hK11 : Kp Non w w11 := hK10.andThen hk11 (fun i hi q => by cases q; omega); clear hk11 hW10 hK10))
  go_ret
  exact ⟨_, rfl, Nat.le_refl _, ⟨_, hW11, rfl⟩, hK11.below (fun _ q => q.elim) (Nat.le_refl _)⟩
end Go.Proofs.YtjbdjijfbpiccaaDoor
