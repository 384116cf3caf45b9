/- A row of events that the call itself gathers. -/
import Derived.Test.YtjbdjijfbpiccaaDoorLnE
import Derived.Laws.OwnMore
namespace Go.Proofs.YtjbdjijfbpiccaaDoor
open Go.RowKit Go.MapKept
set_option linter.unusedSimpArgs false
set_option linter.unusedVariables false

def cellsOfAll (l : List Ev) : List Value := l.flatMap (fun e => e.cells.toList)
theorem cellsOfAll_len (l : List Ev) : (cellsOfAll l).length = l.length * 10 := by
  induction l with
  | nil => rfl
  | cons e l ih => simp only [cellsOfAll, List.flatMap_cons, List.length_append, List.length_cons] at *; rw [ih]; simp [Ev.cells]; omega
theorem cellsOfAll_at : ∀ (l : List Ev) (i : Nat) (e : Ev) (j : Nat), l[i]? = some e → j < 10 → (cellsOfAll l)[i * 10 + j]? = e.cells.toList[j]?
  | [], i, e, j, h, _ => by simp at h
  | x :: l, 0, e, j, h, hj => by
    simp at h; subst h
    simp only [cellsOfAll, List.flatMap_cons, Nat.zero_mul, Nat.zero_add]
    rw [List.getElem?_append_left (by simp [Ev.cells]; omega)]
  | x :: l, i + 1, e, j, h, hj => by
    simp only [cellsOfAll, List.flatMap_cons]
    rw [List.getElem?_append_right (by simp [Ev.cells]; omega)]
    have hx : x.cells.toList.length = 10 := rfl
    rw [hx, show (i + 1) * 10 + j - 10 = i * 10 + j by omega]
    exact cellsOfAll_at l i e j (by simpa using h) hj

def Taken (B : Nat) (W : World) (v : Value) (l : List Ev) : Prop := W.ownsRow B 30 10 v l.length (cellsOfAll l)

theorem Taken.nil (B : Nat) (W : World) : Taken B W (.slice none 0 0) [] := ⟨by simp [cellsOfAll], .inl ⟨rfl, rfl⟩⟩
/-- w' has all blocks of w but for those of events -/
def ButEvs (w w' : World) : Prop := ∀ (g : Nat) (o : Obj), w.heap[g]? = some o → (∀ cur, o ≠ Obj.cells cur 30 (0, 0)) → w'.heap[g]? = some o
theorem Taken.kp {S : Nat → Prop} {B : Nat} {W W' : World} {v : Value} {l : List Ev} (h : Taken B W v l) (k : Kp S W W') (hs : ∀ g cur, W.heap[g]? = some (.cells cur 30 (0, 0)) → ¬ S g) : Taken B W' v l := by
  obtain ⟨h1, h2⟩ := h
  refine ⟨h1, ?_⟩
  rcases h2 with h2 | ⟨g, cap, cur, hv, hg, hh, r⟩
  · exact .inl h2
  · exact .inr ⟨g, cap, cur, hv, hg, k.blk hh (hs g cur hh), r⟩
theorem Taken.feed {B : Nat} {W W' : World} {v : Value} {l : List Ev} {p b : Nat} {st : LSt} (h : Taken B W v l) (hl : IsLine W p b st) (k : Kp (Two p b) W W') : Taken B W' v l := by
  refine h.kp k (fun g cur hg => ?_)
  rintro (rfl | rfl)
  · have := hl.row; rw [hg] at this; simp at this
  · exact hl.map.ne_row hg rfl
theorem IsLine.but {w w' : World} {p b : Nat} {st : LSt} (h : IsLine w p b st) (k : ButEvs w w') : IsLine w' p b st := by
  refine ⟨k _ _ h.row (by intro cur q; simp at q), ?_, h.ok⟩
  obtain ⟨es, c, hb, _⟩ := h.map
  exact h.map.of_heap ((k _ _ hb (by intro cur q; simp at q)).trans hb.symm)

theorem evAt_row {w : World} {g o : Nat} {e : Ev} (h : ∀ j, j < 10 → w.cell? ⟨g, o + j, none⟩ = e.cells.toList[j]?) : EvAt w ⟨g, o, none⟩ e :=
  ⟨h 0 (by omega), h 1 (by omega), h 2 (by omega), h 3 (by omega), h 4 (by omega), h 5 (by omega), h 6 (by omega), h 7 (by omega), h 8 (by omega), h 9 (by omega)⟩
theorem Taken.shape {B : Nat} {W : World} {v : Value} {l : List Ev} (h : Taken B W v l) : ∃ A cap, v = .slice A l.length cap ∧ EvsAt W A l := by
  obtain ⟨h1, h2⟩ := h
  rcases h2 with ⟨rfl, h2⟩ | ⟨g, cap, cur, rfl, hg, hh, hc, hm, hsz, ht⟩
  · exact ⟨none, 0, by rw [h2], by intro i e he; have : l = [] := List.length_eq_zero_iff.1 h2; simp [this] at he⟩
  · refine ⟨_, cap, rfl, ?_⟩
    intro i e he
    refine ⟨_, rfl, ?_⟩
    have hi : i < l.length := (List.getElem?_eq_some_iff.1 he).1
    have had : (⟨g, 0, none⟩ : Addr).add (i * 10) = ⟨g, i * 10, none⟩ := by unfold Addr.add; split <;> simp_all
    rw [had]
    apply evAt_row
    intro j hj
    have := cellsOfAll_at l i e j he hj
    rw [← ht, List.getElem?_take, if_pos (by omega)] at this
    rw [row_cell hh]
    simpa using this

section
variable {W : World} {ops : Array Oper} {rest : List Oper} {o : Oper} {a : Act} {Q : Exit → Act → World → Prop}
def zero30 : Value := .agg #[.int .i64 0, .int .u64 0, .int .u64 0, .string ⟨#[]⟩, .string ⟨#[]⟩, .string ⟨#[]⟩, .string ⟨#[]⟩, .int .i64 0, .int .i64 0, .int .i64 0]
theorem info30 : (Tryd.prog.info? 30).map (fun i => (i.zero, i.size, i.bytes)) = some (some zero30, 10, 112) := by kernel_rfl

theorem wpList_take (hgd : o.guard = none) (s x : Operand) (ho : o.op = .call { callee := .builtin .append, args := #[s, x], argTypes := #[22, 22] })
    (B : Nat) (v : Value) (l : List Ev) (e : Ev) (g : Nat) (cs : Array Value) (hs : a.eval s = v) (hx : a.eval x = .slice (some ⟨g, 0, none⟩) 1 1) (hg : g = W.heap.size) (hcs : cs = e.cells)
    (hT : Taken B W v l) (hl : l.length ≤ 1000) (hB : B ≤ W.heap.size)
    (h : ∀ v' W', Taken B W' v' (l ++ [e]) → ButEvs W W' → Below B W W' → wpList Tryd.prog ops Q rest (a.put o.dst v') W') :
    wpList Tryd.prog ops Q (o :: rest) a (W.alloc (.cells cs 30)) := by
  subst hg hcs
  obtain ⟨i0, hi, hz0, hz1, hz2⟩ := info_parts info30
  have hrow := row_new W (.cells e.cells 30)
  refine wpList_append_own _ hgd s x 22 ho B 30 i0 zero30 10 112 Tryd.underlying22 hi hz0 hz1 hz2 rfl (by decide) v l.length (cellsOfAll l) hs (World.ownsRow.alloc hT _) ⟨W.heap.size, 0, none⟩ 1 1 e.cells.toList hx rfl ?_ ?_ ?_ ?_ ?_ ?_
  · intro j u hj
    have : (⟨W.heap.size, 0, none⟩ : Addr).add j = ⟨W.heap.size, j, none⟩ := by unfold Addr.add; split <;> simp_all
    rw [this, row_cell hrow]
    simpa using hj
  · intro u hu
    simp [Ev.cells] at hu
    rcases hu with rfl | rfl | rfl | rfl | rfl | rfl | rfl | rfl | rfl | rfl <;> rfl
  · unfold maxLen; omega
  · omega
  · simp; omega
  · intro v' W' hown hgr _
    refine h v' W' ?_ ?_ ?_
    · unfold Taken
      have e1 : cellsOfAll (l ++ [e]) = cellsOfAll l ++ e.cells.toList := by simp [cellsOfAll]
      rw [e1, List.length_append]
      exact hown
    · intro k ob hk hne
      refine (hgr.block k (row_lt (row_alloc hk _)) ?_).trans (row_alloc hk _)
      intro q
      obtain ⟨_, h2⟩ := hT
      rcases h2 with ⟨rfl, _⟩ | ⟨g, cap, cur, rfl, _, hh, _⟩
      · simp [Value.ownBlock] at q
      · simp [Value.ownBlock] at q
        subst q
        rw [hh] at hk
        exact hne cur (Option.some.inj hk).symm
    · refine (((Below.refl B W).alloc hB _).grown hgr (by simp; omega) ?_)
      intro k hk
      obtain ⟨_, h2⟩ := hT
      rcases h2 with ⟨rfl, _⟩ | ⟨g, cap, cur, rfl, hg, hh, _⟩
      · simp [Value.ownBlock] at hk
      · simp [Value.ownBlock] at hk; omega
end

theorem Sh2.later {w W W' : World} {p b q c : Nat} {st su : LSt} (h : Sh2 w W p b q c st su) (k : Below W.heap.size W W') : Sh2 w W' p b q c st su :=
  have hn : ∀ i, Non i → False := fun _ q => q
  have hk : KindsAt W' := h.one.kinds.kp (Kp.of_below (S := Non) k) (hn _)
  have hB := h.one.below.trans (k.mono h.one.below.size)
  ⟨⟨h.one.line.kp (Kp.of_below (S := Non) k) (hn _) (hn _), hk, hB, h.one.lt⟩, ⟨h.two.line.kp (Kp.of_below (S := Non) k) (hn _) (hn _), hk, hB, h.two.lt⟩, h.sep⟩

/-- all of these are taken, one behind the other -/
inductive Runs : LSt → List Ev → LSt → Prop where
  | nil (st : LSt) : Runs st [] st
  | cons {st st' : LSt} {e : Ev} {l : List Ev} (h : st.answer e = 0) (r : Runs (st.after e) l st') : Runs st (e :: l) st'
theorem Runs.snoc {st st' : LSt} {e : Ev} : ∀ {l : List Ev}, Runs st l st' → st'.answer e = 0 → Runs st (l ++ [e]) (st'.after e) := by
  intro l h
  induction h with
  | nil st => exact fun h => .cons h (.nil _)
  | cons h r ih => exact fun h' => .cons h (ih h')
end Go.Proofs.YtjbdjijfbpiccaaDoor
