/- LineApart: what the law says of the plain states. -/
import Derived.Test.YtjbdjijfbpiccaaDoorLnE
namespace Go.Proofs.YtjbdjijfbpiccaaDoor
set_option linter.unusedVariables false

/-- the line that is fed with the events of one fetch beside the one that is fed with all -/
structure Apart (id : Int) (st su : LSt) : Prop where
  at_ : su.at_ id = st.at_ id
  last : su.last ≤ st.last
  count : su.count ≤ st.count ∧ (su.count = 0 → st.count = 0)
  n : st.n = 0 → su.n = 0
  opn : su.opn = if su.state id = 0 then 0 else 1
  pos : 0 ≤ su.count

theorem Apart.new (id : Int) : Apart id newSt newSt := ⟨rfl, by simp [newSt], by simp [newSt], by simp [newSt], by simp [newSt, LSt.state], by simp [newSt]⟩

theorem wayOf_from (k s : Int) (h : (wayOf k).1.contains s = true) : s ≠ 0 := by
  unfold wayOf at h
  cases hq : wayTable.find? (fun e => e.1 == k) with
  | none => simp [hq] at h
  | some e =>
    rw [hq] at h
    have := List.mem_of_find?_eq_some hq
    simp [wayTable] at this
    rcases this with rfl | rfl | rfl | rfl | rfl | rfl | rfl | rfl | rfl | rfl | rfl <;> simp at h <;> omega

/-- what an answer OK says -/
theorem answer_ok {st : LSt} {e : Ev} (h : st.answer e = 0) : rightB e = true ∧ st.count ≠ 4096 ∧ ¬ e.time < st.last ∧ st.mayB e = true ∧ ¬ (e.kind = 3 ∧ st.opn = 64) := by
  unfold LSt.answer at h
  split at h
  · omega
  · rename_i h1
    split at h
    · omega
    · rename_i h2
      split at h
      · omega
      · rename_i h3
        split at h
        · omega
        · rename_i h4
          exact ⟨by simpa using h1, h2, by omega, by cases hm : st.mayB e <;> simp_all, h4⟩
theorem answer_of {st : LSt} {e : Ev} (h1 : rightB e = true) (h2 : st.count ≠ 4096) (h3 : ¬ e.time < st.last) (h4 : st.mayB e = true) (h5 : ¬ (e.kind = 3 ∧ st.opn = 64)) : st.answer e = 0 := by
  unfold LSt.answer
  rw [if_neg (by simp [h1]), if_neg h2, if_neg (by simp [h4]; omega), if_neg h5]
theorem after_ok {st : LSt} {e : Ev} (h : st.answer e = 0) : st.after e = st.next e := by simp only [LSt.after, if_pos h]
theorem after_not {st : LSt} {e : Ev} (h : st.answer e ≠ 0) : st.after e = st := by simp only [LSt.after, if_neg h]

/-- an event of another fetch -/
theorem Apart.skip {id : Int} {st su : LSt} {e : Ev} (h : Apart id st su) (hs : st.answer e ≠ 0 ∨ (3 ≤ e.kind ∧ e.id ≠ id)) : Apart id (st.after e) su := by
  by_cases ha : st.answer e = 0
  · rcases hs with hs | ⟨hk, hid⟩
    · exact absurd ha hs
    · rw [after_ok ha]
      obtain ⟨_, _, ht, hm, _⟩ := answer_ok ha
      have hn : ¬ (e.kind = 1 ∨ e.kind = 2) := by omega
      refine ⟨?_, ?_, ?_, ?_, h.opn, h.pos⟩ <;> simp only [LSt.next, if_neg hn]
      · rw [if_neg (fun q => hid q.symm)]; exact h.at_
      · have := h.last; omega
      · have := h.count; have := h.pos; refine ⟨by omega, fun q => ?_⟩
        have hc := h.count.2 q
        unfold LSt.mayB at hm
        rw [if_pos (Or.inr hc)] at hm
        simp at hm
        omega
      · intro q
        cases hi : (st.at_ e.id).isSome <;> simp [hi] at q
        exact h.n q
  · rw [after_not ha]; exact h

theorem rightB_kind {e : Ev} (h : rightB e = true) : 1 ≤ e.kind ∧ e.kind ≤ 14 := by
  unfold rightB at h
  simp only [Bool.and_eq_true, decide_eq_true_eq] at h
  exact h.1.1.1

/-- an event of this fetch, or of none, that was taken is taken here too -/
theorem Apart.take {id : Int} {st su : LSt} {e : Ev} (h : Apart id st su) (hst : st.ok) (ha : st.answer e = 0) (hid : e.kind < 3 ∨ e.id = id) : su.answer e = 0 ∧ Apart id (st.after e) (su.after e) := by
  obtain ⟨hr, hc, ht, hm, ho⟩ := answer_ok ha
  obtain ⟨hk1, hk14⟩ := rightB_kind hr
  have hcount := h.count
  have hpos := h.pos
  have hlast := h.last
  have h01 : su.opn = 0 ∨ su.opn = 1 := by rw [h.opn]; split <;> simp
  have hstate : su.state id = st.state id := by simp only [LSt.state, h.at_]
  have hm' : su.mayB e = true := by
    unfold LSt.mayB at hm ⊢
    by_cases h1 : e.kind = 1 ∨ st.count = 0
    · rw [if_pos h1] at hm
      simp at hm
      rw [if_pos (Or.inl hm.1)]
      simp
      omega
    · have h1' : ¬ (e.kind = 1 ∨ su.count = 0) := by rintro (q | q); exact h1 (.inl q); exact h1 (.inr (hcount.2 q))
      rw [if_neg h1] at hm
      rw [if_neg h1']
      by_cases h2 : e.kind = 2
      · rw [if_pos h2] at hm ⊢
        simp at hm ⊢
        exact h.n hm
      · rw [if_neg h2] at hm ⊢
        have hi : e.id = id := by omega
        subst hi
        by_cases h3 : e.kind = 3
        · rw [if_pos h3] at hm ⊢; rw [h.at_]; exact hm
        · rw [if_neg h3] at hm ⊢; rw [hstate]; exact hm
  have hok := hst.2.1
  have hau : su.answer e = 0 := answer_of hr (by omega) (by omega) hm' (by omega)
  refine ⟨hau, ?_⟩
  rw [after_ok ha, after_ok hau]
  by_cases hk : e.kind = 1 ∨ e.kind = 2
  · refine ⟨?_, ?_, ?_, ?_, ?_, ?_⟩ <;> simp only [LSt.next, if_pos hk]
    · exact h.at_
    · omega
    · omega
    · exact h.n
    · exact h.opn
    · omega
  · have hi : e.id = id := by omega
    subst hi
    refine ⟨?_, ?_, ?_, ?_, ?_, ?_⟩ <;> simp only [LSt.next, if_neg hk, LSt.state]
    · simp
    · omega
    · omega
    · rw [h.at_]
      cases hi : (st.at_ e.id).isSome <;> simp
      exact h.n
    · simp only [if_true, Option.getD_some]
      unfold LSt.mayB at hm'
      by_cases h3 : e.kind = 3
      · have h1 : ¬ (e.kind = 1 ∨ su.count = 0) := by
          rintro (q | q)
          · omega
          · rw [if_pos (Or.inr q)] at hm'; simp at hm'; omega
        rw [if_neg h1, if_neg (by omega), if_pos h3] at hm'
        have hn : su.at_ e.id = none := by cases hq : su.at_ e.id <;> simp [hq] at hm'; rfl
        have hz : su.opn = 0 := by rw [h.opn]; simp [LSt.state, hn]
        simp [LSt.goesOpen, h3, hz]
      · have h1 : ¬ (e.kind = 1 ∨ su.count = 0) := by
          rintro (q | q)
          · omega
          · rw [if_pos (Or.inr q)] at hm'; simp at hm'; omega
        rw [if_neg h1, if_neg (by omega), if_neg h3] at hm'
        have hz : su.opn = 1 := by rw [h.opn, if_neg (wayOf_from _ _ hm')]
        simp only [LSt.goesOpen, if_neg h3, hz]
        by_cases hto : (wayOf e.kind).2 = 0
        · simp [hto, h3]
        · simp [hto]
    · omega
end Go.Proofs.YtjbdjijfbpiccaaDoor
