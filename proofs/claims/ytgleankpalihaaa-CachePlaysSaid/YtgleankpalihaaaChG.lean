/- Cache: plain laws of put, get, has, left. -/
import Derived.Test.YtgleankpalihaaaShW
namespace Go.Proofs.Ytgleankpalihaaa
open Go.RowKit Go.MapKept
set_option linter.unusedSimpArgs false
set_option linter.unusedVariables false
theorem get_nil (k : ByteArray) : get [] k = none := rfl
theorem get_cons (e : KU) (S : List KU) (k : ByteArray) : get (e :: S) k = if e.1 = k then some e.2 else get S k := by
  unfold get
  rw [List.find?_cons]
  by_cases h : e.1 = k
  · simp [h]
  · simp [h]
theorem get_snoc (S : List KU) (key : ByteArray) (t : Int) (k : ByteArray) : get (S ++ [(key, t)]) k = match get S k with | some u => some u | none => if key = k then some t else none := by
  induction S with
  | nil => rw [List.nil_append, get_cons, get_nil]
  | cons e S ih =>
    rw [List.cons_append, get_cons, get_cons]
    by_cases h : e.1 = k
    · rw [if_pos h, if_pos h]
    · rw [if_neg h, if_neg h]; exact ih
theorem get_setK (S : List KU) (key : ByteArray) (t : Int) (k : ByteArray) : get (setK S key t) k = if key = k then (get S k).map (fun _ => t) else get S k := by
  induction S with
  | nil => simp [setK, get_nil]
  | cons e S ih =>
    unfold setK at ih ⊢
    rw [List.map_cons, get_cons, get_cons, ih]
    by_cases h1 : e.1 = key
    · by_cases h2 : key = k
      · simp [h1, h2]
      · have : e.1 ≠ k := fun q => h2 (h1.symm.trans q)
        simp [h1, h2]
    · by_cases h2 : key = k
      · have : e.1 ≠ k := fun q => h1 (q.trans h2.symm)
        simp [h1, h2, this]
      · simp [h1, h2]
theorem get_put (S : List KU) (key : ByteArray) (t : Int) (k : ByteArray) :
    get (put S key t) k = if key = k then some (match get S k with | some u => max u t | none => t) else get S k := by
  unfold put
  cases hg : get S key with
  | none =>
    simp only
    rw [get_snoc]
    by_cases h : key = k
    · subst h
      simp [hg]
    · simp only [if_neg h]
      cases get S k <;> rfl
  | some u =>
    simp only
    by_cases hlt : u < t
    · rw [if_pos hlt, get_setK]
      by_cases h : key = k
      · subst h
        rw [if_pos rfl, if_pos rfl, hg]
        have h3 : max u t = t := by omega
        simp only [Option.map_some, h3]
      · rw [if_neg h, if_neg h]
    · rw [if_neg hlt]
      by_cases h : key = k
      · subst h
        rw [if_pos rfl, hg]
        have : max u t = u := by omega
        simp [this]
      · rw [if_neg h]
theorem setK_len (S : List KU) (key : ByteArray) (t : Int) : (setK S key t).length = S.length := by simp [setK]
theorem put_len (S : List KU) (key : ByteArray) (t : Int) : (put S key t).length ≤ S.length + 1 := by
  unfold put
  cases get S key with
  | none => simp
  | some u =>
    simp only
    split
    · rw [setK_len]; omega
    · omega
theorem has_eq (S : List KU) (k : ByteArray) (now : Int) : has S k now = match get S k with | some u => decide (now < u) | none => false := rfl
theorem setK_keys (S : List KU) (key : ByteArray) (t : Int) : (setK S key t).map (·.1) = S.map (·.1) := by
  unfold setK
  rw [List.map_map]
  apply List.map_congr_left
  intro e _
  simp only [Function.comp]
  split
  · rename_i h; exact h.symm
  · rfl
theorem KN.put {S : List KU} (h : KN S) (key : ByteArray) (t : Int) : KN (put S key t) := by
  unfold Ytgleankpalihaaa.put
  cases hg : get S key with
  | none =>
    simp only
    unfold KN at *
    rw [List.map_append, List.nodup_append]
    refine ⟨h, by simp, ?_⟩
    intro a ha b hb q
    simp at hb
    obtain ⟨e, he, rfl⟩ := List.mem_map.1 ha
    have : (key, e.2) ∈ S := by rw [← hb, ← q]; exact he
    exact get_none hg _ this
  | some u =>
    simp only
    split
    · unfold KN at *
      rw [setK_keys]; exact h
    · exact h
theorem KN.left {S : List KU} (h : KN S) (now : Int) : KN (left S now) := by
  unfold KN at *
  unfold Ytgleankpalihaaa.left
  exact (List.Sublist.map _ List.filter_sublist).nodup h
theorem get_left {S : List KU} (h : KN S) (now : Int) (k : ByteArray) : get (left S now) k = match get S k with | some u => if now < u then some u else none | none => none := by
  cases hg : get S k with
  | none =>
    simp only
    cases hq : get (left S now) k with
    | none => rfl
    | some u =>
      have := get_mem hq
      unfold Ytgleankpalihaaa.left at this
      exact absurd (List.mem_filter.1 this).1 (get_none hg u)
  | some u =>
    simp only
    have hm := get_mem hg
    by_cases hu : now < u
    · rw [if_pos hu]
      exact get_of_mem (h.left now) (List.mem_filter.2 ⟨hm, by simpa using hu⟩)
    · rw [if_neg hu]
      cases hq : get (left S now) k with
      | none => rfl
      | some x =>
        have h1 := get_mem hq
        have h2 := List.mem_filter.1 h1
        have h3 := get_of_mem h h2.1
        rw [hg] at h3
        have : u = x := Option.some.inj h3
        have h4 : now < x := by simpa using h2.2
        omega
/-! ### rows of numbers and texts -/
def NumsAt (W : World) (A : Option Addr) (l : List Int) : Prop := ∀ i u, l[i]? = some u → ∃ ad, A = some ad ∧ W.cell? (ad.add i) = some (.int .u64 u)
def StrsAt (W : World) (A : Option Addr) (l : List ByteArray) : Prop := ∀ i u, l[i]? = some u → ∃ ad, A = some ad ∧ W.cell? (ad.add i) = some (.string u)
theorem below_cell {w W : World} (k : Below w.heap.size w W) {a : Addr} {v : Value} (h : w.cell? a = some v) : W.cell? a = some v := (k.cell (World.block_lt_of_cell? w _ h)).trans h
theorem NumsAt.below {w W : World} {A : Option Addr} {l : List Int} (h : NumsAt w A l) (k : Below w.heap.size w W) : NumsAt W A l := fun i u hu => by
  obtain ⟨ad, h1, h2⟩ := h i u hu
  exact ⟨ad, h1, below_cell k h2⟩
theorem StrsAt.below {w W : World} {A : Option Addr} {l : List ByteArray} (h : StrsAt w A l) (k : Below w.heap.size w W) : StrsAt W A l := fun i u hu => by
  obtain ⟨ad, h1, h2⟩ := h i u hu
  exact ⟨ad, h1, below_cell k h2⟩
end Go.Proofs.Ytgleankpalihaaa
