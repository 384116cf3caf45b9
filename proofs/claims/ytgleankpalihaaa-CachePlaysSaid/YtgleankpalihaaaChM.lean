/- Cache: delete from a map, over MapIs. -/
import Derived.Test.YtgleankpalihaaaChF
import Derived.Deep.RegionLaw
namespace Go.Proofs.Ytgleankpalihaaa
open Go.RowKit Go.MapKept
set_option linter.unusedSimpArgs false
set_option linter.unusedVariables false
section
variable {P : Program} {w : World} {d : TypeDesc} {b n : Nat} {f : Value → Option Value} {mty kt et ty : TypeId}
theorem MapIs.erase (h : MapIs w d b f n) (hm : P.underlying mty = some (.map kt et)) (hd : P.underlying kt = some d) {k : Value} (hk : IsKey d k) :
    ∃ w', (Builtin.delete_ #[mty, kt] ty #[.map (some b), k]).run P w = .ok (.tuple #[]) w' ∧ MapIs w' d b (del f k) (if (f k).isSome then n - 1 else n) ∧ w.grownBy w' (some b) ∧ w'.heap.size = w.heap.size := by
  obtain ⟨es, c, hb, hks, hnd, hn, hf⟩ := h
  rcases findNow_spec hk es.toList 0 hks with ⟨h1, h2⟩ | ⟨j, e, h1, h2, h3⟩
  · have hfk : f k = none := by
      cases hq : f k with
      | none => rfl
      | some v =>
        obtain ⟨e, he, hek, _⟩ := (hf k v hk).1 hq
        exact absurd hek (h2 e he)
    refine ⟨_, by simp [Builtin.delete_, run_underlying hm, MapKept.run_getObj_map hb, run_checkKey hd hk, run_findKey hd h1, run_setObj_map _ hb, Result.andThen]; rfl, ?_, heap_setIf hb _, by simp⟩
    refine ⟨es, c, (heap_set hb).1, hks, hnd, by simp [hfk, hn], ?_⟩
    intro k' v' hk'
    by_cases hkk : k' = k
    · subst hkk
      rw [del_same, ← hfk]
      exact hf k' v' hk'
    · rw [del_other _ hkk]
      exact hf k' v' hk'
  · have hj : es.toList[j]? = some e := by simpa using h2
    have hjl : j < es.size := by
      have := (List.getElem?_eq_some_iff.1 hj).1
      simpa using this
    have hfk : f k = some e.val := (hf k e.val hk).2 ⟨e, List.mem_of_getElem? h2, h3, rfl⟩
    have hto : (es.eraseIdxIfInBounds j).toList = es.toList.eraseIdx j := by
      rw [Array.eraseIdxIfInBounds_eq, dif_pos hjl]; simp
    have huniq : ∀ i e', es.toList[i]? = some e' → e'.key = k → i = j := by
      intro i e' hi hek
      have hi1 := (List.getElem?_eq_some_iff.1 hi).1
      have e1 : (es.toList.map (·.key))[i]? = some k := by rw [List.getElem?_map, hi]; simp [hek]
      have e2 : (es.toList.map (·.key))[j]? = some k := by rw [List.getElem?_map, hj]; simp [h3]
      exact (List.getElem?_inj (by simpa using hi1) hnd).1 (e1.trans e2.symm)
    refine ⟨_, by simp [Builtin.delete_, run_underlying hm, MapKept.run_getObj_map hb, run_checkKey hd hk, run_findKey hd h1, run_setObj_map _ hb, Result.andThen]; rfl, ?_, heap_setIf hb _, by simp⟩
    refine ⟨_, c, (heap_set hb).1, ?_, ?_, ?_, ?_⟩
    · intro x hx
      rw [hto] at hx
      exact hks x (List.mem_of_mem_eraseIdx hx)
    · rw [hto]
      exact (List.Sublist.map _ (List.eraseIdx_sublist _ _)).nodup hnd
    · have : (es.eraseIdxIfInBounds j).size = (es.eraseIdxIfInBounds j).toList.length := (Array.length_toList).symm
      rw [this, hto, List.length_eraseIdx, if_pos (by simpa using hjl)]
      simp [hfk, hn]
    · intro k' v' hk'
      rw [hto]
      by_cases hkk : k' = k
      · subst hkk
        rw [del_same]
        constructor
        · intro q; cases q
        · rintro ⟨e', he', hek, _⟩
          obtain ⟨i, hi, hie⟩ := List.mem_eraseIdx_iff_getElem?.1 he'
          exact absurd (huniq i e' hie hek) hi
      · rw [del_other _ hkk, hf k' v' hk']
        constructor
        · rintro ⟨e', he', hek, hev⟩
          obtain ⟨i, hi⟩ := List.getElem?_of_mem he'
          refine ⟨e', List.mem_eraseIdx_iff_getElem?.2 ⟨i, ?_, hi⟩, hek, hev⟩
          rintro rfl
          rw [hj] at hi; cases hi
          exact hkk (hek.symm.trans h3)
        · rintro ⟨e', he', hek, hev⟩
          exact ⟨e', List.mem_of_mem_eraseIdx he', hek, hev⟩
end
section
variable {P : Program} {w : World} {ops : Array Oper} {rest : List Oper} {o : Oper} {a : Act} {Q : Exit → Act → World → Prop} {d : TypeDesc} {b n : Nat} {f : Value → Option Value} {kt et : TypeId}
theorem wpList_delete_is (hg : o.guard = none) (t : TypeId) (m x : Operand) (hop : o.op = Op.call { callee := Callee.builtin Builtin.delete, args := #[m, x], argTypes := #[t, kt] })
    (hm : P.underlying t = some (.map kt et)) (hd : P.underlying kt = some d) (hmv : a.eval m = .map (some b)) (h : MapIs w d b f n) (k : Value) (hx : a.eval x = k) (hk : IsKey d k)
    (hK : ∀ w', MapIs w' d b (del f k) (if (f k).isSome then n - 1 else n) → w.grownBy w' (some b) → w'.heap.size = w.heap.size → wpList P ops Q rest (a.put o.dst (.tuple #[])) w') :
    wpList P ops Q (o :: rest) a w := by
  refine wpList_plain hg fun K' hK' => ?_
  obtain ⟨w', hrun, r1, r2, r3⟩ := h.erase (ty := o.type) hm hd hk
  unfold Oper.wp
  simp [execOp, hop, resolve, invoke, builtin, hmv, hx, hrun, Result.andThen]
  exact hK' _ _ (hK w' r1 r2 r3)
theorem step_delete_is {K : Act → World → Prop} {E : Prop} (hg : o.guard = none) (t : TypeId) (m x : Operand) (hop : o.op = Op.call { callee := Callee.builtin Builtin.delete, args := #[m, x], argTypes := #[t, kt] })
    (hm : P.underlying t = some (.map kt et)) (hd : P.underlying kt = some d) (hmv : a.eval m = .map (some b)) (h : MapIs w d b f n) (k : Value) (hx : a.eval x = k) (hk : IsKey d k)
    (hK : ∀ w', MapIs w' d b (del f k) (if (f k).isSome then n - 1 else n) → w.grownBy w' (some b) → w'.heap.size = w.heap.size → K (a.put o.dst (.tuple #[])) w') :
    if Region.wanted o (yielded ops a.tmps) = true then Oper.wp P o a w K Q else E := by
  have hw : Region.wanted o (yielded ops a.tmps) = true := by simp [Region.wanted, hg]
  rw [if_pos hw]
  obtain ⟨w', hrun, r1, r2, r3⟩ := h.erase (ty := o.type) hm hd hk
  unfold Oper.wp
  simp [execOp, hop, resolve, invoke, builtin, hmv, hx, hrun, Result.andThen]
  exact hK w' r1 r2 r3
end
end Go.Proofs.Ytgleankpalihaaa
