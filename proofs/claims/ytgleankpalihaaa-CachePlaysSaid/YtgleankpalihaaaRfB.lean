/- Cache: the reference's Put. -/
import Derived.Test.YtgleankpalihaaaRfA
import Derived.Maps.AppendAt
namespace Go.Proofs.Ytgleankpalihaaa
open Go.RowKit Go.MapKept
set_option linter.unusedSimpArgs false
set_option linter.unusedVariables false
theorem kuCells_set : ∀ (S : List KU) (i : Nat) (e : KU) (u : Int), S[i]? = some e → (kuCells S).set (i * 2 + 1) (.int .u64 u) = kuCells (S.set i (e.1, u))
  | [], _, _, _, h => by simp at h
  | x :: l, 0, e, u, h => by
    have : x = e := by simpa using h
    subst this
    rfl
  | x :: l, i + 1, e, u, h => by
    have ih := kuCells_set l i e u (by simpa using h)
    have e1 : (i + 1) * 2 + 1 = (i * 2 + 1) + 1 + 1 := by omega
    rw [e1]
    simp only [kuCells, List.flatMap_cons, List.set_cons_succ] at ih ⊢
    show [Value.string x.1, Value.int .u64 x.2] ++ (List.flatMap _ l).set (i * 2 + 1) (.int .u64 u) = _
    rw [ih]
theorem KN.inj {S : List KU} (h : KN S) {i j : Nat} {x y : KU} (hi : S[i]? = some x) (hj : S[j]? = some y) (hk : x.1 = y.1) : i = j := by
  unfold KN at h
  have h1 : (S.map (·.1))[i]? = some x.1 := by rw [List.getElem?_map, hi]; rfl
  have h2 : (S.map (·.1))[j]? = some x.1 := by rw [List.getElem?_map, hj, hk]; rfl
  have hl := (List.getElem?_eq_some_iff.1 h1).1
  exact (List.getElem?_inj hl h).1 (h1.trans h2.symm)
theorem put_set {S : List KU} (hk : KN S) {i : Nat} {e : KU} (he : S[i]? = some e) (t : Int) : put S e.1 t = S.set i (e.1, max e.2 t) := by
  have hg : get S e.1 = some e.2 := get_of_mem hk (List.mem_of_getElem? he)
  have hset : ∀ u, setK S e.1 u = S.set i (e.1, u) := by
    intro u
    apply List.ext_getElem?
    intro j
    unfold setK
    rw [List.getElem?_map, List.getElem?_set]
    by_cases hij : i = j
    · subst hij
      rw [if_pos rfl, he, if_pos (List.getElem?_eq_some_iff.1 he).1]
      simp
    · rw [if_neg hij]
      cases hj : S[j]? with
      | none => rfl
      | some x =>
        have : x.1 ≠ e.1 := fun q => hij (hk.inj he hj q.symm)
        simp [this]
  unfold put
  rw [hg]
  simp only
  by_cases hlt : e.2 < t
  · rw [if_pos hlt, hset]
    have : max e.2 t = t := by omega
    rw [this]
  · rw [if_neg hlt]
    have : max e.2 t = e.2 := by omega
    rw [this]
    obtain ⟨hl, h2⟩ := List.getElem?_eq_some_iff.1 he
    rw [← h2]
    exact (List.set_getElem_self hl).symm
theorem put_fresh {S : List KU} {key : ByteArray} (h : ∀ e ∈ S, e.1 ≠ key) (t : Int) : put S key t = S ++ [(key, t)] := by
  unfold put
  cases hg : get S key with
  | none => rfl
  | some u => exact absurd rfl (h _ (get_mem hg))
def zero56 : Value := .agg #[.string ⟨#[]⟩, .int .u64 0]
theorem info56 : (Try.prog.info? 56).map (fun i => (i.zero, i.size, i.bytes)) = some (some zero56, 2, 24) := by kernel_rfl
section
variable {W : World} {ops : Array Oper} {rest : List Oper} {o : Oper} {a : Act} {Q : Exit → Act → World → Prop}
theorem wpList_addr (hgd : o.guard = none) (s x : Operand) (ho : o.op = .call { callee := .builtin .append, args := #[s, x], argTypes := #[28, 28] })
    (v : Value) (S : List KU) (e : KU) (g : Nat) (cs : Array Value) (hs : a.eval s = v) (hx : a.eval x = .slice (some ⟨g, 0, none⟩) 1 1) (hg : g = W.heap.size) (hcs : cs = #[.string e.1, .int .u64 e.2])
    (hT : W.ownsRow 0 56 2 v S.length (kuCells S)) (hl : S.length ≤ 1000)
    (h : ∀ v' W', W'.ownsRow 0 56 2 v' (S ++ [e]).length (kuCells (S ++ [e])) → Kp (fun k => v.ownBlock = some k) W W' → (v'.ownBlock = v.ownBlock ∨ v'.ownBlock = some (W.heap.size + 1)) → wpList Try.prog ops Q rest (a.put o.dst v') W') :
    wpList Try.prog ops Q (o :: rest) a (W.alloc (.cells cs 56)) := by
  subst hg hcs
  obtain ⟨i0, hi, hz0, hz1, hz2⟩ := info_parts info56
  have hrow := row_new W (.cells #[.string e.1, .int .u64 e.2] 56)
  refine wpList_append_own_at _ hgd s x 28 ho 0 56 i0 zero56 2 24 Try.underlying28 hi hz0 hz1 hz2 rfl (by decide) v S.length (kuCells S) hs (World.ownsRow.alloc hT _) ⟨W.heap.size, 0, none⟩ 1 1 [.string e.1, .int .u64 e.2] hx rfl ?_ ?_ ?_ ?_ ?_ ?_
  · intro j u hj
    rw [add0, row_cell hrow]
    simpa using hj
  · intro u hu
    simp at hu
    rcases hu with rfl | rfl <;> rfl
  · unfold maxLen; omega
  · omega
  · simp
  · intro v' W' hown hgr _ hat
    refine h v' W' ?_ (((Kp.refl _ W).alloc _).grown hgr (fun k hk => .inl hk)) (by rcases hat with q | q; exact .inl q; exact .inr (by rw [q]; simp))
    have e1 : kuCells (S ++ [e]) = kuCells S ++ [.string e.1, .int .u64 e.2] := by simp [kuCells]
    rw [e1, List.length_append]
    exact hown
end
structure RpE (w W : World) (q : Nat) (X : Nat → Prop) (S : List KU) : Prop where
  is : IsRf W q (Xn X w W) S
  kp : Kp X w W
theorem RpE.set {w : World} {q : Nat} {X : Nat → Prop} {S : List KU} (h : IsRf w q X S) (hk : KN S) {A : Option Addr} {cap i : Nat} {e : KU} {t : Int} (h1 : w.heap[q]? = some (.cells #[.slice A S.length cap] 30 (0, 0)))
    (he : S[i]? = some e) {ad : Addr} (hA : A = some ad) : ∀ W, W = (w.setCell ⟨(ad.add (i * 2)).block, (ad.add (i * 2)).off + 1, none⟩ (.int .u64 (max e.2 t))).drew → RpE w W q X (put S e.1 t) := by
  rintro W rfl
  obtain ⟨v, k1, k2, k3, k4⟩ := h.out
  rw [h1] at k1
  have hv : v = .slice A S.length cap := by
    injection k1 with k1
    injection k1 with k1 _
    have := congrArg (fun (a : Array Value) => a[0]?) k1
    simpa using this.symm
  subst hv
  obtain ⟨k2a, k2b⟩ := k2
  rcases k2b with ⟨k2b, _⟩ | ⟨r, c, cur, hv, hb, hr, hc, hm, hsz, ht⟩
  · rw [hA] at k2b; cases k2b
  · injection hv with hv1 hv2 hv3
    have had : ad = ⟨r, 0, none⟩ := by rw [hA] at hv1; exact Option.some.inj hv1
    subst had
    rw [add0]
    have hi : i < S.length := (List.getElem?_eq_some_iff.1 he).1
    have hqr : q ≠ r := row_ne h1 hr (by decide)
    have hX : X r := k4 r (by rw [hA]; rfl)
    have hKp : Kp X w (w.setCell ⟨r, i * 2 + 1, none⟩ (.int .u64 (max e.2 t))).drew := Kp.drew (Kp.setCell (p := ⟨r, i * 2 + 1, none⟩) (Kp.refl X w) (by exact .inl hX) _)
    refine ⟨⟨⟨.slice A S.length cap, ?_, ?_, .inl k3, fun k hk => .inl (k4 k hk)⟩, ?_⟩, hKp⟩
    · exact row_far h1 hqr _
    · rw [put_set hk he, ← kuCells_set S i e _ he]
      refine ⟨by simpa using k2a, .inr ⟨r, cap, cur.setIfInBounds (i * 2 + 1) (.int .u64 (max e.2 t)), by rw [hA]; simp, hb, row_set hr _ _, by simp; omega, by omega, by simp; omega, ?_⟩⟩
      rw [← ht]
      simp [List.take_set]
    · rintro k (a | a)
      · exact Nat.lt_of_lt_of_le (h.lt k a) hKp.size
      · exact a.2
end Go.Proofs.Ytgleankpalihaaa
