/- Cache: queue.Push, queue.Pop. -/
import Derived.Test.YtgleankpalihaaaChS
import Derived.Maps.AppendAt
namespace Go.Proofs.Ytgleankpalihaaa
open Go.RowKit Go.MapKept
set_option linter.unusedSimpArgs false
set_option linter.unusedVariables false
def ptrs (n : Nat) (f : Nat → Ent) : List Value := (List.range n).map (fun k => (f k).ptr)
theorem ptrs_get {n : Nat} {f : Nat → Ent} {k : Nat} (h : k < n) : (ptrs n f)[k]? = some (f k).ptr := by simp [ptrs, h]
theorem ptrs_len (n : Nat) (f : Nat → Ent) : (ptrs n f).length = n := by simp [ptrs]
structure Qv (w : World) (v : Value) (n : Nat) (f : Nat → Ent) : Prop where
  own : w.ownsRow 0 54 1 v n (ptrs n f)
  ent : ∀ k, k < n → w.heap[(f k).g]? = some (.cells ((f k).cells k) 53 (0, 0))
  inj : ∀ i j, i < n → j < n → (f i).g = (f j).g → i = j
theorem Qv.shape {w : World} {v : Value} {n : Nat} {f : Nat → Ent} (h : Qv w v n f) : ∃ A cap, v = .slice A n cap := by
  rcases h.own.2 with ⟨rfl, hn⟩ | ⟨r, cap, cur, rfl, _⟩
  · exact ⟨none, 0, by rw [hn]⟩
  · exact ⟨_, cap, rfl⟩
theorem Qv.block {w : World} {v : Value} {n : Nat} {f : Nat → Ent} (h : Qv w v n f) {k : Nat} (hb : v.ownBlock = some k) : ∃ cs, w.heap[k]? = some (.cells cs 54 (0, 0)) := by
  rcases h.own.2 with ⟨rfl, q⟩ | ⟨r, cap, cur, rfl, _, hr, _⟩
  · simp [Value.ownBlock] at hb
  · simp [Value.ownBlock] at hb
    subst hb
    exact ⟨_, hr⟩
theorem Qv.kp {S : Nat → Prop} {w w' : World} {v : Value} {n : Nat} {f : Nat → Ent} (h : Qv w v n f) (k : Kp S w w') (h1 : ∀ g, v.ownBlock = some g → ¬ S g) (h2 : ∀ i, i < n → ¬ S (f i).g) : Qv w' v n f := by
  refine ⟨⟨h.own.1, ?_⟩, fun i hi => k.blk (h.ent i hi) (h2 i hi), h.inj⟩
  rcases h.own.2 with q | ⟨r, cap, cur, rfl, hb, hr, rest⟩
  · exact .inl q
  · exact .inr ⟨r, cap, cur, rfl, hb, k.blk hr (h1 r rfl), rest⟩
theorem Qv.ne {w : World} {v : Value} {n : Nat} {f : Nat → Ent} (h : Qv w v n f) {g : Nat} {t : TypeId} {cs : Array Value} {fz : Nat × Nat} (hg : w.heap[g]? = some (.cells cs t fz)) (ht : t ≠ 54) : v.ownBlock ≠ some g := by
  intro q
  obtain ⟨ds, hd⟩ := h.block q
  exact row_ne hd hg (fun e => ht e.symm) rfl
theorem Qv.qs {w : World} {v : Value} {n : Nat} {f : Nat → Ent} (h : Qv w v n f) (hn : 0 < n) : ∃ r cap, v = .slice (some ⟨r, 0, none⟩) n cap ∧ Qs w r cap n f := by
  rcases h.own.2 with ⟨rfl, q⟩ | ⟨r, cap, cur, rfl, _, hr, hc, hm, hsz, ht⟩
  · omega
  · refine ⟨r, cap, rfl, ⟨cur, hr, hc, hm, by omega, ?_⟩, h.ent, h.inj⟩
    intro k hk
    have := ptrs_get (f := f) hk
    rw [← ht, List.getElem?_take, if_pos (by omega)] at this
    simpa using this
theorem Qs.cut {w : World} {r cap n m : Nat} {f : Nat → Ent} (h : Qs w r cap n f) (hm : m ≤ n) : Qv w (.slice (some ⟨r, 0, none⟩) m cap) m f := by
  obtain ⟨cur, hr, hc, hmx, hsz, hcur⟩ := h.row
  refine ⟨⟨by simp [ptrs], .inr ⟨r, cap, cur, rfl, Nat.zero_le _, hr, by omega, hmx, by omega, ?_⟩⟩, fun k hk => h.ent k (by omega), fun i j hi hj => h.inj i j (by omega) (by omega)⟩
  apply List.ext_getElem?
  intro k
  rw [List.getElem?_take]
  by_cases hk : k < m
  · rw [if_pos (by omega), ptrs_get hk]
    simpa using hcur k (by omega)
  · rw [if_neg (by omega)]
    exact (List.getElem?_eq_none (by rw [ptrs_len]; omega)).symm
theorem info54 : (Try.prog.info? 54).map (fun i => (i.zero, i.size, i.bytes)) = some (some (.pointer none), 1, 8) := by kernel_rfl
def addf (n : Nat) (f : Nat → Ent) (e : Ent) : Nat → Ent := fun k => if k = n then e else f k

section
variable {W : World} {ops : Array Oper} {rest : List Oper} {o : Oper} {a : Act} {Q : Exit → Act → World → Prop}
theorem wpList_addq (hgd : o.guard = none) (s x : Operand) (ho : o.op = .call { callee := .builtin .append, args := #[s, x], argTypes := #[49, 49] })
    (v : Value) (n : Nat) (f : Nat → Ent) (e : Ent) (g : Nat) (pv : Value) (hs : a.eval s = v) (hx : a.eval x = .slice (some ⟨g, 0, none⟩) 1 1) (hg : g = W.heap.size) (hpv : pv = e.ptr)
    (hT : Qv W v n f) (hl : n ≤ 1000) (he : W.heap[e.g]? = some (.cells (e.cells n) 53 (0, 0))) (hnew : ∀ k, k < n → (f k).g ≠ e.g)
    (h : ∀ v' W', Qv W' v' (n + 1) (addf n f e) → Kp (fun k => v.ownBlock = some k) W W' → (v'.ownBlock = v.ownBlock ∨ v'.ownBlock = some (W.heap.size + 1)) → wpList Try.prog ops Q rest (a.put o.dst v') W') :
    wpList Try.prog ops Q (o :: rest) a (W.alloc (.cells #[pv] 54)) := by
  subst hg hpv
  obtain ⟨i0, hi, hz0, hz1, hz2⟩ := info_parts info54
  have hrow := row_new W (.cells #[e.ptr] 54)
  refine wpList_append_own_at _ hgd s x 49 ho 0 54 i0 (.pointer none) 1 8 Try.underlying49 hi hz0 hz1 hz2 rfl (by decide) v n (ptrs n f) hs (World.ownsRow.alloc hT.own _) ⟨W.heap.size, 0, none⟩ 1 1 [e.ptr] hx rfl ?_ ?_ ?_ ?_ ?_ ?_
  · intro j u hj
    rw [add0, row_cell hrow]
    simpa using hj
  · intro u hu
    simp at hu
    subst hu; rfl
  · unfold maxLen; omega
  · omega
  · simp
  · intro v' W' hown hgr _ hat
    have hk : Kp (fun k => v.ownBlock = some k) W W' := (((Kp.refl _ W).alloc _).grown hgr (fun k hk => .inl hk))
    have hne : ∀ (g : Nat) (cs : Array Value) , W.heap[g]? = some (.cells cs 53 (0, 0)) → ¬ v.ownBlock = some g := by
      intro g cs hg hb
      rcases hT.own.2 with ⟨rfl, q⟩ | ⟨r, cap, cur, rfl, _, hr, _⟩
      · simp [Value.ownBlock] at hb
      · simp [Value.ownBlock] at hb
        subst hb
        exact row_ne hr hg (by decide) rfl
    refine h v' W' ⟨?_, ?_, ?_⟩ hk (by rcases hat with q | q; exact .inl q; exact .inr (by rw [q]; simp))
    · have e1 : ptrs (n + 1) (addf n f e) = ptrs n f ++ [e.ptr] := by
        unfold ptrs
        rw [List.range_succ, List.map_append]
        congr 1
        · apply List.map_congr_left
          intro k hk
          have := List.mem_range.1 hk
          unfold addf
          rw [if_neg (by omega)]
        · simp [addf]
      rw [e1]
      exact hown
    · intro k hk'
      unfold addf
      by_cases q : k = n
      · subst q
        rw [if_pos rfl]
        exact hk.blk he (hne _ _ he)
      · rw [if_neg q]
        have := hT.ent k (by omega)
        exact hk.blk this (hne _ _ this)
    · intro i j hi hj
      unfold addf
      intro q
      split at q <;> split at q
      · omega
      · rename_i h1 h2
        exact absurd q.symm (hnew j (by omega))
      · exact absurd q (hnew i (by omega))
      · exact hT.inj i j (by omega) (by omega) q
end

theorem assert54 (g : Nat) (w : World) : (Instr.typeAssert (.iface 54 (.pointer (some ⟨g, 0, none⟩))) 20 54 false).run Try.prog w = .ok (.pointer (some ⟨g, 0, none⟩)) w := by kernel_rfl
set_option maxHeartbeats 800000 in
theorem qpush_calls (p : Nat) (x v : Value) (n : Nat) (f : Nat → Ent) (e : Ent) (u : Value) (w : World) (hp : w.heap[p]? = some (.cells #[x, v] 51 (0, 0))) (hq : Qv w v n f) (hn : n ≤ 1000)
    (he : w.heap[e.g]? = some (.cells #[.string e.key, .int .u64 e.til, u] 53 (0, 0))) (hnew : ∀ k, k < n → (f k).g ≠ e.g) :
    Calls Try.prog 50 #[.pointer (some ⟨p, 1, none⟩), .iface 54 e.ptr] w fun r w' => r = .returned (.tuple #[]) ∧ ∃ v', w'.heap[p]? = some (.cells #[x, v'] 51 (0, 0)) ∧ Qv w' v' (n + 1) (addf n f e) ∧
      Kp (fun k => k = p ∨ k = e.g ∨ v.ownBlock = some k) w w' ∧ (v'.ownBlock = v.ownBlock ∨ v'.ownBlock = some (w.heap.size + 1)) := by
  obtain ⟨A, cap, hv⟩ := hq.shape
  have hlen : ∀ w, (Builtin.len_ #[49] 3 #[v]).run Try.prog w = .ok (.int .i64 n) w := by
    intro w; rw [hv]; rfl
  have hpe : p ≠ e.g := row_ne hp he (by decide)
  have hpc : w.cell? ⟨p, 1, none⟩ = some v := row_cell hp 1
  have hec : w.cell? ⟨e.g, 2, none⟩ = some u := row_cell he 2
  have hef : w.frozen? ⟨e.g, 2, none⟩ = false := row_frozen he 2
  have hpf : w.frozen? ⟨p, 1, none⟩ = false := row_frozen hp 1
  clear hv
  have hasr := assert54 e.g
  show Calls Try.prog 50 #[.pointer (some ⟨p, 1, none⟩), .iface 54 (.pointer (some ⟨e.g, 0, none⟩))] w _
  go_enter Try.func50, Try.ntmps50
  go_wp2_with (at_builtin; refine wpList_addq rfl _ _ rfl v n f e _ _ rfl rfl (by simp [World.setCell]) rfl ?_ hn ?_ hnew ?_)
  · refine hq.kp (S := fun k => k = e.g) (Kp.setCell (Kp.refl _ w) (p := ⟨e.g, 2, none⟩) (by exact .inl rfl) _) ?_ ?_
    · rintro g hg rfl
      exact hq.ne he (by decide) hg
    · intro i hi
      exact hnew i hi
  · exact row_set he 2 (.int .i64 n)
  · intro v' W' hQ hK hat
    obtain ⟨A', cap', rfl⟩ := hQ.shape
    have hp1 : W'.heap[p]? = some (.cells #[x, v] 51 (0, 0)) := hK.blk (row_far hp hpe _) (hq.ne hp (by decide))
    have hpc1 : W'.cell? ⟨p, 1, none⟩ = some v := row_cell hp1 1
    have hpf1 : W'.frozen? ⟨p, 1, none⟩ = false := row_frozen hp1 1
    generalize hv' : Value.slice A' (n + 1) cap' = v' at hQ hat
    have hat' : v'.ownBlock = v.ownBlock ∨ v'.ownBlock = some (w.heap.size + 1) := by
      rcases hat with q | q
      · exact .inl q
      · exact .inr (by simp [q, World.setCell])
    clear hat
    have hkp : Kp (fun k => k = p ∨ k = e.g ∨ v.ownBlock = some k) w (W'.setCell ⟨p, 1, none⟩ v') := by
      refine Kp.setCell ?_ (.inl (.inl rfl)) _
      exact (((Kp.refl _ w).setCell (.inl (.inr (.inl rfl))) _)).trans (hK.mono (fun k _ q => .inr (.inr q)))
    have hq' : Qv (W'.setCell ⟨p, 1, none⟩ v') v' (n + 1) (addf n f e) := by
      refine hQ.kp (S := fun k => k = p) (Kp.setCell (Kp.refl _ W') (p := ⟨p, 1, none⟩) (by exact .inl rfl) _) ?_ ?_
      · rintro g hg rfl
        exact hQ.ne hp1 (by decide) hg
      · rintro i hi q
        have := hQ.ent i hi
        rw [q] at this
        exact row_ne this hp1 (by decide) rfl
    have hpw : (W'.setCell ⟨p, 1, none⟩ v').heap[p]? = some (.cells #[x, v'] 51 (0, 0)) := row_set hp1 1 v'
    have hend : ∃ v'', (W'.setCell ⟨p, 1, none⟩ v').heap[p]? = some (.cells #[x, v''] 51 (0, 0)) ∧ Qv (W'.setCell ⟨p, 1, none⟩ v') v'' (n + 1) (addf n f e) ∧ Kp (fun k => k = p ∨ k = e.g ∨ v.ownBlock = some k) w (W'.setCell ⟨p, 1, none⟩ v') ∧ (v''.ownBlock = v.ownBlock ∨ v''.ownBlock = some (w.heap.size + 1)) := ⟨v', hpw, hq', hkp, hat'⟩
    have HE := Lib.hid hend
    subst hv'
    clear hend hpw hq' hkp hat' hQ hp1 hK hlen hq hp he
    go_wp2
    go_end0
    exact ⟨rfl, HE.out⟩

set_option maxHeartbeats 800000 in
theorem qpop_low (p : Nat) (A : Addr) (m c g : Nat) (w : World) (hp : w.cell? ⟨p, 1, none⟩ = some (.slice (some A) (m + 1 : Nat) c)) (hf : w.frozen? ⟨p, 1, none⟩ = false) (hc : m + 1 ≤ c) (hm : m ≤ 1000)
    (hA : w.cell? (A.add m) = some (.pointer (some ⟨g, 0, none⟩))) :
    Calls Try.prog 49 #[.pointer (some ⟨p, 1, none⟩)] w fun r w' => r = .returned (.iface 54 (.pointer (some ⟨g, 0, none⟩))) ∧ w' = w.setCell ⟨p, 1, none⟩ (.slice (some A) m c) := by
  have e1 : wrap64 (m : Int) = (m : Int) := by unfold wrap64; omega
  go_enter Try.func49, Try.ntmps49
  go_wp2
  go_ret
  exact ⟨rfl, rfl⟩
set_option maxHeartbeats 800000 in
theorem qpop_calls (p r cap m : Nat) (x : Value) (f : Nat → Ent) (w : World) (hp : w.heap[p]? = some (.cells #[x, .slice (some ⟨r, 0, none⟩) (m + 1 : Nat) cap] 51 (0, 0))) (hq : Qs w r cap (m + 1) f) (hm : m ≤ 1000) :
    Calls Try.prog 49 #[.pointer (some ⟨p, 1, none⟩)] w fun e w' => e = .returned (.iface 54 (f m).ptr) ∧ w'.heap[p]? = some (.cells #[x, .slice (some ⟨r, 0, none⟩) m cap] 51 (0, 0)) ∧ Qv w' (.slice (some ⟨r, 0, none⟩) m cap) m f ∧
      Kp (One p) w w' ∧ w'.heap[(f m).g]? = some (.cells ((f m).cells m) 53 (0, 0)) := by
  obtain ⟨cur, hr, hnc, hcm, hsz, hcur⟩ := hq.row
  have hpc : w.cell? ⟨p, 1, none⟩ = some (.slice (some ⟨r, 0, none⟩) (m + 1 : Nat) cap) := row_cell hp 1
  refine (qpop_low p ⟨r, 0, none⟩ m cap (f m).g w hpc (row_frozen hp 1) hnc hm ?_).mono ?_
  · rw [add0, row_cell hr]; exact hcur m (by omega)
  · rintro e w' ⟨rfl, rfl⟩
    have hk : Kp (One p) w (w.setCell ⟨p, 1, none⟩ (.slice (some ⟨r, 0, none⟩) m cap)) := Kp.setCell (p := ⟨p, 1, none⟩) (Kp.refl _ w) (by exact .inl rfl) _
    refine ⟨rfl, row_set hp 1 _, ?_, hk, ?_⟩
    · refine (hq.cut (by omega)).kp hk ?_ ?_
      · intro g hg
        simp [Value.ownBlock] at hg
        subst hg
        exact row_ne hr hp (by decide)
      · intro i hi
        exact row_ne (hq.ent i (by omega)) hp (by decide)
    · exact hk.blk (hq.ent m (by omega)) (row_ne (hq.ent m (by omega)) hp (by decide))
end Go.Proofs.Ytgleankpalihaaa
