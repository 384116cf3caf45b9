/- Common lemmas of ours: a map's block said as a function from key values to element values; blocks that a call leaves as they were. -/
import Derived.WalkKit
import Derived.MapKept
import Derived.Carry
import Derived.Deep.Draws
namespace Go.Proofs.Ytgleankpalihaaa
open Go.RowKit Go.MapKept
set_option linter.unusedSimpArgs false
set_option linter.unusedVariables false

/-! ### what is left as it was, but for some blocks -/
/-- w' is w but for the blocks of S and for new ones. -/
structure Kp (S : Nat → Prop) (w w' : World) : Prop where
  os : w'.os = w.os
  tape : w'.tape = w.tape
  output : w'.output = w.output
  size : w.heap.size ≤ w'.heap.size
  block : ∀ k, k < w.heap.size → ¬ S k → w'.heap[k]? = w.heap[k]?

theorem Kp.refl (S : Nat → Prop) (w : World) : Kp S w w := ⟨rfl, rfl, rfl, Nat.le_refl _, fun _ _ _ => rfl⟩
theorem Kp.trans {S : Nat → Prop} {a b c : World} (h : Kp S a b) (k : Kp S b c) : Kp S a c :=
  ⟨k.os.trans h.os, k.tape.trans h.tape, k.output.trans h.output, Nat.le_trans h.size k.size,
    fun i hi hs => (k.block i (Nat.lt_of_lt_of_le hi h.size) hs).trans (h.block i hi hs)⟩
theorem Kp.mono {S T : Nat → Prop} {w w' : World} (h : Kp S w w') (hs : ∀ k, k < w.heap.size → S k → T k) : Kp T w w' :=
  ⟨h.os, h.tape, h.output, h.size, fun k hk ht => h.block k hk (fun q => ht (hs k hk q))⟩
theorem Kp.of_below {S : Nat → Prop} {w w' : World} (h : Below w.heap.size w w') : Kp S w w' :=
  ⟨h.os, h.tape, h.output, h.size, fun k hk _ => h.block k hk⟩
theorem Kp.below {B : Nat} {S : Nat → Prop} {w w' : World} (h : Kp S w w') (hs : ∀ k, S k → B ≤ k) (hB : B ≤ w.heap.size) : Below B w w' :=
  ⟨h.os, h.tape, h.output, h.size, fun k hk => h.block k (by omega) (fun q => by have := hs k q; omega)⟩
theorem Kp.alloc {S : Nat → Prop} {a w : World} (h : Kp S a w) (o : Obj) : Kp S a (w.alloc o) :=
  ⟨h.os, h.tape, h.output, by have := h.size; simp; omega, fun k hk hs => (Below.heap_alloc w o k (Nat.lt_of_lt_of_le hk h.size)).trans (h.block k hk hs)⟩
theorem Kp.drew {S : Nat → Prop} {a w : World} (h : Kp S a w) : Kp S a w.drew := ⟨h.os, h.tape, h.output, h.size, h.block⟩
theorem Kp.drewN {S : Nat → Prop} {a w : World} (h : Kp S a w) (n : Nat) : Kp S a (w.drewN n) := ⟨h.os, h.tape, h.output, h.size, h.block⟩
theorem Kp.setCell {S : Nat → Prop} {a w : World} (h : Kp S a w) {p : Addr} (hp : S p.block ∨ a.heap.size ≤ p.block) (v : Value) : Kp S a (w.setCell p v) :=
  ⟨h.os, h.tape, h.output, by have := h.size; simp [World.setCell]; omega, fun k hk hs =>
    (Below.heap_setCell w p v k (fun e => by
      rcases hp with hp | hp
      · exact hs (e ▸ hp)
      · omega)).trans (h.block k hk hs)⟩
theorem Kp.grown {S : Nat → Prop} {a w w' : World} {row : Option Nat} (h : Kp S a w) (hg : w.grownBy w' row) (hr : ∀ k, row = some k → S k ∨ a.heap.size ≤ k) : Kp S a w' :=
  ⟨hg.os.trans h.os, hg.tape.trans h.tape, hg.output.trans h.output, Nat.le_trans h.size hg.size, fun k hk hs =>
    (hg.block k (Nat.lt_of_lt_of_le hk h.size) (fun e => by
      rcases hr k e.symm with q | q
      · exact hs q
      · omega)).trans (h.block k hk hs)⟩
/-- Two stretches, the second of which may turn blocks that were new in the first. -/
theorem Kp.andThen {S T : Nat → Prop} {a b c : World} (h : Kp S a b) (k : Kp T b c) (hT : ∀ i, i < a.heap.size → T i → S i) : Kp S a c :=
  ⟨k.os.trans h.os, k.tape.trans h.tape, k.output.trans h.output, Nat.le_trans h.size k.size,
    fun i hi hs => (k.block i (Nat.lt_of_lt_of_le hi h.size) (fun q => hs (hT i hi q))).trans (h.block i hi hs)⟩
theorem Kp.blk {S : Nat → Prop} {w w' : World} (h : Kp S w w') {b : Nat} {o : Obj} (hb : w.heap[b]? = some o) (hs : ¬ S b) : w'.heap[b]? = some o :=
  (h.block b (Array.getElem?_eq_some_iff.1 hb).1 hs).trans hb
theorem Kp.cell {S : Nat → Prop} {w w' : World} (h : Kp S w w') {p : Addr} {v : Value} (hc : w.cell? p = some v) (hs : ¬ S p.block) : w'.cell? p = some v :=
  (World.cell?_of_block (w := w) (h.block p.block (World.block_lt_of_cell? w p hc) hs)).trans hc

/-- the blocks b and c -/
def Two (b c : Nat) : Nat → Prop := fun k => k = b ∨ k = c
def One (b : Nat) : Nat → Prop := fun k => k = b
def Non : Nat → Prop := fun _ => False

/-! ### a block of cells -/
theorem row_cell {w : World} {g : Nat} {t : TypeId} {cs : Array Value} {f : Nat × Nat} (h : w.heap[g]? = some (.cells cs t f)) (i : Nat) : w.cell? ⟨g, i, none⟩ = cs[i]? := by simp [World.cell?, h]
theorem row_frozen {w : World} {g : Nat} {t : TypeId} {cs : Array Value} (h : w.heap[g]? = some (.cells cs t (0, 0))) (i : Nat) : w.frozen? ⟨g, i, none⟩ = false := by simp [World.frozen?, h]
theorem row_set {w : World} {g : Nat} {t : TypeId} {cs : Array Value} (h : w.heap[g]? = some (.cells cs t (0, 0))) (i : Nat) (u : Value) : (w.setCell ⟨g, i, none⟩ u).heap[g]? = some (.cells (cs.setIfInBounds i u) t (0, 0)) := by
  simp [World.setCell, Array.getElem?_modify, h]
theorem row_far {w : World} {g : Nat} {o : Obj} (h : w.heap[g]? = some o) {p : Addr} (hp : g ≠ p.block) (u : Value) : (w.setCell p u).heap[g]? = some o := (Below.heap_setCell w p u g hp).trans h
theorem row_alloc {w : World} {g : Nat} {o : Obj} (h : w.heap[g]? = some o) (o' : Obj) : (w.alloc o').heap[g]? = some o := (Below.heap_alloc w o' g (Array.getElem?_eq_some_iff.1 h).1).trans h
theorem row_new (w : World) (o : Obj) : (w.alloc o).heap[w.heap.size]? = some o := (MapKept.heap_alloc w o).1
theorem row_lt {w : World} {g : Nat} {o : Obj} (h : w.heap[g]? = some o) : g < w.heap.size := (Array.getElem?_eq_some_iff.1 h).1
theorem row_drewN {w : World} {g : Nat} {o : Obj} (h : w.heap[g]? = some o) (n : Nat) : (w.drewN n).heap[g]? = some o := h

/-! ### maps -/
/-- Block b is a map with keys of the kind d, n of them, that holds f. -/
def MapIs (w : World) (d : TypeDesc) (b : Nat) (f : Value → Option Value) (n : Nat) : Prop :=
  ∃ es clock, w.heap[b]? = some (.map es clock) ∧ (∀ x ∈ es.toList, IsKey d x.key) ∧ (es.toList.map (·.key)).Nodup ∧ es.size = n ∧
    ∀ k v, IsKey d k → (f k = some v ↔ ∃ e ∈ es.toList, e.key = k ∧ e.val = v)

theorem MapIs.lt {w : World} {d : TypeDesc} {b n : Nat} {f : Value → Option Value} (h : MapIs w d b f n) : b < w.heap.size := by
  obtain ⟨es, c, hb, _⟩ := h; exact row_lt hb
theorem MapIs.of_heap {w w' : World} {d : TypeDesc} {b n : Nat} {f : Value → Option Value} (h : MapIs w d b f n) (hb : w'.heap[b]? = w.heap[b]?) : MapIs w' d b f n := by
  obtain ⟨es, c, h1, h2⟩ := h; exact ⟨es, c, hb.trans h1, h2⟩
theorem MapIs.kp {S : Nat → Prop} {w w' : World} {d : TypeDesc} {b n : Nat} {f : Value → Option Value} (h : MapIs w d b f n) (hk : Kp S w w') (hs : ¬ S b) : MapIs w' d b f n :=
  h.of_heap (hk.block b h.lt hs)
theorem MapIs.alloc {w : World} {d : TypeDesc} {b n : Nat} {f : Value → Option Value} (h : MapIs w d b f n) (o : Obj) : MapIs (w.alloc o) d b f n := h.of_heap (Below.heap_alloc w o b h.lt)
theorem MapIs.setCell {w : World} {d : TypeDesc} {b n : Nat} {f : Value → Option Value} (h : MapIs w d b f n) {p : Addr} (hp : b ≠ p.block) (v : Value) : MapIs (w.setCell p v) d b f n := h.of_heap (Below.heap_setCell w p v b hp)
theorem MapIs.congr {w : World} {d : TypeDesc} {b n m : Nat} {f g : Value → Option Value} (h : MapIs w d b f n) (hf : ∀ k, IsKey d k → g k = f k) (hn : m = n) : MapIs w d b g m := by
  subst hn
  obtain ⟨es, c, h1, h2, h3, h4, h5⟩ := h
  exact ⟨es, c, h1, h2, h3, h4, fun k v hk => by rw [hf k hk]; exact h5 k v hk⟩
theorem MapIs.made (w : World) (d : TypeDesc) : MapIs (w.alloc (.map #[] 0)) d w.heap.size (fun _ => none) 0 :=
  ⟨#[], 0, row_new w _, by simp, by simp, rfl, by simp⟩
/-- A map block is no row of cells. -/
theorem MapIs.ne_row {w : World} {d : TypeDesc} {b n g : Nat} {f : Value → Option Value} {cs : Array Value} {t : TypeId} {fr : Nat × Nat} (h : MapIs w d b f n) (hg : w.heap[g]? = some (.cells cs t fr)) : b ≠ g := by
  rintro rfl
  obtain ⟨es, c, h1, _⟩ := h
  rw [h1] at hg; cases hg

section
variable {P : Program} {w : World} {d : TypeDesc} {b n : Nat} {f : Value → Option Value} {mty kt et ty : TypeId}

theorem MapIs.lookup (h : MapIs w d b f n) (hm : P.underlying mty = some (.map kt et)) (hd : P.underlying kt = some d) {z : Value} (hz : (zeroValue et).run P w = .ok z w) {k : Value} (hk : IsKey d k) (ok : Bool) :
    (Instr.lookup mty (.map (some b)) k ok).run P w = .ok (if ok then .tuple #[(f k).getD z, .bool (f k).isSome] else (f k).getD z) w := by
  obtain ⟨es, c, hb, hks, hnd, hn, hf⟩ := h
  rcases findNow_spec hk es.toList 0 hks with ⟨h1, h2⟩ | ⟨j, e, h1, h2, h3⟩
  · have hfk : f k = none := by
      cases hq : f k with
      | none => rfl
      | some v =>
        obtain ⟨e, he, hek, _⟩ := (hf k v hk).1 hq
        exact absurd hek (h2 e he)
    simp [Instr.lookup, run_underlying hm, MapKept.run_getObj_map hb, run_checkKey hd hk, run_findKey hd h1, hz, hfk, Result.andThen]
  · have hfk : f k = some e.val := (hf k e.val hk).2 ⟨e, List.mem_of_getElem? h2, h3, rfl⟩
    simp [Instr.lookup, run_underlying hm, MapKept.run_getObj_map hb, run_checkKey hd hk, run_findKey hd h1, hfk, Result.andThen]

theorem MapIs.len (h : MapIs w d b f n) (hm : P.underlying mty = some (.map kt et)) : (Builtin.len_ #[mty] ty #[.map (some b)]).run P w = .ok (.int .i64 n) w := by
  obtain ⟨es, c, hb, hks, hnd, hn, hf⟩ := h
  simp [Builtin.len_, run_underlying hm, MapKept.run_getObj_map hb, goInt, Result.andThen, hn]

/-- f, but v at k -/
noncomputable def upd (f : Value → Option Value) (k v : Value) : Value → Option Value := open Classical in fun x => if x = k then some v else f x
theorem upd_same (f : Value → Option Value) (k v : Value) : upd f k v k = some v := by simp [upd]
theorem upd_other (f : Value → Option Value) {k x : Value} (v : Value) (h : x ≠ k) : upd f k v x = f x := by simp [upd, h]
noncomputable def del (f : Value → Option Value) (k : Value) : Value → Option Value := open Classical in fun x => if x = k then none else f x
theorem del_same (f : Value → Option Value) (k : Value) : del f k k = none := by simp [del]
theorem del_other (f : Value → Option Value) {k x : Value} (h : x ≠ k) : del f k x = f x := by simp [del, h]

theorem heap_setIf {w : World} {b : Nat} {o : Obj} (hb : w.heap[b]? = some o) (o' : Obj) : w.grownBy { w with heap := w.heap.setIfInBounds b o' } (some b) :=
  ⟨rfl, rfl, rfl, by simp, fun i _ hne => (MapKept.heap_set hb).2 i (fun e => hne (by rw [e]))⟩

theorem mem_modify_of {es : Array MapEntry} {j : Nat} {e0 : MapEntry} {g : MapEntry → MapEntry} (hj : es[j]? = some e0) {x : MapEntry} : x ∈ (es.modify j g).toList ↔ (x = g e0 ∨ ∃ i, i ≠ j ∧ es[i]? = some x) := by
  constructor
  · intro hx
    obtain ⟨i, hi⟩ := List.getElem?_of_mem hx
    rw [Array.getElem?_toList, Array.getElem?_modify] at hi
    by_cases hij : j = i
    · subst hij
      rw [if_pos rfl, hj] at hi
      exact .inl (by simpa using hi.symm)
    · rw [if_neg hij] at hi
      exact .inr ⟨i, fun q => hij q.symm, hi⟩
  · rintro (rfl | ⟨i, hij, hi⟩)
    · apply List.mem_of_getElem? (i := j)
      rw [Array.getElem?_toList, Array.getElem?_modify, if_pos rfl, hj]; rfl
    · apply List.mem_of_getElem? (i := i)
      rw [Array.getElem?_toList, Array.getElem?_modify, if_neg (fun q => hij q.symm), hi]

theorem MapIs.update (h : MapIs w d b f n) (hm : P.underlying mty = some (.map kt et)) (hd : P.underlying kt = some d) {k : Value} (hk : IsKey d k) (v : Value) :
    ∃ w', (Instr.mapUpdate mty (.map (some b)) k v).run P w = .ok () w' ∧ MapIs w' d b (upd f k v) (if (f k).isSome then n else n + 1) ∧ w.grownBy w' (some b) ∧ w'.heap.size = w.heap.size := by
  obtain ⟨es, c, hb, hks, hnd, hn, hf⟩ := h
  rcases findNow_spec hk es.toList 0 hks with ⟨h1, h2⟩ | ⟨j, e, h1, h2, h3⟩
  · have hfk : f k = none := by
      cases hq : f k with
      | none => rfl
      | some v =>
        obtain ⟨e, he, hek, _⟩ := (hf k v hk).1 hq
        exact absurd hek (h2 e he)
    refine ⟨_, by simp [Instr.mapUpdate, run_underlying hm, MapKept.run_getObj_map hb, run_checkKey hd hk, run_findKey hd h1, run_setObj_map _ hb, Result.andThen]; rfl, ?_, heap_setIf hb _, by simp⟩
    refine ⟨_, _, (heap_set hb).1, ?_, ?_, ?_, ?_⟩
    · intro x hx
      simp only [Array.toList_push, List.mem_append, List.mem_singleton] at hx
      rcases hx with hx | rfl
      · exact hks x hx
      · exact hk
    · simp only [Array.toList_push, List.map_append, List.map_cons, List.map_nil]
      rw [List.nodup_append]
      refine ⟨hnd, by simp, ?_⟩
      intro a ha b' hb'
      simp only [List.mem_singleton] at hb'
      obtain ⟨x, hx, rfl⟩ := List.mem_map.1 ha
      subst hb'
      exact h2 x hx
    · simp [hfk, hn]
    · intro k' v' hk'
      by_cases hkk : k' = k
      · subst hkk
        rw [upd_same]
        constructor
        · intro q; cases q
          exact ⟨⟨k', v, c⟩, by simp, rfl, rfl⟩
        · rintro ⟨e, he, hek, rfl⟩
          simp only [Array.toList_push, List.mem_append, List.mem_singleton] at he
          rcases he with he | rfl
          · exact absurd hek (h2 e he)
          · rfl
      · rw [upd_other _ _ hkk, hf k' v' hk']
        constructor
        · rintro ⟨e, he, q⟩; exact ⟨e, by simp only [Array.toList_push, List.mem_append]; exact .inl he, q⟩
        · rintro ⟨e, he, hek, hev⟩
          simp only [Array.toList_push, List.mem_append, List.mem_singleton] at he
          rcases he with he | rfl
          · exact ⟨e, he, hek, hev⟩
          · exact absurd hek (fun q => hkk q.symm)
  · have hj : es[j]? = some e := by simpa using h2
    have hfk : f k = some e.val := (hf k e.val hk).2 ⟨e, List.mem_of_getElem? h2, h3, rfl⟩
    have hkey : ∀ e', es[j]? = some e' → ({ e' with key := k, val := v } : MapEntry).key = e'.key := fun e' he' => by rw [hj] at he'; cases he'; exact h3.symm
    have huniq : ∀ i e', es[i]? = some e' → e'.key = k → i = j := by
      intro i e' hi hek
      have hi1 := (Array.getElem?_eq_some_iff.1 hi).1
      have hj1 := (Array.getElem?_eq_some_iff.1 hj).1
      have e1 : (es.toList.map (·.key))[i]? = some k := by simp [hi, hek]
      have e2 : (es.toList.map (·.key))[j]? = some k := by simp [hj, h3]
      exact (List.getElem?_inj (by simpa using hi1) hnd).1 (e1.trans e2.symm)
    refine ⟨_, by simp [Instr.mapUpdate, run_underlying hm, MapKept.run_getObj_map hb, run_checkKey hd hk, run_findKey hd h1, hj, h3, run_keyThatStays hk, run_setObj_map _ hb, Result.andThen]; rfl, ?_, heap_setIf hb _, by simp⟩
    refine ⟨_, _, (heap_set hb).1, isKey_modify hks _ _ hkey, ?_, ?_, ?_⟩
    · rw [modify_keys j _ hkey]; exact hnd
    · simp [hfk, hn]
    · intro k' v' hk'
      by_cases hkk : k' = k
      · subst hkk
        rw [upd_same]
        constructor
        · intro q; cases q
          exact ⟨_, (mem_modify_of hj).2 (.inl rfl), rfl, rfl⟩
        · rintro ⟨e', he', hek, rfl⟩
          rcases (mem_modify_of hj).1 he' with rfl | ⟨i, hij, hi⟩
          · rfl
          · exact absurd (huniq i e' hi hek) hij
      · rw [upd_other _ _ hkk, hf k' v' hk']
        constructor
        · rintro ⟨e', he', hek, hev⟩
          obtain ⟨i, hi⟩ := List.getElem?_of_mem he'
          rw [Array.getElem?_toList] at hi
          refine ⟨e', (mem_modify_of hj).2 (.inr ⟨i, ?_, hi⟩), hek, hev⟩
          rintro rfl
          rw [hj] at hi; cases hi
          exact hkk (hek.symm.trans h3)
        · rintro ⟨e', he', hek, hev⟩
          rcases (mem_modify_of hj).1 he' with rfl | ⟨i, hij, hi⟩
          · exact absurd hek (fun q => hkk q.symm)
          · exact ⟨e', List.mem_of_getElem? (i := i) (by rw [Array.getElem?_toList]; exact hi), hek, hev⟩
end

/-! ### at the operation, for the walk -/
/-- A guard for an arm of the walk: it stands still but at the operation that is named. -/
theorem gate {P : Program} {ops : Array Oper} {Q : Exit → Act → World → Prop} {rest : List Oper} {a : Act} {w : World} (d : Option Tmp) (op : Op) {ty : TypeId} {pos : String} {af : Array Edge} {gd : Option (Nat × Bool)}
    (h : wpList P ops Q (⟨d, op, ty, pos, af, gd⟩ :: rest) a w) : wpList P ops Q (⟨d, op, ty, pos, af, gd⟩ :: rest) a w := h
section
variable {P : Program} {w : World} {ops : Array Oper} {rest : List Oper} {o : Oper} {a : Act} {Q : Exit → Act → World → Prop} {d : TypeDesc} {b n : Nat} {f : Value → Option Value} {kt et : TypeId}

theorem wpList_insert_is (hg : o.guard = none) (t : TypeId) (m x v : Operand) (hop : o.op = Op.insert t m x v)
    (hm : P.underlying t = some (.map kt et)) (hd : P.underlying kt = some d) (hmv : a.eval m = .map (some b)) (h : MapIs w d b f n) (k u : Value) (hx : a.eval x = k) (hv : a.eval v = u) (hk : IsKey d k)
    (hK : ∀ w', MapIs w' d b (upd f k u) (if (f k).isSome then n else n + 1) → w.grownBy w' (some b) → w'.heap.size = w.heap.size → wpList P ops Q rest (a.put o.dst undef) w') :
    wpList P ops Q (o :: rest) a w := by
  refine wpList_plain hg fun K' hK' => ?_
  obtain ⟨w', hrun, r1, r2, r3⟩ := h.update hm hd hk u
  unfold Oper.wp
  simp [execOp, hop, hmv, hx, hv, hrun, Result.andThen]
  exact hK' _ _ (hK w' r1 r2 r3)

theorem wpList_update_is (hg : o.guard = none) (t : TypeId) (m x v : Operand) (hop : o.op = Op.mapUpdate t m x v)
    (hm : P.underlying t = some (.map kt et)) (hd : P.underlying kt = some d) (hmv : a.eval m = .map (some b)) (h : MapIs w d b f n) (k u : Value) (hx : a.eval x = k) (hv : a.eval v = u) (hk : IsKey d k)
    (hK : ∀ w', MapIs w' d b (upd f k u) (if (f k).isSome then n else n + 1) → w.grownBy w' (some b) → w'.heap.size = w.heap.size → wpList P ops Q rest (a.put o.dst undef) w') :
    wpList P ops Q (o :: rest) a w := by
  refine wpList_plain hg fun K' hK' => ?_
  obtain ⟨w', hrun, r1, r2, r3⟩ := h.update hm hd hk u
  unfold Oper.wp
  simp [execOp, hop, hmv, hx, hv, hrun, Result.andThen]
  exact hK' _ _ (hK w' r1 r2 r3)

theorem wpList_lookup_is (hg : o.guard = none) (t : TypeId) (m x : Operand) (hop : o.op = Op.lookup t m x false)
    (hm : P.underlying t = some (.map kt et)) (hd : P.underlying kt = some d) (hmv : a.eval m = .map (some b)) (h : MapIs w d b f n) (k z : Value) (hx : a.eval x = k) (hk : IsKey d k) (hz : (zeroValue et).run P w = .ok z w)
    (hK : wpList P ops Q rest (a.put o.dst ((f k).getD z)) w) : wpList P ops Q (o :: rest) a w := by
  refine wpList_plain hg fun K' hK' => ?_
  have hrun := h.lookup hm hd hz hk false
  unfold Oper.wp
  simp [execOp, hop, hmv, hx, hrun, Result.andThen]
  exact hK' _ _ hK

theorem wpList_lookup_ok_is (hg : o.guard = none) (t : TypeId) (m x : Operand) (hop : o.op = Op.lookup t m x true)
    (hm : P.underlying t = some (.map kt et)) (hd : P.underlying kt = some d) (hmv : a.eval m = .map (some b)) (h : MapIs w d b f n) (k z : Value) (hx : a.eval x = k) (hk : IsKey d k) (hz : (zeroValue et).run P w = .ok z w)
    (hK : wpList P ops Q rest (a.put o.dst (.tuple #[(f k).getD z, .bool (f k).isSome])) w) : wpList P ops Q (o :: rest) a w := by
  refine wpList_plain hg fun K' hK' => ?_
  have hrun := h.lookup hm hd hz hk true
  unfold Oper.wp
  simp [execOp, hop, hmv, hx, hrun, Result.andThen]
  exact hK' _ _ hK
end
end Go.Proofs.Ytgleankpalihaaa
