/- Cache: the state of a cache; New, Len, Has, Next. -/
import Derived.Test.YtgleankpalihaaaChM
import Derived.Deep.QuietTactic
import Derived.BigQuiet
namespace Go.Proofs.Ytgleankpalihaaa
open Go.RowKit Go.MapKept
set_option linter.unusedSimpArgs false
set_option linter.unusedVariables false
abbrev KU := ByteArray × Int
def Ent.ku (e : Ent) : KU := (e.key, e.til)
def KeyMap (mp : Value → Option Value) (n : Nat) (f : Nat → Ent) : Prop := ∀ k u, mp (.string k) = some u ↔ ∃ i, i < n ∧ (f i).key = k ∧ u = (f i).ptr
structure C0 (w : World) (p b : Nat) (v : Value) (n : Nat) (f : Nat → Ent) (mp : Value → Option Value) : Prop where
  hp : w.heap[p]? = some (.cells #[.map (some b), v] 51 (0, 0))
  q : Qv w v n f
  hh : Heap f n
  map : MapIs w .string b mp n
  keys : KeyMap mp n f
  kinj : ∀ i j, i < n → j < n → (f i).key = (f j).key → i = j
def CB (p b : Nat) (v : Value) (n : Nat) (f : Nat → Ent) : Nat → Prop := fun k => k = p ∨ k = b ∨ v.ownBlock = some k ∨ ∃ i, i < n ∧ k = (f i).g
structure IsC (w : World) (p : Nat) (X : Nat → Prop) (S : List KU) : Prop where
  out : ∃ b v n f mp, C0 w p b v n f mp ∧ (∀ k, CB p b v n f k → X k) ∧ ((List.range n).map (fun i => (f i).ku)).Perm S
  lt : ∀ k, X k → k < w.heap.size
theorem C0.kp {T : Nat → Prop} {w w' : World} {p b : Nat} {v : Value} {n : Nat} {f : Nat → Ent} {mp : Value → Option Value} (h : C0 w p b v n f mp) (k : Kp T w w') (ht : ∀ i, CB p b v n f i → ¬ T i) : C0 w' p b v n f mp :=
  ⟨k.blk h.hp (ht _ (.inl rfl)), h.q.kp k (fun g hg => ht _ (.inr (.inr (.inl hg)))) (fun i hi => ht _ (.inr (.inr (.inr ⟨i, hi, rfl⟩)))), h.hh, h.map.kp k (ht _ (.inr (.inl rfl))), h.keys, h.kinj⟩
theorem IsC.kp {T X : Nat → Prop} {w w' : World} {p : Nat} {S : List KU} (h : IsC w p X S) (k : Kp T w w') (ht : ∀ i, X i → ¬ T i) : IsC w' p X S := by
  obtain ⟨b, v, n, f, mp, h1, h2, h3⟩ := h.out
  exact ⟨⟨b, v, n, f, mp, h1.kp k (fun i hi => ht i (h2 i hi)), h2, h3⟩, fun i hi => Nat.lt_of_lt_of_le (h.lt i hi) k.size⟩
theorem IsC.below {X : Nat → Prop} {w w' : World} {p : Nat} {S : List KU} (h : IsC w p X S) (k : Below w.heap.size w w') : IsC w' p X S := h.kp (Kp.of_below (S := Non) k) (fun _ _ q => q)
theorem kus_len (n : Nat) (f : Nat → Ent) : ((List.range n).map (fun i => (f i).ku)).length = n := by simp
theorem IsC.len {X : Nat → Prop} {w : World} {p b n : Nat} {v : Value} {f : Nat → Ent} {mp : Value → Option Value} {S : List KU} (h3 : ((List.range n).map (fun i => (f i).ku)).Perm S) : n = S.length := by
  rw [← h3.length_eq, kus_len]
/-- keys are there once -/
def KN (S : List KU) : Prop := (S.map (·.1)).Nodup
def get (S : List KU) (k : ByteArray) : Option Int := (S.find? (fun e => decide (e.1 = k))).map (·.2)
def has (S : List KU) (k : ByteArray) (now : Int) : Bool := match get S k with | some u => decide (now < u) | none => false
theorem get_mem {S : List KU} {k : ByteArray} {u : Int} (h : get S k = some u) : (k, u) ∈ S := by
  unfold get at h
  cases hq : S.find? (fun e => decide (e.1 = k)) with
  | none => rw [hq] at h; cases h
  | some x =>
    rw [hq] at h
    have h1 := List.find?_some hq
    have h2 := List.mem_of_find?_eq_some hq
    have h3 : x.1 = k := by simpa using h1
    have h4 : x.2 = u := by simpa using h
    subst h3 h4
    exact h2
theorem get_none {S : List KU} {k : ByteArray} (h : get S k = none) : ∀ u, (k, u) ∉ S := by
  intro u hu
  unfold get at h
  have : S.find? (fun e => decide (e.1 = k)) = none := by simpa using h
  have := List.find?_eq_none.1 this _ hu
  simp at this
theorem get_of_mem {S : List KU} (hn : KN S) {k : ByteArray} {u : Int} (h : (k, u) ∈ S) : get S k = some u := by
  induction S with
  | nil => cases h
  | cons e S ih =>
    unfold KN at hn
    rw [List.map_cons, List.nodup_cons] at hn
    unfold get
    rw [List.find?_cons]
    by_cases q : e.1 = k
    · have : decide (e.1 = k) = true := by simpa using q
      rw [this]
      rcases List.mem_cons.1 h with rfl | h
      · rfl
      · exact absurd (List.mem_map.2 ⟨(k, u), h, q.symm⟩) hn.1
    · have : decide (e.1 = k) = false := by simpa using q
      rw [this]
      rcases List.mem_cons.1 h with rfl | h
      · exact absurd rfl q
      · exact ih hn.2 h
theorem IsC.kn' {n : Nat} {f : Nat → Ent} {S : List KU} (hk : ∀ i j, i < n → j < n → (f i).key = (f j).key → i = j) (h3 : ((List.range n).map (fun i => (f i).ku)).Perm S) : KN S := by
  unfold KN
  rw [← (h3.map (·.1)).nodup_iff, List.map_map, List.nodup_iff_pairwise_ne, List.pairwise_map]
  refine List.Pairwise.imp_of_mem ?_ (List.nodup_iff_pairwise_ne.1 (List.nodup_range (n := n)))
  intro a b ha hb hab q
  exact hab (hk a b (List.mem_range.1 ha) (List.mem_range.1 hb) q)
theorem IsC.kn {X : Nat → Prop} {w : World} {p : Nat} {S : List KU} (h : IsC w p X S) : KN S := by
  obtain ⟨b, v, n, f, mp, h1, h2, h3⟩ := h.out
  exact IsC.kn' h1.kinj h3
theorem mem_kus {n : Nat} {f : Nat → Ent} {S : List KU} (h3 : ((List.range n).map (fun i => (f i).ku)).Perm S) (x : KU) : x ∈ S ↔ ∃ i, i < n ∧ (f i).ku = x := by
  rw [← h3.mem_iff]; simp
theorem zero54 (w : World) : (zeroValue 54).run Try.prog w = .ok (.pointer none) w := by kernel_rfl
theorem IsC.look {X : Nat → Prop} {w : World} {p b n : Nat} {v : Value} {f : Nat → Ent} {mp : Value → Option Value} {S : List KU} (h1 : C0 w p b v n f mp) (h3 : ((List.range n).map (fun i => (f i).ku)).Perm S) (k : ByteArray) :
    (get S k = none ∧ mp (.string k) = none) ∨ ∃ i, i < n ∧ (f i).key = k ∧ get S k = some (f i).til ∧ mp (.string k) = some (f i).ptr := by
  cases hq : mp (.string k) with
  | none =>
    refine .inl ⟨?_, rfl⟩
    cases hg : get S k with
    | none => rfl
    | some u =>
      obtain ⟨i, hi, e⟩ := (mem_kus h3 _).1 (get_mem hg)
      have : mp (.string k) = some (f i).ptr := (h1.keys k _).2 ⟨i, hi, by simpa [Ent.ku] using congrArg Prod.fst e, rfl⟩
      rw [hq] at this; cases this
  | some u =>
    obtain ⟨i, hi, hk, hu⟩ := (h1.keys k u).1 hq
    refine .inr ⟨i, hi, hk, ?_, by rw [hu]⟩
    exact get_of_mem (IsC.kn' h1.kinj h3) ((mem_kus h3 _).2 ⟨i, hi, by rw [← hk]; rfl⟩)

set_option maxHeartbeats 800000 in
theorem new_calls (w : World) : Calls Try.prog 9 #[] w fun e w' => ∃ p X, e = .returned (.pointer (some ⟨p, 0, none⟩)) ∧ IsC w' p X [] ∧ (∀ k, X k → w.heap.size ≤ k) ∧ Below w.heap.size w w' := by
  have hmm := @run_makeMap Try.prog
  go_enter Try.func9, Try.ntmps9
  go_wp2
  go_ret
  refine ⟨_, fun k => k = w.heap.size ∨ k = w.heap.size + 1, rfl, ⟨⟨w.heap.size, .slice none 0 0, 0, fun _ => ⟨0, ⟨#[]⟩, 0⟩, fun _ => none, ⟨?_, ?_, ?_, ?_, ?_, ?_⟩, ?_, by simp⟩, ?_⟩, ?_, ?_⟩
  · have h := row_new (w.alloc (.map #[] 0)) (.cells #[.map (some w.heap.size), .slice none 0 0] 51 (0, 0))
    simpa using h
  · exact ⟨⟨by simp [ptrs], .inl ⟨rfl, rfl⟩⟩, fun k hk => absurd hk (by omega), fun i j hi => absurd hi (by omega)⟩
  · intro k _ hk; omega
  · exact (MapIs.made w .string).alloc _
  · intro k u; simp
  · intro i j hi; omega
  · rintro k (q | q | q | ⟨i, hi, _⟩)
    · exact .inr (by simpa using q)
    · exact .inl q
    · simp [Value.ownBlock] at q
    · omega
  · rintro k (q | q) <;> simp <;> omega
  · rintro k (q | q) <;> omega
  · exact ((Below.refl _ w).alloc (Nat.le_refl _) _).alloc (by simp) _
set_option maxHeartbeats 800000 in
theorem len_calls {X : Nat → Prop} {w : World} {p : Nat} {S : List KU} (h : IsC w p X S) : Calls Try.prog 13 #[.pointer (some ⟨p, 0, none⟩)] w fun e w' => e = .returned (.int .i64 S.length) ∧ w = w' := by
  obtain ⟨b, v, n, f, mp, h1, h2, h3⟩ := h.out
  have hc : w.cell? ⟨p, 0, none⟩ = some (.map (some b)) := row_cell h1.hp 0
  have hl := h1.map.len (P := Try.prog) (mty := 47) (ty := 3) Try.underlying47
  have hn : n = S.length := IsC.len (w := w) (X := X) (p := p) (b := b) (v := v) (mp := mp) h3
  clear h h1 h2 h3
  go_enter Try.func13, Try.ntmps13
  go_wp2
  go_ret
  exact ⟨rfl, rfl⟩
set_option maxHeartbeats 800000 in
theorem has_calls {X : Nat → Prop} {w : World} {p : Nat} {S : List KU} (h : IsC w p X S) (key : ByteArray) (now : Int) :
    Calls Try.prog 14 #[.pointer (some ⟨p, 0, none⟩), .string key, .int .u64 now] w fun e w' => e = .returned (.bool (has S key now)) ∧ w = w' := by
  obtain ⟨b, v, n, f, mp, h1, h2, h3⟩ := h.out
  have hc : w.cell? ⟨p, 0, none⟩ = some (.map (some b)) := row_cell h1.hp 0
  have hl := h1.map.lookup (P := Try.prog) (mty := 47) Try.underlying47 Try.underlying9 (zero54 w) (k := .string key) trivial true
  rcases IsC.look (X := X) h1 h3 key with ⟨hg, hm⟩ | ⟨i, hi, hk, hg, hm⟩
  · rw [hm] at hl
    have he : has S key now = false := by unfold has; rw [hg]
    clear h h1 h2 h3 hg hm
    go_enter Try.func14, Try.ntmps14
    go_wp2
    go_ret
    exact ⟨rfl, rfl⟩
  · rw [hm] at hl
    have hl' : (Instr.lookup 47 (.map (some b)) (.string key) true).run Try.prog w = .ok (.tuple #[.pointer (some ⟨(f i).g, 0, none⟩), .bool true]) w := hl
    have he : has S key now = decide (now < (f i).til) := by unfold has; rw [hg]
    have ht : w.cell? ⟨(f i).g, 1, none⟩ = some (.int .u64 (f i).til) := row_cell (h1.q.ent i hi) 1
    clear h h1 h2 h3 hg hm hl
    generalize (f i).g = g at *
    generalize (f i).til = u at *
    by_cases hlt : now < u
    · go_enter Try.func14, Try.ntmps14
      go_wp2
      go_ret
      exact ⟨by simp [he, hlt], rfl⟩
    · go_enter Try.func14, Try.ntmps14
      go_wp2
      go_ret
      exact ⟨by simp [he, hlt], rfl⟩

/-! ### the key that goes first -/
instance kltDec (ka : ByteArray) (ua : Int) (kb : ByteArray) (ub : Int) : Decidable (klt ka ua kb ub) := by unfold klt; infer_instance
def leastF (x : KU) (l : List KU) : KU := l.foldl (fun m y => if klt y.1 y.2 m.1 m.2 then y else m) x
def least : List KU → Option KU
  | [] => none
  | x :: l => some (leastF x l)
def IsLeast (S : List KU) (t : KU) : Prop := t ∈ S ∧ ∀ y ∈ S, ¬ klt y.1 y.2 t.1 t.2
theorem leastF_is : ∀ (l : List KU) (x : KU), IsLeast (x :: l) (leastF x l)
  | [], x => ⟨by simp [leastF], by
      intro y hy
      simp at hy
      subst hy
      exact klt_irr _ _⟩
  | z :: l, x => by
    have h := leastF_is l (if klt z.1 z.2 x.1 x.2 then z else x)
    have e : leastF x (z :: l) = leastF (if klt z.1 z.2 x.1 x.2 then z else x) l := rfl
    rw [e]
    generalize ht : leastF (if klt z.1 z.2 x.1 x.2 then z else x) l = t at h
    obtain ⟨h1, h2⟩ := h
    refine ⟨?_, ?_⟩
    · rcases List.mem_cons.1 h1 with q | q
      · rw [q]; split <;> simp
      · simp [q]
    · intro y hy
      by_cases hz : klt z.1 z.2 x.1 x.2
      · rw [if_pos hz] at h2
        rcases List.mem_cons.1 hy with rfl | hy
        · refine nklt_trans ?_ (h2 z (by simp))
          intro q
          exact klt_irr _ _ (klt_trans hz q)
        · rcases List.mem_cons.1 hy with rfl | hy
          · exact h2 _ (by simp)
          · exact h2 y (by simp [hy])
      · rw [if_neg hz] at h2
        rcases List.mem_cons.1 hy with rfl | hy
        · exact h2 _ (by simp)
        · rcases List.mem_cons.1 hy with rfl | hy
          · exact nklt_trans hz (h2 x (by simp))
          · exact h2 y (by simp [hy])
theorem least_is {S : List KU} {t : KU} (h : least S = some t) : IsLeast S t := by
  cases S with
  | nil => cases h
  | cons x l =>
    have : leastF x l = t := Option.some.inj h
    rw [← this]
    exact leastF_is l x
theorem IsLeast.uniq {S : List KU} {t u : KU} (h : IsLeast S t) (k : IsLeast S u) : t = u := by
  rcases klt_tri t.1 u.1 t.2 u.2 with q | ⟨q1, q2⟩ | q
  · exact absurd q (k.2 t h.1)
  · exact Prod.ext q1 q2
  · exact absurd q (h.2 u k.1)
theorem IsLeast.least {S : List KU} {t : KU} (h : IsLeast S t) : least S = some t := by
  cases S with
  | nil => exact absurd h.1 (by simp)
  | cons x l => exact congrArg some ((leastF_is l x).uniq h)
theorem least_none {S : List KU} : least S = none ↔ S = [] := by cases S <;> simp [least]
def nextV (o : Option KU) : Value := match o with | some t => .tuple #[.string t.1, .int .u64 t.2, .bool true] | none => .tuple #[.string ⟨#[]⟩, .int .u64 0, .bool false]
theorem C0.least {w : World} {p b : Nat} {v : Value} {n : Nat} {f : Nat → Ent} {mp : Value → Option Value} {S : List KU} (h1 : C0 w p b v n f mp) (h3 : ((List.range n).map (fun i => (f i).ku)).Perm S) (hn : 0 < n) : least S = some (f 0).ku := by
  apply IsLeast.least
  refine ⟨(mem_kus h3 _).2 ⟨0, hn, rfl⟩, ?_⟩
  intro y hy
  obtain ⟨i, hi, rfl⟩ := (mem_kus h3 _).1 hy
  have := h1.hh.top i hi
  rwa [Ent.lt_false] at this
set_option maxHeartbeats 800000 in
theorem next_calls {X : Nat → Prop} {w : World} {p : Nat} {S : List KU} (h : IsC w p X S) :
    Calls Try.prog 11 #[.pointer (some ⟨p, 0, none⟩)] w fun e w' => e = .returned (nextV (least S)) ∧ Below w.heap.size w w' := by
  obtain ⟨b, v, n, f, mp, h1, h2, h3⟩ := h.out
  by_cases hn : n = 0
  · subst hn
    obtain ⟨A, cap, rfl⟩ := h1.q.shape
    have hc : w.cell? ⟨p, 1, none⟩ = some (.slice A 0 cap) := row_cell h1.hp 1
    have hS : S = [] := List.eq_nil_of_length_eq_zero (IsC.len (w := w) (X := X) (p := p) (b := b) (v := .nilIface) (mp := mp) h3).symm
    subst hS
    clear h h1 h2 h3
    go_enter Try.func11, Try.ntmps11
    go_wp2
    go_ret3
    exact ⟨rfl, Below.refl _ _⟩
  · have hn0 : 0 < n := by omega
    have hL := h1.least h3 hn0
    obtain ⟨r, cap, rfl, hq⟩ := h1.q.qs hn0
    obtain ⟨cur, hr, hnc, hcm, hsz, hcur⟩ := hq.row
    have hc : w.cell? ⟨p, 1, none⟩ = some (.slice (some ⟨r, 0, none⟩) n cap) := row_cell h1.hp 1
    have h0 : w.cell? ⟨r, 0, none⟩ = some (.pointer (some ⟨(f 0).g, 0, none⟩)) := by rw [row_cell hr]; exact hcur 0 hn0
    have hk : w.cell? ⟨(f 0).g, 0, none⟩ = some (.string (f 0).key) := row_cell (hq.ent 0 hn0) 0
    have hu : w.cell? ⟨(f 0).g, 1, none⟩ = some (.int .u64 (f 0).til) := row_cell (hq.ent 0 hn0) 1
    rw [hL]
    show Calls Try.prog 11 #[.pointer (some ⟨p, 0, none⟩)] w fun e w' => e = .returned (.tuple #[.string (f 0).key, .int .u64 (f 0).til, .bool true]) ∧ Below w.heap.size w w'
    generalize f 0 = e0 at hk hu h0 ⊢
    clear h h1 h2 h3 hL hq hr hcur hn
    go_enter Try.func11, Try.ntmps11
    have hn1 : (0 : Int) < (n : Int) := by omega
    go_wp2
    go_quiet (fail)
    go_wp2
    go_ret3
    exact ⟨rfl, ⟨rfl, rfl, rfl, Nat.le_refl _, fun _ _ => rfl⟩⟩
end Go.Proofs.Ytgleankpalihaaa
