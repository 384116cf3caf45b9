/- Cache: Put. -/
import Derived.Test.YtgleankpalihaaaChK
namespace Go.Proofs.Ytgleankpalihaaa
open Go.RowKit Go.MapKept
set_option linter.unusedSimpArgs false
set_option linter.unusedVariables false
def setK (S : List KU) (key : ByteArray) (t : Int) : List KU := S.map (fun e => if e.1 = key then (key, t) else e)
def put (S : List KU) (key : ByteArray) (t : Int) : List KU := match get S key with
  | none => S ++ [(key, t)]
  | some u => if u < t then setK S key t else S
/-- X and the new blocks -/
def Xn (X : Nat → Prop) (w w' : World) : Nat → Prop := fun k => X k ∨ (w.heap.size ≤ k ∧ k < w'.heap.size)
theorem KeyMap.prm {mp : Value → Option Value} {n : Nat} {f f' : Nat → Ent} (h : KeyMap mp n f) (hp : Prm n f f') : KeyMap mp n f' := by
  intro k u
  rw [h k u]
  constructor
  · rintro ⟨i, hi, hk, hu⟩
    obtain ⟨l, hl, e⟩ := hp.mem' hi
    exact ⟨l, hl, by rw [← e]; exact hk, by rw [← e]; exact hu⟩
  · rintro ⟨i, hi, hk, hu⟩
    obtain ⟨l, hl, e⟩ := hp.mem hi
    exact ⟨l, hl, by rw [← e]; exact hk, by rw [← e]; exact hu⟩
theorem kinj_prm {n : Nat} {f f' : Nat → Ent} (h : ∀ i j, i < n → j < n → (f i).key = (f j).key → i = j) (hp : Prm n f f') (hg : ∀ i j, i < n → j < n → (f' i).g = (f' j).g → i = j) :
    ∀ i j, i < n → j < n → (f' i).key = (f' j).key → i = j := by
  intro i j hi hj q
  obtain ⟨l, hl, e⟩ := hp.mem hi
  obtain ⟨m, hm, e'⟩ := hp.mem hj
  have : l = m := h l m hl hm (by rw [← e, ← e']; exact q)
  exact hg i j hi hj (by rw [e, e', this])
theorem kus_prm {n : Nat} {f f' : Nat → Ent} (hp : Prm n f f') : ((List.range n).map (fun i => (f' i).ku)).Perm ((List.range n).map (fun i => (f i).ku)) := by
  have := hp.perm.map Ent.ku
  rwa [List.map_map, List.map_map] at this
theorem IsC.ofX {w w0 : World} {X : Nat → Prop} {p b : Nat} {v : Value} {n : Nat} {f : Nat → Ent} {mp : Value → Option Value} {S : List KU} (h1 : C0 w p b v n f mp) (h3 : ((List.range n).map (fun i => (f i).ku)).Perm S)
    (hX : ∀ k, X k → k < w0.heap.size) (hs : w0.heap.size ≤ w.heap.size) (h2 : ∀ k, CB p b v n f k → X k ∨ w0.heap.size ≤ k) : IsC w p (Xn X w0 w) S := by
  refine ⟨⟨b, v, n, f, mp, h1, ?_, h3⟩, ?_⟩
  · intro k hk
    have hlt : k < w.heap.size := by
      rcases hk with rfl | rfl | q | ⟨i, hi, rfl⟩
      · exact row_lt h1.hp
      · exact h1.map.lt
      · obtain ⟨cs, h⟩ := h1.q.block q
        exact row_lt h
      · exact row_lt (h1.q.ent i hi)
    rcases h2 k hk with q | q
    · exact .inl q
    · exact .inr ⟨q, hlt⟩
  · rintro k (q | q)
    · have := hX k q; omega
    · exact q.2

section
variable {W : World} {ops : Array Oper} {rest : List Oper} {o : Oper} {a : Act} {Q : Exit → Act → World → Prop}
/-- keys[key] = e, in the world that has just laid e -/
theorem wpList_keep (hg : o.guard = none) (m x v : Operand) (hop : o.op = Op.mapUpdate 47 m x v) {b n : Nat} {mp : Value → Option Value} (hM : MapIs W .string b mp n) (key : ByteArray) (g : Nat) (cs : Array Value)
    (hmv : a.eval m = .map (some b)) (hx : a.eval x = .string key) (hv : a.eval v = .pointer (some ⟨g, 0, none⟩)) (hn : mp (.string key) = none)
    (hK : ∀ w', MapIs w' .string b (upd mp (.string key) (.pointer (some ⟨g, 0, none⟩))) (n + 1) → Kp (One b) (W.alloc (.cells cs 53)) w' → w'.heap.size = W.heap.size + 1 → wpList Try.prog ops Q rest (a.put o.dst undef) w') :
    wpList Try.prog ops Q (o :: rest) a (W.alloc (.cells cs 53)) := by
  refine wpList_update_is hg 47 m x v hop Try.underlying47 Try.underlying9 hmv (hM.alloc _) (.string key) _ hx hv trivial ?_
  intro w' h1 h2 h3
  rw [hn] at h1
  refine hK w' h1 ((Kp.refl _ _).grown h2 (fun k hk => .inl (by cases hk; rfl))) (by rw [h3]; simp)
end

/-- what Put leaves -/
structure PtE (w W : World) (p : Nat) (X : Nat → Prop) (S : List KU) : Prop where
  is : IsC W p (Xn X w W) S
  kp : Kp X w W
theorem IsC.stay {w W : World} {p : Nat} {X : Nat → Prop} {S : List KU} (h : IsC W p X S) (hs : w.heap.size ≤ W.heap.size) : IsC W p (Xn X w W) S := by
  obtain ⟨⟨b, v, n, f, mp, h1, h2, h3⟩, h4⟩ := h
  exact ⟨⟨b, v, n, f, mp, h1, fun k hk => .inl (h2 k hk), h3⟩, fun k hk => by rcases hk with q | q; exact h4 k q; exact q.2⟩

theorem KeyMap.add {mp : Value → Option Value} {n : Nat} {f : Nat → Ent} (h : KeyMap mp n f) (e : Ent) (hm : mp (.string e.key) = none) : KeyMap (upd mp (.string e.key) e.ptr) (n + 1) (addf n f e) := by
  intro k u
  by_cases hk : k = e.key
  · subst hk
    rw [upd_same]
    constructor
    · intro q
      exact ⟨n, by omega, by rw [addf_n], by rw [addf_n]; exact (Option.some.inj q).symm⟩
    · rintro ⟨i, hi, q, rfl⟩
      by_cases hin : i = n
      · rw [hin, addf_n]
      · rw [addf_lt (by omega)] at q
        have := (h e.key _).2 ⟨i, by omega, q, rfl⟩
        rw [hm] at this; cases this
  · rw [upd_other _ _ (fun q => hk (by cases q; rfl)), h k u]
    constructor
    · rintro ⟨i, hi, q, hu⟩
      exact ⟨i, by omega, by rw [addf_lt hi]; exact q, by rw [addf_lt hi]; exact hu⟩
    · rintro ⟨i, hi, q, hu⟩
      by_cases hin : i = n
      · rw [hin, addf_n] at q
        exact absurd q.symm hk
      · rw [addf_lt (by omega)] at q hu
        exact ⟨i, by omega, q, hu⟩
theorem kinj_add {mp : Value → Option Value} {n : Nat} {f : Nat → Ent} (hk : KeyMap mp n f) (h : ∀ i j, i < n → j < n → (f i).key = (f j).key → i = j) (e : Ent) (hm : mp (.string e.key) = none) :
    ∀ i j, i < n + 1 → j < n + 1 → (addf n f e i).key = (addf n f e j).key → i = j := by
  have hno : ∀ i, i < n → (f i).key ≠ e.key := fun i hi q => by
    have := (hk e.key _).2 ⟨i, hi, q, rfl⟩
    rw [hm] at this; cases this
  intro i j hi hj q
  by_cases h1 : i = n
  · by_cases h2 : j = n
    · omega
    · rw [h1, addf_n, addf_lt (by omega)] at q
      exact absurd q.symm (hno j (by omega))
  · by_cases h2 : j = n
    · rw [h2, addf_n, addf_lt (by omega)] at q
      exact absurd q (hno i (by omega))
    · rw [addf_lt (by omega), addf_lt (by omega)] at q
      exact h i j (by omega) (by omega) q
theorem kus_add (n : Nat) (f : Nat → Ent) (e : Ent) : (List.range (n + 1)).map (fun i => (addf n f e i).ku) = (List.range n).map (fun i => (f i).ku) ++ [e.ku] := by
  rw [List.range_succ, List.map_append]
  congr 1
  · apply List.map_congr_left
    intro k hk
    rw [addf_lt (List.mem_range.1 hk)]
  · simp [addf_n]
theorem PtE.new {X : Nat → Prop} {w w1 w2 : World} {p b n : Nat} {v : Value} {f : Nat → Ent} {mp : Value → Option Value} {S : List KU} (h1 : C0 w p b v n f mp) (h2 : ∀ k, CB p b v n f k → X k)
    (h3 : ((List.range n).map (fun i => (f i).ku)).Perm S) (hX : ∀ k, X k → k < w.heap.size) {key : ByteArray} {t : Int} (hm : mp (.string key) = none) {cs : Array Value}
    (hM1 : MapIs w1 .string b (upd mp (.string key) (.pointer (some ⟨w.heap.size, 0, none⟩))) (n + 1)) (hK1 : Kp (One b) (w.alloc (.cells cs 53)) w1) (hs1 : w1.heap.size = w.heap.size + 1)
    (hE : PuE w1 w2 p n (.map (some b)) v f ⟨w.heap.size, key, t⟩) : PtE w w2 p X (S ++ [(key, t)]) := by
  obtain ⟨r, cap, f', hC, hH, hP, hr, hK⟩ := hE.out
  have hSb : ∀ k, (k = p ∨ k = w.heap.size ∨ v.ownBlock = some k ∨ ∃ i, i < n ∧ k = (f i).g) → X k ∨ k = w.heap.size := by
    rintro k (q | q | q | q)
    · exact .inl (h2 k (.inl q))
    · exact .inr q
    · exact .inl (h2 k (.inr (.inr (.inl q))))
    · exact .inl (h2 k (.inr (.inr (.inr q))))
  have hbS : ¬ (b = p ∨ b = w.heap.size ∨ v.ownBlock = some b ∨ ∃ i, i < n ∧ b = (f i).g) := by
    rintro (q | q | q | ⟨i, hi, q⟩)
    · exact h1.map.ne_row h1.hp q
    · have := h1.map.lt; omega
    · obtain ⟨ds, hd⟩ := h1.q.block q
      exact h1.map.ne_row hd rfl
    · exact h1.map.ne_row (h1.q.ent i hi) q
  have hC0 : C0 w2 p b (.slice (some ⟨r, 0, none⟩) (n + 1 : Nat) cap) (n + 1) f' (upd mp (.string key) (.pointer (some ⟨w.heap.size, 0, none⟩))) :=
    ⟨hC.hp, hC.q.cut (Nat.le_refl _), hH, hM1.kp hK hbS, (h1.keys.add ⟨w.heap.size, key, t⟩ hm).prm hP, kinj_prm (kinj_add h1.keys h1.kinj ⟨w.heap.size, key, t⟩ hm) hP hC.q.inj⟩
  refine ⟨IsC.ofX hC0 ?_ hX ?_ ?_, ?_⟩
  · refine (kus_prm hP).trans ?_
    rw [kus_add]
    exact h3.append_right _
  · have := hK.size; omega
  · rintro k (q | q | q | ⟨i, hi, q⟩)
    · exact .inl (h2 k (.inl q))
    · exact .inl (h2 k (.inr (.inl q)))
    · have hkr : r = k := Option.some.inj q
      rcases hr with q2 | q2
      · exact .inl (h2 k (.inr (.inr (.inl (by rw [← hkr]; exact q2)))))
      · exact .inr (by omega)
    · obtain ⟨l, hl, e⟩ := hP.mem hi
      by_cases hln : l = n
      · rw [hln, addf_n] at e
        exact .inr (by rw [q, e]; exact Nat.le_refl _)
      · rw [addf_lt (by omega)] at e
        exact .inl (h2 k (.inr (.inr (.inr ⟨l, by omega, by rw [q, e]⟩))))
  · refine Kp.andThen (S := X) (((Kp.refl X w).alloc _).trans (hK1.mono ?_)) hK ?_
    · rintro k _ q
      exact h2 k (.inr (.inl q))
    · intro k hk q
      rcases hSb k q with q | q
      · exact q
      · omega
set_option maxHeartbeats 800000 in
theorem put_new {X : Nat → Prop} {w : World} {p b n : Nat} {v : Value} {f : Nat → Ent} {mp : Value → Option Value} {S : List KU} (h1 : C0 w p b v n f mp) (h2 : ∀ k, CB p b v n f k → X k)
    (h3 : ((List.range n).map (fun i => (f i).ku)).Perm S) (hX : ∀ k, X k → k < w.heap.size) (key : ByteArray) (t : Int) (hn : n ≤ 1000) (hm : mp (.string key) = none) :
    Calls Try.prog 16 #[.pointer (some ⟨p, 0, none⟩), .string key, .int .u64 t] w fun e w' => e = .returned (.tuple #[]) ∧ PtE w w' p X (S ++ [(key, t)]) := by
  have hc : w.cell? ⟨p, 0, none⟩ = some (.map (some b)) := row_cell h1.hp 0
  have hc2 : ∀ o, (w.alloc o).cell? ⟨p, 0, none⟩ = some (.map (some b)) := fun o => row_cell (row_alloc h1.hp o) 0
  have hl := h1.map.lookup (P := Try.prog) (mty := 47) Try.underlying47 Try.underlying9 (zero54 w) (k := .string key) trivial true
  rw [hm] at hl
  have hl' : (Instr.lookup 47 (.map (some b)) (.string key) true).run Try.prog w = .ok (.tuple #[.pointer none, .bool false]) w := hl
  have H1 := Lib.hid h1
  have H2 := Lib.hid h2
  have H3 := Lib.hid h3
  have HX := Lib.hid hX
  clear h1 h2 h3 hX hl
  go_enter Try.func16, Try.ntmps16
  go_wp2_with (refine wpList_keep rfl _ _ _ rfl H1.out.map key _ _ rfl rfl rfl hm ?_)
  intro w1 hM1 hK1 hs1
  have hp1 : w1.heap[p]? = some (.cells #[.map (some b), v] 51 (0, 0)) := hK1.blk (row_alloc H1.out.hp _) (fun q => (H1.out.map.ne_row H1.out.hp) q.symm)
  have hq1 : Qv w1 v n f := by
    refine H1.out.q.kp (S := One b) (((Kp.refl _ w).alloc _).trans hK1) ?_ ?_
    · intro g hg q
      obtain ⟨cs, hcs⟩ := H1.out.q.block hg
      exact (H1.out.map.ne_row hcs) q.symm
    · intro i hi q
      exact (H1.out.map.ne_row (H1.out.q.ent i hi)) q.symm
  have he1 : w1.heap[w.heap.size]? = some (.cells #[.string key, .int .u64 t, .int .i64 0] 53 (0, 0)) := hK1.blk (row_new w _) (fun q => by have := H1.out.map.lt; unfold One at q; omega)
  have hnew : ∀ k, k < n → (f k).g ≠ w.heap.size := fun k hk q => by have := row_lt (H1.out.q.ent k hk); omega
  have HP := Lib.hid (push_calls p n (.map (some b)) v f ⟨w.heap.size, key, t⟩ (.int .i64 0) w1 hp1 hq1 hn H1.out.hh he1 hnew)
  have HM1 := Lib.hid hM1
  have HK1 := Lib.hid hK1
  have HS1 := Lib.hid hs1
  clear hM1 hK1 hs1 hp1 hq1 he1 hnew hc2 hl'
  go_wp2_with fail
  refine HP.out.mono ?_
  rintro e2 w2 ⟨rfl, hE⟩
  have HE := Lib.hid (PtE.new H1.out H2.out H3.out HX.out hm HM1.out HK1.out HS1.out hE)
  clear hE HM1 HK1 HS1 HP H1 H2 H3 HX hc hm
  go_wp2
  go_end0
  exact ⟨rfl, HE.out⟩

/-- f, but the i-th entry's time is t -/
def rise (f : Nat → Ent) (i : Nat) (t : Int) : Nat → Ent := fun k => if k = i then ⟨(f i).g, (f i).key, t⟩ else f k
theorem rise_i (f : Nat → Ent) (i : Nat) (t : Int) : rise f i t i = ⟨(f i).g, (f i).key, t⟩ := by simp [rise]
theorem rise_o (f : Nat → Ent) {i k : Nat} (t : Int) (h : k ≠ i) : rise f i t k = f k := by simp [rise, h]
theorem rise_g (f : Nat → Ent) (i : Nat) (t : Int) (k : Nat) : (rise f i t k).g = (f k).g := by unfold rise; split <;> simp_all
theorem rise_key (f : Nat → Ent) (i : Nat) (t : Int) (k : Nat) : (rise f i t k).key = (f k).key := by unfold rise; split <;> simp_all
theorem DownI.rise {f : Nat → Ent} {n i : Nat} {t : Int} (h : Heap f n) (hi : i < n) (ht : (f i).til < t) : DownI (rise f i t) n i := by
  refine ⟨?_, ?_⟩
  · intro k h0 hk hp
    rw [rise_o f t hp]
    by_cases q : k = i
    · subst q
      rw [rise_i]
      have h1 := h k h0 hk
      rw [Ent.lt_false] at h1 ⊢
      refine nklt_trans ?_ h1
      rintro (q | ⟨q, _⟩) <;> simp only at q <;> omega
    · rw [rise_o f t q]
      exact h k h0 hk
  · intro c h0 hc hp hi0
    have h1 : par i ≠ i := by unfold par; omega
    have h2 : c ≠ i := by unfold par at hp; omega
    rw [rise_o f t h1, rise_o f t h2]
    have := h c h0 hc
    rw [hp] at this
    exact Ent.le_trans this (h i hi0 hi)
theorem kus_rise {n : Nat} {f : Nat → Ent} {i : Nat} {t : Int} (hi : i < n) (hk : ∀ i j, i < n → j < n → (f i).key = (f j).key → i = j) :
    (List.range n).map (fun k => (rise f i t k).ku) = setK ((List.range n).map (fun k => (f k).ku)) (f i).key t := by
  unfold setK
  rw [List.map_map]
  apply List.map_congr_left
  intro k hkn
  have hkn := List.mem_range.1 hkn
  simp only [Function.comp]
  by_cases q : k = i
  · subst q
    rw [rise_i]
    exact (if_pos rfl).symm
  · rw [rise_o f t q]
    exact (if_neg (fun e => q (hk _ _ hkn hi e))).symm
theorem setK_perm {S T : List KU} (h : S.Perm T) (key : ByteArray) (t : Int) : (setK S key t).Perm (setK T key t) := h.map _
theorem PtE.old {X : Nat → Prop} {w w1 w2 : World} {p b n r cap : Nat} {f : Nat → Ent} {mp : Value → Option Value} {S : List KU} (h1 : C0 w p b (.slice (some ⟨r, 0, none⟩) n cap) n f mp) (h2 : ∀ k, CB p b (.slice (some ⟨r, 0, none⟩) n cap) n f k → X k)
    (h3 : ((List.range n).map (fun i => (f i).ku)).Perm S) (hX : ∀ k, X k → k < w.heap.size) {t : Int} {i : Nat} (hi : i < n)
    (hK1 : Kp (One (f i).g) w w1) (hE : FxE w1 w2 p r cap n (.map (some b)) (rise f i t)) : PtE w w2 p X (setK S (f i).key t) := by
  obtain ⟨f', hC, hH, hP, hK⟩ := hE.out
  have hSb : ∀ k, QB r n (rise f i t) k → X k := by
    rintro k (q | ⟨l, hl, q⟩)
    · exact h2 k (.inr (.inr (.inl (by rw [q]; rfl))))
    · exact h2 k (.inr (.inr (.inr ⟨l, hl, by rw [q, rise_g]⟩)))
  have hbr : ¬ QB r n (rise f i t) b := by
    rintro (q | ⟨l, hl, q⟩)
    · obtain ⟨ds, hd⟩ := h1.q.block (k := r) rfl
      exact h1.map.ne_row hd q
    · rw [rise_g] at q
      exact h1.map.ne_row (h1.q.ent l hl) q
  have hkeys : KeyMap mp n (rise f i t) := by
    intro k u
    rw [h1.keys k u]
    constructor
    · rintro ⟨l, hl, q, hu⟩
      exact ⟨l, hl, by rw [rise_key]; exact q, by rw [hu]; unfold Ent.ptr; rw [rise_g]⟩
    · rintro ⟨l, hl, q, hu⟩
      exact ⟨l, hl, by rw [rise_key] at q; exact q, by rw [hu]; unfold Ent.ptr; rw [rise_g]⟩
  have hkinj : ∀ a c, a < n → c < n → (rise f i t a).key = (rise f i t c).key → a = c := by
    intro a c ha hc q
    rw [rise_key, rise_key] at q
    exact h1.kinj a c ha hc q
  have hC0 : C0 w2 p b (.slice (some ⟨r, 0, none⟩) n cap) n f' mp :=
    ⟨hC.hp, hC.q.cut (Nat.le_refl _), hH, (h1.map.kp hK1 (fun q => h1.map.ne_row (h1.q.ent i hi) q)).kp hK hbr, hkeys.prm hP, kinj_prm hkinj hP hC.q.inj⟩
  have hKX : Kp X w w2 := (hK1.mono (fun k _ q => h2 k (.inr (.inr (.inr ⟨i, hi, q⟩))))).trans (hK.mono (fun k _ q => hSb k q))
  refine ⟨IsC.stay ⟨⟨b, _, n, f', mp, hC0, ?_, ?_⟩, fun k hk => Nat.lt_of_lt_of_le (hX k hk) hKX.size⟩ hKX.size, hKX⟩
  · rintro k (q | q | q | ⟨l, hl, q⟩)
    · exact h2 k (.inl q)
    · exact h2 k (.inr (.inl q))
    · exact h2 k (.inr (.inr (.inl q)))
    · obtain ⟨m, hm, e⟩ := hP.mem hl
      exact h2 k (.inr (.inr (.inr ⟨m, hm, by rw [q, e, rise_g]⟩)))
  · refine (kus_prm hP).trans ?_
    rw [kus_rise hi h1.kinj]
    exact setK_perm h3 _ _
theorem Qs.rise {w : World} {r cap n : Nat} {f : Nat → Ent} (h : Qs w r cap n f) {i : Nat} (hi : i < n) (t : Int) : Qs (w.setCell ⟨(f i).g, 1, none⟩ (.int .u64 t)) r cap n (rise f i t) := by
  obtain ⟨cur, hr, hnc, hcm, hsz, hcur⟩ := h.row
  refine ⟨⟨cur, row_far hr (row_ne hr (h.ent i hi) (by decide)) _, hnc, hcm, hsz, ?_⟩, ?_, ?_⟩
  · intro k hk
    rw [hcur k hk]; unfold Ent.ptr; rw [rise_g]
  · intro k hk
    rw [rise_g]
    by_cases q : k = i
    · subst q
      rw [rise_i]
      exact row_set (h.ent k hk) 1 (.int .u64 t)
    · rw [rise_o f t q]
      exact row_far (h.ent k hk) (fun e => q (h.inj _ _ hk hi e)) _
  · intro a c ha hc q
    rw [rise_g, rise_g] at q
    exact h.inj a c ha hc q
set_option maxHeartbeats 800000 in
theorem put_old {X : Nat → Prop} {w : World} {p b n : Nat} {v : Value} {f : Nat → Ent} {mp : Value → Option Value} {S : List KU} (h1 : C0 w p b v n f mp) (h2 : ∀ k, CB p b v n f k → X k)
    (h3 : ((List.range n).map (fun i => (f i).ku)).Perm S) (hX : ∀ k, X k → k < w.heap.size) (t : Int) (hn : n ≤ 1000) {i : Nat} (hi : i < n) (hm : mp (.string (f i).key) = some (f i).ptr) (hlt : (f i).til < t) :
    Calls Try.prog 16 #[.pointer (some ⟨p, 0, none⟩), .string (f i).key, .int .u64 t] w fun e w' => e = .returned (.tuple #[]) ∧ PtE w w' p X (setK S (f i).key t) := by
  obtain ⟨r, cap, rfl, hq⟩ := h1.q.qs (by omega)
  have hc : w.cell? ⟨p, 0, none⟩ = some (.map (some b)) := row_cell h1.hp 0
  have hl := h1.map.lookup (P := Try.prog) (mty := 47) Try.underlying47 Try.underlying9 (zero54 w) (k := .string (f i).key) trivial true
  rw [hm] at hl
  have hl' : (Instr.lookup 47 (.map (some b)) (.string (f i).key) true).run Try.prog w = .ok (.tuple #[.pointer (some ⟨(f i).g, 0, none⟩), .bool true]) w := hl
  have he := h1.q.ent i hi
  have c1 : w.cell? ⟨(f i).g, 1, none⟩ = some (.int .u64 (f i).til) := row_cell he 1
  have c2 : w.cell? ⟨(f i).g, 2, none⟩ = some (.int .i64 i) := row_cell he 2
  have f1 : w.frozen? ⟨(f i).g, 1, none⟩ = false := row_frozen he 1
  have hgp : p ≠ (f i).g := row_ne h1.hp he (by decide)
  have hcx : Cx (w.setCell ⟨(f i).g, 1, none⟩ (.int .u64 t)).drew p r cap n (.map (some b)) (rise f i t) := ⟨row_far h1.hp hgp _, ⟨(hq.rise hi t).row, (hq.rise hi t).ent, (hq.rise hi t).inj⟩⟩
  have HF := Lib.hid (fix_calls hcx hi (DownI.rise h1.hh hi hlt) (by omega))
  have HK1 : Hid (Kp (One (f i).g) w (w.setCell ⟨(f i).g, 1, none⟩ (.int .u64 t)).drew) := Lib.hid (Kp.drew (Kp.setCell (p := ⟨(f i).g, 1, none⟩) (Kp.refl _ w) (by exact .inl rfl) _))
  have HEnd : Hid (∀ w2, FxE (w.setCell ⟨(f i).g, 1, none⟩ (.int .u64 t)).drew w2 p r cap n (.map (some b)) (rise f i t) → PtE w w2 p X (setK S (f i).key t)) := Lib.hid (fun w2 h => PtE.old h1 h2 h3 hX hi HK1.out h)
  clear h1 h2 h3 hX hl hcx hq HK1 hm
  have c3 : (w.setCell ⟨(f i).g, 1, none⟩ (.int .u64 t)).cell? ⟨(f i).g, 2, none⟩ = some (.int .i64 i) := row_cell (row_set he 1 (.int .u64 t)) 2
  clear he
  generalize (f i).g = g at *
  generalize (f i).key = key at *
  generalize (f i).til = u at *
  go_enter Try.func16, Try.ntmps16
  go_wp2_with fail
  go_region_with (go_at_call 21; refine HF.out.mono ?_; rintro e2 w2 ⟨rfl, hE⟩)
  have HE := Lib.hid (HEnd.out w2 hE)
  clear hE HEnd HF hl' c1 c2 f1 hc
  go_wp2
  go_end0
  exact ⟨rfl, HE.out⟩
set_option maxHeartbeats 800000 in
theorem put_less {X : Nat → Prop} {w : World} {p b n : Nat} {v : Value} {f : Nat → Ent} {mp : Value → Option Value} (h1 : C0 w p b v n f mp) (t : Int) {i : Nat} (hi : i < n) (hm : mp (.string (f i).key) = some (f i).ptr) (hlt : ¬ (f i).til < t) :
    Calls Try.prog 16 #[.pointer (some ⟨p, 0, none⟩), .string (f i).key, .int .u64 t] w fun e w' => e = .returned (.tuple #[]) ∧ w = w' := by
  have hc : w.cell? ⟨p, 0, none⟩ = some (.map (some b)) := row_cell h1.hp 0
  have hl := h1.map.lookup (P := Try.prog) (mty := 47) Try.underlying47 Try.underlying9 (zero54 w) (k := .string (f i).key) trivial true
  rw [hm] at hl
  have hl' : (Instr.lookup 47 (.map (some b)) (.string (f i).key) true).run Try.prog w = .ok (.tuple #[.pointer (some ⟨(f i).g, 0, none⟩), .bool true]) w := hl
  have c1 : w.cell? ⟨(f i).g, 1, none⟩ = some (.int .u64 (f i).til) := row_cell (h1.q.ent i hi) 1
  clear h1 hl hm
  generalize (f i).g = g at *
  generalize (f i).key = key at *
  generalize (f i).til = u at *
  go_enter Try.func16, Try.ntmps16
  go_wp2
  go_end0
  exact ⟨rfl, rfl⟩
set_option maxHeartbeats 800000 in
theorem put_calls {X : Nat → Prop} {w : World} {p : Nat} {S : List KU} (h : IsC w p X S) (key : ByteArray) (t : Int) (hn : S.length ≤ 1000) :
    Calls Try.prog 16 #[.pointer (some ⟨p, 0, none⟩), .string key, .int .u64 t] w fun e w' => e = .returned (.tuple #[]) ∧ PtE w w' p X (put S key t) := by
  obtain ⟨b, v, n, f, mp, h1, h2, h3⟩ := h.out
  have hl : n = S.length := IsC.len (w := w) (X := X) (p := p) (b := b) (v := v) (mp := mp) h3
  rcases IsC.look (X := X) h1 h3 key with ⟨hg, hm⟩ | ⟨i, hi, rfl, hg, hm⟩
  · refine (put_new h1 h2 h3 h.lt key t (by omega) hm).mono ?_
    rintro e w' ⟨rfl, hE⟩
    refine ⟨rfl, ?_⟩
    unfold put; rw [hg]; exact hE
  · by_cases hlt : (f i).til < t
    · refine (put_old h1 h2 h3 h.lt t (by omega) hi hm hlt).mono ?_
      rintro e w' ⟨rfl, hE⟩
      refine ⟨rfl, ?_⟩
      unfold put; rw [hg]; simp only [if_pos hlt]; exact hE
    · refine (put_less (X := X) h1 t hi hm hlt).mono ?_
      rintro e w' ⟨rfl, rfl⟩
      refine ⟨rfl, ?_⟩
      unfold put; rw [hg]; simp only [if_neg hlt]
      exact ⟨h.stay (Nat.le_refl _), Kp.refl _ _⟩
end Go.Proofs.Ytgleankpalihaaa
