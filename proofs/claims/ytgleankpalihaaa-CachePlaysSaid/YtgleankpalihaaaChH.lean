/- Cache: plain facts of the heap's order. -/
import Derived.Test.YtgleankpalihaaaChS
namespace Go.Proofs.Ytgleankpalihaaa
open Go.RowKit Go.MapKept
set_option linter.unusedSimpArgs false
set_option linter.unusedVariables false

theorem u8_lt (a b : UInt8) : a < b ↔ a.toNat < b.toNat := UInt8.lt_iff_toNat_lt
theorem bl_cons (a b : UInt8) (x y : List UInt8) : Op.bytesLess (a :: x) (b :: y) = true ↔ a.toNat < b.toNat ∨ a = b ∧ Op.bytesLess x y = true := by
  simp [Op.bytesLess, u8_lt]
theorem bl_irr : ∀ x, Op.bytesLess x x = false
  | [] => rfl
  | a :: x => by
    cases h : Op.bytesLess (a :: x) (a :: x) with
    | false => rfl
    | true =>
      rw [bl_cons] at h
      rcases h with h | ⟨_, h⟩
      · omega
      · rw [bl_irr x] at h; cases h
theorem bl_trans : ∀ x y z, Op.bytesLess x y = true → Op.bytesLess y z = true → Op.bytesLess x z = true
  | _, [], _, h, _ => by cases ‹List UInt8› <;> simp [Op.bytesLess] at h
  | _, _ :: _, [], _, h => by simp [Op.bytesLess] at h
  | [], _ :: _, _ :: _, _, _ => rfl
  | a :: x, b :: y, c :: z, h, k => by
    rw [bl_cons] at h k ⊢
    rcases h with h | ⟨rfl, h⟩ <;> rcases k with k | ⟨rfl, k⟩
    · exact .inl (by omega)
    · exact .inl h
    · exact .inl k
    · exact .inr ⟨rfl, bl_trans x y z h k⟩
theorem bl_tri : ∀ x y, Op.bytesLess x y = true ∨ x = y ∨ Op.bytesLess y x = true
  | [], [] => .inr (.inl rfl)
  | [], _ :: _ => .inl rfl
  | _ :: _, [] => .inr (.inr rfl)
  | a :: x, b :: y => by
    rw [bl_cons, bl_cons]
    by_cases h : a = b
    · subst h
      rcases bl_tri x y with h | rfl | h
      · exact .inl (.inr ⟨rfl, h⟩)
      · exact .inr (.inl rfl)
      · exact .inr (.inr (.inr ⟨rfl, h⟩))
    · have : a.toNat ≠ b.toNat := fun q => h (UInt8.toNat_inj.1 q)
      rcases Nat.lt_or_gt_of_ne this with q | q
      · exact .inl (.inl q)
      · exact .inr (.inr (.inl q))
theorem toList_inj {a b : ByteArray} (h : a.toList = b.toList) : a = b := by
  rw [ByteArray.toList_eq, ByteArray.toList_eq] at h
  exact ByteArray.ext (Array.toList_inj.1 h)
def klt (ka : ByteArray) (ua : Int) (kb : ByteArray) (ub : Int) : Prop := ua < ub ∨ ua = ub ∧ Op.bytesLess ka.toList kb.toList = true
theorem cmpS_neg (a b : ByteArray) : cmpS a b < 0 ↔ Op.bytesLess a.toList b.toList = true := by
  unfold cmpS
  split
  · simp_all
  · split <;> simp_all
theorem lessB_iff (ki kj : ByteArray) (ui uj : Int) : lessB ki kj ui uj = true ↔ klt ki ui kj uj := by
  unfold lessB klt orI cmpI
  rw [decide_eq_true_iff]
  by_cases h1 : ui < uj
  · simp [h1]
  · by_cases h2 : uj < ui
    · rw [if_neg h1, if_pos h2]; simp; omega
    · rw [if_neg h1, if_neg h2]
      have h3 : ui = uj := by omega
      simp [h1, h3, cmpS_neg]
def Ent.lt (a b : Ent) : Bool := lessB a.key b.key a.til b.til
theorem Ent.lt_iff (a b : Ent) : a.lt b = true ↔ klt a.key a.til b.key b.til := lessB_iff _ _ _ _
theorem Ent.lt_false (a b : Ent) : a.lt b = false ↔ ¬ klt a.key a.til b.key b.til := by rw [← Ent.lt_iff]; simp
theorem klt_irr (k : ByteArray) (u : Int) : ¬ klt k u k u := by
  rintro (h | ⟨_, h⟩)
  · omega
  · rw [bl_irr] at h; cases h
theorem klt_trans {a b c : ByteArray} {u v t : Int} (h : klt a u b v) (k : klt b v c t) : klt a u c t := by
  rcases h with h | ⟨rfl, h⟩ <;> rcases k with k | ⟨rfl, k⟩
  · exact .inl (by omega)
  · exact .inl h
  · exact .inl k
  · exact .inr ⟨rfl, bl_trans _ _ _ h k⟩
theorem klt_tri (a b : ByteArray) (u v : Int) : klt a u b v ∨ (a = b ∧ u = v) ∨ klt b v a u := by
  rcases Int.lt_trichotomy u v with h | rfl | h
  · exact .inl (.inl h)
  · rcases bl_tri a.toList b.toList with h | h | h
    · exact .inl (.inr ⟨rfl, h⟩)
    · exact .inr (.inl ⟨toList_inj h, rfl⟩)
    · exact .inr (.inr (.inr ⟨rfl, h⟩))
  · exact .inr (.inr (.inl h))
/-- not less, and on: b ≤ a, c ≤ b: c ≤ a -/
theorem nklt_trans {a b c : ByteArray} {u v t : Int} (h : ¬ klt a u b v) (k : ¬ klt b v c t) : ¬ klt a u c t := by
  intro q
  rcases klt_tri a b u v with p | ⟨rfl, rfl⟩ | p
  · exact h p
  · exact k q
  · exact k (klt_trans p q)
theorem Ent.le_trans {a b c : Ent} (h : a.lt b = false) (k : b.lt c = false) : a.lt c = false := by
  rw [Ent.lt_false] at *; exact nklt_trans h k
theorem Ent.le_of_lt {a b : Ent} (h : a.lt b = true) : b.lt a = false := by
  rw [Ent.lt_false]; rw [Ent.lt_iff] at h
  exact fun q => klt_irr _ _ (klt_trans h q)
theorem Ent.le_refl (a : Ent) : a.lt a = false := by rw [Ent.lt_false]; exact klt_irr _ _

/-! ### the heap -/
def par (k : Nat) : Nat := (k - 1) / 2
def Heap (f : Nat → Ent) (n : Nat) : Prop := ∀ k, 0 < k → k < n → (f k).lt (f (par k)) = false
theorem Heap.top {f : Nat → Ent} {n : Nat} (h : Heap f n) : ∀ k, k < n → (f k).lt (f 0) = false := by
  intro k
  induction k using Nat.strongRecOn with
  | ind k ih =>
    intro hk
    by_cases h0 : k = 0
    · rw [h0]; exact Ent.le_refl _
    · have hp : par k < k := by unfold par; omega
      exact Ent.le_trans (h k (by omega) hk) (ih _ hp (by omega))
structure UpI (f : Nat → Ent) (n j : Nat) : Prop where
  lt : j < n
  rest : ∀ k, 0 < k → k < n → k ≠ j → (f k).lt (f (par k)) = false
  kids : ∀ c, 0 < c → c < n → par c = j → 0 < j → (f c).lt (f (par j)) = false
theorem UpI.of_heap {f : Nat → Ent} {n j : Nat} (h : Heap f n) (hj : j < n) : UpI f n j :=
  ⟨hj, fun k h0 hk _ => h k h0 hk, fun c h0 hc hp hj0 => Ent.le_trans (b := f j) (by have := h c h0 hc; rwa [hp] at this) (h j hj0 hj)⟩
theorem UpI.done {f : Nat → Ent} {n j : Nat} (h : UpI f n j) (hd : 0 < j → (f j).lt (f (par j)) = false) : Heap f n := by
  intro k h0 hk
  by_cases q : k = j
  · subst q; exact hd h0
  · exact h.rest k h0 hk q
theorem swf_l (f : Nat → Ent) (i j : Nat) : swf f i j i = f j := by simp [swf]
theorem swf_r (f : Nat → Ent) (i j : Nat) : swf f i j j = f i := by unfold swf; split <;> simp_all
theorem swf_o (f : Nat → Ent) {i j k : Nat} (h1 : k ≠ i) (h2 : k ≠ j) : swf f i j k = f k := by simp [swf, h1, h2]
theorem UpI.step {f : Nat → Ent} {n j : Nat} (h : UpI f n j) (h0 : 0 < j) (hl : (f j).lt (f (par j)) = true) : UpI (swf f (par j) j) n (par j) := by
  have hpj : par j < j := by unfold par; omega
  refine ⟨by have := h.lt; omega, ?_, ?_⟩
  · intro k hk0 hk hkp
    by_cases q : k = j
    · rw [q, swf_r, swf_l]
      exact Ent.le_of_lt hl
    · rw [swf_o f hkp q]
      by_cases q2 : par k = j
      · rw [q2, swf_r]
        exact h.kids k hk0 hk q2 h0
      · by_cases q3 : par k = par j
        · rw [q3, swf_l]
          have := h.rest k hk0 hk q
          rw [q3] at this
          exact Ent.le_trans this (Ent.le_of_lt hl)
        · rw [swf_o f q3 q2]
          exact h.rest k hk0 hk q
  · intro c hc0 hc hcp hp0
    have hpp : par (par j) ≠ par j := by unfold par at *; omega
    have hppj : par (par j) ≠ j := by unfold par at *; omega
    rw [swf_o f hpp hppj]
    have hb : (f (par j)).lt (f (par (par j))) = false := h.rest _ hp0 (by have := h.lt; omega) (by omega)
    by_cases q : c = j
    · rw [q, swf_r]; exact hb
    · have hcpj : c ≠ par j := by unfold par at *; omega
      rw [swf_o f hcpj q]
      have := h.rest c hc0 hc q
      rw [hcp] at this
      exact Ent.le_trans this hb
structure DownI (f : Nat → Ent) (m i : Nat) : Prop where
  rest : ∀ k, 0 < k → k < m → par k ≠ i → (f k).lt (f (par k)) = false
  kids : ∀ c, 0 < c → c < m → par c = i → 0 < i → (f c).lt (f (par i)) = false
theorem DownI.done {f : Nat → Ent} {m i : Nat} (h : DownI f m i) (hd : ∀ c, 0 < c → c < m → par c = i → (f c).lt (f i) = false) : Heap f m := by
  intro k h0 hk
  by_cases q : par k = i
  · rw [q]; exact hd k h0 hk q
  · exact h.rest k h0 hk q
theorem DownI.step {f : Nat → Ent} {m i j : Nat} (h : DownI f m i) (hj0 : 0 < j) (hj : j < m) (hp : par j = i) (hl : (f j).lt (f i) = true)
    (hmin : ∀ c, 0 < c → c < m → par c = i → (f c).lt (f j) = false) : DownI (swf f i j) m j := by
  have hij : i < j := by unfold par at hp; omega
  refine ⟨?_, ?_⟩
  · intro k hk0 hk hkp
    by_cases q : k = j
    · rw [q, hp, swf_r, swf_l]
      exact Ent.le_of_lt hl
    · by_cases q1 : k = i
      · rw [q1, swf_l]
        have h1 : par i ≠ i := by unfold par; omega
        have h2 : par i ≠ j := by unfold par; omega
        rw [swf_o f h1 h2]
        exact h.kids j hj0 hj hp (by omega)
      · rw [swf_o f q1 q]
        by_cases q2 : par k = i
        · rw [q2, swf_l]
          exact hmin k hk0 hk q2
        · rw [swf_o f q2 hkp]
          exact h.rest k hk0 hk q2
  · intro c hc0 hc hcp _
    have h1 : c ≠ i := by unfold par at *; omega
    have h2 : c ≠ j := by unfold par at *; omega
    rw [hp, swf_l, swf_o f h1 h2]
    have := h.rest c hc0 hc (by omega)
    rwa [hcp] at this
/-! ### what is moved stays -/
structure Prm (m : Nat) (f f' : Nat → Ent) : Prop where
  far : ∀ k, m ≤ k → f' k = f k
  perm : ((List.range m).map f').Perm ((List.range m).map f)
theorem Prm.refl (m : Nat) (f : Nat → Ent) : Prm m f f := ⟨fun _ _ => rfl, List.Perm.refl _⟩
theorem Prm.trans {m : Nat} {f g h : Nat → Ent} (a : Prm m f g) (b : Prm m g h) : Prm m f h := ⟨fun k hk => (b.far k hk).trans (a.far k hk), b.perm.trans a.perm⟩
def sw (i j k : Nat) : Nat := if k = i then j else if k = j then i else k
theorem swf_eq (f : Nat → Ent) (i j : Nat) : swf f i j = f ∘ sw i j := by
  funext k
  unfold swf sw
  simp only [Function.comp]
  split
  · rfl
  · split <;> rfl
theorem sw_perm {i j m : Nat} (hi : i < m) (hj : j < m) : ((List.range m).map (sw i j)).Perm (List.range m) := by
  have inv : ∀ k, sw i j (sw i j k) = k := by
    intro k; unfold sw; split
    · split
      · omega
      · simp; omega
    · split
      · simp; omega
      · simp_all
  have lt : ∀ k, k < m → sw i j k < m := by
    intro k hk; unfold sw; split
    · exact hj
    · split
      · exact hi
      · exact hk
  rw [List.perm_ext_iff_of_nodup]
  · intro a
    simp only [List.mem_map, List.mem_range]
    constructor
    · rintro ⟨k, hk, rfl⟩; exact lt k hk
    · intro ha; exact ⟨sw i j a, lt a ha, inv a⟩
  · rw [List.nodup_iff_pairwise_ne, List.pairwise_map]
    refine List.Pairwise.imp ?_ (List.nodup_iff_pairwise_ne.1 (List.nodup_range (n := m)))
    intro a b hab q
    apply hab
    rw [← inv a, ← inv b, q]
  · exact List.nodup_range
theorem Prm.swap {i j m : Nat} (f : Nat → Ent) (hi : i < m) (hj : j < m) : Prm m f (swf f i j) := by
  refine ⟨fun k hk => swf_o f (by omega) (by omega), ?_⟩
  rw [swf_eq, ← List.map_map]
  exact (sw_perm hi hj).map f
theorem Prm.more {m n : Nat} {f f' : Nat → Ent} (h : Prm m f f') (hmn : m ≤ n) : Prm n f f' := by
  refine ⟨fun k hk => h.far k (by omega), ?_⟩
  obtain ⟨d, rfl⟩ : ∃ d, n = m + d := ⟨n - m, by omega⟩
  rw [List.range_add, List.map_append, List.map_append]
  refine List.Perm.append h.perm ?_
  rw [List.map_map, List.map_map]
  apply List.Perm.of_eq
  apply List.map_congr_left
  intro k _
  exact h.far (m + k) (Nat.le_add_right _ _)
theorem Prm.mem {m : Nat} {f f' : Nat → Ent} (h : Prm m f f') {k : Nat} (hk : k < m) : ∃ l, l < m ∧ f' k = f l := by
  have : f' k ∈ (List.range m).map f' := List.mem_map.2 ⟨k, List.mem_range.2 hk, rfl⟩
  obtain ⟨l, hl, e⟩ := List.mem_map.1 (h.perm.mem_iff.1 this)
  exact ⟨l, List.mem_range.1 hl, e.symm⟩
theorem Prm.mem' {m : Nat} {f f' : Nat → Ent} (h : Prm m f f') {k : Nat} (hk : k < m) : ∃ l, l < m ∧ f k = f' l := by
  have : f k ∈ (List.range m).map f := List.mem_map.2 ⟨k, List.mem_range.2 hk, rfl⟩
  obtain ⟨l, hl, e⟩ := List.mem_map.1 (h.perm.mem_iff.2 this)
  exact ⟨l, List.mem_range.1 hl, e.symm⟩
end Go.Proofs.Ytgleankpalihaaa
