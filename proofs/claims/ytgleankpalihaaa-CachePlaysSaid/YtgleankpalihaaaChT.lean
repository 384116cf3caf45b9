/- Cache: Expire. -/
import Derived.Test.YtgleankpalihaaaChE
namespace Go.Proofs.Ytgleankpalihaaa
open Go.RowKit Go.MapKept
set_option linter.unusedSimpArgs false
set_option linter.unusedVariables false
def left (S : List KU) (now : Int) : List KU := S.filter (fun e => decide (now < e.2))
theorem IsC.perm {X : Nat → Prop} {w : World} {p : Nat} {S T : List KU} (h : IsC w p X S) (hp : S.Perm T) : IsC w p X T := by
  obtain ⟨⟨b, v, n, f, mp, h1, h2, h3⟩, h4⟩ := h
  exact ⟨⟨b, v, n, f, mp, h1, h2, h3.trans hp⟩, h4⟩
structure XpR (w W : World) (p : Nat) (X : Nat → Prop) (S : List KU) (now : Int) (c : Nat) (T : List KU) : Prop where
  is : IsC W p X T
  kp : Kp X w W
  cnt : c + T.length = S.length
  same : (left T now).Perm (left S now)
set_option maxHeartbeats 800000 in
/-- the top goes -/
theorem XpR.pop {w W W2 W3 : World} {p b r cap m c : Nat} {X : Nat → Prop} {S : List KU} {now : Int} {f : Nat → Ent} {mp : Value → Option Value}
    (h1 : C0 W p b (.slice (some ⟨r, 0, none⟩) (m + 1 : Nat) cap) (m + 1) f mp) (h2 : ∀ k, CB p b (.slice (some ⟨r, 0, none⟩) (m + 1 : Nat) cap) (m + 1) f k → X k) (hX : ∀ k, X k → k < W.heap.size)
    (hk : Kp X w W) (hc : c + (m + 1) = S.length) (hs : (left ((List.range (m + 1)).map (fun i => (f i).ku)) now).Perm (left S now)) (htop : ¬ now < (f 0).til)
    (hE : PoE W W2 p r cap m (.map (some b)) f) (hM : MapIs W3 .string b (del mp (.string (f 0).key)) m) (hK3 : Kp (One b) W2 W3) : ∃ T, XpR w W3 p X S now (c + 1) T := by
  obtain ⟨f', hp, hq, hh, hperm, hK, _⟩ := hE.out
  have hB : ∀ k, (k = p ∨ QB r (m + 1) f k) → X k := by
    rintro k (q | q | ⟨i, hi, q⟩)
    · exact h2 k (.inl q)
    · exact h2 k (.inr (.inr (.inl (by rw [q]; rfl))))
    · exact h2 k (.inr (.inr (.inr ⟨i, hi, q⟩)))
  have hmem : ∀ i, i < m → ∃ l, l < m + 1 ∧ f' i = f l ∧ l ≠ 0 := by
    intro i hi
    have hnd : ((List.range (m + 1)).map f).Nodup := by
      rw [List.nodup_iff_pairwise_ne, List.pairwise_map]
      refine List.Pairwise.imp_of_mem ?_ (List.nodup_iff_pairwise_ne.1 (List.nodup_range (n := m + 1)))
      intro a c ha hc hac q
      exact hac (h1.q.inj a c (List.mem_range.1 ha) (List.mem_range.1 hc) (by rw [q]))
    have hnd' := (hperm.nodup_iff).2 hnd
    have hin : f' i ∈ (List.range m).map f' := List.mem_map.2 ⟨i, List.mem_range.2 hi, rfl⟩
    have hall : f' i ∈ (List.range (m + 1)).map f := hperm.mem_iff.1 (by simp only [List.mem_append]; exact .inl hin)
    obtain ⟨l, hl, e⟩ := List.mem_map.1 hall
    refine ⟨l, List.mem_range.1 hl, e.symm, ?_⟩
    rintro rfl
    rw [List.nodup_append] at hnd'
    exact hnd'.2.2 _ hin _ (by simp) e.symm
  have hmem' : ∀ l, l < m + 1 → l ≠ 0 → ∃ i, i < m ∧ f l = f' i := by
    intro l hl h0
    have hall : f l ∈ (List.range m).map f' ++ [f 0] := hperm.mem_iff.2 (List.mem_map.2 ⟨l, List.mem_range.2 hl, rfl⟩)
    rcases List.mem_append.1 hall with q | q
    · obtain ⟨i, hi, e⟩ := List.mem_map.1 q
      exact ⟨i, List.mem_range.1 hi, e.symm⟩
    · have : f l = f 0 := by simpa using q
      exact absurd (h1.q.inj l 0 hl (by omega) (by rw [this])) h0
  have hkinj : ∀ i j, i < m → j < m → (f' i).key = (f' j).key → i = j := by
    intro i j hi hj q
    obtain ⟨l, hl, e, _⟩ := hmem i hi
    obtain ⟨k, hk, e', _⟩ := hmem j hj
    have : l = k := h1.kinj l k hl hk (by rw [← e, ← e']; exact q)
    exact hq.inj i j hi hj (by rw [e, e', this])
  have hkeys : KeyMap (del mp (.string (f 0).key)) m f' := by
    intro k u
    by_cases hk0 : k = (f 0).key
    · subst hk0
      rw [del_same]
      constructor
      · intro q; cases q
      · rintro ⟨i, hi, q, _⟩
        obtain ⟨l, hl, e, h0⟩ := hmem i hi
        exact absurd (h1.kinj l 0 hl (by omega) (by rw [← e]; exact q)) h0
    · rw [del_other _ (fun q => hk0 (by cases q; rfl)), h1.keys k u]
      constructor
      · rintro ⟨l, hl, q, hu⟩
        have h0 : l ≠ 0 := by rintro rfl; exact hk0 q.symm
        obtain ⟨i, hi, e⟩ := hmem' l hl h0
        exact ⟨i, hi, by rw [← e]; exact q, by rw [← e]; exact hu⟩
      · rintro ⟨i, hi, q, hu⟩
        obtain ⟨l, hl, e, _⟩ := hmem i hi
        exact ⟨l, hl, by rw [← e]; exact q, by rw [← e]; exact hu⟩
  have hbp : b ≠ p := h1.map.ne_row h1.hp
  have hC0 : C0 W2 p b (.slice (some ⟨r, 0, none⟩) m cap) m f' mp → True := fun _ => trivial
  have hp3 : W3.heap[p]? = some (.cells #[.map (some b), .slice (some ⟨r, 0, none⟩) m cap] 51 (0, 0)) := hK3.blk hp (fun q => hbp q.symm)
  have hq3 : Qv W3 (.slice (some ⟨r, 0, none⟩) m cap) m f' := by
    refine hq.kp hK3 ?_ ?_
    · intro g hg q
      obtain ⟨ds, hd⟩ := h1.q.block (k := g) hg
      exact h1.map.ne_row hd q.symm
    · intro i hi q
      obtain ⟨l, hl, e, _⟩ := hmem i hi
      rw [e] at q
      exact h1.map.ne_row (h1.q.ent l hl) q.symm
  have hkp : Kp X w W3 := (hk.trans (hK.mono (fun k _ q => hB k q))).trans (hK3.mono (fun k _ q => h2 k (.inr (.inl q))))
  have hsz : W.heap.size ≤ W3.heap.size := Nat.le_trans hK.size hK3.size
  have hku : ((List.range m).map (fun i => (f' i).ku) ++ [(f 0).ku]).Perm ((List.range (m + 1)).map (fun i => (f i).ku)) := by
    have := hperm.map Ent.ku
    rw [List.map_append, List.map_map, List.map_map] at this
    exact this
  refine ⟨(List.range m).map (fun i => (f' i).ku), ⟨⟨b, _, m, f', _, ⟨hp3, hq3, hh, hM, hkeys, hkinj⟩, ?_, List.Perm.refl _⟩, fun k hk => Nat.lt_of_lt_of_le (hX k hk) hsz⟩, hkp, by simp; omega, ?_⟩
  · rintro k (q | q | q | ⟨i, hi, q⟩)
    · exact h2 k (.inl q)
    · exact h2 k (.inr (.inl q))
    · exact h2 k (.inr (.inr (.inl q)))
    · obtain ⟨l, hl, e, _⟩ := hmem i hi
      exact h2 k (.inr (.inr (.inr ⟨l, hl, by rw [q, e]⟩)))
  · refine List.Perm.trans ?_ hs
    have h := hku.filter (fun e => decide (now < e.2))
    rw [List.filter_append] at h
    have h0 : [(f 0).ku].filter (fun e => decide (now < e.2)) = [] := by simp [Ent.ku, htop]
    rw [h0, List.append_nil] at h
    exact h
/-- what Expire leaves -/
structure XpE (w W : World) (p : Nat) (X : Nat → Prop) (S : List KU) (now : Int) : Prop where
  is : IsC W p X (left S now)
  kp : Kp X w W
theorem XpR.done {w W : World} {p : Nat} {X : Nat → Prop} {S : List KU} {now : Int} {c : Nat} {T : List KU} (h : XpR w W p X S now c T) (ht : ∀ y ∈ T, now < y.2) :
    c + (left S now).length = S.length ∧ XpE w W p X S now := by
  have hT : left T now = T := List.filter_eq_self.2 (fun y hy => by simpa using ht y hy)
  have hs := h.same
  rw [hT] at hs
  exact ⟨by rw [← hs.length_eq]; exact h.cnt, h.is.perm hs, h.kp⟩
set_option maxHeartbeats 800000 in
theorem expire_calls {X : Nat → Prop} {w : World} {p : Nat} {S : List KU} (h : IsC w p X S) (now : Int) (hn : S.length ≤ 1000) :
    Calls Try.prog 17 #[.pointer (some ⟨p, 0, none⟩), .int .u64 now] w fun e w' => (∃ c : Nat, e = .returned (.int .i64 c) ∧ c + (left S now).length = S.length) ∧ XpE w w' p X S now := by
  have H0 : Hid (XpR w w p X S now 0 S) := Lib.hid ⟨h, Kp.refl _ _, by omega, List.Perm.refl _⟩
  clear h
  go_enter Try.func17, Try.ntmps17
  go_wp2_with fail
  go_loopw [5] (fun v W => ∃ (c : Nat) (T : List KU), v = .int .i64 c ∧ XpR w W p X S now c T) (fun v _ => S.length - (intOf v).toNat)
  case atStart => exact ⟨0, S, rfl, H0.out⟩
  case round =>
    obtain ⟨c, T, rfl, hR⟩ := hrel
    clear H0
    have HR := Lib.hid hR
    obtain ⟨b, v, n, f, mp, h1, h2, h3⟩ := hR.is.out
    have hl : n = T.length := IsC.len (w := w) (X := X) (p := p) (b := b) (v := v) (mp := mp) h3
    have hcn := hR.cnt
    cases n with
    | zero =>
      obtain ⟨A, cap, rfl⟩ := h1.q.shape
      have hc : wr.cell? ⟨p, 1, none⟩ = some (.slice A 0 cap) := row_cell h1.hp 1
      have hE := Lib.hid (HR.out.done (by intro y hy; have := List.length_pos_of_mem hy; omega))
      clear hR h1 h2 h3 HR hl hcn
      go_wp2
      go_ret
      exact ⟨⟨c, rfl, hE.out.1⟩, hE.out.2⟩
    | succ m =>
      have hn0 : 0 < m + 1 := by omega
      have hL := (h1.least h3 hn0)
      obtain ⟨r, cap, rfl, hq⟩ := h1.q.qs hn0
      obtain ⟨cur, hr, hnc, hcm, hsz, hcur⟩ := hq.row
      have hc : wr.cell? ⟨p, 1, none⟩ = some (.slice (some ⟨r, 0, none⟩) (m + 1 : Nat) cap) := row_cell h1.hp 1
      have h0 : wr.cell? ⟨r, 0, none⟩ = some (.pointer (some ⟨(f 0).g, 0, none⟩)) := by rw [row_cell hr]; exact hcur 0 hn0
      have hu : wr.cell? ⟨(f 0).g, 1, none⟩ = some (.int .u64 (f 0).til) := row_cell (hq.ent 0 hn0) 1
      have hn1 : (0 : Int) < ((m + 1 : Nat) : Int) := by omega
      by_cases hlt : now < (f 0).til
      · have hE := Lib.hid (HR.out.done (by
          intro y hy
          have := (least_is hL).2 y hy
          have hy2 : ¬ y.2 < (f 0).til := fun q => this (.inl q)
          omega))
        have hnle : ¬ (f 0).til ≤ now := by omega
        generalize (f 0).g = g0 at *
        generalize (f 0).til = u0 at *
        clear hR h1 h2 h3 HR hL hq hr hcur hl hcn
        go_wp2
        go_ret
        exact ⟨⟨c, rfl, hE.out.1⟩, hE.out.2⟩
      · have hle : (f 0).til ≤ now := by omega
        have hPop := Lib.hid (pop_calls (x := .map (some b)) ⟨h1.hp, hq⟩ h1.hh (by omega))
        have hsame := hR.same
        have hfin : ∀ W2 W3, PoE wr W2 p r cap m (.map (some b)) f → MapIs W3 .string b (del mp (.string (f 0).key)) m → Kp (One b) W2 W3 → ∃ T, XpR w W3 p X S now (c + 1) T := fun W2 W3 hE hM hK =>
          XpR.pop h1 h2 hR.is.lt hR.kp (by omega) ((h3.filter _).trans hsame) hlt hE hM hK
        have hmapk : ∀ W2, PoE wr W2 p r cap m (.map (some b)) f → W2.heap[p]? = some (.cells #[.map (some b), .slice (some ⟨r, 0, none⟩) m cap] 51 (0, 0)) ∧ W2.cell? ⟨(f 0).g, 0, none⟩ = some (.string (f 0).key) ∧ MapIs W2 .string b mp (m + 1) := by
          intro W2 hE
          obtain ⟨f', hp, _, _, _, hK, u, hg⟩ := hE.out
          refine ⟨hp, row_cell hg 0, h1.map.kp hK ?_⟩
          rintro (q | q | ⟨i, hi, q⟩)
          · exact h1.map.ne_row h1.hp q
          · exact h1.map.ne_row hr q
          · exact h1.map.ne_row (h1.q.ent i hi) q
        have hmk : mp (.string (f 0).key) = some (f 0).ptr := (h1.keys _ _).2 ⟨0, hn0, rfl, rfl⟩
        have HFin := Lib.hid hfin
        have hcs : c < S.length := by omega
        have HMap := Lib.hid hmapk
        have hasr := assert54 (f 0).g
        clear hR h1 h2 h3 HR hL hq hr hcur hl hsame hfin hmapk
        go_wp2_with fail
        refine hPop.out.mono ?_
        rintro e1 w1 ⟨rfl, hE⟩
        obtain ⟨hp1, hk1, hM1⟩ := HMap.out _ hE
        have hc1 : w1.cell? ⟨p, 0, none⟩ = some (.map (some b)) := row_cell hp1 0
        have HE := Lib.hid hE
        have HM := Lib.hid hM1
        clear hE hM1 hp1 hPop HMap hc h0 hu
        have hMd : MapIs w1.drew .string b mp (m + 1) := HM.out.of_heap rfl
        have HMd := Lib.hid hMd
        clear hMd
        go_wp2_with fail
        go_region_law (refine step_delete_is rfl 47 (.tmp 37) (.tmp 41) rfl Try.underlying47 Try.underlying9 (by simp [Act.eval, Act.put]) HMd.out (.string (f 0).key) (by simp [Act.eval, Act.put]) trivial ?_; intro w2 hM2 hg2 hs2)
        all_goals
          rw [hmk] at hM2
          obtain ⟨T', hT⟩ := HFin.out w1 w2 HE.out hM2 ((Kp.refl (One b) w1).drew.grown hg2 (fun k hk => .inl (by cases hk; rfl)))
          have HT := Lib.hid hT
          have hw : wrap64 ((c : Int) + 1) = ((c + 1 : Nat) : Int) := by unfold wrap64; omega
          clear hM2 hg2 hs2 HE HM HMd HFin hasr hT hk1 hc1 hmk
          go_wp2_with fail
          go_roundw
          case rel => exact ⟨c + 1, T', by go_num, HT.out⟩
          case measure => simp [intOf]; omega
end Go.Proofs.Ytgleankpalihaaa
