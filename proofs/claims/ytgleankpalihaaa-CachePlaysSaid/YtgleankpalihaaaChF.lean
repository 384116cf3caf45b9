/- Cache: heap.Push, Fix, Pop over the queue. -/
import Derived.Test.YtgleankpalihaaaChD
namespace Go.Proofs.Ytgleankpalihaaa
open Go.RowKit Go.MapKept
set_option linter.unusedSimpArgs false
set_option linter.unusedVariables false
/-- what Push leaves -/
structure PuE (w W : World) (p n : Nat) (x v : Value) (f : Nat → Ent) (e : Ent) : Prop where
  out : ∃ r cap f', Cx W p r cap (n + 1) x f' ∧ Heap f' (n + 1) ∧ Prm (n + 1) (addf n f e) f' ∧ (v.ownBlock = some r ∨ w.heap.size ≤ r) ∧ Kp (fun k => k = p ∨ k = e.g ∨ v.ownBlock = some k ∨ ∃ i, i < n ∧ k = (f i).g) w W
theorem addf_lt {n : Nat} {f : Nat → Ent} {e : Ent} {k : Nat} (h : k < n) : addf n f e k = f k := by unfold addf; rw [if_neg (by omega)]
theorem addf_n (n : Nat) (f : Nat → Ent) (e : Ent) : addf n f e n = e := by unfold addf; rw [if_pos rfl]
theorem UpI.add {n : Nat} {f : Nat → Ent} (e : Ent) (h : Heap f n) : UpI (addf n f e) (n + 1) n := by
  refine ⟨by omega, ?_, ?_⟩
  · intro k h0 hk hne
    have : par k < n := by unfold par; omega
    rw [addf_lt (by omega), addf_lt this]
    exact h k h0 (by omega)
  · intro c h0 hc hp _
    unfold par at hp; omega
set_option maxHeartbeats 800000 in
theorem push_calls (p n : Nat) (x v : Value) (f : Nat → Ent) (e : Ent) (u : Value) (w : World) (hp : w.heap[p]? = some (.cells #[x, v] 51 (0, 0))) (hq : Qv w v n f) (hn : n ≤ 1000) (hh : Heap f n)
    (he : w.heap[e.g]? = some (.cells #[.string e.key, .int .u64 e.til, u] 53 (0, 0))) (hnew : ∀ k, k < n → (f k).g ≠ e.g) :
    Calls Try.prog 20 #[.iface 59 (.pointer (some ⟨p, 1, none⟩)), .iface 54 (.pointer (some ⟨e.g, 0, none⟩))] w fun r w' => r = .returned (.tuple #[]) ∧ PuE w w' p n x v f e := by
  have hm1 := mPush p
  have HP := Lib.hid (qpush_calls p x v n f e u w hp hq hn he hnew)
  have HUp := Lib.hid (UpI.add e hh)
  have hrow : ∀ k, v.ownBlock = some k → k < w.heap.size := fun k hk => by
    obtain ⟨cs, h⟩ := hq.block hk
    exact row_lt h
  have HRow := Lib.hid hrow
  have hw1 : wrap64 (n : Int) = n := by unfold wrap64; omega
  clear hp hq hh he hnew hrow
  go_enter Try.func20, Try.ntmps20
  go_wp2_with fail
  refine HP.out.mono ?_
  rintro e1 w1 ⟨rfl, v', hp1, hQ1, hK1, hat⟩
  obtain ⟨r, cap, rfl, hqs⟩ := hQ1.qs (Nat.succ_pos n)
  have hC1 : Cx w1 p r cap (n + 1) x (addf n f e) := ⟨hp1, hqs⟩
  have hm2 := mLen hC1.cell
  have HC1 := Lib.hid hC1
  have HK1 := Lib.hid hK1
  have hr : v.ownBlock = some r ∨ r = w.heap.size + 1 := by
    rcases hat with q | q
    · exact .inl (by rw [← q]; rfl)
    · exact .inr (Option.some.inj q)
  have Hr := Lib.hid hr
  clear hp1 hQ1 hK1 hat hqs hC1 HP hm1 hr
  go_wp2_with fail
  refine (qlen_calls _ _ _ _).mono ?_
  rintro e2 w2 ⟨rfl, rfl⟩
  have HU := Lib.hid (up_calls HC1.out HUp.out (by omega))
  clear hm2
  go_wp2_with fail
  refine HU.out.mono ?_
  rintro e3 w3 ⟨rfl, f', hC3, hH3, hP3, hK3⟩
  have HE : PuE w w3 p n x v f e := by
    refine ⟨r, cap, f', hC3, hH3, hP3, ?_, ?_⟩
    · rcases Hr.out with q | q
      · exact .inl q
      · exact .inr (by omega)
    · refine Kp.andThen (HK1.out.mono ?_) hK3 ?_
      · rintro k hk (q | q | q)
        · exact .inl q
        · exact .inr (.inl q)
        · exact .inr (.inr (.inl q))
      · rintro k hk (q | ⟨i, hi, q⟩)
        · rcases Hr.out with q2 | q2
          · exact .inr (.inr (.inl (by rw [q, q2])))
          · omega
        · by_cases hin : i = n
          · rw [hin, addf_n] at q
            exact .inr (.inl q)
          · rw [addf_lt (by omega)] at q
            exact .inr (.inr (.inr ⟨i, by omega, q⟩))
  have H := Lib.hid HE
  clear HE hC3 hH3 hP3 hK3 HC1 HK1 Hr HU HUp HRow
  go_wp2
  go_end0
  exact ⟨rfl, H.out⟩

/-- what Fix leaves -/
structure FxE (w W : World) (p r cap n : Nat) (x : Value) (f : Nat → Ent) : Prop where
  out : ∃ f', Cx W p r cap n x f' ∧ Heap f' n ∧ Prm n f f' ∧ Kp (QB r n f) w W
set_option maxHeartbeats 800000 in
theorem fix_calls {w : World} {p r cap n : Nat} {x : Value} {f : Nat → Ent} (h : Cx w p r cap n x f) {i : Nat} (hi : i < n) (hd : DownI f n i) (hn : n ≤ 2000) :
    Calls Try.prog 21 #[.iface 59 (.pointer (some ⟨p, 1, none⟩)), .int .i64 i] w fun e w' => e = .returned (.tuple #[]) ∧ FxE w w' p r cap n x f := by
  have hm := mLen h.cell
  have HD := Lib.hid (down_calls h hd hn (Nat.le_refl n) (by omega))
  clear h hd
  go_enter Try.func21, Try.ntmps21
  go_wp2_with fail
  refine (qlen_calls _ _ _ _).mono ?_
  rintro e2 w2 ⟨rfl, rfl⟩
  clear hm
  go_wp2_with fail
  refine HD.out.mono ?_
  rintro e3 w3 ⟨b, rfl, hE⟩
  obtain ⟨f', hC, hH, hP, hK⟩ := hE.out
  cases b with
  | true =>
    have HE : FxE w w3 p r cap n x f := ⟨f', hC, hH, hP, hK⟩
    have H := Lib.hid HE
    clear HE hC hH hP hK HD hE
    go_wp2
    go_end0
    exact ⟨rfl, H.out⟩
  | false =>
    have HU := Lib.hid (up_calls hC (UpI.of_heap hH hi) hn)
    have HP := Lib.hid hP
    have HK := Lib.hid hK
    clear hC hH hP hK HD hE
    go_wp2_with fail
    refine HU.out.mono ?_
    rintro e4 w4 ⟨rfl, f2, hC2, hH2, hP2, hK2⟩
    have HE : FxE w w4 p r cap n x f := ⟨f2, hC2, hH2, HP.out.trans hP2, HK.out.trans (hK2.mono (fun k _ q => QB.prm HP.out k q))⟩
    have H := Lib.hid HE
    clear HE hC2 hH2 hP2 hK2 HU HP HK
    go_wp2
    go_end0
    exact ⟨rfl, H.out⟩
/-- what Pop leaves -/
structure PoE (w W : World) (p r cap m : Nat) (x : Value) (f : Nat → Ent) : Prop where
  out : ∃ f', W.heap[p]? = some (.cells #[x, .slice (some ⟨r, 0, none⟩) m cap] 51 (0, 0)) ∧ Qv W (.slice (some ⟨r, 0, none⟩) m cap) m f' ∧ Heap f' m ∧ ((List.range m).map f' ++ [f 0]).Perm ((List.range (m + 1)).map f) ∧
    Kp (fun k => k = p ∨ QB r (m + 1) f k) w W ∧ ∃ u, W.heap[(f 0).g]? = some (.cells #[.string (f 0).key, .int .u64 (f 0).til, u] 53 (0, 0))
theorem DownI.top {f : Nat → Ent} {m : Nat} (h : Heap f (m + 1)) : DownI (swf f 0 m) m 0 := by
  refine ⟨?_, fun c _ _ _ q => absurd q (by omega)⟩
  intro k h0 hk hp
  have : par k < m := by unfold par; omega
  rw [swf_o f (by omega) (by omega), swf_o f hp (by omega)]
  exact h k h0 (by omega)
set_option maxHeartbeats 800000 in
theorem pop_calls {w : World} {p r cap m : Nat} {x : Value} {f : Nat → Ent} (h : Cx w p r cap (m + 1) x f) (hh : Heap f (m + 1)) (hm : m ≤ 1000) :
    Calls Try.prog 22 #[.iface 59 (.pointer (some ⟨p, 1, none⟩))] w fun e w' => e = .returned (.iface 54 (.pointer (some ⟨(f 0).g, 0, none⟩))) ∧ PoE w w' p r cap m x f := by
  have hm1 := mLen h.cell
  have hm2 := mSwap h.cell
  have HS := Lib.hid (swap_q h (i := 0) (j := m) (by omega) (by omega))
  have HT := Lib.hid (DownI.top hh)
  have hw1 : wrap64 (m : Int) = m := by unfold wrap64; omega
  clear h hh
  go_enter Try.func22, Try.ntmps22
  go_wp2_with fail
  refine (qlen_calls _ _ _ _).mono ?_
  rintro e2 w2 ⟨rfl, rfl⟩
  go_wp2_with fail
  refine HS.out.mono ?_
  rintro e3 w3 ⟨rfl, hC3, hK3⟩
  have HD := Lib.hid (down_calls hC3 HT.out (by omega) (Nat.le_succ m) (Nat.zero_le _))
  have HK3 := Lib.hid hK3
  clear hm1 hm2 HS hC3 hK3
  go_wp2_with fail
  refine HD.out.mono ?_
  rintro e4 w4 ⟨b, rfl, hE⟩
  obtain ⟨f', hC, hH, hP, hK⟩ := hE.out
  have hm3 := mPop p
  have HQ := Lib.hid (qpop_calls p r cap m x f' w4 hC.hp hC.q hm)
  have HH := Lib.hid hH
  have HP := Lib.hid hP
  have HK := Lib.hid hK
  clear hE hC hH hP hK HD
  go_wp2_with fail
  refine HQ.out.mono ?_
  rintro e5 w5 ⟨rfl, hp5, hq5, hk5, he5⟩
  have hs : Prm (m + 1) f (swf f 0 m) := Prm.swap f (by omega) (by omega)
  have hfm : f' m = f 0 := by rw [HP.out.far m (Nat.le_refl m), swf_r]
  have hall := hs.trans (HP.out.more (Nat.le_succ m))
  have HE : PoE w w5 p r cap m x f := by
    refine ⟨f', hp5, hq5, HH.out, ?_, ?_, ⟨.int .i64 m, by rw [← hfm]; exact he5⟩⟩
    · have := hall.perm
      rw [List.range_succ, List.map_append] at this
      simpa [hfm, List.range_succ] using this
    · refine (HK3.out.trans (HK.out.mono (fun k _ q => QB.prm hs k q))).mono (fun k _ q => .inr q) |>.trans ?_
      exact hk5.mono (fun k _ q => .inl q)
  have H := Lib.hid HE
  clear HE hp5 hq5 hk5 he5 hs hall HQ HH HP HK HK3 HT hm3
  rw [hfm]
  go_wp2
  go_ret
  exact ⟨rfl, H.out⟩
end Go.Proofs.Ytgleankpalihaaa
