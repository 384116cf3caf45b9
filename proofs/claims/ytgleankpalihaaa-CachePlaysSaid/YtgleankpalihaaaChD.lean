/- Cache: heap's down over the queue (printed by gendown.py). -/
import Derived.Test.YtgleankpalihaaaChV
namespace Go.Proofs.Ytgleankpalihaaa
open Go.RowKit Go.MapKept
set_option linter.unusedSimpArgs false
set_option linter.unusedVariables false
structure DnR (w W : World) (p r cap n m : Nat) (x : Value) (f f' : Nat → Ent) (i : Nat) : Prop where
  cx : Cx W p r cap n x f'
  down : DownI f' m i
  prm : Prm m f f'
  kp : Kp (QB r n f) w W
/-- what down leaves -/
structure DnE (w W : World) (p r cap n m : Nat) (x : Value) (f : Nat → Ent) : Prop where
  out : ∃ f', Cx W p r cap n x f' ∧ Heap f' m ∧ Prm m f f' ∧ Kp (QB r n f) w W
theorem DnR.on {w W W1 : World} {p r cap n m : Nat} {x : Value} {f f' : Nat → Ent} {i : Nat} (h : DnR w W p r cap n m x f f' i) (h1 : Below W.heap.size W W1) : DnR w W1 p r cap n m x f f' i :=
  ⟨h.cx.below h1, h.down, h.prm, h.kp.trans (Kp.of_below h1)⟩
theorem DnR.leaf {w W : World} {p r cap n m : Nat} {x : Value} {f f' : Nat → Ent} {i : Nat} (h : DnR w W p r cap n m x f f' i) (hm : m ≤ 2 * i + 1) : DnE w W p r cap n m x f :=
  ⟨f', h.cx, h.down.done (fun c h0 hc hp => absurd hp (by unfold par; omega)), h.prm, h.kp⟩
theorem DnR.done {w W : World} {p r cap n m : Nat} {x : Value} {f f' : Nat → Ent} {i j : Nat} (h : DnR w W p r cap n m x f f' i) (hj : 0 < j) (hl : (f' j).lt (f' i) = false)
    (hmin : ∀ c, 0 < c → c < m → par c = i → (f' c).lt (f' j) = false) : DnE w W p r cap n m x f :=
  ⟨f', h.cx, h.down.done (fun c h0 hc hp => Ent.le_trans (hmin c h0 hc hp) hl), h.prm, h.kp⟩
theorem DnR.step {w W W2 : World} {p r cap n m : Nat} {x : Value} {f f' : Nat → Ent} {i j : Nat} (h : DnR w W p r cap n m x f f' i) (h0 : 0 < j) (hj : j < m) (hp : par j = i) (hl : (f' j).lt (f' i) = true)
    (hmin : ∀ c, 0 < c → c < m → par c = i → (f' c).lt (f' j) = false) (h2 : Cx W2 p r cap n x (swf f' i j)) (h3 : Kp (QB r n f') W W2) (hmn : m ≤ n := by omega) : DnR w W2 p r cap n m x f (swf f' i j) j := by
  have hi : i < m := by unfold par at hp; omega
  exact ⟨h2, h.down.step h0 hj hp hl hmin, h.prm.trans (Prm.swap f' hi hj), h.kp.trans (h3.mono (fun k _ q => QB.prm (h.prm.more hmn) k q))⟩
set_option maxHeartbeats 800000 in
theorem down_calls {w : World} {p r cap n m : Nat} {x : Value} {f : Nat → Ent} (h : Cx w p r cap n x f) {i0 : Nat} (hd : DownI f m i0) (hn : n ≤ 2000) (hmn : m ≤ n) (hi0 : i0 ≤ 2000) :
    Calls Try.prog 24 #[.iface 59 (.pointer (some ⟨p, 1, none⟩)), .int .i64 i0, .int .i64 m] w fun e w' => ∃ b, e = .returned (.bool b) ∧ DnE w w' p r cap n m x f := by
  have HR : DnR w w p r cap n m x f f i0 := ⟨h, hd, Prm.refl _ _, Kp.refl _ _⟩
  have H0 := Lib.hid HR
  clear HR h hd
  go_enter Try.func24, Try.ntmps24
  go_wp2_with fail
  go_loopw [7] (fun v W => ∃ (i : Nat) (f' : Nat → Ent), v = .int .i64 i ∧ i ≤ 2000 ∧ DnR w W p r cap n m x f f' i) (fun v _ => m - (intOf v).toNat)
  case atStart => exact ⟨i0, f, rfl, hi0, H0.out⟩
  case round =>
    obtain ⟨i, f', rfl, hi, hR⟩ := hrel
    have HR := Lib.hid hR
    clear hR H0
    have hw1 : wrap64 (2 * (i : Int)) = 2 * (i : Int) := by unfold wrap64; omega
    have hw2 : wrap64 (2 * (i : Int) + 1) = 2 * (i : Int) + 1 := by unfold wrap64; omega
    have hw3 : wrap64 (2 * (i : Int) + 1 + 1) = 2 * (i : Int) + 1 + 1 := by unfold wrap64; omega
    have hc1 : ((2 * i + 1 : Nat) : Int) = 2 * (i : Int) + 1 := by omega
    have hc2 : ((2 * i + 2 : Nat) : Int) = 2 * (i : Int) + 1 + 1 := by omega
    by_cases ha : (m : Int) ≤ 2 * (i : Int) + 1
    · have HE := Lib.hid (HR.out.leaf (by omega))
      clear HR
      go_wp2
      go_ret
      exact ⟨_, rfl, HE.out⟩
    · have hin : i < n := by omega
      by_cases hb : 2 * (i : Int) + 1 + 1 < (m : Int)
      · have hm1 := mLess HR.out.cx.cell
        have h1n : 2 * i + 1 < n := by omega
        have h2n : 2 * i + 2 < n := by omega
        have L := less_q HR.out.cx h2n h1n
        rw [hc1, hc2] at L
        have HL := Lib.hid L
        clear L
        go_wp2_with fail
        refine HL.out.mono ?_
        rintro e1 w1 ⟨rfl, hB⟩
        have HR1 := Lib.hid (HR.out.on hB)
        clear hB hm1 HL HR
        cases hl : (f' (2 * i + 2)).lt (f' (2 * i + 1)) with
        | true =>
          have HMIN : Hid (∀ c, 0 < c → c < m → par c = i → (f' c).lt (f' (2 * i + 2)) = false) := Lib.hid (by
            intro c h0 hc hp
            rcases (show c = 2 * i + 1 ∨ c = 2 * i + 2 by unfold par at hp; omega) with rfl | rfl
            · exact Ent.le_of_lt hl
            · exact Ent.le_refl _)
          clear hl
          have hj0 : 2 * i + 2 < m := by omega
          have hjn : 2 * i + 2 < n := by omega
          have L2 := less_q HR1.out.cx hjn hin
          have hm2 := mLess HR1.out.cx.cell
          rw [hc2] at L2
          have HL2 := Lib.hid L2
          clear L2
          go_wp2_with fail
          refine HL2.out.mono ?_
          rintro e3 w3 ⟨rfl, hB3⟩
          have hR3 := HR1.out.on hB3
          have HR3 := Lib.hid hR3
          clear hB3 hm2 HL2
          cases hl3 : (f' (2 * i + 2)).lt (f' i) with
          | false =>
            have Hd := Lib.hid (hR3.done (j := 2 * i + 2) (by omega) hl3 HMIN.out)
            clear hl3 hR3 HR3
            go_wp2
            go_ret
            exact ⟨_, rfl, Hd.out⟩
          | true =>
            have hm4 := mSwap HR3.out.cx.cell
            have S := swap_q HR3.out.cx hin hjn
            rw [hc2] at S
            have HS := Lib.hid S
            have Hl3 := Lib.hid hl3
            clear S hl3 hR3
            go_wp2_with fail
            refine HS.out.mono ?_
            rintro e4 w4 ⟨rfl, hC, hK⟩
            have HF := Lib.hid (HR3.out.step (j := 2 * i + 2) (by omega) hj0 (by unfold par; omega) Hl3.out HMIN.out hC hK)
            clear HR3 Hl3 HS hm4 hC hK HMIN
            go_wp2_with fail
            go_roundw
            case rel => exact ⟨2 * i + 2, _, by rw [hc2], by omega, HF.out⟩
            case measure => simp [intOf]; omega
        | false =>
          have HMIN : Hid (∀ c, 0 < c → c < m → par c = i → (f' c).lt (f' (2 * i + 1)) = false) := Lib.hid (by
            intro c h0 hc hp
            rcases (show c = 2 * i + 1 ∨ c = 2 * i + 2 by unfold par at hp; omega) with rfl | rfl
            · exact Ent.le_refl _
            · exact hl)
          clear hl
          have hj0 : 2 * i + 1 < m := by omega
          have hjn : 2 * i + 1 < n := by omega
          have L2 := less_q HR1.out.cx hjn hin
          have hm2 := mLess HR1.out.cx.cell
          rw [hc1] at L2
          have HL2 := Lib.hid L2
          clear L2
          go_wp2_with fail
          refine HL2.out.mono ?_
          rintro e3 w3 ⟨rfl, hB3⟩
          have hR3 := HR1.out.on hB3
          have HR3 := Lib.hid hR3
          clear hB3 hm2 HL2
          cases hl3 : (f' (2 * i + 1)).lt (f' i) with
          | false =>
            have Hd := Lib.hid (hR3.done (j := 2 * i + 1) (by omega) hl3 HMIN.out)
            clear hl3 hR3 HR3
            go_wp2
            go_ret
            exact ⟨_, rfl, Hd.out⟩
          | true =>
            have hm4 := mSwap HR3.out.cx.cell
            have S := swap_q HR3.out.cx hin hjn
            rw [hc1] at S
            have HS := Lib.hid S
            have Hl3 := Lib.hid hl3
            clear S hl3 hR3
            go_wp2_with fail
            refine HS.out.mono ?_
            rintro e4 w4 ⟨rfl, hC, hK⟩
            have HF := Lib.hid (HR3.out.step (j := 2 * i + 1) (by omega) hj0 (by unfold par; omega) Hl3.out HMIN.out hC hK)
            clear HR3 Hl3 HS hm4 hC hK HMIN
            go_wp2_with fail
            go_roundw
            case rel => exact ⟨2 * i + 1, _, by rw [hc1], by omega, HF.out⟩
            case measure => simp [intOf]; omega
      · have HMIN : Hid (∀ c, 0 < c → c < m → par c = i → (f' c).lt (f' (2 * i + 1)) = false) := Lib.hid (by
          intro c h0 hc hp
          have : c = 2 * i + 1 := by unfold par at hp; omega
          rw [this]; exact Ent.le_refl _)
        have HR1 := HR
        clear HR
        have hj0 : 2 * i + 1 < m := by omega
        have hjn : 2 * i + 1 < n := by omega
        have L2 := less_q HR1.out.cx hjn hin
        have hm2 := mLess HR1.out.cx.cell
        rw [hc1] at L2
        have HL2 := Lib.hid L2
        clear L2
        go_wp2_with fail
        refine HL2.out.mono ?_
        rintro e3 w3 ⟨rfl, hB3⟩
        have hR3 := HR1.out.on hB3
        have HR3 := Lib.hid hR3
        clear hB3 hm2 HL2
        cases hl3 : (f' (2 * i + 1)).lt (f' i) with
        | false =>
          have Hd := Lib.hid (hR3.done (j := 2 * i + 1) (by omega) hl3 HMIN.out)
          clear hl3 hR3 HR3
          go_wp2
          go_ret
          exact ⟨_, rfl, Hd.out⟩
        | true =>
          have hm4 := mSwap HR3.out.cx.cell
          have S := swap_q HR3.out.cx hin hjn
          rw [hc1] at S
          have HS := Lib.hid S
          have Hl3 := Lib.hid hl3
          clear S hl3 hR3
          go_wp2_with fail
          refine HS.out.mono ?_
          rintro e4 w4 ⟨rfl, hC, hK⟩
          have HF := Lib.hid (HR3.out.step (j := 2 * i + 1) (by omega) hj0 (by unfold par; omega) Hl3.out HMIN.out hC hK)
          clear HR3 Hl3 HS hm4 hC hK HMIN
          go_wp2_with fail
          go_roundw
          case rel => exact ⟨2 * i + 1, _, by rw [hc1], by omega, HF.out⟩
          case measure => simp [intOf]; omega
end Go.Proofs.Ytgleankpalihaaa
