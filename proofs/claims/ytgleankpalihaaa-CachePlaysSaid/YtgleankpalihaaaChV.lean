/- Cache: heap's up over the queue. -/
import Derived.Test.YtgleankpalihaaaChU
import Derived.Test.YtgleankpalihaaaChH
import Derived.LoopTactic
namespace Go.Proofs.Ytgleankpalihaaa
open Go.RowKit Go.MapKept
set_option linter.unusedSimpArgs false
set_option linter.unusedVariables false
structure Cx (w : World) (p r cap n : Nat) (x : Value) (f : Nat → Ent) : Prop where
  hp : w.heap[p]? = some (.cells #[x, .slice (some ⟨r, 0, none⟩) n cap] 51 (0, 0))
  q : Qs w r cap n f
theorem Qs.kp {S : Nat → Prop} {w w' : World} {r cap n : Nat} {f : Nat → Ent} (h : Qs w r cap n f) (k : Kp S w w') (h1 : ¬ S r) (h2 : ∀ i, i < n → ¬ S (f i).g) : Qs w' r cap n f := by
  obtain ⟨cur, hr, rest⟩ := h.row
  exact ⟨⟨cur, k.blk hr h1, rest⟩, fun i hi => k.blk (h.ent i hi) (h2 i hi), h.inj⟩
theorem Cx.below {w w' : World} {p r cap n : Nat} {x : Value} {f : Nat → Ent} (h : Cx w p r cap n x f) (k : Below w.heap.size w w') : Cx w' p r cap n x f := by
  have k' := Kp.of_below (S := Non) k
  exact ⟨k'.blk h.hp (fun q => q), h.q.kp k' (fun q => q) (fun _ _ q => q)⟩
theorem Cx.cell {w : World} {p r cap n : Nat} {x : Value} {f : Nat → Ent} (h : Cx w p r cap n x f) : w.cell? ⟨p, 1, none⟩ = some (.slice (some ⟨r, 0, none⟩) n cap) := row_cell h.hp 1
set_option maxHeartbeats 800000 in
theorem less_q {w : World} {p r cap n : Nat} {x : Value} {f : Nat → Ent} (h : Cx w p r cap n x f) {i j : Nat} (hi : i < n) (hj : j < n) :
    Calls Try.prog 42 #[.slice (some ⟨r, 0, none⟩) n cap, .int .i64 i, .int .i64 j] w fun e w' => e = .returned (.bool ((f i).lt (f j))) ∧ Below w.heap.size w w' := by
  obtain ⟨cur, hr, hnc, hcm, hsz, hcur⟩ := h.q.row
  have hgi := h.q.ent i hi
  have hgj := h.q.ent j hj
  refine less_calls ⟨r, 0, none⟩ n cap i j (f i).g (f j).g (f i).key (f j).key (f i).til (f j).til w hi hj ?_ ?_ ?_ ?_ ?_ ?_
  · rw [add0, row_cell hr]; exact hcur i hi
  · rw [add0, row_cell hr]; exact hcur j hj
  · rw [row_cell hgi]; rfl
  · rw [row_cell hgi]; rfl
  · rw [row_cell hgj]; rfl
  · rw [row_cell hgj]; rfl
theorem QB.prm {r n : Nat} {f f' : Nat → Ent} (h : Prm n f f') (k : Nat) : QB r n f' k → QB r n f k := by
  rintro (q | ⟨i, hi, rfl⟩)
  · exact .inl q
  · obtain ⟨l, hl, e⟩ := h.mem hi
    exact .inr ⟨l, hl, by rw [e]⟩
theorem swap_q {w : World} {p r cap n : Nat} {x : Value} {f : Nat → Ent} (h : Cx w p r cap n x f) {i j : Nat} (hi : i < n) (hj : j < n) :
    Calls Try.prog 43 #[.slice (some ⟨r, 0, none⟩) n cap, .int .i64 i, .int .i64 j] w fun e w' => e = .returned (.tuple #[]) ∧ Cx w' p r cap n x (swf f i j) ∧ Kp (QB r n f) w w' := by
  refine (swap_calls r cap n i j f w h.q hi hj).mono ?_
  rintro e w' ⟨rfl, hq, hk⟩
  refine ⟨rfl, ⟨hk.blk h.hp ?_, hq⟩, hk⟩
  rintro (q | ⟨i, hi, q⟩)
  · obtain ⟨cur, hr, _⟩ := h.q.row
    exact row_ne h.hp hr (by decide) q
  · exact row_ne h.hp (h.q.ent i hi) (by decide) q
structure UpR (w W : World) (p r cap n : Nat) (x : Value) (f f' : Nat → Ent) (j : Nat) : Prop where
  cx : Cx W p r cap n x f'
  up : UpI f' n j
  prm : Prm n f f'
  kp : Kp (QB r n f) w W
set_option maxHeartbeats 800000 in
theorem UpR.step {w W W1 W2 : World} {p r cap n : Nat} {x : Value} {f f' : Nat → Ent} {j : Nat} (h : UpR w W p r cap n x f f' j) (h0 : 0 < j) (hl : (f' j).lt (f' (par j)) = true) (h1 : Below W.heap.size W W1)
    (h2 : Cx W2 p r cap n x (swf f' (par j) j)) (h3 : Kp (QB r n f') W1 W2) : UpR w W2 p r cap n x f (swf f' (par j) j) (par j) := by
  have hj := h.up.lt
  have hp : par j < n := by unfold par; omega
  exact ⟨h2, h.up.step h0 hl, h.prm.trans (Prm.swap f' hp hj), (h.kp.trans (Kp.of_below h1)).trans (h3.mono (fun k _ q => QB.prm h.prm k q))⟩
set_option maxHeartbeats 800000 in
theorem up_calls {w : World} {p r cap n : Nat} {x : Value} {f : Nat → Ent} (h : Cx w p r cap n x f) {j : Nat} (hu : UpI f n j) (hn : n ≤ 2000) :
    Calls Try.prog 23 #[.iface 59 (.pointer (some ⟨p, 1, none⟩)), .int .i64 j] w fun e w' => e = .returned (.tuple #[]) ∧ ∃ f', Cx w' p r cap n x f' ∧ Heap f' n ∧ Prm n f f' ∧ Kp (QB r n f) w w' := by
  have HR : UpR w w p r cap n x f f j := ⟨h, hu, Prm.refl _ _, Kp.refl _ _⟩
  have H0 := Lib.hid HR
  clear HR h hu
  go_enter Try.func23, Try.ntmps23
  go_wp2_with fail
  go_loopw [1] (fun v W => ∃ (j : Nat) (f' : Nat → Ent), v = .int .i64 j ∧ UpR w W p r cap n x f f' j) (fun v _ => (intOf v).toNat)
  case atStart => exact ⟨j, f, rfl, H0.out⟩
  case round =>
    obtain ⟨j, f', rfl, hR⟩ := hrel
    have HR := Lib.hid hR
    have hjn : j < n := hR.up.lt
    clear hR H0
    by_cases h0 : j = 0
    · subst h0
      go_wp2_with fail
      go_end0
      exact ⟨rfl, f', HR.out.cx, HR.out.up.done (fun q => absurd q (by omega)), HR.out.prm, HR.out.kp⟩
    · obtain ⟨k, rfl⟩ : ∃ k, j = k + 1 := ⟨j - 1, by omega⟩
      have hm := mLess HR.out.cx.cell
      have hc : ((par (k + 1) : Nat) : Int) = (k : Int) / 2 := by unfold par; omega
      have hpn : par (k + 1) < n := by unfold par; omega
      have L := less_q HR.out.cx hjn hpn
      rw [hc, Int.natCast_succ] at L
      have HL := Lib.hid L
      clear L
      go_wp2_with fail
      refine HL.out.mono ?_
      rintro e1 w1 ⟨rfl, hB⟩
      cases hl : (f' (k + 1)).lt (f' (par (k + 1))) with
      | false =>
        have HB := Lib.hid hB
        have Hl := Lib.hid hl
        clear hB hl hm HL hc hpn
        go_wp2
        go_end0
        exact ⟨rfl, f', HR.out.cx.below HB.out, HR.out.up.done (fun _ => Hl.out), HR.out.prm, HR.out.kp.trans (Kp.of_below HB.out)⟩
      | true =>
        have hm2 := mSwap (HR.out.cx.below hB).cell
        have S := swap_q (HR.out.cx.below hB) hpn hjn
        rw [hc, Int.natCast_succ] at S
        have HS := Lib.hid S
        have HB := Lib.hid hB
        have Hl := Lib.hid hl
        clear hB hl hm HL S
        go_wp2_with fail
        refine HS.out.mono ?_
        rintro e2 w2 ⟨rfl, hC, hK⟩
        have HF := Lib.hid (HR.out.step (by omega) Hl.out HB.out hC hK)
        clear HR HB Hl HS hm2 hC hK
        go_wp2_with fail
        go_roundw
        case rel => exact ⟨par (k + 1), _, by rw [hc], HF.out⟩
        case measure => simp [intOf]; omega
end Go.Proofs.Ytgleankpalihaaa
