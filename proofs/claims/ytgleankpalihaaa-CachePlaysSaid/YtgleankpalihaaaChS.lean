/- Cache: queue.Swap, Len. -/
import Derived.Test.YtgleankpalihaaaChL
import Derived.StillTailTactics
namespace Go.Proofs.Ytgleankpalihaaa
open Go.RowKit Go.MapKept
set_option linter.unusedSimpArgs false
set_option linter.unusedVariables false
set_option maxHeartbeats 800000 in
theorem qlen_calls (A : Option Addr) (n c : Nat) (w : World) : Calls Try.prog 41 #[.slice A n c] w fun e w' => e = .returned (.int .i64 n) ∧ w = w' := by
  go_enter Try.func41, Try.ntmps41
  go_wp2
  go_ret
  exact ⟨rfl, rfl⟩

def swW (A : Addr) (i j gi gj : Nat) (w : World) : World := (((((w.setCell (A.add i) (.pointer (some ⟨gj, 0, none⟩))).setCell (A.add j) (.pointer (some ⟨gi, 0, none⟩))).drew.setCell ⟨gj, 2, none⟩ (.int .i64 i)).setCell ⟨gi, 2, none⟩ (.int .i64 j))).drew
set_option maxHeartbeats 800000 in
theorem swap_low (A : Addr) (n c : Nat) (i j : Nat) (gi gj : Nat) (w : World) (hi : i < n) (hj : j < n)
    (ci : w.cell? (A.add i) = some (.pointer (some ⟨gi, 0, none⟩))) (cj : w.cell? (A.add j) = some (.pointer (some ⟨gj, 0, none⟩)))
    (fi : w.frozen? (A.add i) = false) (fj : w.frozen? (A.add j) = false)
    (h1 : (w.setCell (A.add i) (.pointer (some ⟨gj, 0, none⟩))).cell? (A.add j) = some (.pointer (some ⟨gj, 0, none⟩)))
    (W : World) (hW : Hid (W = ((w.setCell (A.add i) (.pointer (some ⟨gj, 0, none⟩))).setCell (A.add j) (.pointer (some ⟨gi, 0, none⟩))).drew))
    (Ci : W.cell? (A.add i) = some (.pointer (some ⟨gj, 0, none⟩))) (Cj : W.cell? (A.add j) = some (.pointer (some ⟨gi, 0, none⟩)))
    (vj vi : Value) (ej : W.cell? ⟨gj, 2, none⟩ = some vj) (ei : (W.setCell ⟨gj, 2, none⟩ (.int .i64 i)).cell? ⟨gi, 2, none⟩ = some vi)
    (Fj : W.frozen? ⟨gj, 2, none⟩ = false) (Fi : W.frozen? ⟨gi, 2, none⟩ = false) :
    Calls Try.prog 43 #[.slice (some A) n c, .int .i64 i, .int .i64 j] w fun e w' => e = .returned (.tuple #[]) ∧ w' = swW A i j gi gj w := by
  go_enter Try.func43, Try.ntmps43
  go_wp2
  go_region
  rw [← hW.out]
  go_wp2
  go_region
  go_wp2
  go_end0
  refine ⟨rfl, ?_⟩
  rw [hW.out]
  rfl

/-! ### the queue as a function of places -/
structure Ent where
  g : Nat
  key : ByteArray
  til : Int
def Ent.ptr (e : Ent) : Value := .pointer (some ⟨e.g, 0, none⟩)
def Ent.cells (e : Ent) (k : Nat) : Array Value := #[.string e.key, .int .u64 e.til, .int .i64 k]
def swf (f : Nat → Ent) (i j : Nat) : Nat → Ent := fun k => if k = i then f j else if k = j then f i else f k
structure Qs (w : World) (r cap n : Nat) (f : Nat → Ent) : Prop where
  row : ∃ cur, w.heap[r]? = some (.cells cur 54 (0, 0)) ∧ n ≤ cap ∧ cap ≤ maxLen ∧ cur.size = cap ∧ ∀ k, k < n → cur[k]? = some (f k).ptr
  ent : ∀ k, k < n → w.heap[(f k).g]? = some (.cells ((f k).cells k) 53 (0, 0))
  inj : ∀ i j, i < n → j < n → (f i).g = (f j).g → i = j
/-- the blocks of a queue -/
def QB (r n : Nat) (f : Nat → Ent) : Nat → Prop := fun k => k = r ∨ ∃ i, i < n ∧ k = (f i).g
theorem add0 (r k : Nat) : (⟨r, 0, none⟩ : Addr).add k = ⟨r, k, none⟩ := by unfold Addr.add; split <;> simp_all
theorem row_ne {w : World} {g h : Nat} {t u : TypeId} {cs ds : Array Value} {f e : Nat × Nat} (hg : w.heap[g]? = some (.cells cs t f)) (hh : w.heap[h]? = some (.cells ds u e)) (ht : t ≠ u) : g ≠ h := by
  rintro rfl
  rw [hg] at hh
  injection hh with hh
  injection hh with _ h2
  exact ht h2
set_option maxHeartbeats 800000 in
theorem swap_calls (r cap n i j : Nat) (f : Nat → Ent) (w : World) (h : Qs w r cap n f) (hi : i < n) (hj : j < n) :
    Calls Try.prog 43 #[.slice (some ⟨r, 0, none⟩) n cap, .int .i64 i, .int .i64 j] w fun e w' => e = .returned (.tuple #[]) ∧ Qs w' r cap n (swf f i j) ∧ Kp (QB r n f) w w' := by
  obtain ⟨cur, hr, hnc, hcm, hsz, hcur⟩ := h.row
  have hgi := h.ent i hi
  have hgj := h.ent j hj
  have hri : r ≠ (f i).g := row_ne hr hgi (by decide)
  have hrj : r ≠ (f j).g := row_ne hr hgj (by decide)
  have hci := hcur i hi
  have hcj := hcur j hj
  have r1 := row_set hr i (f j).ptr
  have r2 := row_set r1 j (f i).ptr
  have x1 : ∀ k, k < n → (((w.setCell ⟨r, i, none⟩ (f j).ptr).setCell ⟨r, j, none⟩ (f i).ptr).drew).heap[(f k).g]? = some (.cells ((f k).cells k) 53 (0, 0)) := by
    intro k hk
    have hrk : r ≠ (f k).g := row_ne hr (h.ent k hk) (by decide)
    exact row_far (row_far (h.ent k hk) hrk.symm _) hrk.symm _
  have y1 := row_set (x1 j hj) 2 (.int .i64 i)
  have hsame : ∀ k l, k < n → l < n → (f k).g = (f l).g → k = l := h.inj
  -- the last of the three
  have y2 : ∃ vi, ((((w.setCell ⟨r, i, none⟩ (f j).ptr).setCell ⟨r, j, none⟩ (f i).ptr).drew).setCell ⟨(f j).g, 2, none⟩ (.int .i64 i)).heap[(f i).g]? = some (.cells #[.string (f i).key, .int .u64 (f i).til, vi] 53 (0, 0)) := by
    by_cases hij : i = j
    · subst hij
      exact ⟨_, y1⟩
    · exact ⟨_, row_far (x1 i hi) (fun q => hij (h.inj _ _ hi hj q)) _⟩
  obtain ⟨vi, y2⟩ := y2
  have y3 := row_set y2 2 (.int .i64 j)
  refine (swap_low ⟨r, 0, none⟩ n cap i j (f i).g (f j).g w hi hj ?_ ?_ ?_ ?_ ?_ (((w.setCell ⟨r, i, none⟩ (f j).ptr).setCell ⟨r, j, none⟩ (f i).ptr).drew) (Lib.hid (by rw [add0, add0]; rfl)) ?_ ?_ (.int .i64 j) vi ?_ ?_ ?_ ?_).mono ?_
  · rw [add0, row_cell hr]; exact hci
  · rw [add0, row_cell hr]; exact hcj
  · rw [add0]; exact row_frozen hr _
  · rw [add0]; exact row_frozen hr _
  · rw [add0, add0]
    show (w.setCell ⟨r, i, none⟩ (f j).ptr).cell? ⟨r, j, none⟩ = some (f j).ptr
    rw [row_cell r1, Array.getElem?_setIfInBounds]
    split
    · rw [if_pos (by omega)]
    · exact hcj
  · rw [add0]
    refine (row_cell (f := (0, 0)) (t := 54) (w := ((w.setCell ⟨r, i, none⟩ (f j).ptr).setCell ⟨r, j, none⟩ (f i).ptr).drew) r2 i).trans ?_
    rw [Array.getElem?_setIfInBounds]
    split
    · rename_i q
      rw [if_pos (by simp; omega), ← q]; rfl
    · rw [Array.getElem?_setIfInBounds, if_pos rfl, if_pos (by omega)]; rfl
  · rw [add0]
    refine (row_cell (f := (0, 0)) (t := 54) (w := ((w.setCell ⟨r, i, none⟩ (f j).ptr).setCell ⟨r, j, none⟩ (f i).ptr).drew) r2 j).trans ?_
    rw [Array.getElem?_setIfInBounds, if_pos rfl, if_pos (by simp; omega)]; rfl
  · rw [row_cell (x1 j hj)]; rfl
  · rw [row_cell y2]; rfl
  · exact row_frozen (x1 j hj) _
  · exact row_frozen (x1 i hi) _
  · rintro e w' ⟨rfl, rfl⟩
    have hw : swW ⟨r, 0, none⟩ i j (f i).g (f j).g w = (((((w.setCell ⟨r, i, none⟩ (f j).ptr).setCell ⟨r, j, none⟩ (f i).ptr).drew.setCell ⟨(f j).g, 2, none⟩ (.int .i64 i)).setCell ⟨(f i).g, 2, none⟩ (.int .i64 j))).drew := by
      unfold swW; rw [add0, add0]; rfl
    rw [hw]
    refine ⟨rfl, ⟨⟨_, row_far (row_far r2 hrj _) hri _, hnc, hcm, by simp [hsz], ?_⟩, ?_, ?_⟩, ?_⟩
    · intro k hk
      rw [Array.getElem?_setIfInBounds]
      unfold swf
      by_cases h1 : j = k
      · subst h1
        rw [if_pos rfl, if_pos (by simp; omega)]
        by_cases h2 : j = i
        · rw [if_pos h2, h2]
        · rw [if_neg h2, if_pos rfl]
      · rw [if_neg h1, Array.getElem?_setIfInBounds]
        by_cases h2 : i = k
        · rw [if_pos h2, if_pos (by omega), if_pos h2.symm]
        · rw [if_neg h2, if_neg (fun q => h2 q.symm), if_neg (fun q => h1 q.symm), hcur k hk]
    · intro k hk
      unfold swf
      by_cases h1 : k = i
      · subst h1
        rw [if_pos rfl]
        by_cases h2 : k = j
        · subst h2
          exact row_set y1 2 (.int .i64 k)
        · exact row_far y1 (fun q => h2 (h.inj _ _ hk hj q.symm)) _
      · rw [if_neg h1]
        by_cases h2 : k = j
        · subst h2
          rw [if_pos rfl]
          have y2' := row_far (x1 i hi) (p := ⟨(f k).g, 2, none⟩) (fun q => h1 (h.inj _ _ hk hi q.symm)) (.int .i64 i)
          exact row_set y2' 2 (.int .i64 k)
        · rw [if_neg h2]
          exact row_far (row_far (x1 k hk) (fun q => h2 (h.inj _ _ hk hj q)) _) (fun q => h1 (h.inj _ _ hk hi q)) _
    · intro a b ha hb
      unfold swf
      have key : ∀ x y, x < n → y < n → (f x).g = (f y).g → x = y := h.inj
      split <;> split <;> (try split) <;> (try split) <;> intro q
      all_goals first
        | omega
        | (have := key _ _ hj hj q; omega)
        | (have := key _ _ hj hi q; omega)
        | (have := key _ _ hi hj q; omega)
        | (have := key _ _ hj hb q; omega)
        | (have := key _ _ hi hb q; omega)
        | (have := key _ _ ha hi q; omega)
        | (have := key _ _ ha hj q; omega)
        | (have := key _ _ ha hb q; omega)
        | skip
    · refine (Kp.drew ((Kp.drew ((Kp.refl _ w).setCell (.inl (.inl rfl)) _ |>.setCell (.inl (.inl rfl)) _)).setCell (.inl (.inr ⟨j, hj, rfl⟩)) _ |>.setCell (.inl (.inr ⟨i, hi, rfl⟩)) _))
end Go.Proofs.Ytgleankpalihaaa
