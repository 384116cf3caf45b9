/- LinePlays: the document's answer (the printed words of the reference) and a line's plain state. -/
import Derived.Test.YtjbdjijfbpiccaaDoorPLinePlaysx5
import Derived.Test.YtjbdjijfbpiccaaDoorLnT
import Derived.Test.YtjbdjijfbpiccaaDoorApA
namespace Go.Proofs.YtjbdjijfbpiccaaDoor
open Go.RowKit Go.MapKept PLinePlays
set_option linter.unusedSimpArgs false
set_option linter.unusedVariables false

def sOf (e : Ev) : S30 := ⟨e.kind, e.time, e.id, e.a, e.b, e.c, e.d, e.x, e.y, e.z⟩
def goesTo (k : Int) : Int := ((transeptref15_goes.f k).map (·.2)).getD 0
def goesFrom (k : Int) : List Int := ((transeptref15_goes.f k).map (·.1)).getD []
theorem goes_is (k : Int) : transeptref15_goes.f k = some (goesFrom k, goesTo k) := by
  unfold goesFrom goesTo transeptref15_goes.f
  repeat' split
  all_goals rfl
def stepS (id s : Int) (e : Ev) : Int := if e.id ≠ id ∨ e.kind < 3 then s else if e.kind = 3 then 1 else if 0 ≤ goesTo e.kind then goesTo e.kind else s
def stOf (id : Int) (t : List Ev) : Int := t.foldl (stepS id) 0
theorem stOf_snoc (id : Int) (t : List Ev) (e : Ev) : stOf id (t ++ [e]) = stepS id (stOf id t) e := by simp [stOf]

theorem rdT (t : List Ev) (i : Nat) (h : i < t.length) : rd_T30 (t.map sOf) (i : Int) = sOf t[i] := by
  unfold rd_T30
  rw [List.getD_eq_getElem?_getD]
  simp [h]
theorem wrap_small (i : Nat) (h : i < 1000000) : wrap64 ((i : Int) + 1) = ((i + 1 : Nat) : Int) := by
  unfold wrap64; omega

theorem state_run (t : List Ev) (id : Int) (ht : t.length ≤ 1000) : ∀ (n i : Nat) (s : Int) (k : Nat), i + n = t.length → 2 * n + 1 ≤ k →
    transeptref15_State.l0 k (t.map sOf) id s i = some ((t.drop i).foldl (stepS id) s)
  | 0, i, s, k, hi, hk => by
    obtain ⟨k, rfl⟩ : ∃ k', k = k' + 1 := ⟨k - 1, by omega⟩
    rw [transeptref15_State.l0, if_neg (by simp; omega), List.drop_of_length_le (by omega)]
    rfl
  | n + 1, i, s, k, hi, hk => by
    obtain ⟨k, rfl⟩ : ∃ k', k = k' + 2 := ⟨k - 2, by omega⟩
    have hlt : i < t.length := by omega
    have hd : t.drop i = t[i] :: t.drop (i + 1) := List.drop_eq_getElem_cons hlt
    have hr := rdT t i hlt
    have ih := fun s => state_run t id ht n (i + 1) s k (by omega) (by omega)
    have hlen : (i : Int) < ((t.map sOf).length : Int) := by simp; omega
    rw [hd, List.foldl_cons]
    generalize t[i] = e at hr ⊢
    have hw := wrap_small i (by omega)
    rw [show k + 2 = (k + 1) + 1 from rfl, transeptref15_State.l0, if_pos hlen, if_pos (by omega), hr]
    by_cases hid : e.id = id
    · rw [if_pos (by exact hid), transeptref15_State.j1]
      by_cases h3 : e.kind < 3
      · rw [if_pos (by simp [sOf, h3]), hw, ih]
        simp [stepS, hid, h3]
      · have hd3 : decide ((sOf e).f0 < 3) = false := decide_eq_false h3
        rw [hd3, if_neg (by simp), if_pos (by omega), if_pos hlen, hr, goes_is]
        by_cases hk3 : e.kind = 3
        · rw [if_pos (by exact hk3), hw, ih]
          simp [stepS, hid, hk3]
        · rw [if_neg (by exact hk3)]
          simp only [Option.bind_some]
          by_cases hg : 0 ≤ goesTo e.kind
          · rw [if_pos (by exact hg), hw, ih]
            simp only [stepS, hid, ne_eq, not_true, false_or, if_neg h3, if_neg hk3, if_pos hg]
            rfl
          · rw [if_neg (by exact hg), hw, ih]
            simp only [stepS, hid, ne_eq, not_true, false_or, if_neg h3, if_neg hk3, if_neg hg]
    · rw [if_neg (by exact hid), transeptref15_State.j1, if_pos rfl, hw, ih]
      simp [stepS, hid]
theorem state_f (t : List Ev) (id : Int) (ht : t.length ≤ 1000) (k : Nat) (hk : 2 * t.length + 1 ≤ k) : transeptref15_State.f k (t.map sOf) id = some (stOf id t) := by
  have := state_run t id ht t.length 0 0 k (by omega) hk
  exact this

def startsOf (t : List Ev) : List Int := (t.filter (fun e => decide (e.kind = 3))).map (·.id)
theorem startsOf_snoc (t : List Ev) (e : Ev) : startsOf (t ++ [e]) = if e.kind = 3 then startsOf t ++ [e.id] else startsOf t := by
  by_cases h : e.kind = 3 <;> simp [startsOf, h]

theorem open_run (t : List Ev) (ht : t.length ≤ 1000) : ∀ (n i : Nat) (s : Nat) (k : Nat), i + n = t.length → s ≤ i → n + (2 * t.length + 1) + 1 ≤ k →
    transeptref15_Open.l0 k (t.map sOf) s i = some ((s + (startsOf (t.drop i)).countP (fun j => decide (0 < stOf j t)) : Nat) : Int)
  | 0, i, s, k, hi, hs, hk => by
    obtain ⟨k, rfl⟩ : ∃ k', k = k' + 1 := ⟨k - 1, by omega⟩
    rw [transeptref15_Open.l0, if_neg (by simp; omega), List.drop_of_length_le (by omega)]
    simp [startsOf]
  | n + 1, i, s, k, hi, hs, hk => by
    obtain ⟨k, rfl⟩ : ∃ k', k = k' + 1 := ⟨k - 1, by omega⟩
    have hlt : i < t.length := by omega
    have hd : t.drop i = t[i] :: t.drop (i + 1) := List.drop_eq_getElem_cons hlt
    have hr := rdT t i hlt
    have ih := fun (s : Nat) hs => open_run t ht n (i + 1) s k (by omega) hs (by omega)
    have hlen : (i : Int) < ((t.map sOf).length : Int) := by simp; omega
    rw [hd]
    generalize t[i] = e at hr ⊢
    have hw := wrap_small i (by omega)
    have hw2 := wrap_small s (by omega)
    rw [transeptref15_Open.l0, if_pos hlen, if_pos (by omega), hr]
    by_cases h3 : e.kind = 3
    · rw [if_pos (by exact h3), show (sOf e).f2 = e.id from rfl, state_f t e.id ht k (by omega)]
      simp only [Option.bind_some]
      by_cases hp : 0 < stOf e.id t
      · rw [if_pos (by exact hp), hw, hw2, ih _ (by omega)]
        have : startsOf (e :: t.drop (i + 1)) = e.id :: startsOf (t.drop (i + 1)) := by simp [startsOf, h3]
        rw [this, List.countP_cons_of_pos (by simpa using hp)]
        congr 2; omega
      · rw [if_neg (by exact hp), hw, ih _ (by omega)]
        have : startsOf (e :: t.drop (i + 1)) = e.id :: startsOf (t.drop (i + 1)) := by simp [startsOf, h3]
        rw [this, List.countP_cons_of_neg (by simpa using hp)]
    · rw [if_neg (by exact h3), hw, ih _ (by omega)]
      have : startsOf (e :: t.drop (i + 1)) = startsOf (t.drop (i + 1)) := by simp [startsOf, h3]
      rw [this]
def openOf (t : List Ev) : Nat := (startsOf t).countP (fun j => decide (0 < stOf j t))
theorem open_f (t : List Ev) (ht : t.length ≤ 1000) (k : Nat) (hk : 3 * t.length + 2 ≤ k) : transeptref15_Open.f k (t.map sOf) = some (openOf t : Int) := by
  have := open_run t ht t.length 0 0 k (by omega) (by omega) (by omega)
  simp only [Nat.zero_add, List.drop_zero] at this
  exact this

theorem started_run (t : List Ev) (id : Int) (ht : t.length ≤ 1000) : ∀ (n i : Nat) (k : Nat), i + n = t.length → n + 1 ≤ k →
    transeptref15_started.l0 k (t.map sOf) id i = some ((startsOf (t.drop i)).any (fun j => id == 0 || j == id))
  | 0, i, k, hi, hk => by
    obtain ⟨k, rfl⟩ : ∃ k', k = k' + 1 := ⟨k - 1, by omega⟩
    rw [transeptref15_started.l0, if_neg (by simp; omega), List.drop_of_length_le (by omega)]
    rfl
  | n + 1, i, k, hi, hk => by
    obtain ⟨k, rfl⟩ : ∃ k', k = k' + 1 := ⟨k - 1, by omega⟩
    have hlt : i < t.length := by omega
    have hd : t.drop i = t[i] :: t.drop (i + 1) := List.drop_eq_getElem_cons hlt
    have hr := rdT t i hlt
    have ih := started_run t id ht n (i + 1) k (by omega) (by omega)
    have hlen : (i : Int) < ((t.map sOf).length : Int) := by simp; omega
    rw [hd]
    generalize t[i] = e at hr ⊢
    have hw := wrap_small i (by omega)
    rw [transeptref15_started.l0, if_pos hlen, if_pos (by omega), hr]
    by_cases h3 : e.kind = 3
    · rw [if_pos (by exact h3)]
      have he : startsOf (e :: t.drop (i + 1)) = e.id :: startsOf (t.drop (i + 1)) := by simp [startsOf, h3]
      rw [he, List.any_cons]
      by_cases h0 : id = 0
      · rw [if_pos h0]; simp [h0]
      · rw [if_neg h0]
        by_cases hid : e.id = id
        · rw [if_pos (by exact hid)]; simp [hid]
        · rw [if_neg (by exact hid), hw, ih]
          simp [h0, hid]
    · rw [if_neg (by exact h3), hw, ih]
      have he : startsOf (e :: t.drop (i + 1)) = startsOf (t.drop (i + 1)) := by simp [startsOf, h3]
      rw [he]
theorem started_f (t : List Ev) (id : Int) (ht : t.length ≤ 1000) (k : Nat) (hk : t.length + 1 ≤ k) : transeptref15_started.f k (t.map sOf) id = some ((startsOf t).any (fun j => id == 0 || j == id)) := by
  have := started_run t id ht t.length 0 k (by omega) hk
  exact this

/-! ### may an event be -/
open Go.Proofs.YtjbdjijfbpiccaaDoorW.PrintWords
theorem shape_bad (k : Nat) (kd : Int) (h : ¬ (1 ≤ kd ∧ kd ≤ 14)) : transeptref05_Shape.f (k + 3) kd = some ⟨#[45]⟩ := by
  have h1 : ¬ kd = 1 := by omega
  have h2 : ¬ kd = 2 := by omega
  have h3 : ¬ kd = 3 := by omega
  have h4 : ¬ kd = 4 := by omega
  have h5 : ¬ kd = 5 := by omega
  have h6 : ¬ kd = 6 := by omega
  have h7 : ¬ kd = 7 := by omega
  have h8 : ¬ kd = 8 := by omega
  have h9 : ¬ kd = 9 := by omega
  have h10 : ¬ kd = 10 := by omega
  have h11 : ¬ kd = 11 := by omega
  have h12 : ¬ kd = 12 := by omega
  have h13 : ¬ kd = 13 := by omega
  have h14 : ¬ kd = 14 := by omega
  simp [transeptref05_Shape.f, transeptref05_Shape.j0, transeptref05_Shape.j1, transeptref05_Shape.j2, h1, h2, h3, h4, h5, h6, h7, h8, h9, h10, h11, h12, h13, h14]

theorem texts_run (T : Int) (k : Nat) (n : Int) (lt : ByteArray) (a b c d : ByteArray) (kd ti id : Int) (x y z : Int) (r : Bool)
    (h1 : transeptref05_Right.l1 k lt [x, y, z] 0 = some r) :
    transeptref05_Right.l0 (k + 5) n lt [a, b, c, d] 0 kd ti id a b c d x y z = some (tb n a 0 && tb n b 1 && tb n c 2 && tb n d 3 && r) := by
  have one : ∀ (k : Nat) (i : Nat) (s : ByteArray) (v : Option Bool), i < 4 → rdOf ByteArray.empty [a, b, c, d] (i : Int) = s →
      transeptref05_Right.l0 k n lt [a, b, c, d] (((i + 1 : Nat) : Int)) kd ti id a b c d x y z = v →
      transeptref05_Right.l0 (k + 1) n lt [a, b, c, d] (i : Int) kd ti id a b c d x y z = if tb n s i then v else some false := by
    intro k i s v hi hs hv
    have hw := wrap_small i (by omega)
    rw [transeptref05_Right.l0, if_pos (by omega), if_pos (by omega), if_pos (by simp; omega), hs, hw, hv]
    by_cases hb : (s.size : Int) > 4096
    · rw [if_pos hb, tb_big hb]; rfl
    · rw [if_neg hb]
      by_cases hn : (i : Int) ≥ n
      · rw [if_pos hn]
        by_cases he : s.toList = []
        · rw [if_pos he, tb_none (by omega) (by simp [he]), if_pos rfl]
        · rw [if_neg he, tb_more hn (.inr (by cases hq : s.toList with | nil => exact absurd hq he | cons _ _ => rfl))]; rfl
      · rw [if_neg hn, tb_in (by omega) hn, if_pos rfl]
  have e4 : transeptref05_Right.l0 (k + 1) n lt [a, b, c, d] ((4 : Nat) : Int) kd ti id a b c d x y z = some r := by
    rw [transeptref05_Right.l0, if_neg (by omega)]; exact h1
  have e3 := one (k + 1) 3 d _ (by omega) rfl e4
  have e2 := one (k + 2) 2 c _ (by omega) rfl e3
  have e1 := one (k + 3) 1 b _ (by omega) rfl e2
  have e0 := one (k + 4) 0 a _ (by omega) rfl e1
  refine Eq.trans e0 ?_
  show (if tb n a 0 then if tb n b 1 then if tb n c 2 then if tb n d 3 then some r else some false else some false else some false else some false) = _
  cases tb n a 0 <;> cases tb n b 1 <;> cases tb n c 2 <;> cases tb n d 3 <;> rfl

theorem nums_run (k : Nat) (lt : ByteArray) (N : Nat → Int) (x y z : Int)
    (hN : ∀ i : Nat, i < 3 → (if (i : Int) < (lt.size : Int) then transeptref05_most.f (bt lt i) else some 0) = some (max (N i) 1 - 1)) :
    transeptref05_Right.l1 (k + 4) lt [x, y, z] 0 = some (nb (N 0) x && nb (N 1) y && nb (N 2) z) := by
  have one : ∀ (k : Nat) (i : Nat) (s : Int) (v : Option Bool), i < 3 → rd [x, y, z] (i : Int) = s →
      transeptref05_Right.l1 k lt [x, y, z] (((i + 1 : Nat) : Int)) = v →
      transeptref05_Right.l1 (k + 1) lt [x, y, z] (i : Int) = if nb (N i) s then v else some false := by
    intro k i s v hi hs hv
    have hw := wrap_small i (by omega)
    have hn := hN i hi
    rw [transeptref05_Right.l1, if_pos (by omega), hs, hw, hv]
    by_cases hl : (i : Int) < (lt.size : Int)
    · rw [if_pos hl] at hn
      rw [if_pos hl, if_pos (by omega), hn]
      simp only [Option.bind_some]
      rw [if_pos (by simp; omega)]
      by_cases h0 : s < 0
      · rw [if_pos h0, nb_neg h0]; rfl
      · rw [if_neg h0]
        by_cases hg : s > max (N i) 1 - 1
        · rw [if_pos hg, nb_big (by omega)]; rfl
        · rw [if_neg hg, nb_in (by omega) (by omega)]; rfl
    · rw [if_neg hl] at hn
      rw [if_neg hl, if_pos (by omega), if_pos (by simp; omega)]
      have hz : max (N i) 1 - 1 = 0 := (Option.some.inj hn).symm
      by_cases h0 : s < 0
      · rw [if_pos h0, nb_neg h0]; rfl
      · rw [if_neg h0]
        by_cases hg : s > 0
        · rw [if_pos hg, nb_big (by omega)]; rfl
        · rw [if_neg hg, nb_in (by omega) (by omega)]; rfl
  have e3 : transeptref05_Right.l1 (k + 1) lt [x, y, z] ((3 : Nat) : Int) = some true := by
    rw [transeptref05_Right.l1, if_neg (by omega)]
  have e2 := one (k + 1) 2 z _ (by omega) rfl e3
  have e1 := one (k + 2) 1 y _ (by omega) rfl e2
  have e0 := one (k + 3) 0 x _ (by omega) rfl e1
  refine Eq.trans e0 ?_
  cases nb (N 0) x <;> cases nb (N 1) y <;> cases nb (N 2) z <;> rfl
end Go.Proofs.YtjbdjijfbpiccaaDoor
