/- LinePlays: the document's Feed is the line's Feed. -/
import Derived.Test.YtjbdjijfbpiccaaDoorPlA
namespace Go.Proofs.YtjbdjijfbpiccaaDoor
open Go.RowKit Go.MapKept PLinePlays Go.Proofs.YtjbdjijfbpiccaaDoorW.PrintWords
set_option linter.unusedSimpArgs false
set_option linter.unusedVariables false

theorem right_k (e : Ev) (k : Nat) (sh lt : ByteArray) (n : Int) (hsh : transeptref05_Shape.f (k + 11) e.kind = some sh) (hne : decide (sh.toList = [45]) = false)
    (hsp : transeptref05_split.f (k + 10) sh = some (n, lt)) (hk : 1 ≤ e.kind ∧ e.kind ≤ 14) (hn : kindRow e.kind 0 = n)
    (hN0 : (if (0 : Int) < (lt.size : Int) then transeptref05_most.f (bt lt 0) else some 0) = some (max (kindRow e.kind 1) 1 - 1))
    (hN1 : (if (1 : Int) < (lt.size : Int) then transeptref05_most.f (bt lt 1) else some 0) = some (max (kindRow e.kind 2) 1 - 1))
    (hN2 : (if (2 : Int) < (lt.size : Int) then transeptref05_most.f (bt lt 2) else some 0) = some (max (kindRow e.kind 3) 1 - 1)) :
    transeptref05_Right.f (k + 11) e.kind e.time e.id e.a e.b e.c e.d e.x e.y e.z = some (rightB e) := by
  have hl1 := nums_run (k + 1) lt (fun i => kindRow e.kind (i + 1)) e.x e.y e.z (by
    intro i hi
    have : i = 0 ∨ i = 1 ∨ i = 2 := by omega
    rcases this with rfl | rfl | rfl
    · exact hN0
    · exact hN1
    · exact hN2)
  have hl0 := texts_run n (k + 5) n lt e.a e.b e.c e.d e.kind e.time e.id e.x e.y e.z _ hl1
  have hj : ∀ q : Bool, transeptref05_Right.j0 (k + 11) sh q e.kind e.time e.id e.a e.b e.c e.d e.x e.y e.z = if q = true then some false else some (tb n e.a 0 && tb n e.b 1 && tb n e.c 2 && tb n e.d 3 && (nb (kindRow e.kind 1) e.x && nb (kindRow e.kind 2) e.y && nb (kindRow e.kind 3) e.z)) := by
    intro q
    rw [transeptref05_Right.j0, hsp]
    simp only [Option.bind_some]
    rw [← hl0]
  unfold transeptref05_Right.f
  rw [hsh]
  simp only [Option.bind_some]
  rw [if_neg (of_decide_eq_false hne), hj, hj]
  unfold rightB
  rw [hn, decide_eq_true hk.1, decide_eq_true hk.2]
  by_cases h1 : e.kind = 1
  · rw [if_pos h1]
    have : (e.kind == 1) = true := by simpa using h1
    rw [this]
    cases (e.id == 0) <;> rfl
  · rw [if_neg h1]
    have : (e.kind == 1) = false := by simpa using h1
    rw [this]
    cases (e.kind == 2) <;> cases (e.id == 0) <;> rfl

theorem right_f (e : Ev) (k : Nat) : transeptref05_Right.f (k + 11) e.kind e.time e.id e.a e.b e.c e.d e.x e.y e.z = some (rightB e) := by
  by_cases hk : 1 ≤ e.kind ∧ e.kind ≤ 14
  · have h14 : e.kind = 1 ∨ e.kind = 2 ∨ e.kind = 3 ∨ e.kind = 4 ∨ e.kind = 5 ∨ e.kind = 6 ∨ e.kind = 7 ∨ e.kind = 8 ∨ e.kind = 9 ∨ e.kind = 10 ∨ e.kind = 11 ∨ e.kind = 12 ∨ e.kind = 13 ∨ e.kind = 14 := by omega
    rcases h14 with h | h | h | h | h | h | h | h | h | h | h | h | h | h
    · exact right_k e k ⟨#[116]⟩ ⟨#[]⟩ 1 (by rw [h]; rfl) (by kernel_rfl) (by kernel_rfl) hk (by rw [h]; rfl) (by rw [h]; kernel_rfl) (by rw [h]; kernel_rfl) (by rw [h]; kernel_rfl)
    · exact right_k e k ⟨#[116]⟩ ⟨#[]⟩ 1 (by rw [h]; rfl) (by kernel_rfl) (by kernel_rfl) hk (by rw [h]; rfl) (by rw [h]; kernel_rfl) (by rw [h]; kernel_rfl) (by rw [h]; kernel_rfl)
    · exact right_k e k ⟨#[116, 116, 116, 116, 52, 51, 51]⟩ ⟨#[52, 51, 51]⟩ 4 (by rw [h]; rfl) (by kernel_rfl) (by kernel_rfl) hk (by rw [h]; rfl) (by rw [h]; kernel_rfl) (by rw [h]; kernel_rfl) (by rw [h]; kernel_rfl)
    · exact right_k e k ⟨#[116, 116]⟩ ⟨#[]⟩ 2 (by rw [h]; rfl) (by kernel_rfl) (by kernel_rfl) hk (by rw [h]; rfl) (by rw [h]; kernel_rfl) (by rw [h]; kernel_rfl) (by rw [h]; kernel_rfl)
    · exact right_k e k ⟨#[]⟩ ⟨#[]⟩ 0 (by rw [h]; rfl) (by kernel_rfl) (by kernel_rfl) hk (by rw [h]; rfl) (by rw [h]; kernel_rfl) (by rw [h]; kernel_rfl) (by rw [h]; kernel_rfl)
    · exact right_k e k ⟨#[116, 116]⟩ ⟨#[]⟩ 2 (by rw [h]; rfl) (by kernel_rfl) (by kernel_rfl) hk (by rw [h]; rfl) (by rw [h]; kernel_rfl) (by rw [h]; kernel_rfl) (by rw [h]; kernel_rfl)
    · exact right_k e k ⟨#[115]⟩ ⟨#[115]⟩ 0 (by rw [h]; rfl) (by kernel_rfl) (by kernel_rfl) hk (by rw [h]; rfl) (by rw [h]; kernel_rfl) (by rw [h]; kernel_rfl) (by rw [h]; kernel_rfl)
    · exact right_k e k ⟨#[]⟩ ⟨#[]⟩ 0 (by rw [h]; rfl) (by kernel_rfl) (by kernel_rfl) hk (by rw [h]; rfl) (by rw [h]; kernel_rfl) (by rw [h]; kernel_rfl) (by rw [h]; kernel_rfl)
    · exact right_k e k ⟨#[116, 116]⟩ ⟨#[]⟩ 2 (by rw [h]; rfl) (by kernel_rfl) (by kernel_rfl) hk (by rw [h]; rfl) (by rw [h]; kernel_rfl) (by rw [h]; kernel_rfl) (by rw [h]; kernel_rfl)
    · exact right_k e k ⟨#[115]⟩ ⟨#[115]⟩ 0 (by rw [h]; rfl) (by kernel_rfl) (by kernel_rfl) hk (by rw [h]; rfl) (by rw [h]; kernel_rfl) (by rw [h]; kernel_rfl) (by rw [h]; kernel_rfl)
    · exact right_k e k ⟨#[116]⟩ ⟨#[]⟩ 1 (by rw [h]; rfl) (by kernel_rfl) (by kernel_rfl) hk (by rw [h]; rfl) (by rw [h]; kernel_rfl) (by rw [h]; kernel_rfl) (by rw [h]; kernel_rfl)
    · exact right_k e k ⟨#[116]⟩ ⟨#[]⟩ 1 (by rw [h]; rfl) (by kernel_rfl) (by kernel_rfl) hk (by rw [h]; rfl) (by rw [h]; kernel_rfl) (by rw [h]; kernel_rfl) (by rw [h]; kernel_rfl)
    · exact right_k e k ⟨#[]⟩ ⟨#[]⟩ 0 (by rw [h]; rfl) (by kernel_rfl) (by kernel_rfl) hk (by rw [h]; rfl) (by rw [h]; kernel_rfl) (by rw [h]; kernel_rfl) (by rw [h]; kernel_rfl)
    · exact right_k e k ⟨#[52]⟩ ⟨#[52]⟩ 0 (by rw [h]; rfl) (by kernel_rfl) (by kernel_rfl) hk (by rw [h]; rfl) (by rw [h]; kernel_rfl) (by rw [h]; kernel_rfl) (by rw [h]; kernel_rfl)
  · have hb : rightB e = false := by
      unfold rightB
      by_cases h1 : 1 ≤ e.kind
      · rw [decide_eq_false (show ¬ e.kind ≤ 14 from fun h => hk ⟨h1, h⟩)]; simp
      · rw [decide_eq_false h1]; simp
    unfold transeptref05_Right.f
    rw [show k + 11 = (k + 8) + 3 from rfl, shape_bad (k + 8) e.kind hk, hb]
    simp only [Option.bind_some]
    rw [if_pos (of_decide_eq_true (by kernel_rfl))]

/-! ### what a line has taken, and the line -/
structure PlInv (st : LSt) (t : List Ev) : Prop where
  cnt : st.count = t.length
  nil : t = [] → st.last = 0
  last : ∀ e, t.getLast? = some e → st.last = e.time
  sts : ∀ id, st.state id = stOf id t
  beg : ∀ id, (st.at_ id).isSome = decide (id ∈ startsOf t)
  nod : (startsOf t).Nodup
  opn : st.opn = openOf t
  o64 : st.opn ≤ 64
  n0 : st.n = (startsOf t).length
theorem PlInv.new : PlInv newSt [] :=
  ⟨rfl, fun _ => rfl, by simp, fun _ => rfl, fun _ => rfl, by simp [startsOf], rfl, by decide, rfl⟩

theorem from_run (t : List Ev) (kd ti id : Int) (a b c d : ByteArray) (x y z : Int) (fs : List Int) (s : Int) (m : Nat) (R : Bool → Int) (ht : 0 < t.length) (hf : fs.length ≤ 100)
    (hR : ∀ K q, m ≤ K → transeptref15_Feed.j2 K (t.map sOf) q kd ti id a b c d x y z = some (R q)) : ∀ (n i : Nat) (q : Bool) (k : Nat), i + n = fs.length → m + n + 1 ≤ k →
    transeptref15_Feed.l0 k (t.map sOf) q fs s i kd ti id a b c d x y z = some (R (q || (fs.drop i).contains s))
  | 0, i, q, k, hi, hk => by
    obtain ⟨k, rfl⟩ : ∃ k', k = k' + 1 := ⟨k - 1, by omega⟩
    rw [transeptref15_Feed.l0, if_neg (by omega), hR _ _ (by omega), List.drop_of_length_le (by omega)]
    simp
  | n + 1, i, q, k, hi, hk => by
    obtain ⟨k, rfl⟩ : ∃ k', k = k' + 1 := ⟨k - 1, by omega⟩
    have hlt : i < fs.length := by omega
    have hd : fs.drop i = fs[i] :: fs.drop (i + 1) := List.drop_eq_getElem_cons hlt
    have hr : rd fs (i : Int) = fs[i] := by unfold rd; rw [List.getD_eq_getElem?_getD]; simp [hlt]
    have ih := fun q => from_run t kd ti id a b c d x y z fs s m R ht hf hR n (i + 1) q k (by omega) (by omega)
    have hw := wrap_small i (by omega)
    rw [hd, transeptref15_Feed.l0, if_pos (by omega), if_pos (by rw [List.length_map]; omega), hr, hw]
    generalize fs[i] = f
    cases q
    · rw [if_neg (by simp), if_pos (by omega), ih]
      rw [List.contains_cons]
      congr 2
      rw [Bool.false_or, show (s == f) = (f == s) from BEq.comm]
    · rw [if_pos rfl, ih]
      simp

theorem way_goes (k : Int) (h : 4 ≤ k ∧ k ≤ 14) : ∀ s, (wayOf k).1.contains s = (goesFrom k).contains s := by
  have h14 : k = 4 ∨ k = 5 ∨ k = 6 ∨ k = 7 ∨ k = 8 ∨ k = 9 ∨ k = 10 ∨ k = 11 ∨ k = 12 ∨ k = 13 ∨ k = 14 := by omega
  intro s
  rcases h14 with rfl | rfl | rfl | rfl | rfl | rfl | rfl | rfl | rfl | rfl | rfl <;> rfl
theorem way_to (k s : Int) (h : 4 ≤ k ∧ k ≤ 14) (hs : (wayOf k).1.contains s = true) : (if 0 ≤ goesTo k then goesTo k else s) = (wayOf k).2 := by
  have h14 : k = 4 ∨ k = 5 ∨ k = 6 ∨ k = 7 ∨ k = 8 ∨ k = 9 ∨ k = 10 ∨ k = 11 ∨ k = 12 ∨ k = 13 ∨ k = 14 := by omega
  rcases h14 with rfl | rfl | rfl | rfl | rfl | rfl | rfl | rfl | rfl | rfl | rfl <;> first | rfl | (have hs' : ([_] : List Int).contains s = true := hs; simp at hs'; subst hs'; rfl)
theorem way_pos (k s : Int) (h : 4 ≤ k ∧ k ≤ 14) (hs : (wayOf k).1.contains s = true) : 0 < s ∧ 0 ≤ (wayOf k).2 := by
  have h14 : k = 4 ∨ k = 5 ∨ k = 6 ∨ k = 7 ∨ k = 8 ∨ k = 9 ∨ k = 10 ∨ k = 11 ∨ k = 12 ∨ k = 13 ∨ k = 14 := by omega
  rcases h14 with rfl | rfl | rfl | rfl | rfl | rfl | rfl | rfl | rfl | rfl | rfl <;>
    (simp [wayOf, wayTable] at hs ⊢; omega)
theorem goesFrom_len (k : Int) : (goesFrom k).length ≤ 6 := by
  unfold goesFrom transeptref15_goes.f
  repeat' split
  all_goals simp

theorem feed_f (st : LSt) (t : List Ev) (e : Ev) (h : PlInv st t) (ht : t.length ≤ 1000) (htime : 0 ≤ e.time) (k : Nat) (hk : 4000 ≤ k) :
    transeptref15_Feed.f k (t.map sOf) e.kind e.time e.id e.a e.b e.c e.d e.x e.y e.z = some (st.answer e) := by
  obtain ⟨k, rfl⟩ : ∃ k', k = k' + 4000 := ⟨k - 4000, by omega⟩
  have hr := right_f e (k + 3989)
  unfold transeptref15_Feed.f
  rw [show k + 4000 = k + 3989 + 11 from rfl, hr]
  simp only [Option.bind_some]
  unfold LSt.answer
  cases hrb : rightB e with
  | false => rfl
  | true =>
    have hkd := rightB_kind hrb
    have hc4 : ¬ st.count = 4096 := by have := h.cnt; omega
    rw [if_pos rfl, if_neg (show ¬ ((t.map sOf).length : Int) ≥ 4096 by rw [List.length_map]; omega), if_neg (show ¬ (true = false) by simp), if_neg hc4]
    -- the tail, by what may be
    let R : Bool → Int := fun q => if q then (if e.kind = 3 ∧ st.opn = 64 then 5 else 0) else 6
    have hj2 : ∀ K q, 3100 ≤ K → transeptref15_Feed.j2 K (t.map sOf) q e.kind e.time e.id e.a e.b e.c e.d e.x e.y e.z = some (R q) := by
      intro K q hK
      obtain ⟨K, rfl⟩ : ∃ k', K = k' + 1 := ⟨K - 1, by omega⟩
      rw [transeptref15_Feed.j2]
      cases q
      · rfl
      · rw [if_pos rfl]
        by_cases h3 : e.kind = 3
        · rw [if_pos h3, open_f t ht K (by omega)]
          simp only [Option.bind_some]
          have hop := h.opn
          have h64 := h.o64
          by_cases ho : (openOf t : Int) ≥ 64
          · rw [if_pos ho]
            simp only [R, if_true, if_pos (show e.kind = 3 ∧ st.opn = 64 from ⟨h3, by omega⟩)]
          · rw [if_neg ho]
            simp only [R, if_true, if_neg (show ¬ (e.kind = 3 ∧ st.opn = 64) from fun q => by omega)]
        · rw [if_neg h3]
          simp only [R, if_true, if_neg (show ¬ (e.kind = 3 ∧ st.opn = 64) from fun q => h3 q.1)]
    have hj0 : ∀ q : Bool, transeptref15_Feed.j0 (k + 3989 + 11) (t.map sOf) q e.kind e.time e.id e.a e.b e.c e.d e.x e.y e.z = some (if q then 6 else R (st.mayB e)) := by
      intro q
      rw [show k + 3989 + 11 = (k + 3999) + 1 from rfl, transeptref15_Feed.j0]
      cases q
      rotate_left
      · rfl
      rw [if_neg (by simp)]
      have hc := h.cnt
      by_cases h1 : e.kind = 1
      · rw [if_pos h1, hj2 _ _ (by omega)]
        have : (((t.map sOf).length : Int) == 0) = st.mayB e := by
          unfold LSt.mayB
          rw [if_pos (.inl h1), Bool.eq_iff_iff, decide_eq_true h1]
          simp [hc]
        rw [this]
        rfl
      rw [if_neg h1]
      by_cases h2 : e.kind = 2
      · rw [if_pos h2]
        by_cases h0 : t.length = 0
        · rw [if_neg (by rw [List.length_map]; omega), hj2 _ _ (by omega)]
          have : st.mayB e = false := by
            unfold LSt.mayB
            rw [if_pos (.inr (by omega)), decide_eq_false h1]; rfl
          rw [this]; rfl
        · rw [if_pos (by rw [List.length_map]; omega), started_f t 0 ht _ (by omega)]
          simp only [Option.bind_some]
          rw [hj2 _ _ (by omega)]
          have : (!(startsOf t).any fun j => (0 : Int) == 0 || j == 0) = st.mayB e := by
            unfold LSt.mayB
            rw [if_neg (by omega), if_pos h2, h.n0]
            cases startsOf t <;> simp
          rw [this]; rfl
      rw [if_neg h2]
      by_cases h3 : e.kind = 3
      · rw [if_pos h3]
        by_cases h0 : t.length = 0
        · rw [if_neg (by rw [List.length_map]; omega), hj2 _ _ (by omega)]
          have : st.mayB e = false := by
            unfold LSt.mayB
            rw [if_pos (.inr (by omega)), decide_eq_false h1]; rfl
          rw [this]; rfl
        · have hid : e.id ≠ 0 := by
            intro q
            simp [rightB, h3, q] at hrb
          rw [if_pos (by rw [List.length_map]; omega), started_f t e.id ht _ (by omega)]
          simp only [Option.bind_some]
          rw [hj2 _ _ (by omega)]
          have : (!(startsOf t).any fun j => e.id == 0 || j == e.id) = st.mayB e := by
            unfold LSt.mayB
            rw [if_neg (by omega), if_neg h2, if_pos h3, h.beg]
            have : (e.id == 0) = false := by simpa using hid
            rw [this]
            congr 1
            rw [Bool.eq_iff_iff]
            simp
          rw [this]; rfl
      rw [if_neg h3, goes_is]
      simp only [Option.bind_some]
      rw [state_f t e.id ht _ (by omega)]
      simp only [Option.bind_some]
      by_cases h0 : t.length = 0
      · have hm : st.mayB e = false := by
          unfold LSt.mayB
          rw [if_pos (.inr (by omega)), decide_eq_false h1]; rfl
        have h4 : ¬ ((t.map sOf).length : Int) > 0 := by rw [List.length_map]; omega
        rw [hm, show k + 3999 = (k + 3998) + 1 from rfl, transeptref15_Feed.l0, if_neg h4]
        rw [hj2 _ _ (by omega)]
        simp
      · have := from_run t e.kind e.time e.id e.a e.b e.c e.d e.x e.y e.z (goesFrom e.kind) (stOf e.id t) 3100 R (by omega) (by have := goesFrom_len e.kind; omega) hj2 (goesFrom e.kind).length 0 false (k + 3999) (by omega) (by have := goesFrom_len e.kind; omega)
        refine Eq.trans this ?_
        have hm : st.mayB e = (goesFrom e.kind).contains (stOf e.id t) := by
          unfold LSt.mayB
          rw [if_neg (by omega), if_neg h2, if_neg h3, h.sts, way_goes e.kind (by omega)]
        rw [hm]
        simp only [List.drop_zero, Bool.false_or]
        rfl
    have hfin : ∀ q : Bool, (q = true ↔ e.time < st.last) → some (if q then 6 else R (st.mayB e)) = some (if e.time < st.last ∨ st.mayB e = false then 6 else if e.kind = 3 ∧ st.opn = 64 then (5 : Int) else 0) := by
      intro q hq
      cases q
      · have : ¬ e.time < st.last := by simpa using hq
        cases hm : st.mayB e
        · rw [if_pos (show e.time < st.last ∨ false = false from .inr rfl)]; rfl
        · rw [if_neg (show ¬ (e.time < st.last ∨ true = false) from fun q => q.elim this (by simp))]; rfl
      · rw [if_pos (show e.time < st.last ∨ st.mayB e = false from .inl (hq.1 rfl))]; rfl
    by_cases h0 : t.length = 0
    · have hn : t = [] := List.length_eq_zero_iff.1 h0
      rw [if_neg (by rw [List.length_map]; omega), hj0]
      refine hfin false ?_
      have := h.nil hn
      simp; omega
    · have hlast : t.getLast? = some (t[t.length - 1]'(by omega)) := by rw [List.getLast?_eq_getElem?]; simp
      have hl := h.last _ hlast
      have hr := rdT t (t.length - 1) (by omega)
      have hw : wrap64 (((t.map sOf).length : Int) - 1) = ((t.length - 1 : Nat) : Int) := by
        rw [List.length_map]; unfold wrap64; omega
      rw [if_pos (by rw [List.length_map]; omega), hw, if_pos (by omega), if_pos (by rw [List.length_map]; omega), hr, hj0]
      refine hfin _ ?_
      rw [hl]
      exact ⟨of_decide_eq_true, decide_eq_true⟩

/-! ### one more -/
theorem countP_one {p q : Int → Bool} {a : Int} : ∀ {l : List Int}, l.Nodup → a ∈ l → p a = true → (∀ j, j ≠ a → q j = p j) → (l.countP q : Int) = l.countP p - (if q a then 0 else 1)
  | [], _, h, _, _ => by simp at h
  | x :: l, hn, h, hp, hq => by
    rw [List.nodup_cons] at hn
    by_cases hx : x = a
    · subst hx
      have hc : l.countP q = l.countP p := List.countP_congr (fun j hj => by rw [hq j (fun e => hn.1 (e ▸ hj))])
      rw [List.countP_cons_of_pos (p := p) hp]
      cases hqa : q x
      · rw [List.countP_cons_of_neg (by simp [hqa]), hc]; simp
      · rw [List.countP_cons_of_pos hqa, hc]; simp
    · have ha : a ∈ l := by
        rcases List.mem_cons.1 h with h | h
        · exact absurd h.symm hx
        · exact h
      have ih := countP_one hn.2 ha hp hq
      have hxx := hq x hx
      cases hpx : p x
      · rw [List.countP_cons_of_neg (p := p) (by simp [hpx]), List.countP_cons_of_neg (by simp [hxx, hpx]), ih]
      · rw [List.countP_cons_of_pos (p := p) hpx, List.countP_cons_of_pos (by rw [hxx, hpx])]
        omega

theorem PlInv.step {st : LSt} {t : List Ev} {e : Ev} (h : PlInv st t) (ha : st.answer e = 0) : PlInv (st.after e) (t ++ [e]) := by
  rw [after_ok ha]
  obtain ⟨hr, hc, ht, hm, ho⟩ := answer_ok ha
  have hkd := rightB_kind hr
  have hlast : ∀ x, (t ++ [e]).getLast? = some x → e.time = x.time := by
    intro x hx
    simp at hx
    rw [hx]
  by_cases h12 : e.kind = 1 ∨ e.kind = 2
  · have hs : ∀ id, stOf id (t ++ [e]) = stOf id t := fun id => by rw [stOf_snoc, stepS, if_pos (.inr (by omega))]
    have hst : startsOf (t ++ [e]) = startsOf t := by rw [startsOf_snoc, if_neg (by omega)]
    have hop : openOf (t ++ [e]) = openOf t := by
      unfold openOf
      rw [hst]
      exact List.countP_congr (fun j _ => by rw [hs])
    simp only [LSt.next, if_pos h12]
    refine ⟨?_, by simp, hlast, ?_, ?_, ?_, ?_, h.o64, ?_⟩
    · simp [h.cnt]
    · intro id; rw [hs, ← h.sts]; rfl
    · intro id; rw [hst]; exact h.beg id
    · rw [hst]; exact h.nod
    · rw [hop]; exact h.opn
    · rw [hst]; exact h.n0
  · unfold LSt.mayB at hm
    have hc0 : ¬ (e.kind = 1 ∨ st.count = 0) := by
      rintro (q | q)
      · exact h12 (.inl q)
      · rw [if_pos (.inr q)] at hm
        simp at hm
        exact h12 (.inl hm.1)
    rw [if_neg hc0, if_neg (fun q => h12 (.inr q))] at hm
    simp only [LSt.next, if_neg h12]
    by_cases h3 : e.kind = 3
    · rw [if_pos h3] at hm
      have hfr : e.id ∉ startsOf t := by
        rw [h.beg] at hm
        simpa using hm
      have hst : startsOf (t ++ [e]) = startsOf t ++ [e.id] := by rw [startsOf_snoc, if_pos h3]
      have hs : ∀ id, stOf id (t ++ [e]) = if id = e.id then 1 else stOf id t := fun id => by
        rw [stOf_snoc, stepS]
        by_cases hid : id = e.id
        · rw [if_neg (by rw [hid]; omega), if_pos h3, if_pos hid]
        · rw [if_pos (.inl (fun q => hid q.symm)), if_neg hid]
      refine ⟨?_, by simp, hlast, ?_, ?_, ?_, ?_, ?_, ?_⟩
      · simp [h.cnt]
      · intro id
        rw [hs]
        by_cases hid : id = e.id
        · simp [LSt.state, hid, h3]
        · simp only [LSt.state, if_neg hid]; exact h.sts id
      · intro id
        rw [hst]
        by_cases hid : id = e.id
        · simp [hid]
        · simp only [if_neg hid, h.beg]; simp [hid]
      · rw [hst, List.nodup_append]
        refine ⟨h.nod, by simp, ?_⟩
        intro a ha b hb
        simp at hb
        rintro rfl
        exact hfr (hb ▸ ha)
      · have : openOf (t ++ [e]) = openOf t + 1 := by
          unfold openOf
          rw [hst, List.countP_append]
          have h1 : List.countP (fun j => decide (0 < stOf j (t ++ [e]))) (startsOf t) = List.countP (fun j => decide (0 < stOf j t)) (startsOf t) := List.countP_congr (fun j hj => by
            rw [hs, if_neg (show ¬ j = e.id from fun q => hfr (q ▸ hj))])
          rw [h1]
          congr 1
          rw [List.countP_cons_of_pos (by rw [hs]; simp)]
          simp
        simp only [LSt.goesOpen, if_pos h3]
        rw [if_neg (by omega), this]
        have := h.opn
        omega
      · simp only [LSt.goesOpen, if_pos h3]
        rw [if_neg (by omega)]
        have := h.o64
        omega
      · have : (st.at_ e.id).isSome = false := by simpa using hm
        rw [this, hst]
        simp [h.n0]
    · rw [if_neg h3] at hm
      have hwp := way_pos e.kind _ (by omega) hm
      have hwt := way_to e.kind _ (by omega) hm
      have hsome : (st.at_ e.id).isSome = true := by
        cases hq : st.at_ e.id with
        | none => have := hwp.1; simp [LSt.state, hq] at this
        | some v => rfl
      have hmem : e.id ∈ startsOf t := by
        rw [h.beg] at hsome
        simpa using hsome
      have hst : startsOf (t ++ [e]) = startsOf t := by rw [startsOf_snoc, if_neg h3]
      have hs : ∀ id, stOf id (t ++ [e]) = if id = e.id then (wayOf e.kind).2 else stOf id t := fun id => by
        rw [stOf_snoc, stepS]
        by_cases hid : id = e.id
        · rw [if_neg (by rw [hid]; omega), if_neg h3, if_pos hid, ← hwt, h.sts, hid]
        · rw [if_pos (.inl (fun q => hid q.symm)), if_neg hid]
      have hopn : (openOf (t ++ [e]) : Int) = openOf t - (if (wayOf e.kind).2 = 0 then 1 else 0) := by
        unfold openOf
        rw [hst]
        have := countP_one (p := fun j => decide (0 < stOf j t)) (q := fun j => decide (0 < stOf j (t ++ [e]))) h.nod hmem (by have := hwp.1; rw [h.sts] at this; simpa using this) (fun j hj => by simp only [hs, if_neg hj])
        rw [this]
        simp only [hs, if_true]
        congr 1
        have := hwp.2
        by_cases h0 : (wayOf e.kind).2 = 0
        · simp [h0]
        · rw [if_neg h0, if_pos (by simp; omega)]
      refine ⟨?_, by simp, hlast, ?_, ?_, ?_, ?_, ?_, ?_⟩
      · simp [h.cnt]
      · intro id
        rw [hs]
        by_cases hid : id = e.id
        · simp [LSt.state, hid, h3]
        · simp only [LSt.state, if_neg hid]; exact h.sts id
      · intro id
        rw [hst]
        by_cases hid : id = e.id
        · rw [hid]; simp [hmem]
        · simp only [if_neg hid, h.beg]
      · rw [hst]; exact h.nod
      · rw [hopn]
        simp only [LSt.goesOpen, if_neg h3]
        have := h.opn
        by_cases h0 : (wayOf e.kind).2 = 0
        · rw [if_pos ⟨h3, h0⟩, if_pos h0]; omega
        · rw [if_neg (fun q => h0 q.2), if_neg h0]; omega
      · simp only [LSt.goesOpen, if_neg h3]
        have := h.o64
        split <;> omega
      · rw [hsome, hst]; exact h.n0
end Go.Proofs.YtjbdjijfbpiccaaDoor
