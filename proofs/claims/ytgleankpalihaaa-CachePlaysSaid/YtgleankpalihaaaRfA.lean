/- Cache: the reference's cache: a row of keys; Has. -/
import Derived.Test.YtgleankpalihaaaChG
namespace Go.Proofs.Ytgleankpalihaaa
open Go.RowKit Go.MapKept
set_option linter.unusedSimpArgs false
set_option linter.unusedVariables false
def kuCells (S : List KU) : List Value := S.flatMap (fun e => [.string e.1, .int .u64 e.2])
theorem kuCells_len (S : List KU) : (kuCells S).length = S.length * 2 := by
  induction S with
  | nil => rfl
  | cons e S ih => simp [kuCells] at ih ⊢; omega
theorem kuCells_at : ∀ (S : List KU) (i : Nat) (e : KU) (j : Nat), S[i]? = some e → j < 2 → (kuCells S)[i * 2 + j]? = ([.string e.1, .int .u64 e.2] : List Value)[j]?
  | [], _, _, _, h, _ => by simp at h
  | x :: l, 0, e, j, h, hj => by
    have : x = e := by simpa using h
    subst this
    simp only [kuCells, List.flatMap_cons]
    rw [List.getElem?_append_left (by simp; omega), Nat.zero_mul, Nat.zero_add]
  | x :: l, i + 1, e, j, h, hj => by
    simp only [kuCells, List.flatMap_cons]
    rw [List.getElem?_append_right (by simp; omega)]
    have : (i + 1) * 2 + j - [Value.string x.1, Value.int .u64 x.2].length = i * 2 + j := by simp; omega
    rw [this]
    exact kuCells_at l i e j (by simpa using h) hj
structure IsRf (w : World) (q : Nat) (X : Nat → Prop) (S : List KU) : Prop where
  out : ∃ v, w.heap[q]? = some (.cells #[v] 30 (0, 0)) ∧ w.ownsRow 0 56 2 v S.length (kuCells S) ∧ X q ∧ ∀ k, v.ownBlock = some k → X k
  lt : ∀ k, X k → k < w.heap.size
theorem own_block {w : World} {v : Value} {n : Nat} {xs : List Value} {t : TypeId} {z : Nat} (h : w.ownsRow 0 t z v n xs) {k : Nat} (hb : v.ownBlock = some k) : ∃ cs, w.heap[k]? = some (.cells cs t (0, 0)) := by
  rcases h.2 with ⟨rfl, q⟩ | ⟨r, cap, cur, rfl, _, hr, _⟩
  · simp [Value.ownBlock] at hb
  · simp [Value.ownBlock] at hb
    subst hb
    exact ⟨_, hr⟩
theorem own_kp {S : Nat → Prop} {w w' : World} {v : Value} {n : Nat} {xs : List Value} {t : TypeId} {z : Nat} (h : w.ownsRow 0 t z v n xs) (k : Kp S w w') (h1 : ∀ g, v.ownBlock = some g → ¬ S g) : w'.ownsRow 0 t z v n xs := by
  refine ⟨h.1, ?_⟩
  rcases h.2 with q | ⟨r, cap, cur, rfl, hb, hr, rest⟩
  · exact .inl q
  · exact .inr ⟨r, cap, cur, rfl, hb, k.blk hr (h1 r rfl), rest⟩
theorem IsRf.kp {T X : Nat → Prop} {w w' : World} {q : Nat} {S : List KU} (h : IsRf w q X S) (k : Kp T w w') (ht : ∀ i, X i → ¬ T i) : IsRf w' q X S := by
  obtain ⟨v, h1, h2, h3, h4⟩ := h.out
  exact ⟨⟨v, k.blk h1 (ht q h3), own_kp h2 k (fun g hg => ht g (h4 g hg)), h3, h4⟩, fun i hi => Nat.lt_of_lt_of_le (h.lt i hi) k.size⟩
theorem IsRf.below {X : Nat → Prop} {w w' : World} {q : Nat} {S : List KU} (h : IsRf w q X S) (k : Below w.heap.size w w') : IsRf w' q X S := h.kp (Kp.of_below (S := Non) k) (fun _ _ q => q)
/-- what the row shows -/
def KusAt (w : World) (A : Option Addr) (S : List KU) : Prop := ∀ i e, S[i]? = some e → ∃ ad, A = some ad ∧ w.cell? (ad.add (i * 2)) = some (.string e.1) ∧ w.cell? ⟨(ad.add (i * 2)).block, (ad.add (i * 2)).off + 1, none⟩ = some (.int .u64 e.2) ∧ w.frozen? ⟨(ad.add (i * 2)).block, (ad.add (i * 2)).off + 1, none⟩ = false
theorem rf_shape {w : World} {v : Value} {S : List KU} (h : w.ownsRow 0 56 2 v S.length (kuCells S)) : ∃ A cap, v = .slice A S.length cap ∧ KusAt w A S := by
  rcases h.2 with ⟨rfl, h2⟩ | ⟨g, cap, cur, rfl, hg, hh, hc, hm, hsz, ht⟩
  · exact ⟨none, 0, by rw [h2], by intro i e he; have : S = [] := List.length_eq_zero_iff.1 h2; simp [this] at he⟩
  · refine ⟨_, cap, rfl, ?_⟩
    intro i e he
    have hi : i < S.length := (List.getElem?_eq_some_iff.1 he).1
    refine ⟨_, rfl, ?_, ?_, ?_⟩
    · have := kuCells_at S i e 0 he (by omega)
      rw [← ht, List.getElem?_take, if_pos (by omega)] at this
      rw [add0, row_cell hh]
      simpa using this
    · have := kuCells_at S i e 1 he (by omega)
      rw [← ht, List.getElem?_take, if_pos (by omega)] at this
      rw [add0]
      show w.cell? ⟨g, i * 2 + 1, none⟩ = _
      rw [row_cell hh]
      simpa using this
    · rw [add0]; exact row_frozen hh _
theorem has_drop_none (S : List KU) (key : ByteArray) (now : Int) (h : ∀ e ∈ S, e.1 ≠ key) : has S key now = false := by
  rw [has_eq]
  cases hg : get S key with
  | none => rfl
  | some u => exact absurd rfl (h _ (get_mem hg))
theorem get_first {S : List KU} {i : Nat} {e : KU} (he : S[i]? = some e) (hb : ∀ j x, j < i → S[j]? = some x → x.1 ≠ e.1) : get S e.1 = some e.2 := by
  induction S generalizing i with
  | nil => simp at he
  | cons x S ih =>
    rw [get_cons]
    cases i with
    | zero =>
      have : x = e := by simpa using he
      rw [this, if_pos rfl]
    | succ i =>
      rw [if_neg (hb 0 x (by omega) rfl)]
      exact ih (by simpa using he) (fun j y hj hy => hb (j + 1) y (by omega) (by simpa using hy))
set_option maxHeartbeats 800000 in
theorem rhas_calls {X : Nat → Prop} {w : World} {q : Nat} {S : List KU} (h : IsRf w q X S) (key : ByteArray) (now : Int) (hn : S.length ≤ 1000) :
    Calls Try.prog 15 #[.pointer (some ⟨q, 0, none⟩), .string key, .int .u64 now] w fun e w' => e = .returned (.bool (has S key now)) ∧ w = w' := by
  obtain ⟨v, h1, h2, h3, h4⟩ := h.out
  obtain ⟨A, cap, rfl, hK⟩ := rf_shape h2
  have hc : w.cell? ⟨q, 0, none⟩ = some (.slice A S.length cap) := row_cell h1 0
  have HK := Lib.hid hK
  clear h h1 h2 h3 h4 hK
  go_enter Try.func15, Try.ntmps15
  go_wp2_with fail
  go_loop [7] (fun i => ∃ k : Nat, i = .int .i64 k ∧ k ≤ S.length ∧ ∀ j x, j < k → S[j]? = some x → x.1 ≠ key) (fun i => S.length - (intOf i).toNat)
  case atStart => exact ⟨0, rfl, by omega, fun j x hj => by omega⟩
  case round =>
    obtain ⟨k, rfl, hk, hb⟩ := hrel
    have HB := Lib.hid hb
    clear hb
    by_cases hlt : k < S.length
    · obtain ⟨ad, rfl, hc0, hc1, _⟩ := HK.out k S[k] (by simp [hlt])
      have hSk : S[k]? = some S[k] := by simp [hlt]
      generalize S[k] = e at hc0 hc1 hSk
      by_cases he : e.1.toList = key.toList
      · have hek : e.1 = key := toList_inj he
        have hg : has S key now = decide (now < e.2) := by
          rw [has_eq, ← hek, get_first hSk (fun j x hj hx => by rw [hek]; exact HB.out j x hj hx)]
        have HG := Lib.hid hg
        have heq : (e.1.toList == key.toList) = true := by simpa using he
        clear hg hek he HB HK
        go_wp2
        go_ret
        exact ⟨by rw [HG.out]; rfl, rfl⟩
      · have heq : (e.1.toList == key.toList) = false := by simpa using he
        have hwk : wrap64 ((k : Int) + 1) = ((k + 1 : Nat) : Int) := by unfold wrap64; omega
        go_wp2_with fail
        go_round
        case rel =>
          refine ⟨k + 1, by go_num, by omega, ?_⟩
          intro j x hj hx
          by_cases hjk : j = k
          · rw [hjk, hSk] at hx
            have : e = x := Option.some.inj hx
            subst this
            exact fun q => he (by rw [q])
          · exact HB.out j x (by omega) hx
        case measure => simp [intOf]; omega
    · have hkS : k = S.length := by omega
      have hg : has S key now = false := has_drop_none S key now (fun e he => by
        obtain ⟨j, hj⟩ := List.getElem?_of_mem he
        exact HB.out j e (by have := (List.getElem?_eq_some_iff.1 hj).1; omega) hj)
      have HG := Lib.hid hg
      clear hg HB HK
      go_wp2
      go_ret
      exact ⟨by rw [HG.out]; rfl, rfl⟩
end Go.Proofs.Ytgleankpalihaaa
