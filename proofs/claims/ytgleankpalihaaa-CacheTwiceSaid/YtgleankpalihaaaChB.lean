/- Cache: a session with two caches. -/
import Derived.Test.YtgleankpalihaaaChG

namespace Go.Proofs.Ytgleankpalihaaa
open Go.RowKit Go.MapKept
set_option linter.unusedSimpArgs false
set_option linter.unusedVariables false
structure Ss2 (w W : World) (p q : Nat) (S T : List KU) : Prop where
  is : ∃ X Y, IsC W p X S ∧ IsC W q Y T ∧ (∀ k, X k → w.heap.size ≤ k) ∧ (∀ k, Y k → w.heap.size ≤ k) ∧ ∀ k, X k → ¬ Y k
  bel : Below w.heap.size w W
theorem Ss2.symm {w W : World} {p q : Nat} {S T : List KU} (h : Ss2 w W p q S T) : Ss2 w W q p T S := by
  obtain ⟨X, Y, h1, h2, h3, h4, h5⟩ := h.is
  exact ⟨⟨Y, X, h2, h1, h4, h3, fun k a b => h5 k b a⟩, h.bel⟩
theorem Ss2.below {w W W' : World} {p q : Nat} {S T : List KU} (h : Ss2 w W p q S T) (k : Below W.heap.size W W') : Ss2 w W' p q S T := by
  obtain ⟨X, Y, h1, h2, h3, h4, h5⟩ := h.is
  exact ⟨⟨X, Y, h1.below k, h2.below k, h3, h4, h5⟩, h.bel.trans (k.mono h.bel.size)⟩
theorem Ss2.drew {w W : World} {p q : Nat} {S T : List KU} (h : Ss2 w W p q S T) : Ss2 w W.drew p q S T := h.below ⟨rfl, rfl, rfl, Nat.le_refl _, fun _ _ => rfl⟩
theorem Ss2.drewN {w W : World} {p q : Nat} {S T : List KU} (h : Ss2 w W p q S T) (n : Nat) : Ss2 w (W.drewN n) p q S T := h.below ⟨rfl, rfl, rfl, Nat.le_refl _, fun _ _ => rfl⟩
theorem Ss2.kn {w W : World} {p q : Nat} {S T : List KU} (h : Ss2 w W p q S T) : KN S := by
  obtain ⟨X, Y, h1, _⟩ := h.is
  exact h1.kn
theorem new_2 {w W : World} {p : Nat} {S : List KU} (h : Ss w W p S) : Calls Try.prog 9 #[] W fun e w' => ∃ q, e = .returned (.pointer (some ⟨q, 0, none⟩)) ∧ Ss2 w w' p q S [] := by
  obtain ⟨X, h1, h2⟩ := h.is
  refine (new_calls W).mono ?_
  rintro e w' ⟨q, Y, rfl, k1, k2, k3⟩
  exact ⟨q, rfl, ⟨X, Y, h1.below k3, k1, h2, fun k hk => Nat.le_trans h.bel.size (k2 k hk), fun k a b => by have := h1.lt k a; have := k2 k b; omega⟩, h.bel.trans (k3.mono h.bel.size)⟩
theorem put_a {w W : World} {p q : Nat} {S T : List KU} (h : Ss2 w W p q S T) (key : ByteArray) (t : Int) (hn : S.length ≤ 1000) :
    Calls Try.prog 16 #[.pointer (some ⟨p, 0, none⟩), .string key, .int .u64 t] W fun e w' => e = .returned (.tuple #[]) ∧ Ss2 w w' p q (put S key t) T := by
  obtain ⟨X, Y, h1, h2, h3, h4, h5⟩ := h.is
  refine (put_calls h1 key t hn).mono ?_
  rintro e w' ⟨rfl, hE⟩
  refine ⟨rfl, ⟨_, Y, hE.is, h2.kp hE.kp (fun k a b => h5 k b a), Xn.above h3 h.bel.size, h4, ?_⟩, h.bel.trans (hE.kp.below (fun k q => h3 k q) h.bel.size)⟩
  rintro k (a | a) b
  · exact h5 k a b
  · have := h2.lt k b; omega
theorem put_b {w W : World} {p q : Nat} {S T : List KU} (h : Ss2 w W p q S T) (key : ByteArray) (t : Int) (hn : T.length ≤ 1000) :
    Calls Try.prog 16 #[.pointer (some ⟨q, 0, none⟩), .string key, .int .u64 t] W fun e w' => e = .returned (.tuple #[]) ∧ Ss2 w w' p q S (put T key t) := by
  refine (put_a h.symm key t hn).mono ?_
  rintro e w' ⟨rfl, hE⟩
  exact ⟨rfl, hE.symm⟩
theorem len_a {w W : World} {p q : Nat} {S T : List KU} (h : Ss2 w W p q S T) : Calls Try.prog 13 #[.pointer (some ⟨p, 0, none⟩)] W fun e w' => e = .returned (.int .i64 S.length) ∧ W = w' := by
  obtain ⟨X, Y, h1, _⟩ := h.is
  exact len_calls h1
theorem len_b {w W : World} {p q : Nat} {S T : List KU} (h : Ss2 w W p q S T) : Calls Try.prog 13 #[.pointer (some ⟨q, 0, none⟩)] W fun e w' => e = .returned (.int .i64 T.length) ∧ W = w' := len_a h.symm
theorem has_a {w W : World} {p q : Nat} {S T : List KU} (h : Ss2 w W p q S T) (key : ByteArray) (now : Int) :
    Calls Try.prog 14 #[.pointer (some ⟨p, 0, none⟩), .string key, .int .u64 now] W fun e w' => e = .returned (.bool (has S key now)) ∧ W = w' := by
  obtain ⟨X, Y, h1, _⟩ := h.is
  exact has_calls h1 key now
theorem has_b {w W : World} {p q : Nat} {S T : List KU} (h : Ss2 w W p q S T) (key : ByteArray) (now : Int) :
    Calls Try.prog 14 #[.pointer (some ⟨q, 0, none⟩), .string key, .int .u64 now] W fun e w' => e = .returned (.bool (has T key now)) ∧ W = w' := has_a h.symm key now
theorem has_qa {w W : World} {p q : Nat} {S T : List KU} (h : Ss2 w W p q S T) (key : ByteArray) (now : Int) (n : Nat) :
    Calls Try.prog 14 #[.pointer (some ⟨p, 0, none⟩), .string key, .int .u64 now] (W.drewN n) fun e w' => e = .returned (.bool (has S key now)) ∧ w' = W.drewN n :=
  (has_a (h.drewN n) key now).mono fun _ _ ⟨a, b⟩ => ⟨a, b.symm⟩
theorem has_qb {w W : World} {p q : Nat} {S T : List KU} (h : Ss2 w W p q S T) (key : ByteArray) (now : Int) (n : Nat) :
    Calls Try.prog 14 #[.pointer (some ⟨q, 0, none⟩), .string key, .int .u64 now] (W.drewN n) fun e w' => e = .returned (.bool (has T key now)) ∧ w' = W.drewN n := has_qa h.symm key now n
theorem len_qa {w W : World} {p q : Nat} {S T : List KU} (h : Ss2 w W p q S T) (n : Nat) :
    Calls Try.prog 13 #[.pointer (some ⟨p, 0, none⟩)] (W.drewN n) fun e w' => e = .returned (.int .i64 S.length) ∧ w' = W.drewN n :=
  (len_a (h.drewN n)).mono fun _ _ ⟨a, b⟩ => ⟨a, b.symm⟩
theorem next_a {w W : World} {p q : Nat} {S T : List KU} (h : Ss2 w W p q S T) : Calls Try.prog 11 #[.pointer (some ⟨p, 0, none⟩)] W fun e w' => e = .returned (nextV (least S)) ∧ Ss2 w w' p q S T := by
  obtain ⟨X, Y, h1, h2, _⟩ := h.is
  refine (next_calls h1).mono ?_
  rintro e w' ⟨rfl, hB⟩
  exact ⟨rfl, h.below hB⟩
theorem next_b {w W : World} {p q : Nat} {S T : List KU} (h : Ss2 w W p q S T) : Calls Try.prog 11 #[.pointer (some ⟨q, 0, none⟩)] W fun e w' => e = .returned (nextV (least T)) ∧ Ss2 w w' p q S T := by
  refine (next_a h.symm).mono ?_
  rintro e w' ⟨rfl, hB⟩
  exact ⟨rfl, hB.symm⟩
theorem expire_a {w W : World} {p q : Nat} {S T : List KU} (h : Ss2 w W p q S T) (now : Int) (hn : S.length ≤ 1000) :
    Calls Try.prog 17 #[.pointer (some ⟨p, 0, none⟩), .int .u64 now] W fun e w' => (∃ c : Nat, e = .returned (.int .i64 c) ∧ c + (left S now).length = S.length) ∧ Ss2 w w' p q (left S now) T := by
  obtain ⟨X, Y, h1, h2, h3, h4, h5⟩ := h.is
  refine (expire_calls h1 now hn).mono ?_
  rintro e w' ⟨he, hE⟩
  exact ⟨he, ⟨X, Y, hE.is, h2.kp hE.kp (fun k a b => h5 k b a), h3, h4, h5⟩, h.bel.trans (hE.kp.below (fun k q => h3 k q) h.bel.size)⟩
theorem expire_b {w W : World} {p q : Nat} {S T : List KU} (h : Ss2 w W p q S T) (now : Int) (hn : T.length ≤ 1000) :
    Calls Try.prog 17 #[.pointer (some ⟨q, 0, none⟩), .int .u64 now] W fun e w' => (∃ c : Nat, e = .returned (.int .i64 c) ∧ c + (left T now).length = T.length) ∧ Ss2 w w' p q S (left T now) := by
  refine (expire_a h.symm now hn).mono ?_
  rintro e w' ⟨he, hE⟩
  exact ⟨he, hE.symm⟩
end Go.Proofs.Ytgleankpalihaaa
