/- Cache: a session with one cache; shown. -/
import Derived.Test.YtgleankpalihaaaChT
namespace Go.Proofs.Ytgleankpalihaaa
open Go.RowKit Go.MapKept
set_option linter.unusedSimpArgs false
set_option linter.unusedVariables false
structure Ss (w W : World) (p : Nat) (S : List KU) : Prop where
  is : ∃ X, IsC W p X S ∧ ∀ k, X k → w.heap.size ≤ k
  bel : Below w.heap.size w W
theorem Ss.below {w W W' : World} {p : Nat} {S : List KU} (h : Ss w W p S) (k : Below W.heap.size W W') : Ss w W' p S := by
  obtain ⟨X, h1, h2⟩ := h.is
  exact ⟨⟨X, h1.below k, h2⟩, h.bel.trans (k.mono h.bel.size)⟩
theorem Xn.above {X : Nat → Prop} {w W W' : World} (h2 : ∀ k, X k → w.heap.size ≤ k) (hs : w.heap.size ≤ W.heap.size) : ∀ k, Xn X W W' k → w.heap.size ≤ k := by
  rintro k (q | q)
  · exact h2 k q
  · omega
theorem new_s (w : World) : Calls Try.prog 9 #[] w fun e w' => ∃ p, e = .returned (.pointer (some ⟨p, 0, none⟩)) ∧ Ss w w' p [] := by
  refine (new_calls w).mono ?_
  rintro e w' ⟨p, X, rfl, h1, h2, h3⟩
  exact ⟨p, rfl, ⟨X, h1, h2⟩, h3⟩
theorem new_in {w W : World} {p : Nat} {S : List KU} (h : Below w.heap.size w W) : Calls Try.prog 9 #[] W fun e w' => ∃ p, e = .returned (.pointer (some ⟨p, 0, none⟩)) ∧ Ss w w' p [] := by
  refine (new_calls W).mono ?_
  rintro e w' ⟨p, X, rfl, h1, h2, h3⟩
  exact ⟨p, rfl, ⟨X, h1, fun k hk => Nat.le_trans h.size (h2 k hk)⟩, h.trans (h3.mono h.size)⟩
theorem put_s {w W : World} {p : Nat} {S : List KU} (h : Ss w W p S) (key : ByteArray) (t : Int) (hn : S.length ≤ 1000) :
    Calls Try.prog 16 #[.pointer (some ⟨p, 0, none⟩), .string key, .int .u64 t] W fun e w' => e = .returned (.tuple #[]) ∧ Ss w w' p (put S key t) := by
  obtain ⟨X, h1, h2⟩ := h.is
  refine (put_calls h1 key t hn).mono ?_
  rintro e w' ⟨rfl, hE⟩
  exact ⟨rfl, ⟨_, hE.is, Xn.above h2 h.bel.size⟩, h.bel.trans (hE.kp.below (fun k q => h2 k q) h.bel.size)⟩
theorem len_s {w W : World} {p : Nat} {S : List KU} (h : Ss w W p S) : Calls Try.prog 13 #[.pointer (some ⟨p, 0, none⟩)] W fun e w' => e = .returned (.int .i64 S.length) ∧ W = w' := by
  obtain ⟨X, h1, h2⟩ := h.is
  exact len_calls h1
theorem has_s {w W : World} {p : Nat} {S : List KU} (h : Ss w W p S) (key : ByteArray) (now : Int) :
    Calls Try.prog 14 #[.pointer (some ⟨p, 0, none⟩), .string key, .int .u64 now] W fun e w' => e = .returned (.bool (has S key now)) ∧ W = w' := by
  obtain ⟨X, h1, h2⟩ := h.is
  exact has_calls h1 key now
theorem next_s {w W : World} {p : Nat} {S : List KU} (h : Ss w W p S) : Calls Try.prog 11 #[.pointer (some ⟨p, 0, none⟩)] W fun e w' => e = .returned (nextV (least S)) ∧ Ss w w' p S ∧ Below W.heap.size W w' := by
  obtain ⟨X, h1, h2⟩ := h.is
  refine (next_calls h1).mono ?_
  rintro e w' ⟨rfl, hB⟩
  exact ⟨rfl, h.below hB, hB⟩
theorem expire_s {w W : World} {p : Nat} {S : List KU} (h : Ss w W p S) (now : Int) (hn : S.length ≤ 1000) :
    Calls Try.prog 17 #[.pointer (some ⟨p, 0, none⟩), .int .u64 now] W fun e w' => (∃ c : Nat, e = .returned (.int .i64 c) ∧ c + (left S now).length = S.length) ∧ Ss w w' p (left S now) := by
  obtain ⟨X, h1, h2⟩ := h.is
  refine (expire_calls h1 now hn).mono ?_
  rintro e w' ⟨he, hE⟩
  exact ⟨he, ⟨X, hE.is, h2⟩, h.bel.trans (hE.kp.below (fun k q => h2 k q) h.bel.size)⟩
theorem nextV_some (t : KU) : nextV (some t) = .tuple #[.string t.1, .int .u64 t.2, .bool true] := rfl
theorem nextV_none : nextV none = .tuple #[.string ⟨#[]⟩, .int .u64 0, .bool false] := rfl
def kA : ByteArray := ⟨#[97]⟩
def kB : ByteArray := ⟨#[98]⟩
theorem sp1 : put [] kA 5 = [(kA, 5)] := by kernel_rfl
theorem sp2 : put [(kA, 5)] kB 3 = [(kA, 5), (kB, 3)] := by kernel_rfl
theorem sp3 : put [(kA, 5), (kB, 3)] kA 4 = [(kA, 5), (kB, 3)] := by kernel_rfl
theorem sp4 : least [(kA, 5), (kB, 3)] = some (kB, 3) := by kernel_rfl
theorem sp5 : left [(kA, 5), (kB, 3)] 4 = [(kA, 5)] := by kernel_rfl
theorem sp6 : has [(kA, 5)] kA 4 = true := by kernel_rfl
theorem sp7 : has [(kA, 5)] kA 5 = false := by kernel_rfl
set_option maxHeartbeats 800000 in
theorem shown_calls (w : World) : Calls Try.prog 8 #[] w fun e w' => e = .returned (.bool true) ∧ Below w.heap.size w w' := by
  go_enter Try.func8, Try.ntmps8
  go_wp2_with fail
  refine (new_s w).mono ?_
  rintro e1 w1 ⟨p, rfl, hS⟩
  have HS := Lib.hid hS
  clear hS
  go_wp2_with fail
  refine (put_s HS.out kA 5 (by simp)).mono ?_
  rintro e2 w2 ⟨rfl, hS⟩
  rw [sp1] at hS
  have HS2 := Lib.hid hS
  clear hS HS
  go_wp2_with fail
  refine (put_s HS2.out kB 3 (by simp)).mono ?_
  rintro e3 w3 ⟨rfl, hS⟩
  rw [sp2] at hS
  have HS3 := Lib.hid hS
  clear hS HS2
  go_wp2_with fail
  refine (put_s HS3.out kA 4 (by simp)).mono ?_
  rintro e4 w4 ⟨rfl, hS⟩
  rw [sp3] at hS
  have HS4 := Lib.hid hS
  clear hS HS3
  go_wp2_with fail
  refine (next_s HS4.out).mono ?_
  rintro e5 w5 ⟨rfl, hS, _⟩
  rw [sp4, nextV_some]
  have HS5 := Lib.hid hS
  clear hS HS4
  go_wp2_with fail
  refine (expire_s HS5.out 4 (by simp)).mono ?_
  rintro e6 w6 ⟨⟨c, rfl, hc⟩, hS⟩
  rw [sp5] at hS hc
  have hc1 : c = 1 := by simpa using hc
  subst hc1
  have HS6 := Lib.hid hS
  clear hS HS5 hc
  have hkb : kB.toList = [98] := by kernel_rfl
  go_wp2_with fail
  refine (has_s HS6.out kA 4).mono ?_
  rintro e7 w7 ⟨rfl, rfl⟩
  rw [sp6]
  go_wp2_with fail
  refine (has_s HS6.out kA 5).mono ?_
  rintro e8 w8 ⟨rfl, rfl⟩
  rw [sp7]
  go_wp2_with fail
  refine (len_s HS6.out).mono ?_
  rintro e9 w9 ⟨rfl, rfl⟩
  go_wp2
  go_ret
  exact ⟨rfl, HS6.out.bel⟩
end Go.Proofs.Ytgleankpalihaaa
