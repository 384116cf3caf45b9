/- Cache: a session with a cache and the reference's; play. -/
import Derived.Test.YtgleankpalihaaaRfD
namespace Go.Proofs.Ytgleankpalihaaa
open Go.RowKit Go.MapKept
set_option linter.unusedSimpArgs false
set_option linter.unusedVariables false
structure SsP (w W : World) (p q : Nat) (S : List KU) : Prop where
  is : ∃ X Y, IsC W p X S ∧ IsRf W q Y S ∧ (∀ k, X k → w.heap.size ≤ k) ∧ (∀ k, Y k → w.heap.size ≤ k) ∧ ∀ k, X k → ¬ Y k
  bel : Below w.heap.size w W
theorem SsP.below {w W W' : World} {p q : Nat} {S : List KU} (h : SsP w W p q S) (k : Below W.heap.size W W') : SsP w W' p q S := by
  obtain ⟨X, Y, h1, h2, h3, h4, h5⟩ := h.is
  exact ⟨⟨X, Y, h1.below k, h2.below k, h3, h4, h5⟩, h.bel.trans (k.mono h.bel.size)⟩
theorem SsP.kn {w W : World} {p q : Nat} {S : List KU} (h : SsP w W p q S) : KN S := by
  obtain ⟨X, Y, h1, _⟩ := h.is
  exact h1.kn
/-- the two between their steps: the cache has S, the reference's T, block g is of neither -/
structure SsM (w W : World) (p q : Nat) (S T : List KU) (g : Nat) : Prop where
  is : ∃ X Y, IsC W p X S ∧ IsRf W q Y T ∧ (∀ k, X k → w.heap.size ≤ k) ∧ (∀ k, Y k → w.heap.size ≤ k) ∧ (∀ k, X k → ¬ Y k) ∧ ¬ X g ∧ ¬ Y g
  bel : Below w.heap.size w W
  lt : g < W.heap.size
theorem SsP.m {w W : World} {p q : Nat} {S : List KU} (h : SsP w W p q S) (o : Obj) : SsM w (W.alloc o) p q S S W.heap.size := by
  obtain ⟨X, Y, h1, h2, h3, h4, h5⟩ := h.is
  have k : Below W.heap.size W (W.alloc o) := (Below.refl _ W).alloc (Nat.le_refl _) o
  exact ⟨⟨X, Y, h1.below k, h2.below k, h3, h4, h5, fun a => by have := h1.lt _ a; omega, fun a => by have := h2.lt _ a; omega⟩, h.bel.trans (k.mono h.bel.size), by simp⟩
theorem SsM.p {w W : World} {p q g : Nat} {S : List KU} (h : SsM w W p q S S g) : SsP w W p q S := by
  obtain ⟨X, Y, h1, h2, h3, h4, h5, _⟩ := h.is
  exact ⟨⟨X, Y, h1, h2, h3, h4, h5⟩, h.bel⟩
theorem SsM.drew {w W : World} {p q g : Nat} {S T : List KU} (h : SsM w W p q S T g) : SsM w W.drew p q S T g := by
  obtain ⟨X, Y, h1, h2, h3, h4, h5, h6⟩ := h.is
  have k : Below W.heap.size W W.drew := ⟨rfl, rfl, rfl, Nat.le_refl _, fun _ _ => rfl⟩
  exact ⟨⟨X, Y, h1.below k, h2.below k, h3, h4, h5, h6⟩, h.bel.trans (k.mono h.bel.size), h.lt⟩
theorem put_m {w W : World} {p q g : Nat} {S T : List KU} (h : SsM w W p q S T g) (key : ByteArray) (t : Int) (hn : S.length ≤ 1000) :
    Calls Try.prog 16 #[.pointer (some ⟨p, 0, none⟩), .string key, .int .u64 t] W fun e w' => e = .returned (.tuple #[]) ∧ SsM w w' p q (put S key t) T g ∧ w'.heap[g]? = W.heap[g]? := by
  obtain ⟨X, Y, h1, h2, h3, h4, h5, h6, h7⟩ := h.is
  refine (put_calls h1 key t hn).mono ?_
  rintro e w' ⟨rfl, hE⟩
  refine ⟨rfl, ⟨⟨_, Y, hE.is, h2.kp hE.kp (fun k a b => h5 k b a), Xn.above h3 h.bel.size, h4, ?_, (fun a => by rcases a with a | a; exact h6 a; have := h.lt; omega), h7⟩, h.bel.trans (hE.kp.below (fun k q => h3 k q) h.bel.size), Nat.lt_of_lt_of_le h.lt hE.kp.size⟩, hE.kp.block g h.lt h6⟩
  rintro k (a | a) b
  · exact h5 k a b
  · have := h2.lt k b; omega
theorem rput_m {w W : World} {p q g : Nat} {S T : List KU} (h : SsM w W p q S T g) (hk : KN T) (key : ByteArray) (t : Int) (hn : T.length ≤ 1000) :
    Calls Try.prog 18 #[.pointer (some ⟨q, 0, none⟩), .string key, .int .u64 t] W fun e w' => e = .returned (.tuple #[]) ∧ SsM w w' p q S (put T key t) g ∧ w'.heap[g]? = W.heap[g]? := by
  obtain ⟨X, Y, h1, h2, h3, h4, h5, h6, h7⟩ := h.is
  refine (rput_calls h2 hk key t hn).mono ?_
  rintro e w' ⟨rfl, hE⟩
  refine ⟨rfl, ⟨⟨X, _, h1.kp hE.kp (fun k a b => h5 k a b), hE.is, h3, Xn.above h4 h.bel.size, ?_, h6, (fun a => by rcases a with a | a; exact h7 a; have := h.lt; omega)⟩, h.bel.trans (hE.kp.below (fun k q => h4 k q) h.bel.size), Nat.lt_of_lt_of_le h.lt hE.kp.size⟩, hE.kp.block g h.lt h7⟩
  rintro k a (b | b)
  · exact h5 k a b
  · have := h1.lt k a; omega
theorem expire_m {w W : World} {p q g : Nat} {S T : List KU} (h : SsM w W p q S T g) (now : Int) (hn : S.length ≤ 1000) :
    Calls Try.prog 17 #[.pointer (some ⟨p, 0, none⟩), .int .u64 now] W fun e w' => (∃ c : Nat, e = .returned (.int .i64 c) ∧ c + (left S now).length = S.length) ∧ SsM w w' p q (left S now) T g ∧ w'.heap[g]? = W.heap[g]? := by
  obtain ⟨X, Y, h1, h2, h3, h4, h5, h6, h7⟩ := h.is
  refine (expire_calls h1 now hn).mono ?_
  rintro e w' ⟨he, hE⟩
  exact ⟨he, ⟨⟨X, Y, hE.is, h2.kp hE.kp (fun k a b => h5 k b a), h3, h4, h5, h6, h7⟩, h.bel.trans (hE.kp.below (fun k q => h3 k q) h.bel.size), Nat.lt_of_lt_of_le h.lt hE.kp.size⟩, hE.kp.block g h.lt h6⟩
theorem rexpire_m {w W : World} {p q g : Nat} {S T : List KU} (h : SsM w W p q S T g) (now : Int) (hn : T.length ≤ 1000) :
    Calls Try.prog 19 #[.pointer (some ⟨q, 0, none⟩), .int .u64 now] W fun e w' => (∃ c : Nat, e = .returned (.int .i64 c) ∧ c + (left T now).length = T.length) ∧ SsM w w' p q S (left T now) g ∧ w'.heap[g]? = W.heap[g]? := by
  obtain ⟨X, Y, h1, h2, h3, h4, h5, h6, h7⟩ := h.is
  refine (rexpire_calls h2 now hn).mono ?_
  rintro e w' ⟨he, hE⟩
  refine ⟨he, ⟨⟨X, _, h1.kp hE.kp (fun k a b => h5 k a b), hE.is, h3, Xn.above h4 h.bel.size, ?_, h6, (fun a => by rcases a with a | a; exact h7 a; have := h.lt; omega)⟩, h.bel.trans (hE.kp.below (fun k q => h4 k q) h.bel.size), Nat.lt_of_lt_of_le h.lt hE.kp.size⟩, hE.kp.block g h.lt h7⟩
  rintro k a (b | b)
  · exact h5 k a b
  · have := h1.lt k a; omega
theorem has_pq {w W : World} {p q : Nat} {S : List KU} (h : SsP w W p q S) (key : ByteArray) (now : Int) (n : Nat) :
    Calls Try.prog 14 #[.pointer (some ⟨p, 0, none⟩), .string key, .int .u64 now] (W.drewN n) fun e w' => e = .returned (.bool (has S key now)) ∧ w' = W.drewN n := by
  obtain ⟨X, Y, h1, _⟩ := (h.below (W' := W.drewN n) ⟨rfl, rfl, rfl, Nat.le_refl _, fun _ _ => rfl⟩).is
  exact (has_calls h1 key now).mono fun _ _ ⟨a, b⟩ => ⟨a, b.symm⟩
theorem rhas_pq {w W : World} {p q : Nat} {S : List KU} (h : SsP w W p q S) (key : ByteArray) (now : Int) (hn : S.length ≤ 1000) (n : Nat) :
    Calls Try.prog 15 #[.pointer (some ⟨q, 0, none⟩), .string key, .int .u64 now] (W.drewN n) fun e w' => e = .returned (.bool (has S key now)) ∧ w' = W.drewN n := by
  obtain ⟨X, Y, _, h2, _⟩ := (h.below (W' := W.drewN n) ⟨rfl, rfl, rfl, Nat.le_refl _, fun _ _ => rfl⟩).is
  exact (rhas_calls h2 key now hn).mono fun _ _ ⟨a, b⟩ => ⟨a, b.symm⟩
theorem len_pq {w W : World} {p q : Nat} {S : List KU} (h : SsP w W p q S) (n : Nat) :
    Calls Try.prog 13 #[.pointer (some ⟨p, 0, none⟩)] (W.drewN n) fun e w' => e = .returned (.int .i64 S.length) ∧ w' = W.drewN n := by
  obtain ⟨X, Y, h1, _⟩ := (h.below (W' := W.drewN n) ⟨rfl, rfl, rfl, Nat.le_refl _, fun _ _ => rfl⟩).is
  exact (len_calls h1).mono fun _ _ ⟨a, b⟩ => ⟨a, b.symm⟩
theorem next_p {w W : World} {p q : Nat} {S : List KU} (h : SsP w W p q S) : Calls Try.prog 11 #[.pointer (some ⟨p, 0, none⟩)] W fun e w' => e = .returned (nextV (least S)) ∧ SsP w w' p q S := by
  obtain ⟨X, Y, h1, _⟩ := h.is
  refine (next_calls h1).mono ?_
  rintro e w' ⟨rfl, hB⟩
  exact ⟨rfl, h.below hB⟩
theorem rnext_p {w W : World} {p q : Nat} {S : List KU} (h : SsP w W p q S) (hn : S.length ≤ 1000) : Calls Try.prog 12 #[.pointer (some ⟨q, 0, none⟩)] W fun e w' => e = .returned (nextV (least S)) ∧ SsP w w' p q S := by
  obtain ⟨X, Y, _, h2, _⟩ := h.is
  refine (rnext_calls h2 hn).mono ?_
  rintro e w' ⟨rfl, hB⟩
  exact ⟨rfl, h.below hB⟩
structure PlE (w W : World) (p q : Nat) (S : List KU) : Prop where
  out : ∃ S', S'.length ≤ S.length + 1 ∧ SsP w W p q S'
set_option maxHeartbeats 1600000 in
theorem play_calls {w W : World} {p q : Nat} {S : List KU} (h : SsP w W p q S) (hn : S.length ≤ 999) (kd : Int) (key : ByteArray) (n : Int) :
    Calls Try.prog 10 #[.pointer (some ⟨p, 0, none⟩), .pointer (some ⟨q, 0, none⟩), .agg #[.int .i64 kd, .string key, .int .u64 n]] W fun e W' => e = .returned (.bool true) ∧ PlE w W' p q S := by
  have H := Lib.hid h
  have H1 := Lib.hid (h.m (.cells #[.int .i64 kd, .string key, .int .u64 n] 33))
  have hal : Below W.heap.size W (W.alloc (.cells #[.int .i64 kd, .string key, .int .u64 n] 33)) := (Below.refl _ W).alloc (Nat.le_refl _) _
  have HP := Lib.hid (h.below hal)
  clear h hal
  go_enter Try.func10, Try.ntmps10
  go_wp2_with fail
  · skip
    refine (put_m H1.out key n (by omega)).mono ?_
    rintro e1 w1 ⟨rfl, hS, hg⟩
    have hb := hg.trans (row_new W _)
    have b1 : w1.cell? ⟨W.heap.size, 1, none⟩ = some (.string key) := row_cell hb 1
    have b2 : w1.cell? ⟨W.heap.size, 2, none⟩ = some (.int .u64 n) := row_cell hb 2
    have HS := Lib.hid hS
    clear hS hg hb
    go_wp2_with fail
    refine (rput_m HS.out H.out.kn key n (by omega)).mono ?_
    rintro e2 w2 ⟨rfl, hS, _⟩
    have HE : Hid (PlE w w2 p q S) := Lib.hid ⟨_, put_len S key n, hS.p⟩
    clear hS HS b1 b2 H H1
    go_wp2
    go_ret
    exact ⟨rfl, HE.out⟩
  · skip
    refine (put_m H1.out key n (by omega)).mono ?_
    rintro e1 w1 ⟨rfl, hS, hg⟩
    have hb := hg.trans (row_new W _)
    have b1 : w1.cell? ⟨W.heap.size, 1, none⟩ = some (.string key) := row_cell hb 1
    have b2 : w1.cell? ⟨W.heap.size, 2, none⟩ = some (.int .u64 n) := row_cell hb 2
    have HS := Lib.hid hS
    clear hS hg hb
    go_wp2_with fail
    refine (rput_m HS.out H.out.kn key n (by omega)).mono ?_
    rintro e2 w2 ⟨rfl, hS, _⟩
    have HE : Hid (PlE w w2 p q S) := Lib.hid ⟨_, put_len S key n, hS.p⟩
    clear hS HS b1 b2 H H1
    go_wp2
    go_ret
    exact ⟨rfl, HE.out⟩
  · have Hqa : Hid (∀ m, Calls Try.prog 14 #[.pointer (some ⟨p, 0, none⟩), .string key, .int .u64 n] ((W.alloc (.cells #[.int .i64 kd, .string key, .int .u64 n] 33)).drewN m) fun e w' => e = .returned (.bool (has S key n)) ∧ w' = (W.alloc (.cells #[.int .i64 kd, .string key, .int .u64 n] 33)).drewN m) := Lib.hid (fun m => has_pq HP.out key n m)
    have Hqb : Hid (∀ m, Calls Try.prog 15 #[.pointer (some ⟨q, 0, none⟩), .string key, .int .u64 n] ((W.alloc (.cells #[.int .i64 kd, .string key, .int .u64 n] 33)).drewN m) fun e w' => e = .returned (.bool (has S key n)) ∧ w' = (W.alloc (.cells #[.int .i64 kd, .string key, .int .u64 n] 33)).drewN m) := Lib.hid (fun m => rhas_pq HP.out key n (by omega) m)
    generalize has S key n = bb at Hqa Hqb
    cases bb
    all_goals
      go_quiet (first | (go_at_call 14; with_reducible refine Calls.quiet_of_same (Hqa.out _)) | (go_at_call 15; with_reducible refine Calls.quiet_of_same (Hqb.out _)))
      go_wp2
      go_ret
      exact ⟨rfl, ⟨S, by omega, HP.out.below ⟨rfl, rfl, rfl, Nat.le_refl _, fun _ _ => rfl⟩⟩⟩
  · go_region_with (first
      | (go_at_call 17; refine (expire_m H1.out.drew n (by omega)).mono ?_; rintro e1 w1 ⟨⟨c, rfl, hc⟩, hS, hg⟩; have b2 : w1.cell? ⟨W.heap.size, 2, none⟩ = some (.int .u64 n) := row_cell (hg.trans (row_new W _)) 2; have HC := Lib.hid hc; have HS := Lib.hid hS; clear hS hg hc)
      | (go_at_call 19; refine (rexpire_m HS.out n (by omega)).mono ?_; rintro e2 w2 ⟨⟨c2, rfl, hc2⟩, hS, hg⟩; have hcc : c2 = c := (by have := HC.out; omega); subst hcc; have HS2 := Lib.hid hS; clear hS hg hc2))
    all_goals
      have HE : Hid (PlE w w2 p q S) := Lib.hid ⟨left S n, by have : (left S n).length ≤ S.length := List.length_filter_le _ _; omega, HS2.out.p⟩
      clear HS HS2 H H1 HP HC b2
      go_wp2
      go_ret
      exact ⟨rfl, HE.out⟩
  · go_ret
    exact ⟨rfl, ⟨S, by omega, HP.out⟩⟩
end Go.Proofs.Ytgleankpalihaaa
