/- Cache: the walk of CachePlays. -/
import Derived.Test.YtgleankpalihaaaPyA
namespace Go.Proofs.Ytgleankpalihaaa
open Go.RowKit Go.MapKept
set_option linter.unusedSimpArgs false
set_option linter.unusedVariables false
structure Opx where
  kd : Int
  key : ByteArray
  n : Int
def OpAt (W : World) (a : Addr) (e : Opx) : Prop := W.cell? a = some (.int .i64 e.kd) ∧ W.cell? ⟨a.block, a.off + 1, none⟩ = some (.string e.key) ∧ W.cell? ⟨a.block, a.off + 2, none⟩ = some (.int .u64 e.n)
def OpsAt (W : World) (A : Option Addr) (l : List Opx) : Prop := ∀ i e, l[i]? = some e → ∃ ad, A = some ad ∧ OpAt W (ad.add (i * 3)) e
theorem OpAt.below {w W : World} {a : Addr} {e : Opx} (h : OpAt w a e) (k : Below w.heap.size w W) : OpAt W a e := ⟨below_cell k h.1, below_cell k h.2.1, below_cell k h.2.2⟩
def yK (o : Option KU) : ByteArray := match o with | some t => t.1 | none => ⟨#[]⟩
def yU (o : Option KU) : Int := match o with | some t => t.2 | none => 0
theorem nextV_y (o : Option KU) : nextV o = .tuple #[.string (yK o), .int .u64 (yU o), .bool o.isSome] := by cases o <;> rfl
theorem SsP.start {w W : World} {p : Nat} (h : Ss w W p []) : SsP w (W.alloc (.cells #[.slice none 0 0] 30)) p W.heap.size [] := by
  obtain ⟨X, h1, h2⟩ := h.is
  have k : Below W.heap.size W (W.alloc (.cells #[.slice none 0 0] 30)) := (Below.refl _ W).alloc (Nat.le_refl _) _
  refine ⟨⟨X, One W.heap.size, h1.below k, ⟨⟨.slice none 0 0, row_new W _, ⟨by simp [kuCells], .inl ⟨rfl, rfl⟩⟩, rfl, by intro k hk; simp [Value.ownBlock] at hk⟩, ?_⟩, h2, ?_, ?_⟩, h.bel.trans (k.mono h.bel.size)⟩
  · intro k hk; unfold One at hk; simp; omega
  · intro k hk; unfold One at hk; have := h.bel.size; omega
  · intro k a b; unfold One at b; have := h1.lt k a; omega
theorem SsP.rcell {w W : World} {p q : Nat} {S : List KU} (h : SsP w W p q S) : ∃ A cap, W.cell? ⟨q, 0, none⟩ = some (.slice A S.length cap) := by
  obtain ⟨X, Y, _, h2, _⟩ := h.is
  obtain ⟨v, k1, k2, _⟩ := h2.out
  obtain ⟨A, cap, rfl, _⟩ := rf_shape k2
  exact ⟨A, cap, row_cell k1 0⟩
set_option maxRecDepth 100000 in
set_option maxHeartbeats 3200000 in
theorem plays_walk (a : Option Addr) (cap : Nat) (l : List Opx) (now : Int) (w : World) (ho : OpsAt w a l) :
    Calls Try.prog 3 #[.slice a l.length cap, .int .u64 now] w fun e w' => e = .returned (.bool true) ∧ Below w.heap.size w w' := by
  have HO := Lib.hid ho
  clear ho
  go_enter Try.func3, Try.ntmps3
  go_wp2_with fail
  refine (shown_calls w).mono ?_
  rintro e0 w0 ⟨rfl, hB0⟩
  have HB0 := Lib.hid hB0
  go_wp2_with fail
  refine (new_in (S := []) (p := 0) hB0).mono ?_
  rintro e1 w1 ⟨p, rfl, hS⟩
  have HS := Lib.hid (SsP.start hS)
  clear hS HB0 hB0
  go_wp2_with fail
  go_loopw [8] (fun i W => ∃ (k : Nat) (S : List KU), i = .int .i64 k ∧ k ≤ l.length ∧ k ≤ 300 ∧ S.length ≤ k ∧ SsP w W p w1.heap.size S) (fun i _ => l.length - (intOf i).toNat)
  case atStart => exact ⟨0, [], rfl, by omega, by omega, by simp, HS.out⟩
  case round =>
    obtain ⟨k, S, rfl, hkl, hk3, hSl, hR⟩ := hrel
    have HR := Lib.hid hR
    clear hR HS
    generalize w1.heap.size = q at *
    by_cases hlt : k < l.length ∧ k < 300
    · obtain ⟨h1, h2⟩ := hlt
      obtain ⟨ad, rfl, hat⟩ := HO.out k l[k] (by simp [h1])
      generalize l[k] = o at hat
      have HA := Lib.hid hat
      have x := hat.below HR.out.bel
      have x0 := x.1
      have x1 := x.2.1
      have x2 := x.2.2
      clear x hat
      have hwk : wrap64 ((k : Int) + 1) = ((k + 1 : Nat) : Int) := by unfold wrap64; omega
      go_wp2_with fail
      refine (play_calls HR.out (by omega) o.kd o.key o.n).mono ?_
      rintro e2 w2 ⟨rfl, hE⟩
      obtain ⟨T, hT, hS⟩ := hE.out
      have HS2 := Lib.hid hS
      have hT300 : T.length ≤ 1000 := by omega
      clear x0 x1 x2 hE hS HR
      go_wp2_with fail
      refine (next_p HS2.out).mono ?_
      rintro e3 w3 ⟨rfl, hS⟩
      have HS3 := Lib.hid hS
      clear hS HS2
      rw [nextV_y]
      go_wp2_with fail
      refine (rnext_p HS3.out hT300).mono ?_
      rintro e4 w4 ⟨rfl, hS⟩
      have HS4 := Lib.hid hS
      clear hS HS3
      rw [nextV_y]
      generalize yK (least T) = xk
      generalize yU (least T) = xu
      generalize (least T).isSome = xo
      have x := HA.out.below HS4.out.bel
      have x1 := x.2.1
      clear x
      obtain ⟨A', cap', hrc⟩ := HS4.out.rcell
      have Hql : Hid (∀ m, Calls Try.prog 13 #[.pointer (some ⟨p, 0, none⟩)] (w4.drewN m) fun e w' => e = .returned (.int .i64 T.length) ∧ w' = w4.drewN m) := Lib.hid (fun m => len_pq HS4.out m)
      have Hqa : Hid (∀ m, Calls Try.prog 14 #[.pointer (some ⟨p, 0, none⟩), .string o.key, .int .u64 now] (w4.drewN m) fun e w' => e = .returned (.bool (has T o.key now)) ∧ w' = w4.drewN m) := Lib.hid (fun m => has_pq HS4.out o.key now m)
      have Hqb : Hid (∀ m, Calls Try.prog 15 #[.pointer (some ⟨q, 0, none⟩), .string o.key, .int .u64 now] (w4.drewN m) fun e w' => e = .returned (.bool (has T o.key now)) ∧ w' = w4.drewN m) := Lib.hid (fun m => rhas_pq HS4.out o.key now hT300 m)
      generalize has T o.key now = bb at Hqa Hqb
      cases bb
      all_goals
        go_wp2_with fail
        go_quiet (first | (go_at_call 13; with_reducible refine Calls.quiet_of_same (Hql.out _)) | (go_at_call 14; with_reducible refine Calls.quiet_of_same (Hqa.out _)) | (go_at_call 15; with_reducible refine Calls.quiet_of_same (Hqb.out _)))
        go_wp2_with fail
        go_roundw
        case rel => exact ⟨k + 1, T, by go_num, by omega, by omega, by omega, HS4.out.below ⟨rfl, rfl, rfl, Nat.le_refl _, fun _ _ => rfl⟩⟩
        case measure => simp [intOf]; omega
    · have hcase : (¬ k < l.length) ∨ (k < l.length ∧ (300 : Int) ≤ (k : Int)) := by omega
      rcases hcase with hc | ⟨hc, hc2⟩
      all_goals
        clear hlt
        go_wp2
        go_ret
        exact ⟨rfl, HR.out.bel⟩
end Go.Proofs.Ytgleankpalihaaa
