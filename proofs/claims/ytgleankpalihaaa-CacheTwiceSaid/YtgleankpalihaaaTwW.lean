/- Cache: the walk of CacheTwice (printed by gentwice.py). -/
import Derived.Test.YtgleankpalihaaaChB
import Derived.StillTailTactics
namespace Go.Proofs.Ytgleankpalihaaa
open Go.RowKit Go.MapKept
set_option linter.unusedSimpArgs false
set_option linter.unusedVariables false
theorem get_put_ge (S : List KU) (key : ByteArray) (t : Int) : ∃ u, get (put S key t) key = some u ∧ t ≤ u := by
  rw [get_put, if_pos rfl]
  cases get S key with
  | none => exact ⟨t, rfl, by omega⟩
  | some u => exact ⟨max u t, rfl, by omega⟩
theorem put_again (S : List KU) (key : ByteArray) {t s : Int} (h : s ≤ t) : put (put S key t) key s = put S key t := by
  obtain ⟨u, hu, hle⟩ := get_put_ge S key t
  generalize put S key t = T at hu
  unfold Ytgleankpalihaaa.put
  rw [hu]
  simp only
  rw [if_neg (by omega)]
theorem has_put_half (S : List KU) (key : ByteArray) {t s : Int} (h : s < t) : has (put S key t) key s = true := by
  obtain ⟨u, hu, hle⟩ := get_put_ge S key t
  rw [has_eq, hu]; simp; omega
structure TwR (w W : World) (p q i : Nat) (S : List KU) : Prop where
  ss : Ss2 w W p q S S
  len : S.length ≤ i
set_option maxRecDepth 100000 in
set_option maxHeartbeats 3200000 in
theorem twice_walk1 (ka ta : Option Addr) (kc tc : Nat) (ks : List ByteArray) (ts : List Int) (now : Int) (w : World) (hk : StrsAt w ka ks) (ht : NumsAt w ta ts) (hp : ∀ t ∈ ts, 0 ≤ t ∧ t ≤ 18446744073709551615) (N : Nat) (hN : N ≤ ks.length ∧ N ≤ ts.length ∧ N ≤ 100) (hM : N = ks.length) :
    Calls Try.prog 7 #[.slice ka ks.length kc, .slice ta ts.length tc, .int .u64 now] w fun e w' => e = .returned (.bool true) ∧ Below w.heap.size w w' := by
  have HT := Lib.hid ht
  have HK := Lib.hid hk
  have HP := Lib.hid hp
  clear ht hk hp
  go_enter Try.func7, Try.ntmps7
  go_wp2_with fail
  refine (shown_calls w).mono ?_
  rintro e0 w0 ⟨rfl, hB0⟩
  have HB0 := Lib.hid hB0
  go_wp2_with fail
  refine (new_in (S := []) (p := 0) hB0).mono ?_
  rintro e1 w1 ⟨p, rfl, hS⟩
  have HS1 := Lib.hid hS
  clear hS HB0 hB0
  go_wp2_with fail
  refine (new_2 HS1.out).mono ?_
  rintro e2 w2 ⟨q, rfl, hS⟩
  have HS : Hid (TwR w w2 p q 0 []) := Lib.hid ⟨hS, by simp⟩
  clear hS HS1
  go_wp2_with fail
  go_loopw [10] (fun i W => ∃ (k : Nat) (S : List KU), i = .int .i64 k ∧ k ≤ N ∧ TwR w W p q k S) (fun i _ => ks.length - (intOf i).toNat)
  case atStart => exact ⟨0, [], rfl, by omega, HS.out⟩
  case round =>
    obtain ⟨k, S, rfl, hkl, hR⟩ := hrel
    have HR := Lib.hid hR
    have hSl := hR.len
    clear hR HS
    by_cases hlt : k < N
    · obtain ⟨h1, h2, h3⟩ : k < ks.length ∧ k < ts.length ∧ k < 100 := by omega
      obtain ⟨ad, rfl, hat⟩ := HT.out k ts[k] (by simp [h2])
      obtain ⟨ak, rfl, hak⟩ := HK.out k ks[k] (by simp [h1])
      have hx0 : 0 ≤ ts[k] ∧ ts[k] ≤ 18446744073709551615 := HP.out _ (List.getElem_mem h2)
      generalize ts[k] = t at hat hx0
      generalize ks[k] = key at hak
      have hq : IntKind.u64.wrap (t.tdiv 2) = t / 2 := IntWalk.u64_quo t 2 ⟨hx0.1, hx0.2, by omega⟩
      have c0 := below_cell HR.out.ss.bel hat
      have c1 := below_cell HR.out.ss.bel hak
      have hwk : wrap64 ((k : Int) + 1) = ((k + 1 : Nat) : Int) := by unfold wrap64; omega
      have hl1 : (put S key t).length ≤ k + 1 := by have := put_len S key t; omega
      go_wp2_with fail
      refine wp_region_still_tail 9 (by kernel_rfl) (by kernel_rfl) ?_
      change wpStill _ _ (World.drew _) _ _ _
      simp only [List.take_succ_cons, List.take_zero, List.drop_succ_cons, List.drop_zero]
      repeat still_step
      refine wpStill_nil ?_
      go_wp2_with fail
      refine (put_a HR.out.ss.drew key t (by omega)).mono ?_
      rintro e9 w3 ⟨rfl, hS⟩
      have hS := hS
      have Hw3 := Lib.hid hS
      have c0 := below_cell Hw3.out.bel hat
      have c1 := below_cell Hw3.out.bel hak
      clear hS HR
      go_wp2_with fail
      refine wp_region_still_tail 9 (by kernel_rfl) (by kernel_rfl) ?_
      change wpStill _ _ (World.drew _) _ _ _
      simp only [List.take_succ_cons, List.take_zero, List.drop_succ_cons, List.drop_zero]
      repeat still_step
      refine wpStill_nil ?_
      go_wp2_with fail
      refine (put_b Hw3.out.drew key t (by omega)).mono ?_
      rintro e9 w4 ⟨rfl, hS⟩
      have hS := hS
      have Hw4 := Lib.hid hS
      have c0 := below_cell Hw4.out.bel hat
      have c1 := below_cell Hw4.out.bel hak
      clear hS Hw3
      go_wp2_with fail
      refine wp_region_still_tail 10 (by kernel_rfl) (by kernel_rfl) ?_
      change wpStill _ _ (World.drew _) _ _ _
      simp only [List.take_succ_cons, List.take_zero, List.drop_succ_cons, List.drop_zero]
      repeat still_step
      refine wpStill_nil ?_
      go_wp2_with fail
      refine (put_b Hw4.out.drew key (t / 2) (by omega)).mono ?_
      rintro e9 w5 ⟨rfl, hS⟩
      rw [put_again S key (by omega)] at hS
      have Hw5 := Lib.hid hS
      have c0 := below_cell Hw5.out.bel hat
      have c1 := below_cell Hw5.out.bel hak
      clear hS Hw4
      go_wp2_with fail
      refine wp_region_still_tail 9 (by kernel_rfl) (by kernel_rfl) ?_
      change wpStill _ _ (World.drew _) _ _ _
      simp only [List.take_succ_cons, List.take_zero, List.drop_succ_cons, List.drop_zero]
      repeat still_step
      refine wpStill_nil ?_
      go_wp2_with fail
      refine (put_b Hw5.out.drew key t (by omega)).mono ?_
      rintro e9 w6 ⟨rfl, hS⟩
      rw [put_again S key (Int.le_refl t)] at hS
      have Hw6 := Lib.hid hS
      have c0 := below_cell Hw6.out.bel hat
      have c1 := below_cell Hw6.out.bel hak
      clear hS Hw5
      have HN : Hid (TwR w w6 p q (k + 1) (put S key t)) := Lib.hid ⟨Hw6.out, hl1⟩
      have Hq : Hid (∀ n, Calls Try.prog 14 #[.pointer (some ⟨p, 0, none⟩), .string key, .int .u64 (t / 2)] (w6.drewN n) fun e w' => e = .returned (.bool (has (put S key t) key (t / 2))) ∧ w' = w6.drewN n) := Lib.hid (fun n => has_qa Hw6.out key (t / 2) n)
      clear Hw6 hl1
      cases hb : has (put S key t) key (t / 2) with
      | true =>
        rw [hb] at Hq
        go_wp2_with fail
        go_quiet (first | (go_at_call 14; with_reducible refine Calls.quiet_of_same (Hq.out _)))
        go_wp2_with fail
        go_roundw
        case rel => exact ⟨k + 1, _, by go_num, by omega, ⟨HN.out.ss.drewN _, HN.out.len⟩⟩
        case measure => simp [intOf]; omega
      | false =>
        have ht0 : ¬ 0 < t := by
          intro q
          have := has_put_half S key (t := t) (s := t / 2) (by omega)
          rw [hb] at this; cases this
        rw [hb] at Hq
        go_wp2_with fail
        go_quiet (first | (go_at_call 14; with_reducible refine Calls.quiet_of_same (Hq.out _)))
        go_wp2_with fail
        go_roundw
        case rel => exact ⟨k + 1, _, by go_num, by omega, ⟨HN.out.ss.drewN _, HN.out.len⟩⟩
        case measure => simp [intOf]; omega
    · have hkN : k = N := by omega
      subst hkN
      have hc : ¬ k < ks.length := by omega
      have hO : Hid (Ss2 w wr p q S S) := Lib.hid HR.out.ss
      clear HR
      · clear hlt
        go_wp2_with fail
        clear hkl hSl
        try clear hc
        try clear hc2
        try clear hc3
        go_loopw [11] (fun i W => ∃ (j : Nat), i = .int .i64 j ∧ j ≤ k ∧ Ss2 w W p q S S) (fun i _ => ks.length - (intOf i).toNat)
        case atStart => exact ⟨0, rfl, by omega, hO.out⟩
        case round =>
          obtain ⟨j, rfl, hjl, hR⟩ := hrel
          have HR := Lib.hid hR
          clear hR hO
          by_cases hlt : j < k
          · obtain ⟨h1, h2, h3⟩ : j < ks.length ∧ j < ts.length ∧ j < 100 := by omega
            obtain ⟨ak, rfl, hak⟩ := HK.out j ks[j] (by simp [h1])
            generalize ks[j] = key at hak
            have c1 := below_cell HR.out.bel hak
            have hwk : wrap64 ((j : Int) + 1) = ((j + 1 : Nat) : Int) := by unfold wrap64; omega
            have Hqa : Hid (∀ n, Calls Try.prog 14 #[.pointer (some ⟨p, 0, none⟩), .string key, .int .u64 now] (wr.drewN n) fun e w' => e = .returned (.bool (has S key now)) ∧ w' = wr.drewN n) := Lib.hid (fun n => has_qa HR.out key now n)
            have Hqb : Hid (∀ n, Calls Try.prog 14 #[.pointer (some ⟨q, 0, none⟩), .string key, .int .u64 now] (wr.drewN n) fun e w' => e = .returned (.bool (has S key now)) ∧ w' = wr.drewN n) := Lib.hid (fun n => has_qb HR.out key now n)
            generalize has S key now = bb at Hqa Hqb
            cases bb
            all_goals
              go_wp2_with fail
              go_quiet (first | (go_at_call 14; with_reducible refine Calls.quiet_of_same (Hqa.out _)) | (go_at_call 14; with_reducible refine Calls.quiet_of_same (Hqb.out _)))
              go_wp2_with fail
              go_roundw
              case rel => exact ⟨j + 1, by go_num, by omega, HR.out.drewN _⟩
              case measure => simp [intOf]; omega
          · have hjN : j = k := by omega
            subst hjN
            have hc : ¬ j < ks.length := by omega
            · clear hlt
              go_wp2_with fail
              refine (next_a HR.out).mono ?_
              rintro e7 w7 ⟨rfl, hS⟩
              have H7 := Lib.hid hS
              clear hS HR
              cases hl : least S with
              | none =>
                rw [nextV_none]
                go_wp2_with fail
                refine (next_b H7.out).mono ?_
                rintro e8 w8 ⟨rfl, hS⟩
                have H8 := Lib.hid hS
                clear hS H7
                rw [hl, nextV_none]
                go_wp2_with fail
                refine (len_a H8.out).mono ?_
                rintro e9 w9 ⟨rfl, rfl⟩
                go_wp2_with fail
                refine (len_b H8.out).mono ?_
                rintro e9 w9 ⟨rfl, rfl⟩
                go_wp2
                go_ret
                exact ⟨rfl, H8.out.bel⟩
              | some t =>
                rw [nextV_some]
                go_wp2_with fail
                refine (next_b H7.out).mono ?_
                rintro e8 w8 ⟨rfl, hS⟩
                have H8 := Lib.hid hS
                clear hS H7
                rw [hl, nextV_some]
                go_wp2_with fail
                refine (len_a H8.out).mono ?_
                rintro e9 w9 ⟨rfl, rfl⟩
                go_wp2_with fail
                refine (len_b H8.out).mono ?_
                rintro e9 w9 ⟨rfl, rfl⟩
                go_wp2
                go_ret
                exact ⟨rfl, H8.out.bel⟩
set_option maxRecDepth 100000 in
set_option maxHeartbeats 3200000 in
theorem twice_walk2 (ka ta : Option Addr) (kc tc : Nat) (ks : List ByteArray) (ts : List Int) (now : Int) (w : World) (hk : StrsAt w ka ks) (ht : NumsAt w ta ts) (hp : ∀ t ∈ ts, 0 ≤ t ∧ t ≤ 18446744073709551615) (N : Nat) (hN : N ≤ ks.length ∧ N ≤ ts.length ∧ N ≤ 100) (hM : N < ks.length ∧ N = ts.length) :
    Calls Try.prog 7 #[.slice ka ks.length kc, .slice ta ts.length tc, .int .u64 now] w fun e w' => e = .returned (.bool true) ∧ Below w.heap.size w w' := by
  have HT := Lib.hid ht
  have HK := Lib.hid hk
  have HP := Lib.hid hp
  clear ht hk hp
  go_enter Try.func7, Try.ntmps7
  go_wp2_with fail
  refine (shown_calls w).mono ?_
  rintro e0 w0 ⟨rfl, hB0⟩
  have HB0 := Lib.hid hB0
  go_wp2_with fail
  refine (new_in (S := []) (p := 0) hB0).mono ?_
  rintro e1 w1 ⟨p, rfl, hS⟩
  have HS1 := Lib.hid hS
  clear hS HB0 hB0
  go_wp2_with fail
  refine (new_2 HS1.out).mono ?_
  rintro e2 w2 ⟨q, rfl, hS⟩
  have HS : Hid (TwR w w2 p q 0 []) := Lib.hid ⟨hS, by simp⟩
  clear hS HS1
  go_wp2_with fail
  go_loopw [10] (fun i W => ∃ (k : Nat) (S : List KU), i = .int .i64 k ∧ k ≤ N ∧ TwR w W p q k S) (fun i _ => ks.length - (intOf i).toNat)
  case atStart => exact ⟨0, [], rfl, by omega, HS.out⟩
  case round =>
    obtain ⟨k, S, rfl, hkl, hR⟩ := hrel
    have HR := Lib.hid hR
    have hSl := hR.len
    clear hR HS
    by_cases hlt : k < N
    · obtain ⟨h1, h2, h3⟩ : k < ks.length ∧ k < ts.length ∧ k < 100 := by omega
      obtain ⟨ad, rfl, hat⟩ := HT.out k ts[k] (by simp [h2])
      obtain ⟨ak, rfl, hak⟩ := HK.out k ks[k] (by simp [h1])
      have hx0 : 0 ≤ ts[k] ∧ ts[k] ≤ 18446744073709551615 := HP.out _ (List.getElem_mem h2)
      generalize ts[k] = t at hat hx0
      generalize ks[k] = key at hak
      have hq : IntKind.u64.wrap (t.tdiv 2) = t / 2 := IntWalk.u64_quo t 2 ⟨hx0.1, hx0.2, by omega⟩
      have c0 := below_cell HR.out.ss.bel hat
      have c1 := below_cell HR.out.ss.bel hak
      have hwk : wrap64 ((k : Int) + 1) = ((k + 1 : Nat) : Int) := by unfold wrap64; omega
      have hl1 : (put S key t).length ≤ k + 1 := by have := put_len S key t; omega
      go_wp2_with fail
      refine wp_region_still_tail 9 (by kernel_rfl) (by kernel_rfl) ?_
      change wpStill _ _ (World.drew _) _ _ _
      simp only [List.take_succ_cons, List.take_zero, List.drop_succ_cons, List.drop_zero]
      repeat still_step
      refine wpStill_nil ?_
      go_wp2_with fail
      refine (put_a HR.out.ss.drew key t (by omega)).mono ?_
      rintro e9 w3 ⟨rfl, hS⟩
      have hS := hS
      have Hw3 := Lib.hid hS
      have c0 := below_cell Hw3.out.bel hat
      have c1 := below_cell Hw3.out.bel hak
      clear hS HR
      go_wp2_with fail
      refine wp_region_still_tail 9 (by kernel_rfl) (by kernel_rfl) ?_
      change wpStill _ _ (World.drew _) _ _ _
      simp only [List.take_succ_cons, List.take_zero, List.drop_succ_cons, List.drop_zero]
      repeat still_step
      refine wpStill_nil ?_
      go_wp2_with fail
      refine (put_b Hw3.out.drew key t (by omega)).mono ?_
      rintro e9 w4 ⟨rfl, hS⟩
      have hS := hS
      have Hw4 := Lib.hid hS
      have c0 := below_cell Hw4.out.bel hat
      have c1 := below_cell Hw4.out.bel hak
      clear hS Hw3
      go_wp2_with fail
      refine wp_region_still_tail 10 (by kernel_rfl) (by kernel_rfl) ?_
      change wpStill _ _ (World.drew _) _ _ _
      simp only [List.take_succ_cons, List.take_zero, List.drop_succ_cons, List.drop_zero]
      repeat still_step
      refine wpStill_nil ?_
      go_wp2_with fail
      refine (put_b Hw4.out.drew key (t / 2) (by omega)).mono ?_
      rintro e9 w5 ⟨rfl, hS⟩
      rw [put_again S key (by omega)] at hS
      have Hw5 := Lib.hid hS
      have c0 := below_cell Hw5.out.bel hat
      have c1 := below_cell Hw5.out.bel hak
      clear hS Hw4
      go_wp2_with fail
      refine wp_region_still_tail 9 (by kernel_rfl) (by kernel_rfl) ?_
      change wpStill _ _ (World.drew _) _ _ _
      simp only [List.take_succ_cons, List.take_zero, List.drop_succ_cons, List.drop_zero]
      repeat still_step
      refine wpStill_nil ?_
      go_wp2_with fail
      refine (put_b Hw5.out.drew key t (by omega)).mono ?_
      rintro e9 w6 ⟨rfl, hS⟩
      rw [put_again S key (Int.le_refl t)] at hS
      have Hw6 := Lib.hid hS
      have c0 := below_cell Hw6.out.bel hat
      have c1 := below_cell Hw6.out.bel hak
      clear hS Hw5
      have HN : Hid (TwR w w6 p q (k + 1) (put S key t)) := Lib.hid ⟨Hw6.out, hl1⟩
      have Hq : Hid (∀ n, Calls Try.prog 14 #[.pointer (some ⟨p, 0, none⟩), .string key, .int .u64 (t / 2)] (w6.drewN n) fun e w' => e = .returned (.bool (has (put S key t) key (t / 2))) ∧ w' = w6.drewN n) := Lib.hid (fun n => has_qa Hw6.out key (t / 2) n)
      clear Hw6 hl1
      cases hb : has (put S key t) key (t / 2) with
      | true =>
        rw [hb] at Hq
        go_wp2_with fail
        go_quiet (first | (go_at_call 14; with_reducible refine Calls.quiet_of_same (Hq.out _)))
        go_wp2_with fail
        go_roundw
        case rel => exact ⟨k + 1, _, by go_num, by omega, ⟨HN.out.ss.drewN _, HN.out.len⟩⟩
        case measure => simp [intOf]; omega
      | false =>
        have ht0 : ¬ 0 < t := by
          intro q
          have := has_put_half S key (t := t) (s := t / 2) (by omega)
          rw [hb] at this; cases this
        rw [hb] at Hq
        go_wp2_with fail
        go_quiet (first | (go_at_call 14; with_reducible refine Calls.quiet_of_same (Hq.out _)))
        go_wp2_with fail
        go_roundw
        case rel => exact ⟨k + 1, _, by go_num, by omega, ⟨HN.out.ss.drewN _, HN.out.len⟩⟩
        case measure => simp [intOf]; omega
    · have hkN : k = N := by omega
      subst hkN
      have hc : k < ks.length := by omega
      have hc2 : ¬ k < ts.length := by omega
      have hO : Hid (Ss2 w wr p q S S) := Lib.hid HR.out.ss
      clear HR
      · clear hlt
        go_wp2_with fail
        clear hkl hSl
        try clear hc
        try clear hc2
        try clear hc3
        go_loopw [11] (fun i W => ∃ (j : Nat), i = .int .i64 j ∧ j ≤ k ∧ Ss2 w W p q S S) (fun i _ => ks.length - (intOf i).toNat)
        case atStart => exact ⟨0, rfl, by omega, hO.out⟩
        case round =>
          obtain ⟨j, rfl, hjl, hR⟩ := hrel
          have HR := Lib.hid hR
          clear hR hO
          by_cases hlt : j < k
          · obtain ⟨h1, h2, h3⟩ : j < ks.length ∧ j < ts.length ∧ j < 100 := by omega
            obtain ⟨ak, rfl, hak⟩ := HK.out j ks[j] (by simp [h1])
            generalize ks[j] = key at hak
            have c1 := below_cell HR.out.bel hak
            have hwk : wrap64 ((j : Int) + 1) = ((j + 1 : Nat) : Int) := by unfold wrap64; omega
            have Hqa : Hid (∀ n, Calls Try.prog 14 #[.pointer (some ⟨p, 0, none⟩), .string key, .int .u64 now] (wr.drewN n) fun e w' => e = .returned (.bool (has S key now)) ∧ w' = wr.drewN n) := Lib.hid (fun n => has_qa HR.out key now n)
            have Hqb : Hid (∀ n, Calls Try.prog 14 #[.pointer (some ⟨q, 0, none⟩), .string key, .int .u64 now] (wr.drewN n) fun e w' => e = .returned (.bool (has S key now)) ∧ w' = wr.drewN n) := Lib.hid (fun n => has_qb HR.out key now n)
            generalize has S key now = bb at Hqa Hqb
            cases bb
            all_goals
              go_wp2_with fail
              go_quiet (first | (go_at_call 14; with_reducible refine Calls.quiet_of_same (Hqa.out _)) | (go_at_call 14; with_reducible refine Calls.quiet_of_same (Hqb.out _)))
              go_wp2_with fail
              go_roundw
              case rel => exact ⟨j + 1, by go_num, by omega, HR.out.drewN _⟩
              case measure => simp [intOf]; omega
          · have hjN : j = k := by omega
            subst hjN
            have hc : j < ks.length := by omega
            have hc2 : ¬ j < ts.length := by omega
            · clear hlt
              go_wp2_with fail
              refine (next_a HR.out).mono ?_
              rintro e7 w7 ⟨rfl, hS⟩
              have H7 := Lib.hid hS
              clear hS HR
              cases hl : least S with
              | none =>
                rw [nextV_none]
                go_wp2_with fail
                refine (next_b H7.out).mono ?_
                rintro e8 w8 ⟨rfl, hS⟩
                have H8 := Lib.hid hS
                clear hS H7
                rw [hl, nextV_none]
                go_wp2_with fail
                refine (len_a H8.out).mono ?_
                rintro e9 w9 ⟨rfl, rfl⟩
                go_wp2_with fail
                refine (len_b H8.out).mono ?_
                rintro e9 w9 ⟨rfl, rfl⟩
                go_wp2
                go_ret
                exact ⟨rfl, H8.out.bel⟩
              | some t =>
                rw [nextV_some]
                go_wp2_with fail
                refine (next_b H7.out).mono ?_
                rintro e8 w8 ⟨rfl, hS⟩
                have H8 := Lib.hid hS
                clear hS H7
                rw [hl, nextV_some]
                go_wp2_with fail
                refine (len_a H8.out).mono ?_
                rintro e9 w9 ⟨rfl, rfl⟩
                go_wp2_with fail
                refine (len_b H8.out).mono ?_
                rintro e9 w9 ⟨rfl, rfl⟩
                go_wp2
                go_ret
                exact ⟨rfl, H8.out.bel⟩
set_option maxRecDepth 100000 in
set_option maxHeartbeats 3200000 in
theorem twice_walk3 (ka ta : Option Addr) (kc tc : Nat) (ks : List ByteArray) (ts : List Int) (now : Int) (w : World) (hk : StrsAt w ka ks) (ht : NumsAt w ta ts) (hp : ∀ t ∈ ts, 0 ≤ t ∧ t ≤ 18446744073709551615) (N : Nat) (hN : N ≤ ks.length ∧ N ≤ ts.length ∧ N ≤ 100) (hM : N < ks.length ∧ N < ts.length ∧ N = 100) :
    Calls Try.prog 7 #[.slice ka ks.length kc, .slice ta ts.length tc, .int .u64 now] w fun e w' => e = .returned (.bool true) ∧ Below w.heap.size w w' := by
  have HT := Lib.hid ht
  have HK := Lib.hid hk
  have HP := Lib.hid hp
  clear ht hk hp
  go_enter Try.func7, Try.ntmps7
  go_wp2_with fail
  refine (shown_calls w).mono ?_
  rintro e0 w0 ⟨rfl, hB0⟩
  have HB0 := Lib.hid hB0
  go_wp2_with fail
  refine (new_in (S := []) (p := 0) hB0).mono ?_
  rintro e1 w1 ⟨p, rfl, hS⟩
  have HS1 := Lib.hid hS
  clear hS HB0 hB0
  go_wp2_with fail
  refine (new_2 HS1.out).mono ?_
  rintro e2 w2 ⟨q, rfl, hS⟩
  have HS : Hid (TwR w w2 p q 0 []) := Lib.hid ⟨hS, by simp⟩
  clear hS HS1
  go_wp2_with fail
  go_loopw [10] (fun i W => ∃ (k : Nat) (S : List KU), i = .int .i64 k ∧ k ≤ N ∧ TwR w W p q k S) (fun i _ => ks.length - (intOf i).toNat)
  case atStart => exact ⟨0, [], rfl, by omega, HS.out⟩
  case round =>
    obtain ⟨k, S, rfl, hkl, hR⟩ := hrel
    have HR := Lib.hid hR
    have hSl := hR.len
    clear hR HS
    by_cases hlt : k < N
    · obtain ⟨h1, h2, h3⟩ : k < ks.length ∧ k < ts.length ∧ k < 100 := by omega
      obtain ⟨ad, rfl, hat⟩ := HT.out k ts[k] (by simp [h2])
      obtain ⟨ak, rfl, hak⟩ := HK.out k ks[k] (by simp [h1])
      have hx0 : 0 ≤ ts[k] ∧ ts[k] ≤ 18446744073709551615 := HP.out _ (List.getElem_mem h2)
      generalize ts[k] = t at hat hx0
      generalize ks[k] = key at hak
      have hq : IntKind.u64.wrap (t.tdiv 2) = t / 2 := IntWalk.u64_quo t 2 ⟨hx0.1, hx0.2, by omega⟩
      have c0 := below_cell HR.out.ss.bel hat
      have c1 := below_cell HR.out.ss.bel hak
      have hwk : wrap64 ((k : Int) + 1) = ((k + 1 : Nat) : Int) := by unfold wrap64; omega
      have hl1 : (put S key t).length ≤ k + 1 := by have := put_len S key t; omega
      go_wp2_with fail
      refine wp_region_still_tail 9 (by kernel_rfl) (by kernel_rfl) ?_
      change wpStill _ _ (World.drew _) _ _ _
      simp only [List.take_succ_cons, List.take_zero, List.drop_succ_cons, List.drop_zero]
      repeat still_step
      refine wpStill_nil ?_
      go_wp2_with fail
      refine (put_a HR.out.ss.drew key t (by omega)).mono ?_
      rintro e9 w3 ⟨rfl, hS⟩
      have hS := hS
      have Hw3 := Lib.hid hS
      have c0 := below_cell Hw3.out.bel hat
      have c1 := below_cell Hw3.out.bel hak
      clear hS HR
      go_wp2_with fail
      refine wp_region_still_tail 9 (by kernel_rfl) (by kernel_rfl) ?_
      change wpStill _ _ (World.drew _) _ _ _
      simp only [List.take_succ_cons, List.take_zero, List.drop_succ_cons, List.drop_zero]
      repeat still_step
      refine wpStill_nil ?_
      go_wp2_with fail
      refine (put_b Hw3.out.drew key t (by omega)).mono ?_
      rintro e9 w4 ⟨rfl, hS⟩
      have hS := hS
      have Hw4 := Lib.hid hS
      have c0 := below_cell Hw4.out.bel hat
      have c1 := below_cell Hw4.out.bel hak
      clear hS Hw3
      go_wp2_with fail
      refine wp_region_still_tail 10 (by kernel_rfl) (by kernel_rfl) ?_
      change wpStill _ _ (World.drew _) _ _ _
      simp only [List.take_succ_cons, List.take_zero, List.drop_succ_cons, List.drop_zero]
      repeat still_step
      refine wpStill_nil ?_
      go_wp2_with fail
      refine (put_b Hw4.out.drew key (t / 2) (by omega)).mono ?_
      rintro e9 w5 ⟨rfl, hS⟩
      rw [put_again S key (by omega)] at hS
      have Hw5 := Lib.hid hS
      have c0 := below_cell Hw5.out.bel hat
      have c1 := below_cell Hw5.out.bel hak
      clear hS Hw4
      go_wp2_with fail
      refine wp_region_still_tail 9 (by kernel_rfl) (by kernel_rfl) ?_
      change wpStill _ _ (World.drew _) _ _ _
      simp only [List.take_succ_cons, List.take_zero, List.drop_succ_cons, List.drop_zero]
      repeat still_step
      refine wpStill_nil ?_
      go_wp2_with fail
      refine (put_b Hw5.out.drew key t (by omega)).mono ?_
      rintro e9 w6 ⟨rfl, hS⟩
      rw [put_again S key (Int.le_refl t)] at hS
      have Hw6 := Lib.hid hS
      have c0 := below_cell Hw6.out.bel hat
      have c1 := below_cell Hw6.out.bel hak
      clear hS Hw5
      have HN : Hid (TwR w w6 p q (k + 1) (put S key t)) := Lib.hid ⟨Hw6.out, hl1⟩
      have Hq : Hid (∀ n, Calls Try.prog 14 #[.pointer (some ⟨p, 0, none⟩), .string key, .int .u64 (t / 2)] (w6.drewN n) fun e w' => e = .returned (.bool (has (put S key t) key (t / 2))) ∧ w' = w6.drewN n) := Lib.hid (fun n => has_qa Hw6.out key (t / 2) n)
      clear Hw6 hl1
      cases hb : has (put S key t) key (t / 2) with
      | true =>
        rw [hb] at Hq
        go_wp2_with fail
        go_quiet (first | (go_at_call 14; with_reducible refine Calls.quiet_of_same (Hq.out _)))
        go_wp2_with fail
        go_roundw
        case rel => exact ⟨k + 1, _, by go_num, by omega, ⟨HN.out.ss.drewN _, HN.out.len⟩⟩
        case measure => simp [intOf]; omega
      | false =>
        have ht0 : ¬ 0 < t := by
          intro q
          have := has_put_half S key (t := t) (s := t / 2) (by omega)
          rw [hb] at this; cases this
        rw [hb] at Hq
        go_wp2_with fail
        go_quiet (first | (go_at_call 14; with_reducible refine Calls.quiet_of_same (Hq.out _)))
        go_wp2_with fail
        go_roundw
        case rel => exact ⟨k + 1, _, by go_num, by omega, ⟨HN.out.ss.drewN _, HN.out.len⟩⟩
        case measure => simp [intOf]; omega
    · have hkN : k = N := by omega
      subst hkN
      have hc : k < ks.length := by omega
      have hc2 : k < ts.length := by omega
      have hc3 : (100 : Int) ≤ (k : Int) := by omega
      have hO : Hid (Ss2 w wr p q S S) := Lib.hid HR.out.ss
      clear HR
      · clear hlt
        go_wp2_with fail
        clear hkl hSl
        try clear hc
        try clear hc2
        try clear hc3
        go_loopw [11] (fun i W => ∃ (j : Nat), i = .int .i64 j ∧ j ≤ k ∧ Ss2 w W p q S S) (fun i _ => ks.length - (intOf i).toNat)
        case atStart => exact ⟨0, rfl, by omega, hO.out⟩
        case round =>
          obtain ⟨j, rfl, hjl, hR⟩ := hrel
          have HR := Lib.hid hR
          clear hR hO
          by_cases hlt : j < k
          · obtain ⟨h1, h2, h3⟩ : j < ks.length ∧ j < ts.length ∧ j < 100 := by omega
            obtain ⟨ak, rfl, hak⟩ := HK.out j ks[j] (by simp [h1])
            generalize ks[j] = key at hak
            have c1 := below_cell HR.out.bel hak
            have hwk : wrap64 ((j : Int) + 1) = ((j + 1 : Nat) : Int) := by unfold wrap64; omega
            have Hqa : Hid (∀ n, Calls Try.prog 14 #[.pointer (some ⟨p, 0, none⟩), .string key, .int .u64 now] (wr.drewN n) fun e w' => e = .returned (.bool (has S key now)) ∧ w' = wr.drewN n) := Lib.hid (fun n => has_qa HR.out key now n)
            have Hqb : Hid (∀ n, Calls Try.prog 14 #[.pointer (some ⟨q, 0, none⟩), .string key, .int .u64 now] (wr.drewN n) fun e w' => e = .returned (.bool (has S key now)) ∧ w' = wr.drewN n) := Lib.hid (fun n => has_qb HR.out key now n)
            generalize has S key now = bb at Hqa Hqb
            cases bb
            all_goals
              go_wp2_with fail
              go_quiet (first | (go_at_call 14; with_reducible refine Calls.quiet_of_same (Hqa.out _)) | (go_at_call 14; with_reducible refine Calls.quiet_of_same (Hqb.out _)))
              go_wp2_with fail
              go_roundw
              case rel => exact ⟨j + 1, by go_num, by omega, HR.out.drewN _⟩
              case measure => simp [intOf]; omega
          · have hjN : j = k := by omega
            subst hjN
            have hc : j < ks.length := by omega
            have hc2 : j < ts.length := by omega
            have hc3 : (100 : Int) ≤ (j : Int) := by omega
            · clear hlt
              go_wp2_with fail
              refine (next_a HR.out).mono ?_
              rintro e7 w7 ⟨rfl, hS⟩
              have H7 := Lib.hid hS
              clear hS HR
              cases hl : least S with
              | none =>
                rw [nextV_none]
                go_wp2_with fail
                refine (next_b H7.out).mono ?_
                rintro e8 w8 ⟨rfl, hS⟩
                have H8 := Lib.hid hS
                clear hS H7
                rw [hl, nextV_none]
                go_wp2_with fail
                refine (len_a H8.out).mono ?_
                rintro e9 w9 ⟨rfl, rfl⟩
                go_wp2_with fail
                refine (len_b H8.out).mono ?_
                rintro e9 w9 ⟨rfl, rfl⟩
                go_wp2
                go_ret
                exact ⟨rfl, H8.out.bel⟩
              | some t =>
                rw [nextV_some]
                go_wp2_with fail
                refine (next_b H7.out).mono ?_
                rintro e8 w8 ⟨rfl, hS⟩
                have H8 := Lib.hid hS
                clear hS H7
                rw [hl, nextV_some]
                go_wp2_with fail
                refine (len_a H8.out).mono ?_
                rintro e9 w9 ⟨rfl, rfl⟩
                go_wp2_with fail
                refine (len_b H8.out).mono ?_
                rintro e9 w9 ⟨rfl, rfl⟩
                go_wp2
                go_ret
                exact ⟨rfl, H8.out.bel⟩
theorem twice_walk (ka ta : Option Addr) (kc tc : Nat) (ks : List ByteArray) (ts : List Int) (now : Int) (w : World) (hk : StrsAt w ka ks) (ht : NumsAt w ta ts) (hp : ∀ t ∈ ts, 0 ≤ t ∧ t ≤ 18446744073709551615) :
    Calls Try.prog 7 #[.slice ka ks.length kc, .slice ta ts.length tc, .int .u64 now] w fun e w' => e = .returned (.bool true) ∧ Below w.heap.size w w' := by
  by_cases h1 : ks.length ≤ ts.length ∧ ks.length ≤ 100
  · exact twice_walk1 ka ta kc tc ks ts now w hk ht hp ks.length (by omega) rfl
  · by_cases h2 : ts.length ≤ 100
    · exact twice_walk2 ka ta kc tc ks ts now w hk ht hp ts.length (by omega) (by omega)
    · exact twice_walk3 ka ta kc tc ks ts now w hk ht hp 100 (by omega) (by omega)
end Go.Proofs.Ytgleankpalihaaa
