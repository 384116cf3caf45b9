/- Cache: the walk of CacheOrder (printed by genorder.py). -/
import Derived.Test.YtgleankpalihaaaChG
namespace Go.Proofs.Ytgleankpalihaaa
open Go.RowKit Go.MapKept
set_option linter.unusedSimpArgs false
set_option linter.unusedVariables false
def Bd (S : List KU) : Prop := ∀ e ∈ S, 0 ≤ e.2 ∧ e.2 ≤ 18446744073709551615
theorem Bd.put {S : List KU} (h : Bd S) (key : ByteArray) {t : Int} (ht : 0 ≤ t ∧ t ≤ 18446744073709551615) : Bd (put S key t) := by
  intro e he
  unfold Ytgleankpalihaaa.put at he
  cases hg : get S key with
  | none =>
    rw [hg] at he
    rcases List.mem_append.1 he with q | q
    · exact h e q
    · simp at q
      subst q; exact ht
  | some u =>
    rw [hg] at he
    simp only at he
    split at he
    · obtain ⟨x, hx, rfl⟩ := List.mem_map.1 he
      split
      · exact ht
      · exact h x hx
    · exact h e he
theorem Ss.kn {w W : World} {p : Nat} {S : List KU} (h : Ss w W p S) : KN S := by
  obtain ⟨X, h1, _⟩ := h.is
  exact h1.kn
structure FlR (w W : World) (p i : Nat) (S : List KU) : Prop where
  ss : Ss w W p S
  len : S.length ≤ i
  bd : Bd S
theorem FlR.put {w W W1 : World} {p i : Nat} {S : List KU} (h : FlR w W p i S) (key : ByteArray) {t : Int} (ht : 0 ≤ t ∧ t ≤ 18446744073709551615) (hs : Ss w W1 p (put S key t)) : FlR w W1 p (i + 1) (put S key t) :=
  ⟨hs, by have := put_len S key t; have := h.len; omega, h.bd.put key ht⟩
structure OrR (w W : World) (p i : Nat) (last : Int) (S : List KU) : Prop where
  ss : Ss w W p S
  cnt : S.length + i ≤ 200
  bd : Bd S
  above : 0 < i → ∀ e ∈ S, last < e.2
theorem least_facts {S : List KU} {t : KU} (hk : KN S) (hl : least S = some t) : (left S t.2).length < S.length ∧ has S t.1 (t.2 - 1) = true ∧ has S t.1 t.2 = false := by
  have hm := (least_is hl).1
  have hg : get S t.1 = some t.2 := get_of_mem hk hm
  refine ⟨?_, by rw [has_eq, hg]; simp; omega, by rw [has_eq, hg]; simp⟩
  unfold left
  refine List.length_filter_lt_length_iff_exists.2 ⟨t, hm, by simp⟩
theorem OrR.step {w W W1 : World} {p i : Nat} {last : Int} {S : List KU} (h : OrR w W p i last S) {t : KU} (hl : least S = some t) (hs : Ss w W1 p (left S t.2)) : OrR w W1 p (i + 1) t.2 (left S t.2) := by
  have hf := least_facts h.ss.kn hl
  refine ⟨hs, by have := h.cnt; omega, ?_, ?_⟩
  · intro e he
    exact h.bd e (List.mem_filter.1 he).1
  · intro _ e he
    simpa using (List.mem_filter.1 he).2
set_option maxRecDepth 100000 in
set_option maxHeartbeats 3200000 in
theorem order_walk (ka ta : Option Addr) (kc tc : Nat) (ks : List ByteArray) (ts : List Int) (w : World) (hk : StrsAt w ka ks) (ht : NumsAt w ta ts) (hp : ∀ t ∈ ts, 0 ≤ t ∧ t ≤ 18446744073709551615) :
    Calls Try.prog 4 #[.slice ka ks.length kc, .slice ta ts.length tc] w fun e w' => e = .returned (.bool true) ∧ Below w.heap.size w w' := by
  have HT := Lib.hid ht
  have HK := Lib.hid hk
  have HP := Lib.hid hp
  clear ht hk hp
  go_enter Try.func4, Try.ntmps4
  go_wp2_with fail
  refine (shown_calls w).mono ?_
  rintro e0 w0 ⟨rfl, hB0⟩
  have HB0 := Lib.hid hB0
  go_wp2_with fail
  refine (new_in (S := []) (p := 0) hB0).mono ?_
  rintro e1 w1 ⟨p, rfl, hS⟩
  have HS : Hid (FlR w w1 p 0 []) := Lib.hid ⟨hS, by simp, by intro e he; cases he⟩
  clear hS HB0 hB0
  go_wp2_with fail
  go_loopw [7] (fun i W => ∃ (k : Nat) (S : List KU), i = .int .i64 k ∧ k ≤ ks.length ∧ k ≤ 200 ∧ FlR w W p k S) (fun i _ => ks.length - (intOf i).toNat)
  case atStart => exact ⟨0, [], rfl, by omega, by omega, HS.out⟩
  case round =>
    obtain ⟨k, S, rfl, hkl, hk2, hR⟩ := hrel
    have HR := Lib.hid hR
    have hSl := hR.len
    clear hR HS
    by_cases hlt : k < ks.length ∧ k < ts.length ∧ k < 200
    · obtain ⟨h1, h2, h3⟩ := hlt
      obtain ⟨ad, rfl, hat⟩ := HT.out k ts[k] (by simp [h2])
      obtain ⟨ak, rfl, hak⟩ := HK.out k ks[k] (by simp [h1])
      have hx0 : 0 ≤ ts[k] ∧ ts[k] ≤ 18446744073709551615 := HP.out _ (List.getElem_mem h2)
      generalize ts[k] = t at hat hx0
      generalize ks[k] = key at hak
      have c0 := below_cell HR.out.ss.bel hat
      have c1 := below_cell HR.out.ss.bel hak
      have hwk : wrap64 ((k : Int) + 1) = ((k + 1 : Nat) : Int) := by unfold wrap64; omega
      go_wp2_with fail
      go_region_with (go_at_call 16; refine (put_s (HR.out.ss.below (W' := wr.drew) ⟨rfl, rfl, rfl, Nat.le_refl _, fun _ _ => rfl⟩) key t (by omega)).mono ?_; rintro e3 w3 ⟨rfl, hS3⟩)
      all_goals
        have HR3 := Lib.hid (HR.out.put key hx0 hS3)
        clear hS3
        go_wp2_with fail
        go_roundw
        case rel => exact ⟨k + 1, _, by go_num, by omega, by omega, HR3.out⟩
        case measure => simp [intOf]; omega
    · have hO : Hid (OrR w wr p 0 0 S) := Lib.hid ⟨HR.out.ss, by omega, HR.out.bd, fun q => by omega⟩
      clear HR
      have hcase : (¬ k < ks.length) ∨ (k < ks.length ∧ ¬ k < ts.length) ∨ (k < ks.length ∧ k < ts.length ∧ (200 : Int) ≤ (k : Int)) := by omega
      rcases hcase with hc | ⟨hc, hc2⟩ | ⟨hc, hc2, hc3⟩
      all_goals
        clear hlt
        go_wp2_with fail
        clear hkl hk2 hSl
        try clear hc
        try clear hc2
        try clear hc3
        rename_i K7 _
        clear HT HK HP
        go_loopw [8, 9] (fun l i W => ∃ (k : Nat) (last : Int) (S : List KU), l = .int .u64 last ∧ i = .int .i64 k ∧ OrR w W p k last S) (fun _ i _ => 201 - (intOf i).toNat)
        case atStart => exact ⟨0, 0, S, rfl, rfl, hO.out⟩
        case round =>
          obtain ⟨k, last, S, rfl, rfl, hR⟩ := hrel
          clear hO
          have HR := Lib.hid hR
          have hcnt := hR.cnt
          have hk200 : (k : Int) ≤ 200 := by omega
          clear hR
          go_wp2_with fail
          refine (next_s HR.out.ss).mono ?_
          rintro e2 w2 ⟨rfl, hS2, hBn⟩
          have HR2 : Hid (OrR w w2 p k last S) := Lib.hid ⟨hS2, hcnt, HR.out.bd, HR.out.above⟩
          clear HR hS2 hBn
          have HR := HR2
          clear HR2
          cases hl : least S with
          | none =>
            have hS0 : S = [] := least_none.1 hl
            subst hS0
            rw [nextV_none]
            have he : (⟨#[]⟩ : ByteArray).toList = [] := by kernel_rfl
            go_wp2_with fail
            refine (len_s HR.out.ss).mono ?_
            rintro e5 w5 ⟨rfl, rfl⟩
            go_wp2
            go_ret
            exact ⟨rfl, HR.out.ss.bel⟩
          | some t =>
            rw [nextV_some]
            have hN := least_facts HR.out.ss.kn hl
            have HB := HR.out.bd t (least_is hl).1
            have hwk : wrap64 ((k : Int) + 1) = ((k + 1 : Nat) : Int) := by unfold wrap64; omega
            by_cases hk0 : k = 0
            · subst hk0
              by_cases hn0 : 0 < t.2
              · have hw : IntKind.u64.wrap (t.2 - 1) = t.2 - 1 := IntWalk.u64_in _ ⟨by omega, by have := HB.2; omega⟩
                have hh1 : has S t.1 (t.2 - 1) = true := hN.2.1
                go_wp2_with fail
                refine (has_s HR.out.ss t.1 (t.2 - 1)).mono ?_
                rintro e3 w3 ⟨rfl, rfl⟩
                rw [hh1]
                go_wp2_with fail
                refine (has_s HR.out.ss t.1 t.2).mono ?_
                rintro e4 w4 ⟨rfl, rfl⟩
                rw [hN.2.2]
                go_wp2_with fail
                refine (len_s HR.out.ss).mono ?_
                rintro e5 w5 ⟨rfl, rfl⟩
                go_wp2_with fail
                refine (expire_s HR.out.ss t.2 (by have := HR.out.cnt; omega)).mono ?_
                rintro e6 w6 ⟨⟨c, rfl, hc⟩, hS6⟩
                have hR6 := HR.out.step hl hS6
                have HR6 := Lib.hid hR6
                have hlt := hN.1
                have hc1 : ¬ ((c : Int) < 1) := by omega
                have hne : (((left S t.2).length : Int) != (S.length : Int) - (c : Int)) = false := by simp; omega
                clear hS6 hR6 HR
                go_wp2_with fail
                refine (len_s HR6.out.ss).mono ?_
                rintro e7 w7 ⟨rfl, rfl⟩
                go_wp2_with fail
                go_roundw
                case rel => exact ⟨0 + 1, t.2, left S t.2, rfl, rfl, HR6.out⟩
                case measure => have := HR6.out.cnt; first | (simp [intOf]; done) | (simp [intOf]; omega)
              · go_wp2_with fail
                refine (has_s HR.out.ss t.1 t.2).mono ?_
                rintro e4 w4 ⟨rfl, rfl⟩
                rw [hN.2.2]
                go_wp2_with fail
                refine (len_s HR.out.ss).mono ?_
                rintro e5 w5 ⟨rfl, rfl⟩
                go_wp2_with fail
                refine (expire_s HR.out.ss t.2 (by have := HR.out.cnt; omega)).mono ?_
                rintro e6 w6 ⟨⟨c, rfl, hc⟩, hS6⟩
                have hR6 := HR.out.step hl hS6
                have HR6 := Lib.hid hR6
                have hlt := hN.1
                have hc1 : ¬ ((c : Int) < 1) := by omega
                have hne : (((left S t.2).length : Int) != (S.length : Int) - (c : Int)) = false := by simp; omega
                clear hS6 hR6 HR
                go_wp2_with fail
                refine (len_s HR6.out.ss).mono ?_
                rintro e7 w7 ⟨rfl, rfl⟩
                go_wp2_with fail
                go_roundw
                case rel => exact ⟨0 + 1, t.2, left S t.2, rfl, rfl, HR6.out⟩
                case measure => have := HR6.out.cnt; first | (simp [intOf]; done) | (simp [intOf]; omega)
            · have hkp : (0 : Int) < (k : Int) := by omega
              have hla : ¬ t.2 ≤ last := by have := HR.out.above (by omega) t (least_is hl).1; omega
              by_cases hn0 : 0 < t.2
              · have hw : IntKind.u64.wrap (t.2 - 1) = t.2 - 1 := IntWalk.u64_in _ ⟨by omega, by have := HB.2; omega⟩
                have hh1 : has S t.1 (t.2 - 1) = true := hN.2.1
                go_wp2_with fail
                refine (has_s HR.out.ss t.1 (t.2 - 1)).mono ?_
                rintro e3 w3 ⟨rfl, rfl⟩
                rw [hh1]
                go_wp2_with fail
                refine (has_s HR.out.ss t.1 t.2).mono ?_
                rintro e4 w4 ⟨rfl, rfl⟩
                rw [hN.2.2]
                go_wp2_with fail
                refine (len_s HR.out.ss).mono ?_
                rintro e5 w5 ⟨rfl, rfl⟩
                go_wp2_with fail
                refine (expire_s HR.out.ss t.2 (by have := HR.out.cnt; omega)).mono ?_
                rintro e6 w6 ⟨⟨c, rfl, hc⟩, hS6⟩
                have hR6 := HR.out.step hl hS6
                have HR6 := Lib.hid hR6
                have hlt := hN.1
                have hc1 : ¬ ((c : Int) < 1) := by omega
                have hne : (((left S t.2).length : Int) != (S.length : Int) - (c : Int)) = false := by simp; omega
                clear hS6 hR6 HR
                go_wp2_with fail
                refine (len_s HR6.out.ss).mono ?_
                rintro e7 w7 ⟨rfl, rfl⟩
                go_wp2_with fail
                go_roundw
                case rel => exact ⟨k + 1, t.2, left S t.2, rfl, by go_num, HR6.out⟩
                case measure => have := HR6.out.cnt; first | (simp [intOf]; done) | (simp [intOf]; omega)
              · go_wp2_with fail
                refine (has_s HR.out.ss t.1 t.2).mono ?_
                rintro e4 w4 ⟨rfl, rfl⟩
                rw [hN.2.2]
                go_wp2_with fail
                refine (len_s HR.out.ss).mono ?_
                rintro e5 w5 ⟨rfl, rfl⟩
                go_wp2_with fail
                refine (expire_s HR.out.ss t.2 (by have := HR.out.cnt; omega)).mono ?_
                rintro e6 w6 ⟨⟨c, rfl, hc⟩, hS6⟩
                have hR6 := HR.out.step hl hS6
                have HR6 := Lib.hid hR6
                have hlt := hN.1
                have hc1 : ¬ ((c : Int) < 1) := by omega
                have hne : (((left S t.2).length : Int) != (S.length : Int) - (c : Int)) = false := by simp; omega
                clear hS6 hR6 HR
                go_wp2_with fail
                refine (len_s HR6.out.ss).mono ?_
                rintro e7 w7 ⟨rfl, rfl⟩
                go_wp2_with fail
                go_roundw
                case rel => exact ⟨k + 1, t.2, left S t.2, rfl, by go_num, HR6.out⟩
                case measure => have := HR6.out.cnt; first | (simp [intOf]; done) | (simp [intOf]; omega)
end Go.Proofs.Ytgleankpalihaaa
