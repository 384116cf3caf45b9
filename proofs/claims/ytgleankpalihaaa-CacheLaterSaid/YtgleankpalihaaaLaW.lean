/- Cache: the walk of CacheLater. -/
import Derived.Test.YtgleankpalihaaaChG
namespace Go.Proofs.Ytgleankpalihaaa
open Go.RowKit Go.MapKept
set_option linter.unusedSimpArgs false
set_option linter.unusedVariables false
structure LaR (w W : World) (p : Nat) (key : ByteArray) (i : Nat) (most : Int) (S : List KU) : Prop where
  ss : Ss w W p S
  len : S.length ≤ 2 * i
  pos : 0 ≤ most ∧ most ≤ 18446744073709551615
  get0 : i = 0 → get S key = none
  get1 : 0 < i → get S key = some most
theorem LaR.put {w W W1 : World} {p : Nat} {key : ByteArray} {i : Nat} {most t : Int} {S : List KU} (h : LaR w W p key i most S) (ht : 0 ≤ t ∧ t ≤ 18446744073709551615) (hs : Ss w W1 p (put S key t)) (h0 : i = 0 → most = 0) : LaR w W1 p key (i + 1) (max most t) (put S key t) := by
  refine ⟨hs, by have := put_len S key t; have := h.len; omega, by have := h.pos; omega, fun q => by omega, fun _ => ?_⟩
  rw [get_put, if_pos rfl]
  rcases Nat.eq_zero_or_pos i with q | q
  · rw [h.get0 q, h0 q]
    have : max 0 t = t := by omega
    rw [this]
  · rw [h.get1 q]
theorem LaR.other {w W W1 : World} {p : Nat} {key o : ByteArray} {i : Nat} {most t : Int} {S : List KU} (h : LaR w W p key (i + 1) most S) (hl : S.length ≤ 2 * i + 1) (ho : o ≠ key) (hs : Ss w W1 p (Ytgleankpalihaaa.put S o t)) : LaR w W1 p key (i + 1) most (Ytgleankpalihaaa.put S o t) := by
  refine ⟨hs, by have := put_len S o t; omega, h.pos, fun q => by omega, fun _ => ?_⟩
  rw [get_put, if_neg ho]
  exact h.get1 (by omega)
set_option maxHeartbeats 800000 in
theorem later_walk (key : ByteArray) (ta oa : Option Addr) (tc oc : Nat) (l : List Int) (os : List ByteArray) (w : World) (ht : NumsAt w ta l) (ho : StrsAt w oa os) (hp : ∀ t ∈ l, 0 ≤ t ∧ t ≤ 18446744073709551615) :
    Calls Try.prog 5 #[.string key, .slice ta l.length tc, .slice oa os.length oc] w fun e w' => e = .returned (.bool true) ∧ Below w.heap.size w w' := by
  have HT := Lib.hid ht
  have HO := Lib.hid ho
  have HP := Lib.hid hp
  clear ht ho hp
  go_enter Try.func5, Try.ntmps5
  go_wp2_with fail
  refine (shown_calls w).mono ?_
  rintro e0 w0 ⟨rfl, hB0⟩
  have HB0 := Lib.hid hB0
  go_wp2_with fail
  refine (new_in (S := []) (p := 0) hB0).mono ?_
  rintro e1 w1 ⟨p, rfl, hS⟩
  have HS := Lib.hid hS
  clear hS HB0 hB0
  go_wp2_with fail
  go_loopw [9, 10, 11] (fun m n i W => ∃ (k : Nat) (most : Int) (S : List KU), m = .int .u64 most ∧ n = .int .i64 k ∧ i = .int .i64 k ∧ k ≤ l.length ∧ k ≤ 50 ∧ (k = 0 → most = 0) ∧ LaR w W p key k most S) (fun _ _ i _ => l.length - (intOf i).toNat)
  case atStart => exact ⟨0, 0, [], rfl, rfl, rfl, by omega, by omega, fun _ => rfl, ⟨HS.out, by simp, by omega, fun _ => rfl, fun q => by omega⟩⟩
  case round =>
    obtain ⟨k, most, S, rfl, rfl, rfl, hkl, hk50, hz, hR⟩ := hrel
    have HR := Lib.hid hR
    have hSl := hR.len
    clear hR HS
    by_cases hlt : k < l.length ∧ k < 50
    · obtain ⟨hlt, h50⟩ := hlt
      obtain ⟨ad, rfl, hat⟩ := HT.out k l[k] (by simp [hlt])
      have hx0 : 0 ≤ l[k] ∧ l[k] ≤ 18446744073709551615 := HP.out _ (List.getElem_mem hlt)
      generalize l[k] = t at hat hx0
      have c0 := below_cell HR.out.ss.bel hat
      have hPut := Lib.hid (put_s HR.out.ss key t (by omega))
      go_wp2_with fail
      refine hPut.out.mono ?_
      rintro e2 w2 ⟨rfl, hS2⟩
      have hR2 := HR.out.put hx0 hS2 hz
      have c2 := below_cell hS2.bel hat
      have HR2 := Lib.hid hR2
      have hl2 : (put S key t).length ≤ 2 * k + 1 := by have := put_len S key t; omega
      have HL2 := Lib.hid hl2
      clear hPut hR2 hS2 HR c0 hl2
      have hM : (if most < t then t else most) = max most t := by split <;> omega
      generalize max most t = M at hM HR2
      have hwk : wrap64 ((k : Int) + 1) = ((k + 1 : Nat) : Int) := by unfold wrap64; omega
      by_cases hko : k < os.length
      · obtain ⟨ao, rfl, hot⟩ := HO.out k os[k] (by simp [hko])
        generalize os[k] = o at hot
        have d2 := below_cell HR2.out.ss.bel hot
        by_cases heq : o.toList = key.toList
        · go_wp2_with fail
          go_roundw
          case rel => exact ⟨k + 1, M, put S key t, rfl, by go_num, by go_num, by omega, by omega, fun q => by omega, HR2.out⟩
          case measure => simp [intOf]; omega
        · have hok : o ≠ key := fun q => heq (by rw [q])
          have hbne : (o.toList == key.toList) = false := by simpa using heq
          go_wp2_with fail
          go_region_with (go_at_call 16; refine (put_s (HR2.out.ss.below (W' := w2.drew) ⟨rfl, rfl, rfl, Nat.le_refl _, fun _ _ => rfl⟩) o _ (by have := HL2.out; omega)).mono ?_; rintro e3 w3 ⟨rfl, hS3⟩)
          all_goals
            have HR3 := Lib.hid (HR2.out.other HL2.out hok hS3)
            clear hS3
            go_wp2_with fail
            go_roundw
            case rel => exact ⟨k + 1, M, _, rfl, by go_num, by go_num, by omega, by omega, fun q => by omega, HR3.out⟩
            case measure => simp [intOf]; omega
      · go_wp2_with fail
        go_roundw
        case rel => exact ⟨k + 1, M, put S key t, rfl, by go_num, by go_num, by omega, by omega, fun q => by omega, HR2.out⟩
        case measure => simp [intOf]; omega
    · by_cases hk0 : k = 0
      · subst hk0
        have hg : has S key 0 = false := by rw [has_eq, HR.out.get0 rfl]
        go_wp2_with fail
        refine (has_s HR.out.ss key 0).mono ?_
        rintro e3 w3 ⟨rfl, rfl⟩
        rw [hg]
        go_wp2
        go_ret
        exact ⟨rfl, HR.out.ss.bel⟩
      · have hcase : (¬ k < l.length) ∨ (k < l.length ∧ (50 : Int) ≤ (k : Int)) := by omega
        rcases hcase with hc | ⟨hc, hc'⟩
        all_goals
          have hg : has S key most = false := by rw [has_eq, HR.out.get1 (by omega)]; simp
          have hkz : ((k : Int) == 0) = false := by simpa using hk0
          go_wp2_with fail
          refine (has_s HR.out.ss key most).mono ?_
          rintro e3 w3 ⟨rfl, rfl⟩
          rw [hg]
          by_cases hm0 : most = 0
          · subst hm0
            go_wp2
            go_ret
            exact ⟨rfl, HR.out.ss.bel⟩
          · have hpos := HR.out.pos
            have hg2 : has S key (most - 1) = true := by rw [has_eq, HR.out.get1 (by omega)]; simp; omega
            have hw : IntKind.u64.wrap (most - 1) = most - 1 := IntWalk.u64_in _ ⟨by omega, by omega⟩
            go_wp2_with fail
            refine (has_s HR.out.ss key (most - 1)).mono ?_
            rintro e4 w4 ⟨rfl, rfl⟩
            rw [hg2]
            go_wp2
            go_ret
            exact ⟨rfl, HR.out.ss.bel⟩
end Go.Proofs.Ytgleankpalihaaa
