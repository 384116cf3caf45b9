/- Cache: the walk of the reference's Put. -/
import Derived.Test.YtgleankpalihaaaRfB
namespace Go.Proofs.Ytgleankpalihaaa
open Go.RowKit Go.MapKept
set_option linter.unusedSimpArgs false
set_option linter.unusedVariables false
theorem RpE.new {w W1 : World} {q : Nat} {X : Nat → Prop} {S : List KU} (h : IsRf w q X S) {v v' : Value} {e : KU} (h1 : w.heap[q]? = some (.cells #[v] 30 (0, 0))) (hv : w.ownsRow 0 56 2 v S.length (kuCells S))
    (h2 : W1.ownsRow 0 56 2 v' (S ++ [e]).length (kuCells (S ++ [e]))) (hK : Kp (fun k => v.ownBlock = some k) w W1) (hat : v'.ownBlock = v.ownBlock ∨ v'.ownBlock = some (w.heap.size + 1)) :
    W1.heap[q]? = some (.cells #[v] 30 (0, 0)) ∧ RpE w (W1.setCell ⟨q, 0, none⟩ v') q X (S ++ [e]) := by
  obtain ⟨u, k1, k2, k3, k4⟩ := h.out
  rw [h1] at k1
  have hu : u = v := by
    injection k1 with k1
    injection k1 with k1 _
    have := congrArg (fun (a : Array Value) => a[0]?) k1
    simpa using this.symm
  subst hu
  have hq1 : W1.heap[q]? = some (.cells #[u] 30 (0, 0)) := hK.blk h1 (fun a => by
    obtain ⟨cs, hcs⟩ := own_block hv a
    exact row_ne hcs h1 (by decide) rfl)
  have hown : ∀ k, v'.ownBlock = some k → k ≠ q ∧ k < W1.heap.size := fun k hk => by
    obtain ⟨cs, hcs⟩ := own_block h2 hk
    exact ⟨row_ne hcs hq1 (by decide), row_lt hcs⟩
  have hKp : Kp X w (W1.setCell ⟨q, 0, none⟩ v') := Kp.setCell (p := ⟨q, 0, none⟩) (hK.mono (fun k _ a => k4 k a)) (by exact .inl k3) _
  refine ⟨hq1, ⟨⟨v', ?_, ?_, .inl k3, ?_⟩, ?_⟩, hKp⟩
  · exact row_set hq1 0 v'
  · exact own_kp h2 (S := One q) (Kp.setCell (p := ⟨q, 0, none⟩) (Kp.refl _ W1) (by exact .inl rfl) _) (fun k hk => (hown k hk).1)
  · intro k hk
    rcases hat with a | a
    · exact .inl (k4 k (by rw [← a]; exact hk))
    · have : k = w.heap.size + 1 := by rw [a] at hk; exact (Option.some.inj hk).symm
      refine .inr ⟨by omega, ?_⟩
      have := (hown k hk).2
      simpa [World.setCell] using this
  · rintro k (a | a)
    · exact Nat.lt_of_lt_of_le (h.lt k a) hKp.size
    · exact a.2
set_option maxHeartbeats 1600000 in
theorem rput_calls {X : Nat → Prop} {w : World} {q : Nat} {S : List KU} (h : IsRf w q X S) (hkn : KN S) (key : ByteArray) (t : Int) (hn : S.length ≤ 1000) :
    Calls Try.prog 18 #[.pointer (some ⟨q, 0, none⟩), .string key, .int .u64 t] w fun e w' => e = .returned (.tuple #[]) ∧ RpE w w' q X (put S key t) := by
  obtain ⟨v, h1, h2, h3, h4⟩ := h.out
  obtain ⟨A, cap, hv, hK⟩ := rf_shape h2
  have hc : w.cell? ⟨q, 0, none⟩ = some v := row_cell h1 0
  have hf : w.frozen? ⟨q, 0, none⟩ = false := row_frozen h1 0
  have hlen : ∀ W, (Builtin.len_ #[28] 3 #[v]).run Try.prog W = .ok (.int .i64 S.length) W := by intro W; rw [hv]; rfl
  have HK := Lib.hid hK
  have H := Lib.hid h
  have H1 := Lib.hid h1
  have H2 := Lib.hid h2
  have HV := Lib.hid hv
  clear h h1 h2 h3 h4 hK hv
  go_enter Try.func18, Try.ntmps18
  go_wp2_with fail
  go_loop [6] (fun i => ∃ k : Nat, i = .int .i64 k ∧ k ≤ S.length ∧ ∀ j x, j < k → S[j]? = some x → x.1 ≠ key) (fun i => S.length - (intOf i).toNat)
  case atStart => exact ⟨0, rfl, by omega, fun j x hj => by omega⟩
  case round =>
    obtain ⟨k, rfl, hk, hb⟩ := hrel
    have HB := Lib.hid hb
    clear hb
    by_cases hlt : k < S.length
    · have hv := HV.out
      obtain ⟨ad, hA, hc0, hc1, hc2⟩ := HK.out k S[k] (by simp [hlt])
      have hSk : S[k]? = some S[k] := by simp [hlt]
      generalize S[k] = e at hc0 hc1 hSk
      subst hA
      subst hv
      clear hlen
      by_cases he : e.1.toList = key.toList
      · have hek : e.1 = key := toList_inj he
        have heq : (e.1.toList == key.toList) = true := by simpa using he
        have hM : (if e.2 < t then t else e.2) = max e.2 t := by split <;> omega
        have hE : ∀ W, W = (w.setCell ⟨(ad.add (k * 2)).block, (ad.add (k * 2)).off + 1, none⟩ (.int .u64 (max e.2 t))).drew → RpE w W q X (put S key t) := by
          rw [← hek]
          exact RpE.set H.out hkn (A := some ad) (cap := cap) H1.out hSk rfl
        have HE := Lib.hid hE
        generalize max e.2 t = M at hM HE
        clear hE hek he HB HK H H1 H2 HV
        go_wp2_with fail
        go_region
        go_wp2_with fail
        refine bodyPost_ret (results_none rfl _ _ _) rfl ?_
        exact ⟨rfl, HE.out _ rfl⟩
      · have heq : (e.1.toList == key.toList) = false := by simpa using he
        have hwk : wrap64 ((k : Int) + 1) = ((k + 1 : Nat) : Int) := by unfold wrap64; omega
        clear H H1 H2 HV
        go_wp2_with fail
        go_round
        case rel =>
          refine ⟨k + 1, by go_num, by omega, ?_⟩
          intro j x hj hx
          by_cases hjk : j = k
          · rw [hjk, hSk] at hx
            have : e = x := Option.some.inj hx
            subst this
            exact fun q => he (by rw [q])
          · exact HB.out j x (by omega) hx
        case measure => simp [intOf]; omega
    · have hkS : k = S.length := by omega
      have hput : put S key t = S ++ [(key, t)] := put_fresh (fun e he => by
        obtain ⟨j, hj⟩ := List.getElem?_of_mem he
        exact HB.out j e (by have := (List.getElem?_eq_some_iff.1 hj).1; omega) hj) t
      have HPut := Lib.hid hput
      clear hput HB
      go_wp2_with (at_builtin; refine wpList_addr rfl _ _ rfl v S (key, t) _ _ rfl rfl (by simp) rfl H2.out hn ?_)
      intro v' W1 hO0 hK1 hat
      have hO : W1.ownsRow 0 56 2 v' (S ++ [(key, t)]).length (kuCells (S ++ [(key, t)])) := by rw [List.length_append]; exact hO0
      clear hO0
      obtain ⟨hq1, hE⟩ := RpE.new H.out H1.out H2.out hO hK1 hat
      rw [← HPut.out] at hE
      obtain ⟨A', cap', hv', _⟩ := rf_shape hO
      have hcq : W1.cell? ⟨q, 0, none⟩ = some v := row_cell hq1 0
      have hfq : W1.frozen? ⟨q, 0, none⟩ = false := row_frozen hq1 0
      subst hv'
      have he1 : (S ++ [(key, t)]).length = S.length + 1 := by simp
      rw [he1] at hE
      have HE := Lib.hid hE
      clear he1
      clear hE hO hK1 hat hq1 HK H H1 H2 HV hlen
      go_wp2
      go_end0
      exact ⟨rfl, HE.out⟩
end Go.Proofs.Ytgleankpalihaaa
