/- Cache: the walks of the reference's Expire and Next. -/
import Derived.Test.YtgleankpalihaaaRfC
import Derived.Deep.QuietTactic
import Derived.BigQuiet
namespace Go.Proofs.Ytgleankpalihaaa
open Go.RowKit Go.MapKept
set_option linter.unusedSimpArgs false
set_option linter.unusedVariables false
theorem KusAt.below {w W : World} {A : Option Addr} {S : List KU} (h : KusAt w A S) (k : Below w.heap.size w W) : KusAt W A S := fun i e he => by
  obtain ⟨ad, h1, h2, h3, h4⟩ := h i e he
  have hlt : ad.block < w.heap.size := by
    have := World.block_lt_of_cell? w _ h2
    have hb : (ad.add (i * 2)).block = ad.block := by unfold Addr.add; split <;> rfl
    rwa [hb] at this
  refine ⟨ad, h1, below_cell k h2, below_cell k h3, ?_⟩
  have hb : (ad.add (i * 2)).block = ad.block := by unfold Addr.add; split <;> rfl
  refine (World.frozen?_of_block (w := w) (k.block _ ?_)).trans h4
  show (ad.add (i * 2)).block < _
  rw [hb]; exact hlt
theorem left_take_succ {S : List KU} {k : Nat} {e : KU} (he : S[k]? = some e) (now : Int) : left (S.take (k + 1)) now = left (S.take k) now ++ (if now < e.2 then [e] else []) := by
  have : S.take (k + 1) = S.take k ++ [e] := by
    rw [List.take_add_one, he]; rfl
  unfold left
  rw [this, List.filter_append]
  congr 1
  by_cases h : now < e.2 <;> simp [h]
structure RxR (w W : World) (v : Value) (T : List KU) : Prop where
  own : W.ownsRow 0 56 2 v T.length (kuCells T)
  new : ∀ k, v.ownBlock = some k → w.heap.size ≤ k
  bel : Below w.heap.size w W
theorem RxR.start (w : World) : RxR w w (.slice none 0 0) [] := ⟨⟨by simp [kuCells], .inl ⟨rfl, rfl⟩⟩, by intro k hk; simp [Value.ownBlock] at hk, Below.refl _ _⟩
theorem RxR.add {w W W1 : World} {v v' : Value} {T : List KU} {e : KU} (h : RxR w W v T) (h2 : W1.ownsRow 0 56 2 v' (T ++ [e]).length (kuCells (T ++ [e]))) (hK : Kp (fun k => v.ownBlock = some k) W W1) (hat : v'.ownBlock = v.ownBlock ∨ v'.ownBlock = some (W.heap.size + 1)) : RxR w W1 v' (T ++ [e]) := by
  refine ⟨h2, ?_, h.bel.trans (hK.below (fun k hk => h.new k hk) h.bel.size)⟩
  intro k hk
  rcases hat with a | a
  · exact h.new k (by rw [← a]; exact hk)
  · rw [a] at hk
    have := h.bel.size
    have : k = W.heap.size + 1 := (Option.some.inj hk).symm
    omega
theorem RpE.xp {w W : World} {q : Nat} {X : Nat → Prop} {S T : List KU} (h : IsRf w q X S) {v v' : Value} (h1 : w.heap[q]? = some (.cells #[v] 30 (0, 0))) (hR : RxR w W v' T) : RpE w (W.setCell ⟨q, 0, none⟩ v') q X T := by
  obtain ⟨u, k1, k2, k3, k4⟩ := h.out
  have hq1 : W.heap[q]? = some (.cells #[v] 30 (0, 0)) := (hR.bel.block q (row_lt h1)).trans h1
  have hKp : Kp X w (W.setCell ⟨q, 0, none⟩ v') := Kp.setCell (p := ⟨q, 0, none⟩) (Kp.of_below hR.bel) (by exact .inl k3) _
  refine ⟨⟨⟨v', row_set hq1 0 v', ?_, .inl k3, ?_⟩, ?_⟩, hKp⟩
  · refine own_kp hR.own (S := One q) (Kp.setCell (p := ⟨q, 0, none⟩) (Kp.refl _ W) (by exact .inl rfl) _) (fun k hk => ?_)
    obtain ⟨cs, hcs⟩ := own_block hR.own hk
    exact row_ne hcs hq1 (by decide)
  · intro k hk
    obtain ⟨cs, hcs⟩ := own_block hR.own hk
    refine .inr ⟨hR.new k hk, ?_⟩
    have := row_lt hcs
    simpa [World.setCell] using this
  · rintro k (a | a)
    · exact Nat.lt_of_lt_of_le (h.lt k a) hKp.size
    · exact a.2
set_option maxHeartbeats 1600000 in
theorem rexpire_calls {X : Nat → Prop} {w : World} {q : Nat} {S : List KU} (h : IsRf w q X S) (now : Int) (hn : S.length ≤ 1000) :
    Calls Try.prog 19 #[.pointer (some ⟨q, 0, none⟩), .int .u64 now] w fun e w' => (∃ c : Nat, e = .returned (.int .i64 c) ∧ c + (left S now).length = S.length) ∧ RpE w w' q X (left S now) := by
  obtain ⟨v, h1, h2, h3, h4⟩ := h.out
  obtain ⟨A, cap, hv, hK⟩ := rf_shape h2
  subst hv
  have HK := Lib.hid hK
  have H := Lib.hid h
  have H1 := Lib.hid h1
  clear h h1 h2 h3 h4 hK
  go_enter Try.func19, Try.ntmps19
  go_wp2_with fail
  go_loopw [5, 6] (fun v i W => ∃ k : Nat, i = .int .i64 k ∧ k ≤ S.length ∧ RxR w W v (left (S.take k) now)) (fun _ i _ => S.length - (intOf i).toNat)
  case atStart => exact ⟨0, rfl, by omega, by simpa [left] using RxR.start w⟩
  case round =>
    obtain ⟨k, rfl, hk, hR⟩ := hrel
    have HR := Lib.hid hR
    have hlk : (left (S.take k) now).length ≤ 1000 := by
      have h1 : (left (S.take k) now).length ≤ (S.take k).length := List.length_filter_le _ _
      have h2 : (S.take k).length ≤ S.length := by simp; omega
      omega
    clear hR
    have hqc : wr.heap[q]? = some (.cells #[.slice A S.length cap] 30 (0, 0)) := (HR.out.bel.block q (row_lt H1.out)).trans H1.out
    have hc : wr.cell? ⟨q, 0, none⟩ = some (.slice A S.length cap) := row_cell hqc 0
    by_cases hlt : k < S.length
    · obtain ⟨ad, hA, hc0, hc1, _⟩ := (HK.out.below HR.out.bel) k S[k] (by simp [hlt])
      have hSk : S[k]? = some S[k] := by simp [hlt]
      generalize S[k] = e at hc0 hc1 hSk
      subst hA
      have hT := left_take_succ hSk now
      have hwk : wrap64 ((k : Int) + 1) = ((k + 1 : Nat) : Int) := by unfold wrap64; omega
      by_cases hu : now < e.2
      · rw [if_pos hu] at hT
        have HT := Lib.hid hT
        clear hT hqc
        go_wp2_with (at_builtin; refine wpList_addr rfl _ _ rfl u5 (left (S.take k) now) e _ _ rfl rfl rfl rfl HR.out.own hlk ?_)
        intro v' W1 hO0 hK1 hat
        have hO : W1.ownsRow 0 56 2 v' (left (S.take k) now ++ [e]).length (kuCells (left (S.take k) now ++ [e])) := by rw [List.length_append]; exact hO0
        have hR1 := HR.out.add hO hK1 hat
        rw [← HT.out] at hR1
        have HR1 := Lib.hid hR1
        clear hO0 hO hK1 hat hR1 HR HT
        go_wp2_with fail
        go_roundw
        case rel => exact ⟨k + 1, by go_num, by omega, HR1.out⟩
        case measure => simp [intOf]; omega
      · rw [if_neg hu, List.append_nil] at hT
        have hR1 := HR.out
        rw [← hT] at hR1
        have HR1 := Lib.hid hR1
        clear hT hR1 hqc HR
        go_wp2_with fail
        go_roundw
        case rel => exact ⟨k + 1, by go_num, by omega, HR1.out⟩
        case measure => simp [intOf]; omega
    · have hkS : k = S.length := by omega
      have hR1 := HR.out
      rw [hkS, List.take_length] at hR1
      obtain ⟨A', cap', hv', _⟩ := rf_shape hR1.own
      have hE := RpE.xp H.out H1.out hR1
      have hfq : wr.frozen? ⟨q, 0, none⟩ = false := row_frozen hqc 0
      have hle : (left S now).length ≤ S.length := List.length_filter_le _ _
      subst hv'
      have HE := Lib.hid hE
      obtain ⟨c, hc9⟩ : ∃ c : Nat, c + (left S now).length = S.length := ⟨S.length - (left S now).length, by omega⟩
      have hcc : (S.length : Int) - ((left S now).length : Int) = (c : Int) := by omega
      have hw : wrap64 (c : Int) = (c : Int) := by unfold wrap64; omega
      clear hE hR1 HR hqc HK H H1 hkS
      go_wp2
      go_ret
      exact ⟨⟨c, rfl, hc9⟩, HE.out⟩
/-- the reference's Next: what stands in x behind k rounds -/
def upTo (x : KU) (l : List KU) (k : Nat) : KU := leastF x (l.take k)
theorem upTo_succ {x : KU} {l : List KU} {k : Nat} {y : KU} (h : l[k]? = some y) : upTo x l (k + 1) = if klt y.1 y.2 (upTo x l k).1 (upTo x l k).2 then y else upTo x l k := by
  unfold upTo leastF
  rw [List.take_add_one, h, List.foldl_append]
  rfl
theorem klt_of_lt {y m : KU} (h : y.2 < m.2) : klt y.1 y.2 m.1 m.2 := .inl h
theorem leastF_all (x : KU) (l : List KU) : upTo x l l.length = leastF x l := by unfold upTo; rw [List.take_length]
structure RnR (w W : World) (px : Nat) (m : KU) : Prop where
  row : W.heap[px]? = some (.cells #[.string m.1, .int .u64 m.2] 56 (0, 0))
  new : w.heap.size ≤ px
  bel : Below w.heap.size w W
theorem RnR.keep {w W : World} {px : Nat} {m : KU} (h : RnR w W px m) (o : Obj) : RnR w (W.alloc o) px m := ⟨row_alloc h.row o, h.new, h.bel.alloc (by have := h.bel.size; omega) o⟩
theorem RnR.put {w W : World} {px : Nat} {m : KU} (h : RnR w W px m) (o : Obj) (y : KU) : RnR w (((W.alloc o).setCell ⟨px, 0, none⟩ (.string y.1)).setCell ⟨px, 1, none⟩ (.int .u64 y.2)) px y := by
  have h1 := row_set (row_set (row_alloc h.row o) 0 (.string y.1)) 1 (.int .u64 y.2)
  refine ⟨h1, h.new, ?_⟩
  refine Kp.below (S := fun k => w.heap.size ≤ k) ?_ (fun k hk => hk) (Nat.le_refl _)
  refine Kp.setCell (p := ⟨px, 1, none⟩) (Kp.setCell (p := ⟨px, 0, none⟩) ((Kp.of_below h.bel).alloc o) (by exact .inl h.new) _) (by exact .inl h.new) _
set_option maxHeartbeats 1600000 in
theorem rnext_calls {X : Nat → Prop} {w : World} {q : Nat} {S : List KU} (h : IsRf w q X S) (hn : S.length ≤ 1000) :
    Calls Try.prog 12 #[.pointer (some ⟨q, 0, none⟩)] w fun e w' => e = .returned (nextV (least S)) ∧ Below w.heap.size w w' := by
  obtain ⟨v, h1, h2, h3, h4⟩ := h.out
  obtain ⟨A, cap, hv, hK⟩ := rf_shape h2
  subst hv
  have hc : w.cell? ⟨q, 0, none⟩ = some (.slice A S.length cap) := row_cell h1 0
  cases S with
  | nil =>
    have hc' : w.cell? ⟨q, 0, none⟩ = some (.slice A 0 cap) := hc
    clear h h1 h2 h3 h4 hK hc
    go_enter Try.func12, Try.ntmps12
    go_wp2
    go_ret3
    exact ⟨rfl, Below.refl _ _⟩
  | cons x l =>
    have hl : least (x :: l) = some (leastF x l) := rfl
    rw [hl]
    show Calls Try.prog 12 #[.pointer (some ⟨q, 0, none⟩)] w fun e w' => e = .returned (.tuple #[.string (leastF x l).1, .int .u64 (leastF x l).2, .bool true]) ∧ Below w.heap.size w w'
    obtain ⟨ad, hA, c0, c1, _⟩ := hK 0 x rfl
    subst hA
    have c0' : w.cell? ad = some (.string x.1) := by simpa [Addr.add] using c0
    have c1' : w.cell? ⟨ad.block, ad.off + 1, none⟩ = some (.int .u64 x.2) := by simpa [Addr.add] using c1
    have HK := Lib.hid hK
    have H1 := Lib.hid h1
    have hpos : (0 : Int) < (l.length : Int) + 1 := by omega
    have hpz : ((l.length : Int) + 1 == 0) = false := by simp; omega
    have hX1 : Hid (RnR w (w.alloc (.cells #[.string x.1, .int .u64 x.2] 56)) w.heap.size (upTo x l 0)) := Lib.hid ⟨row_new w _, Nat.le_refl _, (Below.refl _ w).alloc (Nat.le_refl _) _⟩
    clear h h1 h2 h3 h4 hK hl c0 c1
    go_enter Try.func12, Try.ntmps12
    go_wp2_with fail
    go_loopw [6] (fun i W => ∃ k : Nat, i = .int .i64 ((k + 1 : Nat) : Int) ∧ k ≤ l.length ∧ RnR w W w.heap.size (upTo x l k)) (fun i _ => l.length + 1 - (intOf i).toNat)
    case atStart => exact ⟨0, rfl, by omega, hX1.out⟩
    case round =>
      obtain ⟨k, rfl, hk, hR⟩ := hrel
      have HR := Lib.hid hR
      clear hR hX1
      have hqc : wr.heap[q]? = some (.cells #[.slice (some ad) (l.length + 1) cap] 30 (0, 0)) := (HR.out.bel.block q (row_lt H1.out)).trans H1.out
      have hc3 : wr.cell? ⟨q, 0, none⟩ = some (.slice (some ad) (l.length + 1) cap) := row_cell hqc 0
      by_cases hlt : k < l.length
      · obtain ⟨ad', hA, d0, d1, _⟩ := (HK.out.below HR.out.bel) (k + 1) l[k] (by simp [hlt])
        have hlk : l[k]? = some l[k] := by simp [hlt]
        generalize l[k] = y at d0 d1 hlk
        injection hA with hA
        subst hA
        have hsu := upTo_succ (x := x) hlk
        have hrow := HR.out.row
        have hx1 : ∀ o, (wr.alloc o).heap[w.heap.size]? = some (.cells #[.string (upTo x l k).1, .int .u64 (upTo x l k).2] 56 (0, 0)) := fun o => row_alloc hrow o
        have ha0 : ∀ o, (wr.alloc o).cell? ⟨w.heap.size, 0, none⟩ = some (.string (upTo x l k).1) := fun o => row_cell (hx1 o) 0
        have ha1 : ∀ o, (wr.alloc o).cell? ⟨w.heap.size, 1, none⟩ = some (.int .u64 (upTo x l k).2) := fun o => row_cell (hx1 o) 1
        have hf0 : ∀ o, (wr.alloc o).frozen? ⟨w.heap.size, 0, none⟩ = false := fun o => row_frozen (hx1 o) 0
        have hf1 : ∀ o, (wr.alloc o).frozen? ⟨w.heap.size, 1, none⟩ = false := fun o => row_frozen (hx1 o) 1
        have hk9 : l.length < 1000 := by have := hn; simp at this; omega
        have hwk : wrap64 ((k : Int) + 1 + 1) = ((k + 1 + 1 : Nat) : Int) := by unfold wrap64; omega
        have hlk' : (k : Int) + 1 < (l.length : Int) + 1 := by omega
        have HX := Lib.hid hx1
        have HSU := Lib.hid hsu
        clear hqc hrow hx1 hsu
        have hko : ∀ o, RnR w (wr.alloc o) w.heap.size (upTo x l k) := HR.out.keep
        have hpo : ∀ o y, RnR w (((wr.alloc o).setCell ⟨w.heap.size, 0, none⟩ (.string y.1)).setCell ⟨w.heap.size, 1, none⟩ (.int .u64 y.2)) w.heap.size y := HR.out.put
        have HKo := Lib.hid hko
        have HPo := Lib.hid hpo
        clear hko hpo HX HR
        have hsu2 := HSU.out
        generalize hm : upTo x l k = m at *
        clear hm HSU
        by_cases h1 : y.2 < m.2
        · rw [if_pos (.inl h1)] at hsu2
          have HSU := Lib.hid hsu2
          clear hsu2
          go_wp2_with fail
          go_roundw
          case rel =>
            refine ⟨k + 1, by go_num, by omega, ?_⟩
            rw [HSU.out]
            exact HPo.out _ y
          case measure => simp [intOf]; omega
        · by_cases h2 : y.2 = m.2
          · cases h3 : Op.bytesLess y.1.toList m.1.toList with
            | true =>
              rw [if_pos (.inr ⟨h2, h3⟩)] at hsu2
              have HSU := Lib.hid hsu2
              clear hsu2
              go_wp2_with fail
              go_roundw
              case rel =>
                refine ⟨k + 1, by go_num, by omega, ?_⟩
                rw [HSU.out]
                first | exact HPo.out _ y | (have h9 := HPo.out (.cells #[.string y.1, .int .u64 y.2] 56) y; rw [h2] at h9; exact h9)
              case measure => simp [intOf]; omega
            | false =>
              rw [if_neg (by rintro (q | ⟨_, q⟩); exact h1 q; rw [h3] at q; cases q)] at hsu2
              have HSU := Lib.hid hsu2
              clear hsu2
              go_wp2_with fail
              go_roundw
              case rel =>
                refine ⟨k + 1, by go_num, by omega, ?_⟩
                rw [HSU.out]
                first | exact HKo.out _ | (have h9 := HKo.out (.cells #[.string y.1, .int .u64 y.2] 56); rw [h2] at h9; exact h9)
              case measure => simp [intOf]; omega
          · rw [if_neg (by rintro (q | ⟨q, _⟩); exact h1 q; exact h2 q)] at hsu2
            have HSU := Lib.hid hsu2
            clear hsu2
            go_wp2_with fail
            go_roundw
            case rel =>
              refine ⟨k + 1, by go_num, by omega, ?_⟩
              rw [HSU.out]
              exact HKo.out _
            case measure => simp [intOf]; omega
      · have hkS : k = l.length := by omega
        have hrow := HR.out.row
        rw [hkS, leastF_all] at hrow
        have e0 : wr.cell? ⟨w.heap.size, 0, none⟩ = some (.string (leastF x l).1) := row_cell hrow 0
        have e1 : wr.cell? ⟨w.heap.size, 1, none⟩ = some (.int .u64 (leastF x l).2) := row_cell hrow 1
        have HB := Lib.hid HR.out.bel
        have hlk' : ¬ (k : Int) + 1 < (l.length : Int) + 1 := by omega
        clear hrow HR hqc HK H1 hkS
        obtain ⟨m, hm⟩ : ∃ m, m = leastF x l := ⟨_, rfl⟩
        rw [← hm] at e0 e1
        have HM := Lib.hid hm
        clear hm
        go_wp2_with fail
        go_quiet (fail)
        go_wp2
        go_ret3
        exact ⟨by rw [← HM.out]; rfl, HB.out.trans ⟨rfl, rfl, rfl, Nat.le_refl _, fun _ _ => rfl⟩⟩
end Go.Proofs.Ytgleankpalihaaa
