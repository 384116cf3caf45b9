/- Rows of events that come in; two lines side by side. -/
import Derived.Test.YtjbdjijfbpiccaaDoorLnS
namespace Go.Proofs.YtjbdjijfbpiccaaDoor
open Go.RowKit Go.MapKept
set_option linter.unusedSimpArgs false
set_option linter.unusedVariables false

/-- an event lies in the ten cells from ad on -/
structure EvAt (w : World) (ad : Addr) (e : Ev) : Prop where
  c0 : w.cell? ad = some (.int .i64 e.kind)
  c1 : w.cell? ⟨ad.block, ad.off + 1, none⟩ = some (.int .u64 e.time)
  c2 : w.cell? ⟨ad.block, ad.off + 2, none⟩ = some (.int .u64 e.id)
  c3 : w.cell? ⟨ad.block, ad.off + 3, none⟩ = some (.string e.a)
  c4 : w.cell? ⟨ad.block, ad.off + 4, none⟩ = some (.string e.b)
  c5 : w.cell? ⟨ad.block, ad.off + 5, none⟩ = some (.string e.c)
  c6 : w.cell? ⟨ad.block, ad.off + 6, none⟩ = some (.string e.d)
  c7 : w.cell? ⟨ad.block, ad.off + 7, none⟩ = some (.int .i64 e.x)
  c8 : w.cell? ⟨ad.block, ad.off + 8, none⟩ = some (.int .i64 e.y)
  c9 : w.cell? ⟨ad.block, ad.off + 9, none⟩ = some (.int .i64 e.z)

theorem EvAt.below {w w' : World} {ad : Addr} {e : Ev} (h : EvAt w ad e) (k : Below w.heap.size w w') : EvAt w' ad e :=
  have f : ∀ {p : Addr} {v : Value}, w.cell? p = some v → w'.cell? p = some v := fun hc => (k.cell (World.block_lt_of_cell? w _ hc)).trans hc
  ⟨f h.c0, f h.c1, f h.c2, f h.c3, f h.c4, f h.c5, f h.c6, f h.c7, f h.c8, f h.c9⟩

/-- the numbers of an event are of their kinds -/
def Ev.wf (e : Ev) : Prop := 0 ≤ e.time ∧ e.time < 18446744073709551616 ∧ 0 ≤ e.id ∧ e.id < 18446744073709551616
/-- the events of a row that comes in -/
def EvsAt (w : World) (A : Option Addr) (l : List Ev) : Prop := ∀ i e, l[i]? = some e → ∃ ad, A = some ad ∧ EvAt w (ad.add (i * 10)) e
theorem EvsAt.below {w w' : World} {A : Option Addr} {l : List Ev} (h : EvsAt w A l) (k : Below w.heap.size w w') : EvsAt w' A l := fun i e he => by
  obtain ⟨ad, hA, hc⟩ := h i e he
  exact ⟨ad, hA, hc.below k⟩

/-- two lines, beside one another -/
structure Sh2 (w W : World) (p b q c : Nat) (st su : LSt) : Prop where
  one : Sh w W p b st
  two : Sh w W q c su
  sep : p ≠ q ∧ p ≠ c ∧ b ≠ q ∧ b ≠ c
theorem Sh2.step1 {w W W' : World} {p b q c : Nat} {st st' su : LSt} (h : Sh2 w W p b q c st su) (hl : IsLine W' p b st') (k : Kp (Two p b) W W') : Sh2 w W' p b q c st' su :=
  have h1 := h.one.step hl k
  ⟨h1, ⟨h.two.line.kp k (by obtain ⟨s1, s2, s3, s4⟩ := h.sep; rintro (e | e); exact s1 e.symm; exact s3 e.symm) (by obtain ⟨s1, s2, s3, s4⟩ := h.sep; rintro (e | e); exact s2 e.symm; exact s4 e.symm), h1.kinds, h1.below, h.two.lt⟩, h.sep⟩
theorem Sh2.step2 {w W W' : World} {p b q c : Nat} {st su su' : LSt} (h : Sh2 w W p b q c st su) (hl : IsLine W' q c su') (k : Kp (Two q c) W W') : Sh2 w W' p b q c st su' :=
  have h1 := h.two.step hl k
  ⟨⟨h.one.line.kp k (by obtain ⟨s1, s2, s3, s4⟩ := h.sep; rintro (e | e); exact s1 e; exact s2 e) (by obtain ⟨s1, s2, s3, s4⟩ := h.sep; rintro (e | e); exact s3 e; exact s4 e), h1.kinds, h1.below, h.one.lt⟩, h1, h.sep⟩
/-- the second one is made beside the first -/
theorem Sh.two {w W W' : World} {p b q c : Nat} {st su : LSt} (h : Sh w W p b st) (hl : IsLine W' q c su) (hq : W.heap.size ≤ q ∧ W.heap.size ≤ c) (k : Below W.heap.size W W') : Sh2 w W' p b q c st su := by
  have hp := row_lt h.line.row
  have hb := h.line.map.lt
  have hB := h.below.trans (k.mono h.below.size)
  exact ⟨⟨h.line.kp (Kp.of_below (S := Non) k) (fun e => e) (fun e => e), h.kinds.kp (Kp.of_below (S := Non) k) (fun e => e), hB, h.lt⟩,
    ⟨hl, h.kinds.kp (Kp.of_below (S := Non) k) (fun e => e), hB, by have := h.below.size; omega⟩, by omega⟩
end Go.Proofs.YtjbdjijfbpiccaaDoor
