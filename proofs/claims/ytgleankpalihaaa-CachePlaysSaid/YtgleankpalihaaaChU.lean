/- Cache: heap's up and down over the queue. -/
import Derived.Test.YtgleankpalihaaaChP
namespace Go.Proofs.Ytgleankpalihaaa
open Go.RowKit Go.MapKept
set_option linter.unusedSimpArgs false
set_option linter.unusedVariables false
theorem mPush (p : Nat) (w : World) : (method 191 59 (.pointer (some ⟨p, 1, none⟩)) "Push").run Try.prog w = .ok (50, .pointer (some ⟨p, 1, none⟩)) w := by kernel_rfl
theorem mPop (p : Nat) (w : World) : (method 191 59 (.pointer (some ⟨p, 1, none⟩)) "Pop").run Try.prog w = .ok (49, .pointer (some ⟨p, 1, none⟩)) w := by kernel_rfl
theorem chk (p : Nat) (a b : ByteArray) (w : World) : (Builtin.ssaWrapNilChk_ #[59] 59 #[.pointer (some ⟨p, 1, none⟩), .string a, .string b]).run Try.prog w = .ok (.pointer (some ⟨p, 1, none⟩)) w := rfl
theorem mLen0 (p : Nat) (w : World) : (method 191 59 (.pointer (some ⟨p, 1, none⟩)) "Len").run Try.prog w = ((loadVar 49 ⟨p, 1, none⟩).run Try.prog w).andThen (fun v w => .ok (41, v) w) := by
  have h1 : (typeInfo 59).run Try.prog w = .ok Try.t59 w := by kernel_rfl
  have h2 : Try.t59.methods.find? (·.name == "Len") = some ⟨"Len", 36, #[], some (41, false)⟩ := by kernel_rfl
  rw [show (191 : Nat) = 190 + 1 from rfl, method]
  simp [h1, h2, follow, receiverAt, Try.underlying59, Place.get, chk, strVal, Result.andThen, asAddr]
theorem mLess0 (p : Nat) (w : World) : (method 191 59 (.pointer (some ⟨p, 1, none⟩)) "Less").run Try.prog w = ((loadVar 49 ⟨p, 1, none⟩).run Try.prog w).andThen (fun v w => .ok (42, v) w) := by
  have h1 : (typeInfo 59).run Try.prog w = .ok Try.t59 w := by kernel_rfl
  have h2 : Try.t59.methods.find? (·.name == "Less") = some ⟨"Less", 68, #[], some (42, false)⟩ := by kernel_rfl
  rw [show (191 : Nat) = 190 + 1 from rfl, method]
  simp [h1, h2, follow, receiverAt, Try.underlying59, Place.get, chk, strVal, Result.andThen, asAddr]
theorem mSwap0 (p : Nat) (w : World) : (method 191 59 (.pointer (some ⟨p, 1, none⟩)) "Swap").run Try.prog w = ((loadVar 49 ⟨p, 1, none⟩).run Try.prog w).andThen (fun v w => .ok (43, v) w) := by
  have h1 : (typeInfo 59).run Try.prog w = .ok Try.t59 w := by kernel_rfl
  have h2 : Try.t59.methods.find? (·.name == "Swap") = some ⟨"Swap", 66, #[], some (43, false)⟩ := by kernel_rfl
  rw [show (191 : Nat) = 190 + 1 from rfl, method]
  simp [h1, h2, follow, receiverAt, Try.underlying59, Place.get, chk, strVal, Result.andThen, asAddr]
theorem loadQ {p : Nat} {w : World} {v : Value} (h : w.cell? ⟨p, 1, none⟩ = some v) : (loadVar 49 ⟨p, 1, none⟩).run Try.prog w = .ok v w := by
  simp [loadVar, Try.underlying49, h]
theorem mLen {p : Nat} {w : World} {v : Value} (h : w.cell? ⟨p, 1, none⟩ = some v) : (method 191 59 (.pointer (some ⟨p, 1, none⟩)) "Len").run Try.prog w = .ok (41, v) w := by rw [mLen0, loadQ h]; rfl
theorem mLess {p : Nat} {w : World} {v : Value} (h : w.cell? ⟨p, 1, none⟩ = some v) : (method 191 59 (.pointer (some ⟨p, 1, none⟩)) "Less").run Try.prog w = .ok (42, v) w := by rw [mLess0, loadQ h]; rfl
theorem mSwap {p : Nat} {w : World} {v : Value} (h : w.cell? ⟨p, 1, none⟩ = some v) : (method 191 59 (.pointer (some ⟨p, 1, none⟩)) "Swap").run Try.prog w = .ok (43, v) w := by rw [mSwap0, loadQ h]; rfl
end Go.Proofs.Ytgleankpalihaaa
