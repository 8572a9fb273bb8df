/- Numbers of 64 bits: how they wrap. Conditions: none. -/
import Derived.Test.YtbbplkdjcgdaaaaDoorWkM
set_option linter.unusedVariables false
set_option autoImplicit false
namespace Go.Wk
open Go

theorem wi_eq (x : Int) : IntKind.i64.wrap x = (x + 9223372036854775808) % 18446744073709551616 - 9223372036854775808 := by
  have e : IntKind.i64.wrap x = if x % 18446744073709551616 ≥ 9223372036854775808 then x % 18446744073709551616 - 18446744073709551616 else x % 18446744073709551616 := by
    simp [IntKind.wrap, IntKind.signed, IntKind.bits]
  rw [e]; split <;> omega
theorem wu_eq (x : Int) : IntKind.u64.wrap x = x % 18446744073709551616 := by simp [IntKind.wrap, IntKind.signed, IntKind.bits]
theorem wi_id {x : Int} (h1 : -9223372036854775808 ≤ x) (h2 : x ≤ 9223372036854775807) : IntKind.i64.wrap x = x := by rw [wi_eq]; omega
theorem wu_id {x : Int} (h1 : 0 ≤ x) (h2 : x < 18446744073709551616) : IntKind.u64.wrap x = x := by rw [wu_eq]; omega
theorem wi_lo (x : Int) : -9223372036854775808 ≤ IntKind.i64.wrap x := by rw [wi_eq]; omega
theorem wi_hi (x : Int) : IntKind.i64.wrap x ≤ 9223372036854775807 := by rw [wi_eq]; omega
theorem wu_lo (x : Int) : 0 ≤ IntKind.u64.wrap x := by rw [wu_eq]; omega
theorem wu_hi (x : Int) : IntKind.u64.wrap x < 18446744073709551616 := by rw [wu_eq]; omega
/-- a number of 64 bits, with its sign -/
def I64 (x : Int) : Prop := -9223372036854775808 ≤ x ∧ x ≤ 9223372036854775807
def U64 (x : Int) : Prop := 0 ≤ x ∧ x < 18446744073709551616
theorem i64_wf {x : Int} (h : (Lit.int .i64 x).wf = true) : I64 x := by
  have e1 : IntKind.i64.min = -9223372036854775808 := by decide
  have e2 : IntKind.i64.max = 9223372036854775807 := by decide
  simp only [Lit.wf, Bool.and_eq_true, decide_eq_true_eq, e1, e2] at h
  exact h
theorem u64_wf {x : Int} (h : (Lit.int .u64 x).wf = true) : U64 x := by
  have e1 : IntKind.u64.min = 0 := by decide
  have e2 : IntKind.u64.max = 18446744073709551615 := by decide
  simp only [Lit.wf, Bool.and_eq_true, decide_eq_true_eq, e1, e2] at h
  exact ⟨h.1, by have := h.2; omega⟩
end Go.Wk
