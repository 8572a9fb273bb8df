/- Sums, quotients, remainders, the greatest power of two of layer 1; the closed facts. Conditions: none. -/
import Derived.Test.YtfcgmfefdgcmjaaDoorQ2
set_option linter.unusedVariables false
set_option linter.unusedSimpArgs false
namespace Go.Proofs.YtfcgmfefdgcmjaaDoor.V
open Go Go.Wk Go.RowKit

theorem wadd_s (a b : Int) : word_Add a b = IntKind.i64.wrap (a + b) := by
  unfold word_Add word_Add.c word_Add.c0
  simp only [id, wu_eq, wi_eq]; omega
theorem wsub_s (a b : Int) : word_Sub a b = IntKind.i64.wrap (a - b) := by
  unfold word_Sub word_Sub.c word_Sub.c0
  simp only [id, wu_eq, wi_eq]; omega
theorem wneg_s (a : Int) : word_Neg a = IntKind.i64.wrap (-a) := by
  unfold word_Neg word_Neg.c word_Neg.c0
  simp only [id, wsub_s, Int.zero_sub]
theorem wdiv_s (a b : Int) : word_Div a b = if b = 0 then (0, false) else (IntKind.i64.wrap (a.tdiv b), true) := by
  unfold word_Div word_Div.c word_Div.c0
  simp only [cbe, id, wneg_s, cbd]
  by_cases h : b = 0
  · rw [if_pos h, if_pos h]
  · rw [if_neg h, if_neg h]
    by_cases h1 : b = -1
    · subst h1
      rw [if_pos rfl, show a.tdiv (-1) = -a by rw [Int.tdiv_neg, Int.tdiv_one]]
    · rw [if_neg h1]
theorem wrem_s (a b : Int) : word_Rem a b = if b = 0 then (0, false) else (a.tmod b, true) := by
  unfold word_Rem word_Rem.c
  simp only [cbe, id, cbd]
  by_cases h : b = 0
  · rw [if_pos h, if_pos h]
  · rw [if_neg h, if_neg h]
    by_cases h1 : b = -1
    · subst h1
      rw [if_pos rfl, show a.tmod (-1) = 0 by rw [Int.tmod_neg, Int.tmod_one]]
    · rw [if_neg h1]
theorem Even_L (N : Nat) (o : Int) (ho : o % 2 = 1) (h0 : 0 < o) : ∀ (j m i : Nat), 2 ^ j * o < 18446744073709551616 → (2 : Int) ^ (i + j) < 18446744073709551616 → j < m → w1_Even.L0 N m (2 ^ j * o, 2 ^ i) = some (2 ^ (i + j)) := by
  intro j
  induction j with
  | zero =>
    intro m i h1 h2 hm
    obtain ⟨m, rfl⟩ : ∃ k, m = k + 1 := ⟨m - 1, by omega⟩
    show w1_Even.l0.c (w1_Even.L0 N m) some (2 ^ 0 * o) (2 ^ i) = _
    unfold w1_Even.l0.c w1_Even.l0.c0
    have e : ((2 : Int) ^ 0 * o).tmod 2 = 1 := by rw [Int.pow_zero, Int.one_mul, Int.tmod_eq_emod_of_nonneg (by omega), ho]
    simp only [e]
    rw [show ((1 : Int) == 0) = false from rfl, cond_false, Nat.add_zero]
  | succ j ih =>
    intro m i h1 h2 hm
    obtain ⟨m, rfl⟩ : ∃ k, m = k + 1 := ⟨m - 1, by omega⟩
    show w1_Even.l0.c (w1_Even.L0 N m) some (2 ^ (j + 1) * o) (2 ^ i) = _
    unfold w1_Even.l0.c w1_Even.l0.c0
    have hp : (0 : Int) < 2 ^ j := Int.pow_pos (by decide)
    have hpo : 0 < 2 ^ j * o := Int.mul_pos hp h0
    have e0 : (2 : Int) ^ (j + 1) * o = 2 * (2 ^ j * o) := by rw [Int.pow_succ, Int.mul_comm (2 ^ j) 2, Int.mul_assoc]
    have hle : (2 : Int) ^ (i + 1) ≤ 2 ^ (i + (j + 1)) := by
      have : (2 : Nat) ^ (i + 1) ≤ 2 ^ (i + (j + 1)) := Nat.pow_le_pow_right (by decide) (by omega)
      exact_mod_cast this
    have hpi : (0 : Int) < 2 ^ (i + 1) := Int.pow_pos (by decide)
    have es : (2 : Int) ^ i * 2 = 2 ^ (i + 1) := by rw [Int.pow_succ]
    have hr := ih m (i + 1)
    rw [e0] at h1 ⊢
    generalize (2 : Int) ^ j * o = Y at *
    have e : (2 * Y).tmod 2 = 0 := by rw [Int.tmod_eq_emod_of_nonneg (by omega)]; omega
    have d : (2 * Y).tdiv 2 = Y := by rw [Int.tdiv_eq_ediv_of_nonneg (by omega)]; omega
    simp only [e, d]
    rw [show ((0 : Int) == 0) = true from rfl, cond_true, wu_id (by omega) (by omega), es, wu_id (by omega) (by omega)]
    rw [hr (by omega) (by rw [show i + 1 + j = i + (j + 1) by omega]; exact h2) (by omega), show i + 1 + j = i + (j + 1) by omega]
theorem Even_o {x : Int} (hx : U64 x) : w1_Even.o 67 x = some (word_Even x) := by
  unfold w1_Even.o w1_Even.c
  by_cases h : x = 0
  · subst h
    have e : word_Even 0 = 0 := by unfold word_Even word_Even.c word_Even.c0; rw [id, andU]; simp
    rw [e]; rfl
  · have h0 : 0 < x := by unfold U64 at hx; omega
    obtain ⟨j, hj⟩ := Tz.ex h0
    have hl := hj.lt h0 (w := 64) (by unfold U64 at hx; exact hx.2)
    rw [even_s hx h0 hj]
    obtain ⟨o, e, ho⟩ := hj
    have hp : (0 : Int) < 2 ^ j := Int.pow_pos (by decide)
    have ho1 : 0 < o := by
      rcases Int.lt_or_le 0 o with h' | h'
      · exact h'
      · have := Int.mul_le_mul_of_nonneg_left h' (Int.le_of_lt hp); rw [Int.mul_zero] at this; omega
    rw [show (x == 0) = false by simpa using h, cond_false]
    have := Even_L 67 o ho ho1 j 67 0 (by rw [← e]; exact hx.2) (by unfold U64 at hx; rw [Nat.zero_add]; omega) (by omega)
    rw [← e, Nat.zero_add] at this
    exact this
theorem Even_g {x : Int} (hx : U64 x) : w1_Even.g x = true := by unfold w1_Even.g; rw [hide_eq, Even_o hx]; rfl
theorem Even_s {x : Int} (hx : U64 x) : w1_Even x = word_Even x := by unfold w1_Even; rw [hide_eq, Even_o hx]; rfl
theorem print_ok : word_Print.ok (-12) = true := by unfold word_Print.ok word_Print.c; decide
theorem print_s : word_Print (-12) = txtA := by
  unfold word_Print word_Print.c
  rfl
theorem taken_k {γ : Type} (n : γ) (k : Bool → γ) : law_taken.c n k = k true := by
  unfold law_taken.c law_taken.c0
  simp only [print_ok, print_s, wadd_s, word_Mul_s, wdiv_s, gcd_g (show (0 : Int) ≤ 12 by decide) (show (0 : Int) ≤ 18 by decide), gcd_s (show (0 : Int) ≤ 12 by decide) (show (0 : Int) ≤ 18 by decide),
    mod_s (v := -7) (m := 3) (by unfold I64; omega) (by unfold U64; omega), wi_eq]
  have e : ((txtA.toList == txtA.toList) = true) := by simp
  rw [e]
  have e1 : gg 12 18 = 6 := by decide
  have e2 : md (-7) 3 = 2 := by decide
  rw [e1, e2]
  have e3 : (-7 : Int).tdiv 2 = -3 := by decide
  rw [e3]
  rfl
theorem taken_ok : law_taken.ok = true := taken_k _ _
theorem taken_s : law_taken = true := taken_k _ _
end Go.Proofs.YtfcgmfefdgcmjaaDoor.V
