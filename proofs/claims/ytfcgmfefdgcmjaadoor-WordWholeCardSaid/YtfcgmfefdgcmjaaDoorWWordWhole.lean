/- WordWhole: what is added comes off again; products by parts; the exact product; quotients and what is left. Conditions: none. -/
import Derived.Test.YtfcgmfefdgcmjaaDoorQ3
set_option linter.unusedVariables false
set_option linter.unusedSimpArgs false
namespace Go.Proofs.YtfcgmfefdgcmjaaDoor.V
open Go Go.Wk Go.RowKit

theorem sum_s {x y : Int} (hx : -85070591730234615865843651857942052864 ≤ x ∧ x ≤ 85070591730234615865843651857942052864) (hy : -85070591730234615865843651857942052864 ≤ y ∧ y ≤ 85070591730234615865843651857942052864)
    (hs : -85070591730234615865843651857942052864 ≤ x + y ∧ x + y ≤ 85070591730234615865843651857942052864) : law_sum (hi x) (lo x) (hi y) (lo y) = (hi (x + y), lo (x + y)) := by
  unfold law_sum law_sum.c law_sum.c0 hi lo
  simp only [id, wu_eq, wi_eq]
  by_cases h : (x % 18446744073709551616 + y % 18446744073709551616) % 18446744073709551616 < x % 18446744073709551616
  · rw [decide_eq_true h, cond_true, Prod.mk.injEq]; constructor <;> omega
  · rw [decide_eq_false h, cond_false, Prod.mk.injEq]; constructor <;> omega
theorem tmod_facts (a : Int) {b : Int} (hb : b ≠ 0) : (a < 0 → a.tmod b ≤ 0) ∧ (0 ≤ a → 0 ≤ a.tmod b) ∧ (b < 0 → b < a.tmod b ∧ a.tmod b < -b) ∧ (0 < b → -b < a.tmod b ∧ a.tmod b < b) := by
  have h1 : (a.tmod b).natAbs < b.natAbs := by rw [Int.natAbs_tmod]; exact Nat.mod_lt _ (by omega)
  refine ⟨fun h => ?_, fun h => Int.tmod_nonneg b h, fun h => by omega, fun h => by omega⟩
  have := Int.tmod_nonneg b (show 0 ≤ -a by omega)
  rw [Int.neg_tmod] at this; omega
theorem less_b (b r : Int) (hb : b ≠ 0) (hB : I64 b) (f1 : b < 0 → b < r ∧ r < -b) (f2 : 0 < b → -b < r ∧ r < b) :
    (bif (bif (bif (bif (bif b == -9223372036854775808 then true else (bif (bif decide (r < 0) then decide (b < 0) else false) then decide (r > b) else false)) then true else (bif (bif decide (r < 0) then decide (b > 0) else false) then decide (r > IntKind.i64.wrap (0 - b)) else false)) then true
      else (bif (bif decide (r ≥ 0) then decide (b > 0) else false) then decide (r < b) else false)) then true else (bif (bif decide (r ≥ 0) then decide (b < 0) else false) then decide (r < IntKind.i64.wrap (0 - b)) else false)) then (bif b != -9223372036854775808 then true else r != -9223372036854775808) else false) = true := by
  unfold I64 at hB
  by_cases h0 : b = -9223372036854775808
  · subst h0
    have := f1 (by omega)
    have e : (r != -9223372036854775808) = true := by simp; omega
    simp [e]
  · have e0 : (b == -9223372036854775808) = false := by simpa using h0
    have e1 : (b != -9223372036854775808) = true := by simpa using h0
    have ew : IntKind.i64.wrap (0 - b) = 0 - b := wi_id (by omega) (by omega)
    rw [e0, e1, ew]
    by_cases hr : r < 0 <;> by_cases hn : b < 0
    · have q := f1 hn
      have e2 : decide (r > b) = true := by simp; omega
      simp [hr, hn, e2]
    · have q := f2 (by omega)
      have e2 : decide (r > 0 - b) = true := by simp; omega
      have e3 : decide (b > 0) = true := by simp; omega
      simp only [decide_eq_true hr, decide_eq_false hn, e2, e3]; rfl
    · have q := f1 hn
      have e2 : decide (r < 0 - b) = true := by simp; omega
      have e3 : decide (b > 0) = false := by simp; omega
      have e4 : decide (r ≥ 0) = true := by simp; omega
      simp only [decide_eq_false hr, decide_eq_true hn, e2, e3, e4]; rfl
    · have q := f2 (by omega)
      have e2 : decide (r < b) = true := by simp; omega
      have e3 : decide (b > 0) = true := by simp; omega
      have e4 : decide (r ≥ 0) = true := by simp; omega
      simp only [decide_eq_false hr, decide_eq_false hn, e2, e3, e4]; rfl
theorem whole_ok {a b c : Int} (ha : I64 a) (hb : I64 b) (hc : I64 c) : law_WordWhole.c none (fun q => some (.bool (q) : Value)) a b c = some (.bool true) := by
  have h1 : I64 1 := by unfold I64; omega
  have ho : I64 (b.tdiv 2) := by
    have := hb; unfold I64 at this ⊢
    have e1 : (b.tdiv 2).natAbs = b.natAbs / 2 := by rw [Int.natAbs_tdiv]; rfl
    omega
  have hs : b.tdiv 2 * 2 + b.tmod 2 = b := by have := Int.tmod_add_mul_tdiv b 2; omega
  have hm2 : (b.tmod 2).natAbs < 2 := by rw [Int.natAbs_tmod]; exact Nat.mod_lt _ (by decide)
  have h2 : I64 (b - b.tdiv 2) := by
    have := hb; unfold I64 at this ⊢
    have e1 : (b.tdiv 2).natAbs = b.natAbs / 2 := by rw [Int.natAbs_tdiv]; rfl
    omega
  have p1 := mul_I ha ho
  have p2 := mul_I ha h2
  have p3 := mul_I ha hb
  have ps : a * b.tdiv 2 + a * (b - b.tdiv 2) = a * b := by rw [← Int.mul_add]; congr 1; omega
  have s0 := sum_s p1 p2 (by rw [ps]; exact p3)
  rw [ps] at s0
  have w20 : IntKind.i64.wrap (b.tdiv 2) = b.tdiv 2 := wi_id ho.1 (by unfold I64 at ho; omega)
  have w22 : IntKind.i64.wrap (b - b.tdiv 2) = b - b.tdiv 2 := wi_id h2.1 (by unfold I64 at h2; omega)
  have f2 : IntKind.i64.wrap (IntKind.i64.wrap (a + b) - b) = a := by unfold I64 at ha; rw [wi_eq, wi_eq]; omega
  have f4 : IntKind.i64.wrap (a + IntKind.i64.wrap (-a)) = 0 := by rw [wi_eq, wi_eq]; omega
  have f8 : IntKind.i64.wrap (a + IntKind.i64.wrap (-b)) = IntKind.i64.wrap (a - b) := by rw [wi_eq, wi_eq, wi_eq]; omega
  have f11 : IntKind.i64.wrap (a * IntKind.i64.wrap (b + c)) = IntKind.i64.wrap (IntKind.i64.wrap (a * b) + IntKind.i64.wrap (a * c)) := by
    have e : a * IntKind.i64.wrap (b + c) = a * b + a * c - a * ((b + c + 9223372036854775808) / 18446744073709551616) * 18446744073709551616 := by
      have : IntKind.i64.wrap (b + c) = b + c - (b + c + 9223372036854775808) / 18446744073709551616 * 18446744073709551616 := by rw [wi_eq]; omega
      rw [this, Int.mul_sub, Int.mul_add, Int.mul_assoc]
    rw [e, wi_eq, wi_eq, wi_eq, wi_eq]
    generalize a * ((b + c + 9223372036854775808) / 18446744073709551616) = q
    omega
  have f16 : IntKind.i64.wrap (a * 1) = a := by rw [Int.mul_one]; exact wi_id ha.1 (by unfold I64 at ha; omega)
  have f19 : IntKind.u64.wrap (IntKind.i64.wrap (a * b)) = lo (a * b) := by unfold lo; rw [wu_eq, wi_eq]; omega
  have f27 : IntKind.i64.wrap (lo (a * 1)) = a := by unfold lo; unfold I64 at ha; rw [wi_eq]; omega
  have f28 : (decide (a < 0) == (hi (a * 1) == -1)) = true := by
    unfold hi; unfold I64 at ha
    rw [Int.mul_one]
    by_cases h : a < 0
    · rw [decide_eq_true h, show (a / 18446744073709551616 == -1) = true by simp; omega]; rfl
    · rw [decide_eq_false h, show (a / 18446744073709551616 == -1) = false by simp; omega]; rfl
  have f29 : (decide (a ≥ 0) == (hi (a * 1) == 0)) = true := by
    unfold hi; unfold I64 at ha
    rw [Int.mul_one]
    by_cases h : a ≥ 0
    · rw [decide_eq_true h, show (a / 18446744073709551616 == 0) = true by simp; omega]; rfl
    · rw [decide_eq_false h, show (a / 18446744073709551616 == 0) = false by simp; omega]; rfl
  unfold law_WordWhole.c law_WordWhole.c0
  simp only [wadd_s, wsub_s, wneg_s, word_Mul_s, f2, f4, f8, f11, f16, word_Wide_s ha hb, word_Wide_s ha h1, w20, w22, word_Wide_s ha ho, word_Wide_s ha h2, s0, f19, f27, f28, f29, wdiv_s, wrem_s, bne_self_eq_false, beq_self_eq_true, Bool.not_true, Bool.not_false, cond_true, cond_false, taken_ok, taken_s, Bool.true_or, Bool.and_true]
  by_cases h0 : b = 0
  · subst h0
    rfl
  · obtain ⟨g1, g2, g3, g4⟩ := tmod_facts a h0
    have z0 : (b == 0) = false := by simpa using h0
    have hq := Int.tmod_add_mul_tdiv a b
    have k38 : IntKind.i64.wrap (IntKind.i64.wrap (IntKind.i64.wrap (a.tdiv b) * b) + a.tmod b) = a := by
      have e : IntKind.i64.wrap (a.tdiv b) * b = b * a.tdiv b - (a.tdiv b + 9223372036854775808) / 18446744073709551616 * b * 18446744073709551616 := by
        have : IntKind.i64.wrap (a.tdiv b) = a.tdiv b - (a.tdiv b + 9223372036854775808) / 18446744073709551616 * 18446744073709551616 := by rw [wi_eq]; omega
        rw [this, Int.sub_mul, Int.mul_comm b, Int.mul_right_comm]
      rw [e, wi_eq, wi_eq]
      generalize (a.tdiv b + 9223372036854775808) / 18446744073709551616 * b = q
      unfold I64 at ha
      omega
    have k40 : (bif a.tmod b != 0 then !(decide (a.tmod b < 0) == decide (a < 0)) else false) = false := by
      by_cases hr : a.tmod b = 0
      · rw [hr]; rfl
      · rw [show (a.tmod b != 0) = true by simpa using hr, cond_true]
        by_cases h : a < 0
        · have := g1 h; rw [decide_eq_true h, decide_eq_true (show a.tmod b < 0 by omega)]; rfl
        · have := g2 (by omega); rw [decide_eq_false h, decide_eq_false (show ¬ a.tmod b < 0 by omega)]; rfl
    have kl := less_b b (a.tmod b) h0 hb g3 g4
    simp only [if_neg h0, z0, k38, k40, kl, Bool.not_true, bne_self_eq_false, cond_true, cond_false, Bool.true_or, Bool.and_true]
theorem wordWhole.walk (a b c : Int) (W : World) (w0 : (Lit.int .i64 a).wf = true) (w1 : (Lit.int .i64 b).wf = true) (w2 : (Lit.int .i64 c).wf = true) (hG : GOK G W) :
    Calls P 5 #[.int .i64 a, .int .i64 b, .int .i64 c] W fun e w' => e = .returned (.bool true) ∧ Below W.heap.size W w' :=
  runF_calls' C.mixed C.names law_sum.t (fun c _ => LoopsOK_nil c) Tryd.func5 (vs := [.int .i64 a, .int .i64 b, .int .i64 c]) hG (gok_lt C hG) ((law_WordWhole.r a b c).trans (whole_ok (i64_wf w0) (i64_wf w1) (i64_wf w2)))
end Go.Proofs.YtfcgmfefdgcmjaaDoor.V
