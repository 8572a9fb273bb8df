/- Products, quotients and remainders of classes: the program's and the document's agree. Conditions: none. -/
import Derived.Test.YtoggbmfjkcbilaaDoorN14
set_option linter.unusedVariables false
set_option linter.unusedSimpArgs false
namespace Go.Proofs.YtoggbmfjkcbilaaDoor.V
open Go Go.Wk

def mg (a0 a1 b0 b1 : Int) : Int := gg (a0 * b0) (gg (av (val a0 a1) * b0) (av (val b0 b1) * a0))
noncomputable def mulS (a0 a1 b0 b1 : Int) (e : Bool) : Int × Int :=
  if a0 = 0 ∧ b0 = 0 then (0, IntKind.u64.wrap (IntKind.i64.wrap (IntKind.i64.wrap a1 * IntKind.i64.wrap b1)))
  else if a0 = 0 ∧ a1 = 0 ∨ b0 = 0 ∧ b1 = 0 then (0, 0)
  else (bm (mg a0 a1 b0 b1) e, (val a0 a1 * val b0 b1) % bm (mg a0 a1 b0 b1) e)
theorem mulD {a b : Int} (ha : U64 a) (hb : U64 b) : D (a * b) := ⟨(mul_U ha hb).1, (mul_U ha hb).2.1⟩
theorem amount_s {m r : Int} (hm : U64 m) (hr : U64 r) : cong_amount m (nr m r) = av (val m r) := by
  unfold cong_amount cong_amount.c
  (try unfold cong_amount.c0)
  simp only [alone_s, cbe, Bool.cond_decide, id]
  unfold nr val av
  by_cases h : m = 0
  · simp only [if_pos h]
    unfold U64 at hr
    simp only [wi_eq, wu_eq]
    split <;> omega
  · have := emod_U (x := r) hm h
    simp only [if_neg h]
    rw [if_neg (by omega)]
theorem product_s {a b : Int} (ha : U64 a) (hb : U64 b) : cong_product a b = (a * b / 18446744073709551616, a * b % 18446744073709551616) := by
  unfold cong_product cong_product.c
  (try unfold cong_product.c0)
  simp only [bits_Mul64_s ha hb, id]
theorem pos_of {x : Int} (h : 0 ≤ x) (h0 : x ≠ 0) : 0 < x := by omega
theorem mg_pos {a0 a1 b0 b1 : Int} (h1 : U64 a0) (h2 : U64 a1) (h3 : U64 b0) (h4 : U64 b1) (c1 : ¬ (a0 = 0 ∧ b0 = 0)) (c2 : ¬ (a0 = 0 ∧ a1 = 0 ∨ b0 = 0 ∧ b1 = 0)) : 0 < mg a0 a1 b0 b1 := by
  have p1 := av_val h1 h2
  have p2 := av_val h3 h4
  have g1 : 0 ≤ av (val a0 a1) * b0 := Int.mul_nonneg p1.1 h3.1
  have g2 : 0 ≤ av (val b0 b1) * a0 := Int.mul_nonneg p2.1 h1.1
  unfold mg
  by_cases ha : a0 = 0
  · have hb : b0 ≠ 0 := fun h => c1 ⟨ha, h⟩
    have hb0 : 0 < b0 := by unfold U64 at h3; omega
    have h0 : a1 ≠ 0 := fun h => c2 (.inl ⟨ha, h⟩)
    have hv : 0 < av (val a0 a1) := by
      unfold val av; rw [if_pos ha]; unfold U64 at h2; simp only [wi_eq]; split <;> omega
    have := gg_pos g1 g2 (.inl (by have := Int.mul_pos hv hb0; omega))
    exact gg_pos (Int.mul_nonneg h1.1 h3.1) (gg_nonneg _ _) (.inr (by omega))
  · have ha0 : 0 < a0 := by unfold U64 at h1; omega
    by_cases hb : b0 = 0
    · have h0 : b1 ≠ 0 := fun h => c2 (.inr ⟨hb, h⟩)
      have hv : 0 < av (val b0 b1) := by
        unfold val av; rw [if_pos hb]; unfold U64 at h4; simp only [wi_eq]; split <;> omega
      have := gg_pos g1 g2 (.inr (by have := Int.mul_pos hv ha0; omega))
      exact gg_pos (Int.mul_nonneg h1.1 h3.1) (gg_nonneg _ _) (.inr (by omega))
    · have hb0 : 0 < b0 := by unfold U64 at h3; omega
      exact gg_pos (Int.mul_nonneg h1.1 h3.1) (gg_nonneg _ _) (.inl (by have := Int.mul_pos ha0 hb0; omega))
theorem nr_zero {m r : Int} : (m == 0 && (nr m r == 0 && true)) = decide (m = 0 ∧ r = 0) := by
  rw [Bool.eq_iff_iff]
  simp only [Bool.and_true, Bool.and_eq_true, beq_iff_eq, decide_eq_true_eq]
  constructor
  · rintro ⟨h, h'⟩; unfold nr at h'; rw [if_pos h] at h'; exact ⟨h, h'⟩
  · rintro ⟨h, h'⟩; refine ⟨h, ?_⟩; unfold nr; rw [if_pos h]; exact h'
theorem raw_zero {m r : Int} : (m == 0 && (r == 0 && true)) = decide (m = 0 ∧ r = 0) := by
  rw [Bool.eq_iff_iff]
  simp only [Bool.and_true, Bool.and_eq_true, beq_iff_eq, decide_eq_true_eq]
theorem rt_k {a0 a1 b0 b1 m : Int} (h1 : U64 a0) (h2 : U64 a1) (h3 : U64 b0) (h4 : U64 b1) (hm : U64 m) (h0 : m ≠ 0) :
    cong_times.ok (cong_rest a0 (nr a0 a1) m) (cong_rest b0 (nr b0 b1) m) m = true ∧ cong_times (cong_rest a0 (nr a0 a1) m) (cong_rest b0 (nr b0 b1) m) m = val a0 a1 * val b0 b1 % m := by
  have em : ∀ x, md x m = x % m := fun x => by unfold md; rw [if_neg h0]
  have x := emod_U (x := val a0 a1) hm h0
  have y := emod_U (x := val b0 b1) hm h0
  rw [rest_s (nr_U h1 h2) hm, rest_s (nr_U h3 h4) hm, val_nr, val_nr, em, em]
  refine ⟨times_ok x.2.2 y.2.2 hm h0, ?_⟩
  rw [times_s x.2.2 y.2.2 hm h0, ← Int.mul_emod]
theorem mul_k {γ : Type} (n : γ) (k : Int × Int → γ) {a0 a1 b0 b1 : Int} (e : Bool) (h1 : U64 a0) (h2 : U64 a1) (h3 : U64 b0) (h4 : U64 b1) : cong_Mul.c n k a0 a1 b0 b1 e = k (mulS a0 a1 b0 b1 e) := by
  have p1 := av_val h1 h2
  have p2 := av_val h3 h4
  have d1 := mulD p1 h3
  have d2 := mulD p2 h1
  have d3 := mulD h1 h3
  have dg := gg_D d1 d2
  unfold cong_Mul.c mulS
  (try unfold cong_Mul.c0)
  simp only [norm_s h1 h2, norm_s h3 h4, alone_s, const_s, wmul_s, amount_s h1 h2, amount_s h3 h4, product_s p1 h3, product_s p2 h1, product_s h1 h3, common_g d1 d2, common_s d1 d2, common_g d3 dg, common_s d3 dg, nr_zero, cbe, cond_true, Bool.cond_decide]
  by_cases c1 : a0 = 0 ∧ b0 = 0
  · have e1 : nr a0 a1 = a1 := by unfold nr; rw [if_pos c1.1]
    have e2 : nr b0 b1 = b1 := by unfold nr; rw [if_pos c1.2]
    rw [if_pos c1.1, if_pos c1.2, if_pos c1, e1, e2]
  · rw [if_neg c1]
    change (if a0 = 0 then if b0 = 0 then _ else if a0 = 0 ∧ a1 = 0 then k (0, 0) else if b0 = 0 ∧ b1 = 0 then k (0, 0) else _ else if a0 = 0 ∧ a1 = 0 then k (0, 0) else if b0 = 0 ∧ b1 = 0 then k (0, 0) else _) = _
    by_cases c2 : a0 = 0 ∧ a1 = 0 ∨ b0 = 0 ∧ b1 = 0
    · rw [if_pos c2]
      by_cases ca : a0 = 0
      · rw [if_pos ca, if_neg (fun h => c1 ⟨ca, h⟩)]
        by_cases c3 : a0 = 0 ∧ a1 = 0
        · rw [if_pos c3]
        · rw [if_neg c3, if_pos (by rcases c2 with c2 | c2; · exact absurd c2 c3
                                    · exact c2)]
      · rw [if_neg ca, if_neg (fun h => ca h.1), if_pos (by rcases c2 with c2 | c2; · exact absurd c2.1 ca
                                                            · exact c2)]
    · have hp := mg_pos h1 h2 h3 h4 c1 c2
      have hD : D (mg a0 a1 b0 b1) := gg_D d3 dg
      have main : (if mg a0 a1 b0 b1 / 18446744073709551616 > 0 then bif !decide ((if wide_noughts (mg a0 a1 b0 b1 / 18446744073709551616) (mg a0 a1 b0 b1 % 18446744073709551616) < 63 then wide_noughts (mg a0 a1 b0 b1 / 18446744073709551616) (mg a0 a1 b0 b1 % 18446744073709551616) else 63) < 0) then
            bif cong_times.ok (cong_rest a0 (nr a0 a1) (bif !false then cong_two (IntKind.u64.wrap (1 * 2 ^ min (if wide_noughts (mg a0 a1 b0 b1 / 18446744073709551616) (mg a0 a1 b0 b1 % 18446744073709551616) < 63 then wide_noughts (mg a0 a1 b0 b1 / 18446744073709551616) (mg a0 a1 b0 b1 % 18446744073709551616) else 63).toNat IntKind.u64.bits)) else IntKind.u64.wrap (1 * 2 ^ min (if wide_noughts (mg a0 a1 b0 b1 / 18446744073709551616) (mg a0 a1 b0 b1 % 18446744073709551616) < 63 then wide_noughts (mg a0 a1 b0 b1 / 18446744073709551616) (mg a0 a1 b0 b1 % 18446744073709551616) else 63).toNat IntKind.u64.bits)))
              (cong_rest b0 (nr b0 b1) (bif !false then cong_two (IntKind.u64.wrap (1 * 2 ^ min (if wide_noughts (mg a0 a1 b0 b1 / 18446744073709551616) (mg a0 a1 b0 b1 % 18446744073709551616) < 63 then wide_noughts (mg a0 a1 b0 b1 / 18446744073709551616) (mg a0 a1 b0 b1 % 18446744073709551616) else 63).toNat IntKind.u64.bits)) else IntKind.u64.wrap (1 * 2 ^ min (if wide_noughts (mg a0 a1 b0 b1 / 18446744073709551616) (mg a0 a1 b0 b1 % 18446744073709551616) < 63 then wide_noughts (mg a0 a1 b0 b1 / 18446744073709551616) (mg a0 a1 b0 b1 % 18446744073709551616) else 63).toNat IntKind.u64.bits)))
              (bif !false then cong_two (IntKind.u64.wrap (1 * 2 ^ min (if wide_noughts (mg a0 a1 b0 b1 / 18446744073709551616) (mg a0 a1 b0 b1 % 18446744073709551616) < 63 then wide_noughts (mg a0 a1 b0 b1 / 18446744073709551616) (mg a0 a1 b0 b1 % 18446744073709551616) else 63).toNat IntKind.u64.bits)) else IntKind.u64.wrap (1 * 2 ^ min (if wide_noughts (mg a0 a1 b0 b1 / 18446744073709551616) (mg a0 a1 b0 b1 % 18446744073709551616) < 63 then wide_noughts (mg a0 a1 b0 b1 / 18446744073709551616) (mg a0 a1 b0 b1 % 18446744073709551616) else 63).toNat IntKind.u64.bits)) then
              k ((bif !false then cong_two (IntKind.u64.wrap (1 * 2 ^ min (if wide_noughts (mg a0 a1 b0 b1 / 18446744073709551616) (mg a0 a1 b0 b1 % 18446744073709551616) < 63 then wide_noughts (mg a0 a1 b0 b1 / 18446744073709551616) (mg a0 a1 b0 b1 % 18446744073709551616) else 63).toNat IntKind.u64.bits)) else IntKind.u64.wrap (1 * 2 ^ min (if wide_noughts (mg a0 a1 b0 b1 / 18446744073709551616) (mg a0 a1 b0 b1 % 18446744073709551616) < 63 then wide_noughts (mg a0 a1 b0 b1 / 18446744073709551616) (mg a0 a1 b0 b1 % 18446744073709551616) else 63).toNat IntKind.u64.bits)),
                cong_times (cong_rest a0 (nr a0 a1) (bif !false then cong_two (IntKind.u64.wrap (1 * 2 ^ min (if wide_noughts (mg a0 a1 b0 b1 / 18446744073709551616) (mg a0 a1 b0 b1 % 18446744073709551616) < 63 then wide_noughts (mg a0 a1 b0 b1 / 18446744073709551616) (mg a0 a1 b0 b1 % 18446744073709551616) else 63).toNat IntKind.u64.bits)) else IntKind.u64.wrap (1 * 2 ^ min (if wide_noughts (mg a0 a1 b0 b1 / 18446744073709551616) (mg a0 a1 b0 b1 % 18446744073709551616) < 63 then wide_noughts (mg a0 a1 b0 b1 / 18446744073709551616) (mg a0 a1 b0 b1 % 18446744073709551616) else 63).toNat IntKind.u64.bits)))
                (cong_rest b0 (nr b0 b1) (bif !false then cong_two (IntKind.u64.wrap (1 * 2 ^ min (if wide_noughts (mg a0 a1 b0 b1 / 18446744073709551616) (mg a0 a1 b0 b1 % 18446744073709551616) < 63 then wide_noughts (mg a0 a1 b0 b1 / 18446744073709551616) (mg a0 a1 b0 b1 % 18446744073709551616) else 63).toNat IntKind.u64.bits)) else IntKind.u64.wrap (1 * 2 ^ min (if wide_noughts (mg a0 a1 b0 b1 / 18446744073709551616) (mg a0 a1 b0 b1 % 18446744073709551616) < 63 then wide_noughts (mg a0 a1 b0 b1 / 18446744073709551616) (mg a0 a1 b0 b1 % 18446744073709551616) else 63).toNat IntKind.u64.bits)))
                (bif !false then cong_two (IntKind.u64.wrap (1 * 2 ^ min (if wide_noughts (mg a0 a1 b0 b1 / 18446744073709551616) (mg a0 a1 b0 b1 % 18446744073709551616) < 63 then wide_noughts (mg a0 a1 b0 b1 / 18446744073709551616) (mg a0 a1 b0 b1 % 18446744073709551616) else 63).toNat IntKind.u64.bits)) else IntKind.u64.wrap (1 * 2 ^ min (if wide_noughts (mg a0 a1 b0 b1 / 18446744073709551616) (mg a0 a1 b0 b1 % 18446744073709551616) < 63 then wide_noughts (mg a0 a1 b0 b1 / 18446744073709551616) (mg a0 a1 b0 b1 % 18446744073709551616) else 63).toNat IntKind.u64.bits))) else n else n
          else bif cong_times.ok (cong_rest a0 (nr a0 a1) (bif !e then cong_two (mg a0 a1 b0 b1 % 18446744073709551616) else mg a0 a1 b0 b1 % 18446744073709551616)) (cong_rest b0 (nr b0 b1) (bif !e then cong_two (mg a0 a1 b0 b1 % 18446744073709551616) else mg a0 a1 b0 b1 % 18446744073709551616)) (bif !e then cong_two (mg a0 a1 b0 b1 % 18446744073709551616) else mg a0 a1 b0 b1 % 18446744073709551616) then
            k ((bif !e then cong_two (mg a0 a1 b0 b1 % 18446744073709551616) else mg a0 a1 b0 b1 % 18446744073709551616), cong_times (cong_rest a0 (nr a0 a1) (bif !e then cong_two (mg a0 a1 b0 b1 % 18446744073709551616) else mg a0 a1 b0 b1 % 18446744073709551616)) (cong_rest b0 (nr b0 b1) (bif !e then cong_two (mg a0 a1 b0 b1 % 18446744073709551616) else mg a0 a1 b0 b1 % 18446744073709551616)) (bif !e then cong_two (mg a0 a1 b0 b1 % 18446744073709551616) else mg a0 a1 b0 b1 % 18446744073709551616)) else n)
          = k (bm (mg a0 a1 b0 b1) e, val a0 a1 * val b0 b1 % bm (mg a0 a1 b0 b1) e) := by
        generalize mg a0 a1 b0 b1 = g at hp hD ⊢
        have hb := bm_U e hp
        by_cases hg : g / 18446744073709551616 > 0
        · have ht := tzn_s hp
          have hlt := (ht.lt hp (w := 128) (by unfold D at hD; exact hD.2)).1
          rw [if_pos hg, noughts_s hD hp ht]
          have em : (if ((tzn g : Nat) : Int) < 63 then ((tzn g : Nat) : Int) else 63) = ((min 63 (tzn g) : Nat) : Int) := by split <;> omega
          rw [em, Int.toNat_natCast]
          have w3 : min (min 63 (tzn g)) IntKind.u64.bits = min 63 (tzn g) := by have : IntKind.u64.bits = 64 := rfl; rw [this]; omega
          have tb := tw_b g
          have ew : IntKind.u64.wrap (1 * 2 ^ min (min 63 (tzn g)) IntKind.u64.bits) = tw g := by
            rw [w3, Int.one_mul]
            exact wu_id (by have := tb.1; unfold tw at this; omega) (by have := tb.2; unfold tw at this; omega)
          rw [ew, decide_eq_false (show ¬ ((min 63 (tzn g) : Nat) : Int) < 0 by omega)]
          have ett : cong_two (tw g) = tw g := by
            rw [two_s (tw_U g).1 (tw_U g).2]
            have : tzn (tw g) = min 63 (tzn g) := tzn_of (by omega) ⟨1, by unfold tw; rw [Int.mul_one], by decide⟩
            unfold tw at this ⊢
            rw [this, show min 63 (min 63 (tzn g)) = min 63 (tzn g) by omega]
          have ebm : bm g e = tw g := by
            cases e with
            | true => exact bm_n (by omega)
            | false => exact bm_f g
          simp only [Bool.not_false, cond_true, ett]
          rw [ebm] at hb ⊢
          obtain ⟨q1, q2⟩ := rt_k h1 h2 h3 h4 hb.1 hb.2
          rw [q1, q2]; rfl
        · unfold D at hD
          have hg2 : g % 18446744073709551616 = g := by omega
          rw [if_neg hg, hg2, bm_two (show U64 g by unfold U64; omega) (by omega) e]
          obtain ⟨q1, q2⟩ := rt_k h1 h2 h3 h4 hb.1 hb.2
          rw [q1, q2]; rfl
      rw [if_neg c2]
      by_cases ca : a0 = 0
      · rw [if_pos ca, if_neg (fun h => c1 ⟨ca, h⟩), if_neg (fun h => c2 (.inl h)), if_neg (fun h => c2 (.inr h))]
        exact main
      · rw [if_neg ca, if_neg (fun h => c2 (.inl h)), if_neg (fun h => c2 (.inr h))]
        exact main
theorem mul_s {a0 a1 b0 b1 : Int} (e : Bool) (h1 : U64 a0) (h2 : U64 a1) (h3 : U64 b0) (h4 : U64 b1) : cong_Mul a0 a1 b0 b1 e = mulS a0 a1 b0 b1 e := mul_k _ _ e h1 h2 h3 h4
theorem mul_ok {a0 a1 b0 b1 : Int} (e : Bool) (h1 : U64 a0) (h2 : U64 a1) (h3 : U64 b0) (h4 : U64 b1) : cong_Mul.ok a0 a1 b0 b1 e = true := mul_k _ _ e h1 h2 h3 h4
theorem sg_mul (x y : Int) : sg (!(decide (x < 0) == decide (y < 0))) (av x * av y) = x * y := by
  unfold sg av
  by_cases h1 : x < 0 <;> by_cases h2 : y < 0 <;> simp [h1, h2, Int.neg_mul, Int.mul_neg]
theorem mul2_k {γ : Type} (n : γ) (k : Int × Int → γ) {a0 a1 b0 b1 : Int} (e : Bool) (h1 : U64 a0) (h2 : U64 a1) (h3 : U64 b0) (h4 : U64 b1) : ref_Mul.c n k a0 a1 b0 b1 e = k (mulS a0 a1 b0 b1 e) := by
  have p1 := av_val h1 h2
  have p2 := av_val h3 h4
  have d1 := mulD p1 h3
  have d2 := mulD p2 h1
  have d3 := mulD h1 h3
  have d4 := mulD p1 p2
  have dg := gg_D d1 d2
  unfold ref_Mul.c mulS
  (try unfold ref_Mul.c0)
  simp only [num_s, const2_s, r_ok h1 h2, r_s h1 h2, r_ok h3 h4, r_s h3 h4, (sm p1).2, (sm p2).2, times2_g h1 h3, times2_s h1 h3, times2_g p1 h3, times2_s p1 h3, times2_g p2 h1, times2_s p2 h1, times2_g p1 p2, times2_s p1 p2, gcd2_g d1 d2, gcd2_s d1 d2, gcd2_g d3 dg, gcd2_s d3 dg, raw_zero, cbe, cond_true, Bool.cond_decide]
  by_cases c1 : a0 = 0 ∧ b0 = 0
  · rw [if_pos c1.1, if_pos c1.2, if_pos c1]
  · rw [if_neg c1]
    by_cases c2 : a0 = 0 ∧ a1 = 0 ∨ b0 = 0 ∧ b1 = 0
    · rw [if_pos c2]
      by_cases ca : a0 = 0
      · rw [if_pos ca, if_neg (fun h => c1 ⟨ca, h⟩)]
        by_cases c3 : a0 = 0 ∧ a1 = 0
        · rw [if_pos c3]
        · rw [if_neg c3, if_pos (by rcases c2 with c2 | c2; · exact absurd c2 c3
                                    · exact c2)]
      · rw [if_neg ca, if_neg (fun h => ca h.1), if_pos (by rcases c2 with c2 | c2; · exact absurd c2.1 ca
                                                            · exact c2)]
    · have hp := mg_pos h1 h2 h3 h4 c1 c2
      have hD : D (gg (a0 * b0) (gg (av (val a0 a1) * b0) (av (val b0 b1) * a0))) := gg_D d3 dg
      have hp' : 0 < gg (a0 * b0) (gg (av (val a0 a1) * b0) (av (val b0 b1) * a0)) := hp
      rw [by_ok _ e d4 hD hp', by_s _ e d4 hD hp', sg_mul]
      rw [if_neg c2]
      by_cases ca : a0 = 0
      · rw [if_pos ca, if_neg (fun h => c1 ⟨ca, h⟩), if_neg (fun h => c2 (.inl h)), if_neg (fun h => c2 (.inr h))]
        rfl
      · rw [if_neg ca, if_neg (fun h => c2 (.inl h)), if_neg (fun h => c2 (.inr h))]
        rfl
theorem mul2_s {a0 a1 b0 b1 : Int} (e : Bool) (h1 : U64 a0) (h2 : U64 a1) (h3 : U64 b0) (h4 : U64 b1) : ref_Mul a0 a1 b0 b1 e = mulS a0 a1 b0 b1 e := mul2_k _ _ e h1 h2 h3 h4
theorem mul2_ok {a0 a1 b0 b1 : Int} (e : Bool) (h1 : U64 a0) (h2 : U64 a1) (h3 : U64 b0) (h4 : U64 b1) : ref_Mul.ok a0 a1 b0 b1 e = true := mul2_k _ _ e h1 h2 h3 h4
end Go.Proofs.YtoggbmfjkcbilaaDoor.V
