/- Products, quotients and remainders of classes. Conditions: none. -/
import Derived.Test.YtonpbbhlmapbdaaGreatDoorBN4
set_option linter.unusedVariables false
set_option linter.unusedSimpArgs false
namespace Go.Proofs.YtonpbbhlmapbdaaGreatDoor.V.B
open Go Go.Wk
def mg (a0 a1 b0 b1 : Int) : Int := gg (a0 * b0) (gg (av (val a0 a1) * b0) (av (val b0 b1) * a0))
noncomputable def mulS (a0 a1 b0 b1 : Int) (e : Bool) : Int × Int :=
  if a0 = 0 ∧ b0 = 0 then (0, IntKind.u64.wrap (IntKind.i64.wrap (IntKind.i64.wrap a1 * IntKind.i64.wrap b1)))
  else if a0 = 0 ∧ a1 = 0 ∨ b0 = 0 ∧ b1 = 0 then (0, 0)
  else (bm (mg a0 a1 b0 b1) e, (val a0 a1 * val b0 b1) % bm (mg a0 a1 b0 b1) e)
theorem mulD {a b : Int} (ha : U64 a) (hb : U64 b) : D (a * b) := ⟨(mul_U ha hb).1, (mul_U ha hb).2.1⟩
theorem amount_s {m r : Int} (hm : U64 m) (hr : U64 r) : cong_amount m (nr m r) = av (val m r) := by
  unfold cong_amount cong_amount.c
  (try unfold cong_amount.c0)
  simp only [alone_s, cbe, Bool.cond_decide, id]
  unfold nr val av
  by_cases h : m = 0
  · simp only [if_pos h]
    unfold U64 at hr
    simp only [wi_eq, wu_eq]
    split <;> omega
  · have := emod_U (x := r) hm h
    simp only [if_neg h]
    rw [if_neg (by omega)]
theorem product_s {a b : Int} (ha : U64 a) (hb : U64 b) : cong_product a b = (a * b / 18446744073709551616, a * b % 18446744073709551616) := by
  unfold cong_product cong_product.c
  (try unfold cong_product.c0)
  simp only [bits_Mul64_s ha hb, id]
theorem mg_pos {a0 a1 b0 b1 : Int} (h1 : U64 a0) (h2 : U64 a1) (h3 : U64 b0) (h4 : U64 b1) (c1 : ¬ (a0 = 0 ∧ b0 = 0)) (c2 : ¬ (a0 = 0 ∧ a1 = 0 ∨ b0 = 0 ∧ b1 = 0)) : 0 < mg a0 a1 b0 b1 := by
  have p1 := av_val h1 h2
  have p2 := av_val h3 h4
  have g1 : 0 ≤ av (val a0 a1) * b0 := Int.mul_nonneg p1.1 h3.1
  have g2 : 0 ≤ av (val b0 b1) * a0 := Int.mul_nonneg p2.1 h1.1
  unfold mg
  by_cases ha : a0 = 0
  · have hb : b0 ≠ 0 := fun h => c1 ⟨ha, h⟩
    have hb0 : 0 < b0 := by unfold U64 at h3; omega
    have h0 : a1 ≠ 0 := fun h => c2 (.inl ⟨ha, h⟩)
    have hv : 0 < av (val a0 a1) := by
      unfold val av; rw [if_pos ha]; unfold U64 at h2; simp only [wi_eq]; split <;> omega
    have := gg_pos g1 g2 (.inl (by have := Int.mul_pos hv hb0; omega))
    exact gg_pos (Int.mul_nonneg h1.1 h3.1) (gg_nonneg _ _) (.inr (by omega))
  · have ha0 : 0 < a0 := by unfold U64 at h1; omega
    by_cases hb : b0 = 0
    · have h0 : b1 ≠ 0 := fun h => c2 (.inr ⟨hb, h⟩)
      have hv : 0 < av (val b0 b1) := by
        unfold val av; rw [if_pos hb]; unfold U64 at h4; simp only [wi_eq]; split <;> omega
      have := gg_pos g1 g2 (.inr (by have := Int.mul_pos hv ha0; omega))
      exact gg_pos (Int.mul_nonneg h1.1 h3.1) (gg_nonneg _ _) (.inr (by omega))
    · have hb0 : 0 < b0 := by unfold U64 at h3; omega
      exact gg_pos (Int.mul_nonneg h1.1 h3.1) (gg_nonneg _ _) (.inl (by have := Int.mul_pos ha0 hb0; omega))
theorem nr_zero {m r : Int} : (m == 0 && (nr m r == 0 && true)) = decide (m = 0 ∧ r = 0) := by
  rw [Bool.eq_iff_iff]
  simp only [Bool.and_true, Bool.and_eq_true, beq_iff_eq, decide_eq_true_eq]
  constructor
  · rintro ⟨h, h'⟩; unfold nr at h'; rw [if_pos h] at h'; exact ⟨h, h'⟩
  · rintro ⟨h, h'⟩; refine ⟨h, ?_⟩; unfold nr; rw [if_pos h]; exact h'
theorem raw_zero {m r : Int} : (m == 0 && (r == 0 && true)) = decide (m = 0 ∧ r = 0) := by
  rw [Bool.eq_iff_iff]
  simp only [Bool.and_true, Bool.and_eq_true, beq_iff_eq, decide_eq_true_eq]
theorem rt_k {a0 a1 b0 b1 m : Int} (h1 : U64 a0) (h2 : U64 a1) (h3 : U64 b0) (h4 : U64 b1) (hm : U64 m) (h0 : m ≠ 0) :
    cong_times.ok (cong_rest a0 (nr a0 a1) m) (cong_rest b0 (nr b0 b1) m) m = true ∧ cong_times (cong_rest a0 (nr a0 a1) m) (cong_rest b0 (nr b0 b1) m) m = val a0 a1 * val b0 b1 % m := by
  have em : ∀ x, md x m = x % m := fun x => by unfold md; rw [if_neg h0]
  have x := emod_U (x := val a0 a1) hm h0
  have y := emod_U (x := val b0 b1) hm h0
  rw [rest_s (nr_U h1 h2) hm, rest_s (nr_U h3 h4) hm, val_nr, val_nr, em, em]
  refine ⟨times_ok x.2.2 y.2.2 hm h0, ?_⟩
  rw [times_s x.2.2 y.2.2 hm h0, ← Int.mul_emod]
theorem mul_k {γ : Type} (n : γ) (k : Int × Int → γ) {a0 a1 b0 b1 : Int} (e : Bool) (h1 : U64 a0) (h2 : U64 a1) (h3 : U64 b0) (h4 : U64 b1) : cong_Mul.c n k a0 a1 b0 b1 e = k (mulS a0 a1 b0 b1 e) := by
  have p1 := av_val h1 h2
  have p2 := av_val h3 h4
  have d1 := mulD p1 h3
  have d2 := mulD p2 h1
  have d3 := mulD h1 h3
  have dg := gg_D d1 d2
  unfold cong_Mul.c mulS
  (try unfold cong_Mul.c0)
  simp only [norm_s h1 h2, norm_s h3 h4, alone_s, const_s, wmul_s, amount_s h1 h2, amount_s h3 h4, product_s p1 h3, product_s p2 h1, product_s h1 h3, common_g d1 d2, common_s d1 d2, common_g d3 dg, common_s d3 dg, nr_zero, cbe, cond_true, Bool.cond_decide]
  by_cases c1 : a0 = 0 ∧ b0 = 0
  · have e1 : nr a0 a1 = a1 := by unfold nr; rw [if_pos c1.1]
    have e2 : nr b0 b1 = b1 := by unfold nr; rw [if_pos c1.2]
    rw [if_pos c1.1, if_pos c1.2, if_pos c1, e1, e2]
  · rw [if_neg c1]
    change (if a0 = 0 then if b0 = 0 then _ else if a0 = 0 ∧ a1 = 0 then k (0, 0) else if b0 = 0 ∧ b1 = 0 then k (0, 0) else _ else if a0 = 0 ∧ a1 = 0 then k (0, 0) else if b0 = 0 ∧ b1 = 0 then k (0, 0) else _) = _
    by_cases c2 : a0 = 0 ∧ a1 = 0 ∨ b0 = 0 ∧ b1 = 0
    · rw [if_pos c2]
      by_cases ca : a0 = 0
      · rw [if_pos ca, if_neg (fun h => c1 ⟨ca, h⟩)]
        by_cases c3 : a0 = 0 ∧ a1 = 0
        · rw [if_pos c3]
        · rw [if_neg c3, if_pos (by rcases c2 with c2 | c2; · exact absurd c2 c3
                                    · exact c2)]
      · rw [if_neg ca, if_neg (fun h => ca h.1), if_pos (by rcases c2 with c2 | c2; · exact absurd c2.1 ca
                                                            · exact c2)]
    · have hp := mg_pos h1 h2 h3 h4 c1 c2
      have hD : D (mg a0 a1 b0 b1) := gg_D d3 dg
      have main : (if mg a0 a1 b0 b1 / 18446744073709551616 > 0 then bif !decide ((if wide_noughts (mg a0 a1 b0 b1 / 18446744073709551616) (mg a0 a1 b0 b1 % 18446744073709551616) < 63 then wide_noughts (mg a0 a1 b0 b1 / 18446744073709551616) (mg a0 a1 b0 b1 % 18446744073709551616) else 63) < 0) then
            bif cong_times.ok (cong_rest a0 (nr a0 a1) (bif !false then cong_two (IntKind.u64.wrap (1 * 2 ^ min (if wide_noughts (mg a0 a1 b0 b1 / 18446744073709551616) (mg a0 a1 b0 b1 % 18446744073709551616) < 63 then wide_noughts (mg a0 a1 b0 b1 / 18446744073709551616) (mg a0 a1 b0 b1 % 18446744073709551616) else 63).toNat IntKind.u64.bits)) else IntKind.u64.wrap (1 * 2 ^ min (if wide_noughts (mg a0 a1 b0 b1 / 18446744073709551616) (mg a0 a1 b0 b1 % 18446744073709551616) < 63 then wide_noughts (mg a0 a1 b0 b1 / 18446744073709551616) (mg a0 a1 b0 b1 % 18446744073709551616) else 63).toNat IntKind.u64.bits)))
              (cong_rest b0 (nr b0 b1) (bif !false then cong_two (IntKind.u64.wrap (1 * 2 ^ min (if wide_noughts (mg a0 a1 b0 b1 / 18446744073709551616) (mg a0 a1 b0 b1 % 18446744073709551616) < 63 then wide_noughts (mg a0 a1 b0 b1 / 18446744073709551616) (mg a0 a1 b0 b1 % 18446744073709551616) else 63).toNat IntKind.u64.bits)) else IntKind.u64.wrap (1 * 2 ^ min (if wide_noughts (mg a0 a1 b0 b1 / 18446744073709551616) (mg a0 a1 b0 b1 % 18446744073709551616) < 63 then wide_noughts (mg a0 a1 b0 b1 / 18446744073709551616) (mg a0 a1 b0 b1 % 18446744073709551616) else 63).toNat IntKind.u64.bits)))
              (bif !false then cong_two (IntKind.u64.wrap (1 * 2 ^ min (if wide_noughts (mg a0 a1 b0 b1 / 18446744073709551616) (mg a0 a1 b0 b1 % 18446744073709551616) < 63 then wide_noughts (mg a0 a1 b0 b1 / 18446744073709551616) (mg a0 a1 b0 b1 % 18446744073709551616) else 63).toNat IntKind.u64.bits)) else IntKind.u64.wrap (1 * 2 ^ min (if wide_noughts (mg a0 a1 b0 b1 / 18446744073709551616) (mg a0 a1 b0 b1 % 18446744073709551616) < 63 then wide_noughts (mg a0 a1 b0 b1 / 18446744073709551616) (mg a0 a1 b0 b1 % 18446744073709551616) else 63).toNat IntKind.u64.bits)) then
              k ((bif !false then cong_two (IntKind.u64.wrap (1 * 2 ^ min (if wide_noughts (mg a0 a1 b0 b1 / 18446744073709551616) (mg a0 a1 b0 b1 % 18446744073709551616) < 63 then wide_noughts (mg a0 a1 b0 b1 / 18446744073709551616) (mg a0 a1 b0 b1 % 18446744073709551616) else 63).toNat IntKind.u64.bits)) else IntKind.u64.wrap (1 * 2 ^ min (if wide_noughts (mg a0 a1 b0 b1 / 18446744073709551616) (mg a0 a1 b0 b1 % 18446744073709551616) < 63 then wide_noughts (mg a0 a1 b0 b1 / 18446744073709551616) (mg a0 a1 b0 b1 % 18446744073709551616) else 63).toNat IntKind.u64.bits)),
                cong_times (cong_rest a0 (nr a0 a1) (bif !false then cong_two (IntKind.u64.wrap (1 * 2 ^ min (if wide_noughts (mg a0 a1 b0 b1 / 18446744073709551616) (mg a0 a1 b0 b1 % 18446744073709551616) < 63 then wide_noughts (mg a0 a1 b0 b1 / 18446744073709551616) (mg a0 a1 b0 b1 % 18446744073709551616) else 63).toNat IntKind.u64.bits)) else IntKind.u64.wrap (1 * 2 ^ min (if wide_noughts (mg a0 a1 b0 b1 / 18446744073709551616) (mg a0 a1 b0 b1 % 18446744073709551616) < 63 then wide_noughts (mg a0 a1 b0 b1 / 18446744073709551616) (mg a0 a1 b0 b1 % 18446744073709551616) else 63).toNat IntKind.u64.bits)))
                (cong_rest b0 (nr b0 b1) (bif !false then cong_two (IntKind.u64.wrap (1 * 2 ^ min (if wide_noughts (mg a0 a1 b0 b1 / 18446744073709551616) (mg a0 a1 b0 b1 % 18446744073709551616) < 63 then wide_noughts (mg a0 a1 b0 b1 / 18446744073709551616) (mg a0 a1 b0 b1 % 18446744073709551616) else 63).toNat IntKind.u64.bits)) else IntKind.u64.wrap (1 * 2 ^ min (if wide_noughts (mg a0 a1 b0 b1 / 18446744073709551616) (mg a0 a1 b0 b1 % 18446744073709551616) < 63 then wide_noughts (mg a0 a1 b0 b1 / 18446744073709551616) (mg a0 a1 b0 b1 % 18446744073709551616) else 63).toNat IntKind.u64.bits)))
                (bif !false then cong_two (IntKind.u64.wrap (1 * 2 ^ min (if wide_noughts (mg a0 a1 b0 b1 / 18446744073709551616) (mg a0 a1 b0 b1 % 18446744073709551616) < 63 then wide_noughts (mg a0 a1 b0 b1 / 18446744073709551616) (mg a0 a1 b0 b1 % 18446744073709551616) else 63).toNat IntKind.u64.bits)) else IntKind.u64.wrap (1 * 2 ^ min (if wide_noughts (mg a0 a1 b0 b1 / 18446744073709551616) (mg a0 a1 b0 b1 % 18446744073709551616) < 63 then wide_noughts (mg a0 a1 b0 b1 / 18446744073709551616) (mg a0 a1 b0 b1 % 18446744073709551616) else 63).toNat IntKind.u64.bits))) else n else n
          else bif cong_times.ok (cong_rest a0 (nr a0 a1) (bif !e then cong_two (mg a0 a1 b0 b1 % 18446744073709551616) else mg a0 a1 b0 b1 % 18446744073709551616)) (cong_rest b0 (nr b0 b1) (bif !e then cong_two (mg a0 a1 b0 b1 % 18446744073709551616) else mg a0 a1 b0 b1 % 18446744073709551616)) (bif !e then cong_two (mg a0 a1 b0 b1 % 18446744073709551616) else mg a0 a1 b0 b1 % 18446744073709551616) then
            k ((bif !e then cong_two (mg a0 a1 b0 b1 % 18446744073709551616) else mg a0 a1 b0 b1 % 18446744073709551616), cong_times (cong_rest a0 (nr a0 a1) (bif !e then cong_two (mg a0 a1 b0 b1 % 18446744073709551616) else mg a0 a1 b0 b1 % 18446744073709551616)) (cong_rest b0 (nr b0 b1) (bif !e then cong_two (mg a0 a1 b0 b1 % 18446744073709551616) else mg a0 a1 b0 b1 % 18446744073709551616)) (bif !e then cong_two (mg a0 a1 b0 b1 % 18446744073709551616) else mg a0 a1 b0 b1 % 18446744073709551616)) else n)
          = k (bm (mg a0 a1 b0 b1) e, val a0 a1 * val b0 b1 % bm (mg a0 a1 b0 b1) e) := by
        generalize mg a0 a1 b0 b1 = g at hp hD ⊢
        have hb := bm_U e hp
        by_cases hg : g / 18446744073709551616 > 0
        · have ht := tzn_s hp
          have hlt := (ht.lt hp (w := 128) (by unfold D at hD; exact hD.2)).1
          rw [if_pos hg, noughts_s hD hp ht]
          have em : (if ((tzn g : Nat) : Int) < 63 then ((tzn g : Nat) : Int) else 63) = ((min 63 (tzn g) : Nat) : Int) := by split <;> omega
          rw [em, Int.toNat_natCast]
          have w3 : min (min 63 (tzn g)) IntKind.u64.bits = min 63 (tzn g) := by have : IntKind.u64.bits = 64 := rfl; rw [this]; omega
          have tb := tw_b g
          have ew : IntKind.u64.wrap (1 * 2 ^ min (min 63 (tzn g)) IntKind.u64.bits) = tw g := by
            rw [w3, Int.one_mul]
            exact wu_id (by have := tb.1; unfold tw at this; omega) (by have := tb.2; unfold tw at this; omega)
          rw [ew, decide_eq_false (show ¬ ((min 63 (tzn g) : Nat) : Int) < 0 by omega)]
          have ett : cong_two (tw g) = tw g := by
            rw [two_s (tw_U g).1 (tw_U g).2]
            have : tzn (tw g) = min 63 (tzn g) := tzn_of (by omega) ⟨1, by unfold tw; rw [Int.mul_one], by decide⟩
            unfold tw at this ⊢
            rw [this, show min 63 (min 63 (tzn g)) = min 63 (tzn g) by omega]
          have ebm : bm g e = tw g := by
            cases e with
            | true => exact bm_n (by omega)
            | false => exact bm_f g
          simp only [Bool.not_false, cond_true, ett]
          rw [ebm] at hb ⊢
          obtain ⟨q1, q2⟩ := rt_k h1 h2 h3 h4 hb.1 hb.2
          rw [q1, q2]; rfl
        · unfold D at hD
          have hg2 : g % 18446744073709551616 = g := by omega
          rw [if_neg hg, hg2, bm_two (show U64 g by unfold U64; omega) (by omega) e]
          obtain ⟨q1, q2⟩ := rt_k h1 h2 h3 h4 hb.1 hb.2
          rw [q1, q2]; rfl
      rw [if_neg c2]
      by_cases ca : a0 = 0
      · rw [if_pos ca, if_neg (fun h => c1 ⟨ca, h⟩), if_neg (fun h => c2 (.inl h)), if_neg (fun h => c2 (.inr h))]
        exact main
      · rw [if_neg ca, if_neg (fun h => c2 (.inl h)), if_neg (fun h => c2 (.inr h))]
        exact main
theorem mul_s {a0 a1 b0 b1 : Int} (e : Bool) (h1 : U64 a0) (h2 : U64 a1) (h3 : U64 b0) (h4 : U64 b1) : cong_Mul a0 a1 b0 b1 e = mulS a0 a1 b0 b1 e := mul_k _ _ e h1 h2 h3 h4
theorem mul_ok {a0 a1 b0 b1 : Int} (e : Bool) (h1 : U64 a0) (h2 : U64 a1) (h3 : U64 b0) (h4 : U64 b1) : cong_Mul.ok a0 a1 b0 b1 e = true := mul_k _ _ e h1 h2 h3 h4
theorem sg_mul (x y : Int) : sg (!(decide (x < 0) == decide (y < 0))) (av x * av y) = x * y := by
  unfold sg av
  by_cases h1 : x < 0 <;> by_cases h2 : y < 0 <;> simp [h1, h2, Int.neg_mul, Int.mul_neg]
theorem mul2_k {γ : Type} (n : γ) (k : Int × Int → γ) {a0 a1 b0 b1 : Int} (e : Bool) (h1 : U64 a0) (h2 : U64 a1) (h3 : U64 b0) (h4 : U64 b1) : ref_Mul.c n k a0 a1 b0 b1 e = k (mulS a0 a1 b0 b1 e) := by
  have p1 := av_val h1 h2
  have p2 := av_val h3 h4
  have d1 := mulD p1 h3
  have d2 := mulD p2 h1
  have d3 := mulD h1 h3
  have d4 := mulD p1 p2
  have dg := gg_D d1 d2
  unfold ref_Mul.c mulS
  (try unfold ref_Mul.c0)
  simp only [num_s, const2_s, r_ok h1 h2, r_s h1 h2, r_ok h3 h4, r_s h3 h4, (sm p1).2, (sm p2).2, times2_g h1 h3, times2_s h1 h3, times2_g p1 h3, times2_s p1 h3, times2_g p2 h1, times2_s p2 h1, times2_g p1 p2, times2_s p1 p2, gcd2_g d1 d2, gcd2_s d1 d2, gcd2_g d3 dg, gcd2_s d3 dg, raw_zero, cbe, cond_true, Bool.cond_decide]
  by_cases c1 : a0 = 0 ∧ b0 = 0
  · rw [if_pos c1.1, if_pos c1.2, if_pos c1]
  · rw [if_neg c1]
    by_cases c2 : a0 = 0 ∧ a1 = 0 ∨ b0 = 0 ∧ b1 = 0
    · rw [if_pos c2]
      by_cases ca : a0 = 0
      · rw [if_pos ca, if_neg (fun h => c1 ⟨ca, h⟩)]
        by_cases c3 : a0 = 0 ∧ a1 = 0
        · rw [if_pos c3]
        · rw [if_neg c3, if_pos (by rcases c2 with c2 | c2; · exact absurd c2 c3
                                    · exact c2)]
      · rw [if_neg ca, if_neg (fun h => ca h.1), if_pos (by rcases c2 with c2 | c2; · exact absurd c2.1 ca
                                                            · exact c2)]
    · have hp := mg_pos h1 h2 h3 h4 c1 c2
      have hD : D (gg (a0 * b0) (gg (av (val a0 a1) * b0) (av (val b0 b1) * a0))) := gg_D d3 dg
      have hp' : 0 < gg (a0 * b0) (gg (av (val a0 a1) * b0) (av (val b0 b1) * a0)) := hp
      rw [by_ok _ e d4 hD hp', by_s _ e d4 hD hp', sg_mul]
      rw [if_neg c2]
      by_cases ca : a0 = 0
      · rw [if_pos ca, if_neg (fun h => c1 ⟨ca, h⟩), if_neg (fun h => c2 (.inl h)), if_neg (fun h => c2 (.inr h))]
        rfl
      · rw [if_neg ca, if_neg (fun h => c2 (.inl h)), if_neg (fun h => c2 (.inr h))]
        rfl
theorem mul2_s {a0 a1 b0 b1 : Int} (e : Bool) (h1 : U64 a0) (h2 : U64 a1) (h3 : U64 b0) (h4 : U64 b1) : ref_Mul a0 a1 b0 b1 e = mulS a0 a1 b0 b1 e := mul2_k _ _ e h1 h2 h3 h4
theorem mul2_ok {a0 a1 b0 b1 : Int} (e : Bool) (h1 : U64 a0) (h2 : U64 a1) (h3 : U64 b0) (h4 : U64 b1) : ref_Mul.ok a0 a1 b0 b1 e = true := mul2_k _ _ e h1 h2 h3 h4
open Go Go.Wk
/-- a number's quotient by another -/
def qw (x k : Int) : Int := if k = -1 then IntKind.i64.wrap (-x) else IntKind.i64.wrap (x.tdiv k)
def divS (a0 a1 b0 b1 : Int) : Int × Int :=
  if b0 ≠ 0 ∨ IntKind.i64.wrap b1 = 0 then (1, 0)
  else if a0 = 0 then (0, IntKind.u64.wrap (qw (IntKind.i64.wrap a1) (IntKind.i64.wrap b1)))
  else if IntKind.i64.wrap b1 = -1 then (1, 0)
  else if a0 % av (IntKind.i64.wrap b1) ≠ 0 ∨ nr a0 a1 % av (IntKind.i64.wrap b1) ≠ 0 then (1, 0)
  else (a0 / av (IntKind.i64.wrap b1), sg (decide (IntKind.i64.wrap b1 < 0)) (nr a0 a1 / av (IntKind.i64.wrap b1)) % (a0 / av (IntKind.i64.wrap b1)))
theorem word_Div_s {x k : Int} (h : k ≠ 0) : (word_Div x k).1 = qw x k := by
  unfold word_Div word_Div.c qw
  (try unfold word_Div.c0)
  simp only [cbe, cbd, wneg_s, id, if_neg h]
  by_cases g : k = -1
  · rw [if_pos g, if_pos g]
  · rw [if_neg g, if_neg g]
theorem word_Rem_s {x k : Int} (h : k ≠ 0) : (word_Rem x k).1 = if k = -1 then 0 else x.tmod k := by
  unfold word_Rem word_Rem.c
  (try unfold word_Rem.c0)
  simp only [cbe, cbd, id, if_neg h]
  by_cases g : k = -1
  · rw [if_pos g, if_pos g]
  · rw [if_neg g, if_neg g]
theorem size_s {k : Int} (hk : I64 k) : (bif k == -9223372036854775808 then 9223372036854775808 else IntKind.u64.wrap (if IntKind.i64.wrap (0 - k) > k then IntKind.i64.wrap (0 - k) else k)) = av k := by
  unfold I64 at hk
  rw [cbe]
  unfold av
  by_cases h : k = -9223372036854775808
  · rw [if_pos h, if_pos (by omega)]; omega
  · rw [if_neg h, wi_id (by omega) (by omega), wu_eq]
    split <;> split <;> omega
theorem ediv_part {a r s : Int} (hs : 0 < s) (ha : a % s = 0) (hr : r % s = 0) (h0 : 0 ≤ r) (h1 : r < a) : 0 ≤ r / s ∧ r / s < a / s ∧ 0 < a / s := by
  have e1 := Int.emod_add_mul_ediv a s
  have e2 := Int.emod_add_mul_ediv r s
  have h2 := Int.ediv_nonneg h0 (Int.le_of_lt hs)
  have h3 : r / s < a / s := by
    rcases Int.lt_or_le (r / s) (a / s) with h | h
    · exact h
    · have := Int.mul_le_mul_of_nonneg_left h (Int.le_of_lt hs)
      omega
  omega
theorem div_k {γ : Type} (n : γ) (k : Int × Int → γ) {a0 a1 b0 b1 : Int} (h1 : U64 a0) (h2 : U64 a1) (h3 : U64 b0) (h4 : U64 b1) : cong_Div.c n k a0 a1 b0 b1 = k (divS a0 a1 b0 b1) := by
  unfold cong_Div.c divS
  (try unfold cong_Div.c0)
  simp only [norm_s h1 h2, norm_s h3 h4, alone_s, const_s, cbe, cbd, cbn]
  by_cases c1 : b0 = 0
  · have e : nr b0 b1 = b1 := by unfold nr; rw [if_pos c1]
    have eb : (!(b0 == 0)) = false := by simp [c1]
    rw [e, eb]
    simp only [cond_false]
    by_cases c2 : IntKind.i64.wrap b1 = 0
    · rw [if_pos c2, if_pos (.inr c2)]
    · rw [if_neg c2, if_neg (show ¬ (b0 ≠ 0 ∨ IntKind.i64.wrap b1 = 0) by omega), word_Div_s c2]
      have hk := i64u b1
      have sz : (if IntKind.i64.wrap b1 = -9223372036854775808 then 9223372036854775808 else IntKind.u64.wrap (if IntKind.i64.wrap (0 - IntKind.i64.wrap b1) > IntKind.i64.wrap b1 then IntKind.i64.wrap (0 - IntKind.i64.wrap b1) else IntKind.i64.wrap b1)) = av (IntKind.i64.wrap b1) := by rw [← cbe]; exact size_s hk
      rw [sz]
      by_cases c3 : a0 = 0
      · have e : nr a0 a1 = a1 := by unfold nr; rw [if_pos c3]
        rw [if_pos c3, if_pos c3, e]
      · rw [if_neg c3, if_neg c3]
        by_cases c4 : IntKind.i64.wrap b1 = -1
        · rw [if_pos c4, if_pos c4]
        · have hr : 0 ≤ nr a0 a1 ∧ nr a0 a1 < a0 := by unfold nr; rw [if_neg c3]; exact ⟨(emod_U h1 c3).1, (emod_U h1 c3).2.1⟩
          have sU := av_U hk
          have s0 : 0 < av (IntKind.i64.wrap b1) := by unfold av; split <;> omega
          rw [if_neg c4, if_neg c4]
          generalize nr a0 a1 = r at *
          generalize av (IntKind.i64.wrap b1) = s at *
          have rU : U64 r := by unfold U64 at *; omega
          have hs : ¬ s = 0 := by omega
          simp only [Int.tmod_eq_emod_of_nonneg h1.1, Int.tmod_eq_emod_of_nonneg hr.1, if_neg hs]
          by_cases c5 : a0 % s = 0
          · by_cases c6 : r % s = 0
            · obtain ⟨q1, q2, q3⟩ := ediv_part s0 c5 c6 hr.1 hr.2
              have mU := ediv_U h1 (Int.le_of_lt s0)
              have wU := ediv_U rU (Int.le_of_lt s0)
              have w1 : IntKind.u64.wrap (a0.tdiv s) = a0 / s := by rw [Int.tdiv_eq_ediv_of_nonneg h1.1]; exact wu_id mU.1 mU.2
              have w2 : IntKind.u64.wrap (r.tdiv s) = r / s := by rw [Int.tdiv_eq_ediv_of_nonneg hr.1]; exact wu_id wU.1 wU.2
              rw [if_pos c5, if_pos c6, if_neg (show ¬ (a0 % s ≠ 0 ∨ r % s ≠ 0) by omega), w1, w2, decide_eq_false (show ¬ a0 / s = 0 by omega)]
              rw [minus_s mU (Int.le_refl 0) q3 q1 q2]
              have x := emod_U (x := 0 - r / s) mU (by omega)
              rw [Int.tmod_eq_emod_of_nonneg x.1, Int.emod_emod]
              unfold sg
              cases hd : decide (IntKind.i64.wrap b1 < 0) with
              | true => simp
              | false => simp; rw [Int.emod_eq_of_lt q1 q2]
            · rw [if_pos c5, if_neg c6, if_pos (.inr c6)]
          · rw [if_neg c5, if_pos (.inl c5)]
  · have eb : (!(b0 == 0)) = true := by simp [c1]
    rw [eb]; simp only [cond_true]; rw [if_pos (Or.inl c1)]
theorem div_s {a0 a1 b0 b1 : Int} (h1 : U64 a0) (h2 : U64 a1) (h3 : U64 b0) (h4 : U64 b1) : cong_Div a0 a1 b0 b1 = divS a0 a1 b0 b1 := div_k _ _ h1 h2 h3 h4
theorem div_ok {a0 a1 b0 b1 : Int} (h1 : U64 a0) (h2 : U64 a1) (h3 : U64 b0) (h4 : U64 b1) : cong_Div.ok a0 a1 b0 b1 = true := div_k _ _ h1 h2 h3 h4
theorem div2_k {γ : Type} (n : γ) (k : Int × Int → γ) {a0 a1 b0 b1 : Int} (h1 : U64 a0) (h2 : U64 a1) (h3 : U64 b0) (h4 : U64 b1) : ref_Div.c n k a0 a1 b0 b1 = k (divS a0 a1 b0 b1) := by
  have hk := i64u b1
  unfold ref_Div.c divS
  (try unfold ref_Div.c0)
  simp only [num_s, const2_s, norm2_s h1 h2, far2_s hk, cbe, cbd, cbn, Bool.cond_decide]
  have h3' := h3
  unfold U64 at h3'
  by_cases c1 : b0 = 0
  · rw [if_neg (by omega)]
    by_cases c2 : IntKind.i64.wrap b1 = 0
    · rw [if_pos c2, if_pos (.inr c2)]
    · rw [if_neg c2, if_neg (show ¬ (b0 ≠ 0 ∨ IntKind.i64.wrap b1 = 0) by omega)]
      by_cases c3 : a0 = 0
      · rw [if_pos c3, if_pos c3]
        unfold qw
        by_cases c4 : IntKind.i64.wrap b1 = -1
        · rw [if_pos c4, if_pos c4, Int.zero_sub]
        · rw [if_neg c4, if_neg c4, if_neg c2]
      · rw [if_neg c3, if_neg c3]
        by_cases c4 : IntKind.i64.wrap b1 = -1
        · rw [if_pos c4, if_pos c4]
        · have hr : 0 ≤ nr a0 a1 ∧ nr a0 a1 < a0 := by unfold nr; rw [if_neg c3]; exact ⟨(emod_U h1 c3).1, (emod_U h1 c3).2.1⟩
          have sU := av_U hk
          have s0 : 0 < av (IntKind.i64.wrap b1) := by unfold av; split <;> omega
          rw [if_neg c4, if_neg c4]
          generalize nr a0 a1 = r at *
          generalize av (IntKind.i64.wrap b1) = s at *
          have rU : U64 r := by unfold U64 at *; omega
          have hs : ¬ s = 0 := by omega
          simp only [Int.tmod_eq_emod_of_nonneg h1.1, Int.tmod_eq_emod_of_nonneg hr.1, if_neg hs]
          by_cases c5 : a0 % s = 0
          · by_cases c6 : r % s = 0
            · obtain ⟨q1, q2, q3⟩ := ediv_part s0 c5 c6 hr.1 hr.2
              have mU := ediv_U h1 (Int.le_of_lt s0)
              have wU := ediv_U rU (Int.le_of_lt s0)
              have w1 : IntKind.u64.wrap (a0.tdiv s) = a0 / s := by rw [Int.tdiv_eq_ediv_of_nonneg h1.1]; exact wu_id mU.1 mU.2
              have w2 : IntKind.u64.wrap (r.tdiv s) = r / s := by rw [Int.tdiv_eq_ediv_of_nonneg hr.1]; exact wu_id wU.1 wU.2
              rw [if_pos c5, if_pos c6, if_neg (show ¬ (a0 % s ≠ 0 ∨ r % s ≠ 0) by omega), w1, w2, of_u wU, class_ok _ (UD wU) mU (by omega), class_s _ (UD wU) mU (by omega)]
              rfl
            · rw [if_pos c5, if_neg c6, if_pos (.inr c6)]
          · rw [if_neg c5, if_pos (.inl c5)]
  · rw [if_pos (by omega), if_pos (.inl c1)]
theorem div2_s {a0 a1 b0 b1 : Int} (h1 : U64 a0) (h2 : U64 a1) (h3 : U64 b0) (h4 : U64 b1) : ref_Div a0 a1 b0 b1 = divS a0 a1 b0 b1 := div2_k _ _ h1 h2 h3 h4
theorem div2_ok {a0 a1 b0 b1 : Int} (h1 : U64 a0) (h2 : U64 a1) (h3 : U64 b0) (h4 : U64 b1) : ref_Div.ok a0 a1 b0 b1 = true := div2_k _ _ h1 h2 h3 h4
/-- the modulus of remainders -/
def rg (a0 b0 b1 : Int) : Int := gg (gg a0 b0) (av (val b0 b1))
def remS (a0 a1 b0 b1 : Int) : Int × Int :=
  if b0 = 0 ∧ b1 = 0 then (1, 0)
  else if a0 = 0 ∧ b0 = 0 then (0, IntKind.u64.wrap (if IntKind.i64.wrap b1 = -1 then 0 else (IntKind.i64.wrap a1).tmod (IntKind.i64.wrap b1)))
  else (rg a0 b0 b1, val a0 a1 % rg a0 b0 b1)
theorem rg_U {a0 a1 b0 b1 : Int} (h1 : U64 a0) (h3 : U64 b0) (h4 : U64 b1) (h : ¬ (a0 = 0 ∧ b0 = 0)) : U64 (rg a0 b0 b1) ∧ rg a0 b0 b1 ≠ 0 := by
  have g := gg_U h1 h3
  have p := gg_pos h1.1 h3.1 (by omega)
  have q := av_val h3 h4
  have := gg_pos g.1 q.1 (.inl (by omega))
  unfold rg
  exact ⟨gg_U g q, by omega⟩
theorem wi_zero {b : Int} (h : U64 b) (h0 : b ≠ 0) : IntKind.i64.wrap b ≠ 0 := by unfold U64 at h; rw [wi_eq]; omega
theorem rem_k {γ : Type} (n : γ) (k : Int × Int → γ) {a0 a1 b0 b1 : Int} (h1 : U64 a0) (h2 : U64 a1) (h3 : U64 b0) (h4 : U64 b1) : cong_Rem.c n k a0 a1 b0 b1 = k (remS a0 a1 b0 b1) := by
  have z : (0 : Int) ≤ 0 := Int.le_refl 0
  have g := gg_U h1 h3
  have q := av_val h3 h4
  have hn := nr_U h3 h4
  unfold cong_Rem.c remS
  (try unfold cong_Rem.c0)
  simp only [norm_s h1 h2, norm_s h3 h4, alone_s, const_s, nr_zero, gcd_g z h1.1, gcd_s z h1.1, gg0 h1.1, gcd_g h1.1 h3.1, gcd_s h1.1 h3.1, gcd_g g.1 hn.1, gcd_s g.1 hn.1, cbe, cond_true]
  have sz : b0 = 0 → (bif decide (IntKind.i64.wrap (nr b0 b1) < 0) then IntKind.u64.wrap (0 - nr b0 b1) else nr b0 b1) = av (val b0 b1) := by
    intro c
    unfold nr val av
    rw [if_pos c, if_pos c, Bool.cond_decide]
    unfold U64 at h4
    simp only [wi_eq, wu_eq]
    split <;> omega
  have sz2 : b0 ≠ 0 → nr b0 b1 = av (val b0 b1) := by
    intro c
    have := emod_U (x := b1) h3 c
    unfold nr val av
    rw [if_neg c, if_neg c, if_neg (by omega)]
  by_cases c0 : b0 = 0 ∧ b1 = 0
  · rw [decide_eq_true c0, if_pos c0]; rfl
  · rw [decide_eq_false c0, if_neg c0]
    simp only [cond_false]
    have fin : ¬ (a0 = 0 ∧ b0 = 0) → cong_rest a0 (nr a0 a1) (rg a0 b0 b1) = val a0 a1 % rg a0 b0 b1 := by
      intro h
      have hr := rg_U (a1 := a1) h1 h3 h4 h
      rw [rest_s (nr_U h1 h2) hr.1, val_nr]
      unfold md; rw [if_neg hr.2]
    by_cases c1 : a0 = 0
    · rw [if_pos c1]
      by_cases c2 : b0 = 0
      · have e1 : nr a0 a1 = a1 := by unfold nr; rw [if_pos c1]
        have e2 : nr b0 b1 = b1 := by unfold nr; rw [if_pos c2]
        have hb : IntKind.i64.wrap b1 ≠ 0 := wi_zero h4 (fun h => c0 ⟨c2, h⟩)
        rw [if_pos c2, if_pos (show a0 = 0 ∧ b0 = 0 from ⟨c1, c2⟩), e1, e2, word_Rem_s hb]
      · simp only [if_neg c2, if_neg (show ¬ (a0 = 0 ∧ b0 = 0) from fun h => c2 h.2)]
        rw [sz2 c2]
        have := fin (fun h => c2 h.2)
        unfold rg at this ⊢
        rw [this]
    · rw [if_neg c1, if_neg (show ¬ (a0 = 0 ∧ b0 = 0) from fun h => c1 h.1)]
      have f := fin (fun h => c1 h.1)
      by_cases c2 : b0 = 0
      · rw [if_pos c2, sz c2, gcd_g g.1 q.1, gcd_s g.1 q.1]
        unfold rg at f ⊢
        rw [f]; rfl
      · rw [if_neg c2, sz2 c2]
        unfold rg at f ⊢
        rw [f]
theorem rem_s {a0 a1 b0 b1 : Int} (h1 : U64 a0) (h2 : U64 a1) (h3 : U64 b0) (h4 : U64 b1) : cong_Rem a0 a1 b0 b1 = remS a0 a1 b0 b1 := rem_k _ _ h1 h2 h3 h4
theorem rem_ok {a0 a1 b0 b1 : Int} (h1 : U64 a0) (h2 : U64 a1) (h3 : U64 b0) (h4 : U64 b1) : cong_Rem.ok a0 a1 b0 b1 = true := rem_k _ _ h1 h2 h3 h4
theorem rem2_k {γ : Type} (n : γ) (k : Int × Int → γ) {a0 a1 b0 b1 : Int} (h1 : U64 a0) (h2 : U64 a1) (h3 : U64 b0) (h4 : U64 b1) : ref_Rem.c n k a0 a1 b0 b1 = k (remS a0 a1 b0 b1) := by
  have g := gg_D (UD h1) (UD h3)
  have gU := gg_U h1 h3
  have q := av_val h3 h4
  unfold ref_Rem.c remS
  (try unfold ref_Rem.c0)
  simp only [num_s, const2_s, raw_zero, of_u h1, of_u h3, r_ok h1 h2, r_s h1 h2, r_ok h3 h4, r_s h3 h4, gcd2_g (UD h1) (UD h3), gcd2_s (UD h1) (UD h3), gcd2_g g (UD q), gcd2_s g (UD q), cbe, cbd, cond_true]
  by_cases c0 : b0 = 0 ∧ b1 = 0
  · rw [decide_eq_true c0, if_pos c0]; rfl
  · rw [decide_eq_false c0, if_neg c0]
    simp only [cond_false]
    have fin : ¬ (a0 = 0 ∧ b0 = 0) → (bif ref_class.ok (av (val a0 a1) / 18446744073709551616) (av (val a0 a1) % 18446744073709551616) (decide (val a0 a1 < 0)) (gg (gg a0 b0) (av (val b0 b1)) % 18446744073709551616) then k ((ref_class (av (val a0 a1) / 18446744073709551616) (av (val a0 a1) % 18446744073709551616) (decide (val a0 a1 < 0)) (gg (gg a0 b0) (av (val b0 b1)) % 18446744073709551616)).1, (ref_class (av (val a0 a1) / 18446744073709551616) (av (val a0 a1) % 18446744073709551616) (decide (val a0 a1 < 0)) (gg (gg a0 b0) (av (val b0 b1)) % 18446744073709551616)).2) else n) = k (rg a0 b0 b1, val a0 a1 % rg a0 b0 b1) := by
      intro h
      have hr := rg_U (a1 := a1) h1 h3 h4 h
      unfold rg at hr ⊢
      rw [(sm hr.1).2, class_ok _ (UD (av_val h1 h2)) hr.1 hr.2, class_s _ (UD (av_val h1 h2)) hr.1 hr.2, sgn]
      rfl
    by_cases c1 : a0 = 0
    · rw [if_pos c1]
      by_cases c2 : b0 = 0
      · have hb : IntKind.i64.wrap b1 ≠ 0 := wi_zero h4 (fun h => c0 ⟨c2, h⟩)
        rw [if_pos c2, if_pos (show a0 = 0 ∧ b0 = 0 from ⟨c1, c2⟩)]
        simp only [if_neg hb]
        by_cases c3 : IntKind.i64.wrap b1 = -1
        · rw [if_pos c3, if_pos c3]
        · rw [if_neg c3, if_neg c3]
      · rw [if_neg c2, if_neg (show ¬ (a0 = 0 ∧ b0 = 0) from fun h => c2 h.2)]
        exact fin (fun h => c2 h.2)
    · rw [if_neg c1, if_neg (show ¬ (a0 = 0 ∧ b0 = 0) from fun h => c1 h.1)]
      exact fin (fun h => c1 h.1)
theorem rem2_s {a0 a1 b0 b1 : Int} (h1 : U64 a0) (h2 : U64 a1) (h3 : U64 b0) (h4 : U64 b1) : ref_Rem a0 a1 b0 b1 = remS a0 a1 b0 b1 := rem2_k _ _ h1 h2 h3 h4
theorem rem2_ok {a0 a1 b0 b1 : Int} (h1 : U64 a0) (h2 : U64 a1) (h3 : U64 b0) (h4 : U64 b1) : ref_Rem.ok a0 a1 b0 b1 = true := rem2_k _ _ h1 h2 h3 h4
end Go.Proofs.YtonpbbhlmapbdaaGreatDoor.V.B
