/- The document's meets. Conditions: none. -/
import Derived.Test.YtoggbmfjkcbilaaDoorN9
set_option linter.unusedVariables false
set_option linter.unusedSimpArgs false
namespace Go.Proofs.YtoggbmfjkcbilaaDoor.V
open Go Go.Wk

theorem leqS_0 {a0 a1 b0 b1 : Int} (h2 : U64 a1) (h4 : U64 b1) (c : a0 = 0) : leqS a0 (nr a0 a1) b0 (nr b0 b1) = hasS b0 (nr b0 b1) (IntKind.i64.wrap a1) := by
  unfold leqS hasS nr val
  unfold U64 at *
  by_cases h : b0 = 0
  · simp only [if_pos h, if_pos c]
    rw [decide_eq_decide]
    simp only [wi_eq]
    omega
  · simp only [if_neg h, if_pos c]
    rw [decide_eq_decide, c]
    simp
theorem leqS_no {a0 a1 b0 b1 : Int} (c : a0 ≠ 0) (h : b0 = 0) : leqS a0 a1 b0 b1 = false := by
  unfold leqS; rw [if_pos h]; simp [c]
theorem x_hi {x : Int} (h : D x) (z : Int) (hz : z = x / 18446744073709551616) : z = x / 18446744073709551616 := hz
theorem meet2_k {γ : Type} (n : γ) (k : Int × Int × Bool → γ) {a0 a1 b0 b1 : Int} (h1 : U64 a0) (h2 : U64 a1) (h3 : U64 b0) (h4 : U64 b1) : ref_Meet.c n k a0 a1 b0 b1 = k (meetS a0 a1 b0 b1) := by
  have hn1 := nr_U h1 h2
  have hn3 := nr_U h3 h4
  have gU := gg_U h1 h3
  unfold ref_Meet.c meetS
  (try unfold ref_Meet.c0)
  simp only [norm2_s h1 h2, norm2_s h3 h4, leq2_ok h1 hn1 h3 hn3, leq2_s h1 hn1 h3 hn3, leq2_ok h3 hn3 h1 hn1, leq2_s h3 hn3 h1 hn1, of_u h1, of_u h3, gcd2_g (UD h1) (UD h3), gcd2_s (UD h1) (UD h3), (sm gU).2, cbe, cond_true]
  by_cases c1 : a0 = 0
  · rw [if_pos c1, if_pos c1, leqS_0 h2 h4 c1]
    have e : nr a0 a1 = a1 := by unfold nr; rw [if_pos c1]
    rw [e]
    cases hh : hasS b0 (nr b0 b1) (IntKind.i64.wrap a1) with
    | true => simp [c1]
    | false =>
      have e2 : leqS b0 (nr b0 b1) a0 a1 = false := by
        by_cases c2 : b0 = 0
        · have e3 : nr b0 b1 = b1 := by unfold nr; rw [if_pos c2]
          rw [e3] at hh ⊢
          unfold hasS at hh; unfold leqS
          rw [if_pos c2] at hh
          rw [if_pos c1]
          simp only [decide_eq_false_iff_not] at hh ⊢
          intro h; exact hh (by rw [h.2])
        · exact leqS_no c2 c1
      rw [e2]
      rfl
  · rw [if_neg c1, if_neg c1]
    by_cases c2 : b0 = 0
    · have e : nr b0 b1 = b1 := by unfold nr; rw [if_pos c2]
      rw [if_pos c2, if_pos c2, leqS_no c1 c2, leqS_0 h4 h2 c2, e]
      cases hasS a0 (nr a0 a1) (IntKind.i64.wrap b1) with
      | true => simp [c2]
      | false => rfl
    · rw [if_neg c2, if_neg c2]
      obtain ⟨g0, p1, p0, u1, e1, e2, cop⟩ := part_s h1 h3 c1 c2
      have hr : 0 ≤ nr a0 a1 ∧ nr a0 a1 < a0 := by unfold nr; rw [if_neg c1]; exact ⟨(emod_U h1 c1).1, (emod_U h1 c1).2.1⟩
      have hs : 0 ≤ nr b0 b1 ∧ nr b0 b1 < b0 := by unfold nr; rw [if_neg c2]; exact ⟨(emod_U h3 c2).1, (emod_U h3 c2).2.1⟩
      generalize nr a0 a1 = r at *
      generalize nr b0 b1 = s at *
      have gne : gg a0 b0 ≠ 0 := by omega
      have pne : mpt a0 b0 ≠ 0 := by omega
      have w1 : IntKind.u64.wrap (b0.tdiv (gg a0 b0)) = mpt a0 b0 := by
        rw [Int.tdiv_eq_ediv_of_nonneg h3.1]; exact wu_id p1.1 p1.2
      have w2 : IntKind.u64.wrap (a0.tdiv (gg a0 b0)) = a0 / gg a0 b0 := by
        rw [Int.tdiv_eq_ediv_of_nonneg h1.1]; exact wu_id u1.1 u1.2
      simp only [w1, w2, Int.tmod_eq_emod_of_nonneg hr.1, Int.tmod_eq_emod_of_nonneg hs.1, cbn, decide_eq_false gne, decide_eq_false pne, Bool.not_false, cond_true, Bool.true_and, Bool.and_true]
      unfold meet2
      by_cases c3 : r % gg a0 b0 = s % gg a0 b0
      · have hk := k_eq h1 h3 c1 c2 c3
        rw [if_pos c3, if_neg (show ¬ r % gg a0 b0 ≠ s % gg a0 b0 from fun h => h c3)]
        have hrs : s < r → U64 (r - s) := fun h => by unfold U64 at *; omega
        have hsr : ¬ s < r → U64 (s - r) := fun h => by unfold U64 at *; omega
        have w5 : (bif decide (s < r) then (IntKind.u64.wrap (mpt a0 b0 - (IntKind.u64.wrap ((IntKind.u64.wrap (r - s)).tdiv (gg a0 b0))).tmod (mpt a0 b0))).tmod (mpt a0 b0) else (IntKind.u64.wrap ((IntKind.u64.wrap (s - r)).tdiv (gg a0 b0))).tmod (mpt a0 b0)) = mk a0 b0 r s := by
          rw [hk, Bool.cond_decide]
          by_cases c4 : s < r
          · have u := hrs c4
            have dU := ediv_U u (Int.le_of_lt g0)
            rw [if_pos c4, if_pos c4, wu_id u.1 u.2, Int.tdiv_eq_ediv_of_nonneg u.1, wu_id dU.1 dU.2, Int.tmod_eq_emod_of_nonneg dU.1]
            have dm := emod_U (x := (r - s) / gg a0 b0) p1 pne
            have hp1 := p1
            unfold U64 at hp1
            rw [wu_id (by omega) (by omega), Int.tmod_eq_emod_of_nonneg (by omega)]
            rw [show mpt a0 b0 - (r - s) / gg a0 b0 % mpt a0 b0 = (0 - (r - s) / gg a0 b0 % mpt a0 b0) + mpt a0 b0 * 1 by omega, Int.add_mul_emod_self_left]
          · have u := hsr c4
            have dU := ediv_U u (Int.le_of_lt g0)
            rw [if_neg c4, if_neg c4, wu_id u.1 u.2, Int.tdiv_eq_ediv_of_nonneg u.1, wu_id dU.1 dU.2, Int.tmod_eq_emod_of_nonneg dU.1]
        rw [w5]
        have kU := (emod_U (x := (s - r) / gg a0 b0) p1 pne).2.2
        have tb := mst_b (r := r) (s := s) h1 h3 c1 c2
        have tU : U64 (mst a0 b0 r s) := by unfold U64 at *; omega
        have key : 1 < mpt a0 b0 → ref_inverse.g (a0 / gg a0 b0) (mpt a0 b0) = true ∧ ref_timesMod.ok (mk a0 b0 r s) (ref_inverse (a0 / gg a0 b0) (mpt a0 b0)) (mpt a0 b0) = true ∧ ref_timesMod (mk a0 b0 r s) (ref_inverse (a0 / gg a0 b0) (mpt a0 b0)) (mpt a0 b0) = mst a0 b0 r s := by
          intro hp
          obtain ⟨i1, i2, i3, i4⟩ := inv2_s u1 p1 hp cop
          have iU : U64 (ref_inverse (a0 / gg a0 b0) (mpt a0 b0)) := by unfold U64 at *; omega
          refine ⟨i1, timesMod_ok kU iU p1 pne, ?_⟩
          have e9 : ref_timesMod (mk a0 b0 r s) (ref_inverse (a0 / gg a0 b0) (mpt a0 b0)) (mpt a0 b0) = mk a0 b0 r s * ref_inverse (a0 / gg a0 b0) (mpt a0 b0) % mpt a0 b0 := timesMod_s kU iU p1 pne
          rw [e9, inv_eq u1 p1 hp cop]
          rfl
        have t1 : (bif decide (mpt a0 b0 > 1) then ref_timesMod (mk a0 b0 r s) (ref_inverse (a0 / gg a0 b0) (mpt a0 b0)) (mpt a0 b0) else 0) = mst a0 b0 r s := by
          by_cases hp : mpt a0 b0 > 1
          · rw [decide_eq_true hp, (key hp).2.2]; rfl
          · rw [decide_eq_false hp]; simp only [cond_false]; omega
        rw [t1]
        have okk : ∀ X Y : Bool, (X = true → Y = true) → True := fun _ _ _ => trivial
        have mb := mx_b (s := s) h1 h3 c1 c2 hr.1 hr.2
        have ex : a0 * mst a0 b0 r s = mx a0 b0 r s - r := by unfold mx; omega
        have el : a0 * mpt a0 b0 = ml a0 b0 := rfl
        have mn : 0 ≤ a0 * mst a0 b0 r s := Int.mul_nonneg h1.1 tb.1
        rw [ex] at mn
        simp only [times2_g h1 tU, times2_g h1 p1, times2_s h1 tU, times2_s h1 p1, ex, el, const2_s]
        have t63 : ref_of 9223372036854775808 = (9223372036854775808 / 18446744073709551616, 9223372036854775808 % 18446744073709551616) := rfl
        have d63 : D 9223372036854775808 := by unfold D; omega
        rw [t63]
        generalize mx a0 b0 r s = x at *
        generalize ml a0 b0 = l at *
        have hn1' := hn1
        unfold U64 at hn1'
        have hx : D x := ⟨mb.1, by omega⟩
        have hl : D l := ⟨by omega, mb.2.2⟩
        have q1 : IntKind.u64.wrap ((x - r) % 18446744073709551616 + r) = x % 18446744073709551616 := by rw [wu_eq]; omega
        have hlx : D (l - x) := by unfold D at *; omega
        have c5 : (l - x) % 340282366920938463463374607431768211456 = l - x := by unfold D at hlx; omega
        have fin : ∀ z : Int, z = x / 18446744073709551616 → (if l / 18446744073709551616 = 0 then k (l % 18446744073709551616, x % 18446744073709551616, true) else bif ref_less z (x % 18446744073709551616) (9223372036854775808 / 18446744073709551616) (9223372036854775808 % 18446744073709551616) then k (0, IntKind.u64.wrap (IntKind.i64.wrap (x % 18446744073709551616)), true)
            else bif !ref_less (9223372036854775808 / 18446744073709551616) (9223372036854775808 % 18446744073709551616) (ref_minus (l / 18446744073709551616) (l % 18446744073709551616) z (x % 18446744073709551616)).1 (ref_minus (l / 18446744073709551616) (l % 18446744073709551616) z (x % 18446744073709551616)).2 then k (0, IntKind.u64.wrap (IntKind.i64.wrap (IntKind.u64.wrap (0 - (ref_minus (l / 18446744073709551616) (l % 18446744073709551616) z (x % 18446744073709551616)).2))), true) else k (0, 0, false))
            = k (if l < 18446744073709551616 then (l, x, true) else if x ≤ 9223372036854775807 then (0, x, true) else if l - x ≤ 9223372036854775808 then (0, 18446744073709551616 - (l - x), true) else (0, 0, false)) := by
          intro z hz
          subst hz
          rw [less_s hx d63, minus2_s hl hx, c5]
          simp only [less_s d63 hlx]
          simp only [cbe, Bool.cond_decide, cbd]
          unfold D at hlx
          by_cases g1 : l < 18446744073709551616
          · rw [if_pos (by omega), if_pos g1, show l % 18446744073709551616 = l by omega, show x % 18446744073709551616 = x by omega]
          · rw [if_neg (by omega), if_neg g1]
            by_cases g2 : x ≤ 9223372036854775807
            · rw [if_pos (by omega), if_pos g2]
              congr 2
              simp only [wu_eq, wi_eq, Prod.mk.injEq, and_true]
              omega
            · rw [if_neg (by omega), if_neg g2]
              by_cases g3 : l - x ≤ 9223372036854775808
              · rw [if_neg (by omega), if_pos g3]
                congr 2
                simp only [wu_eq, wi_eq, Prod.mk.injEq, and_true]
                omega
              · rw [if_pos (by omega), if_neg g3]
        have tail : (bif decide (IntKind.u64.wrap ((x - r) % 18446744073709551616 + r) < r) then x / 18446744073709551616 = IntKind.u64.wrap ((x - r) / 18446744073709551616 + 1) else x / 18446744073709551616 = (x - r) / 18446744073709551616) := by
          rw [q1, Bool.cond_decide]
          split
          · rw [wu_eq]; omega
          · omega
        by_cases hp : mpt a0 b0 > 1
        · obtain ⟨k1, k2, k3⟩ := key hp
          simp only [k1, k2, decide_eq_true hp, Bool.and_true, Bool.true_and, Bool.true_or, cond_true, Bool.or_true, Bool.cond_self]
          by_cases g : IntKind.u64.wrap ((x - r) % 18446744073709551616 + r) < r
          · rw [decide_eq_true g] at tail ⊢
            rw [q1]
            simp only [cond_true, cond_false] at tail ⊢
            exact fin _ tail.symm
          · rw [decide_eq_false g] at tail ⊢
            rw [q1]
            simp only [cond_true, cond_false] at tail ⊢
            exact fin _ tail.symm
        · simp only [decide_eq_false hp, Bool.and_true, Bool.true_and, Bool.true_or, cond_true, cond_false, Bool.or_true, Bool.cond_self]
          by_cases g : IntKind.u64.wrap ((x - r) % 18446744073709551616 + r) < r
          · rw [decide_eq_true g] at tail ⊢
            rw [q1]
            simp only [cond_true, cond_false] at tail ⊢
            exact fin _ tail.symm
          · rw [decide_eq_false g] at tail ⊢
            rw [q1]
            simp only [cond_true, cond_false] at tail ⊢
            exact fin _ tail.symm
      · rw [if_neg c3, if_pos c3]
theorem meet2_ok {a0 a1 b0 b1 : Int} (h1 : U64 a0) (h2 : U64 a1) (h3 : U64 b0) (h4 : U64 b1) : ref_Meet.ok a0 a1 b0 b1 = true := meet2_k _ _ h1 h2 h3 h4
theorem meet2_s {a0 a1 b0 b1 : Int} (h1 : U64 a0) (h2 : U64 a1) (h3 : U64 b0) (h4 : U64 b1) : ref_Meet a0 a1 b0 b1 = meetS a0 a1 b0 b1 := meet2_k _ _ h1 h2 h3 h4
end Go.Proofs.YtoggbmfjkcbilaaDoor.V
