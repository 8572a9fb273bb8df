/- Quotients and remainders of classes: the program's and the document's agree. Conditions: none. -/
import Derived.Test.YtoggbmfjkcbilaaDoorN15
set_option linter.unusedVariables false
set_option linter.unusedSimpArgs false
namespace Go.Proofs.YtoggbmfjkcbilaaDoor.V
open Go Go.Wk

/-- a number's quotient by another -/
def qw (x k : Int) : Int := if k = -1 then IntKind.i64.wrap (-x) else IntKind.i64.wrap (x.tdiv k)
def divS (a0 a1 b0 b1 : Int) : Int × Int :=
  if b0 ≠ 0 ∨ IntKind.i64.wrap b1 = 0 then (1, 0)
  else if a0 = 0 then (0, IntKind.u64.wrap (qw (IntKind.i64.wrap a1) (IntKind.i64.wrap b1)))
  else if IntKind.i64.wrap b1 = -1 then (1, 0)
  else if a0 % av (IntKind.i64.wrap b1) ≠ 0 ∨ nr a0 a1 % av (IntKind.i64.wrap b1) ≠ 0 then (1, 0)
  else (a0 / av (IntKind.i64.wrap b1), sg (decide (IntKind.i64.wrap b1 < 0)) (nr a0 a1 / av (IntKind.i64.wrap b1)) % (a0 / av (IntKind.i64.wrap b1)))
theorem word_Div_s {x k : Int} (h : k ≠ 0) : (word_Div x k).1 = qw x k := by
  unfold word_Div word_Div.c qw
  (try unfold word_Div.c0)
  simp only [cbe, cbd, wneg_s, id, if_neg h]
  by_cases g : k = -1
  · rw [if_pos g, if_pos g]
  · rw [if_neg g, if_neg g]
theorem word_Rem_s {x k : Int} (h : k ≠ 0) : (word_Rem x k).1 = if k = -1 then 0 else x.tmod k := by
  unfold word_Rem word_Rem.c
  (try unfold word_Rem.c0)
  simp only [cbe, cbd, id, if_neg h]
  by_cases g : k = -1
  · rw [if_pos g, if_pos g]
  · rw [if_neg g, if_neg g]
theorem size_s {k : Int} (hk : I64 k) : (bif k == -9223372036854775808 then 9223372036854775808 else IntKind.u64.wrap (if IntKind.i64.wrap (0 - k) > k then IntKind.i64.wrap (0 - k) else k)) = av k := by
  unfold I64 at hk
  rw [cbe]
  unfold av
  by_cases h : k = -9223372036854775808
  · rw [if_pos h, if_pos (by omega)]; omega
  · rw [if_neg h, wi_id (by omega) (by omega), wu_eq]
    split <;> split <;> omega
theorem ediv_part {a r s : Int} (hs : 0 < s) (ha : a % s = 0) (hr : r % s = 0) (h0 : 0 ≤ r) (h1 : r < a) : 0 ≤ r / s ∧ r / s < a / s ∧ 0 < a / s := by
  have e1 := Int.emod_add_mul_ediv a s
  have e2 := Int.emod_add_mul_ediv r s
  have h2 := Int.ediv_nonneg h0 (Int.le_of_lt hs)
  have h3 : r / s < a / s := by
    rcases Int.lt_or_le (r / s) (a / s) with h | h
    · exact h
    · have := Int.mul_le_mul_of_nonneg_left h (Int.le_of_lt hs)
      omega
  omega
theorem div_k {γ : Type} (n : γ) (k : Int × Int → γ) {a0 a1 b0 b1 : Int} (h1 : U64 a0) (h2 : U64 a1) (h3 : U64 b0) (h4 : U64 b1) : cong_Div.c n k a0 a1 b0 b1 = k (divS a0 a1 b0 b1) := by
  unfold cong_Div.c divS
  (try unfold cong_Div.c0)
  simp only [norm_s h1 h2, norm_s h3 h4, alone_s, const_s, cbe, cbd, cbn]
  by_cases c1 : b0 = 0
  · have e : nr b0 b1 = b1 := by unfold nr; rw [if_pos c1]
    have eb : (!(b0 == 0)) = false := by simp [c1]
    rw [e, eb]
    simp only [cond_false]
    by_cases c2 : IntKind.i64.wrap b1 = 0
    · rw [if_pos c2, if_pos (.inr c2)]
    · rw [if_neg c2, if_neg (show ¬ (b0 ≠ 0 ∨ IntKind.i64.wrap b1 = 0) by omega), word_Div_s c2]
      have hk := i64u b1
      have sz : (if IntKind.i64.wrap b1 = -9223372036854775808 then 9223372036854775808 else IntKind.u64.wrap (if IntKind.i64.wrap (0 - IntKind.i64.wrap b1) > IntKind.i64.wrap b1 then IntKind.i64.wrap (0 - IntKind.i64.wrap b1) else IntKind.i64.wrap b1)) = av (IntKind.i64.wrap b1) := by rw [← cbe]; exact size_s hk
      rw [sz]
      by_cases c3 : a0 = 0
      · have e : nr a0 a1 = a1 := by unfold nr; rw [if_pos c3]
        rw [if_pos c3, if_pos c3, e]
      · rw [if_neg c3, if_neg c3]
        by_cases c4 : IntKind.i64.wrap b1 = -1
        · rw [if_pos c4, if_pos c4]
        · have hr : 0 ≤ nr a0 a1 ∧ nr a0 a1 < a0 := by unfold nr; rw [if_neg c3]; exact ⟨(emod_U h1 c3).1, (emod_U h1 c3).2.1⟩
          have sU := av_U hk
          have s0 : 0 < av (IntKind.i64.wrap b1) := by unfold av; split <;> omega
          rw [if_neg c4, if_neg c4]
          generalize nr a0 a1 = r at *
          generalize av (IntKind.i64.wrap b1) = s at *
          have rU : U64 r := by unfold U64 at *; omega
          have hs : ¬ s = 0 := by omega
          simp only [Int.tmod_eq_emod_of_nonneg h1.1, Int.tmod_eq_emod_of_nonneg hr.1, if_neg hs]
          by_cases c5 : a0 % s = 0
          · by_cases c6 : r % s = 0
            · obtain ⟨q1, q2, q3⟩ := ediv_part s0 c5 c6 hr.1 hr.2
              have mU := ediv_U h1 (Int.le_of_lt s0)
              have wU := ediv_U rU (Int.le_of_lt s0)
              have w1 : IntKind.u64.wrap (a0.tdiv s) = a0 / s := by rw [Int.tdiv_eq_ediv_of_nonneg h1.1]; exact wu_id mU.1 mU.2
              have w2 : IntKind.u64.wrap (r.tdiv s) = r / s := by rw [Int.tdiv_eq_ediv_of_nonneg hr.1]; exact wu_id wU.1 wU.2
              rw [if_pos c5, if_pos c6, if_neg (show ¬ (a0 % s ≠ 0 ∨ r % s ≠ 0) by omega), w1, w2, decide_eq_false (show ¬ a0 / s = 0 by omega)]
              rw [minus_s mU (Int.le_refl 0) q3 q1 q2]
              have x := emod_U (x := 0 - r / s) mU (by omega)
              rw [Int.tmod_eq_emod_of_nonneg x.1, Int.emod_emod]
              unfold sg
              cases hd : decide (IntKind.i64.wrap b1 < 0) with
              | true => simp
              | false => simp; rw [Int.emod_eq_of_lt q1 q2]
            · rw [if_pos c5, if_neg c6, if_pos (.inr c6)]
          · rw [if_neg c5, if_pos (.inl c5)]
  · have eb : (!(b0 == 0)) = true := by simp [c1]
    rw [eb]; simp only [cond_true]; rw [if_pos (Or.inl c1)]
theorem div_s {a0 a1 b0 b1 : Int} (h1 : U64 a0) (h2 : U64 a1) (h3 : U64 b0) (h4 : U64 b1) : cong_Div a0 a1 b0 b1 = divS a0 a1 b0 b1 := div_k _ _ h1 h2 h3 h4
theorem div_ok {a0 a1 b0 b1 : Int} (h1 : U64 a0) (h2 : U64 a1) (h3 : U64 b0) (h4 : U64 b1) : cong_Div.ok a0 a1 b0 b1 = true := div_k _ _ h1 h2 h3 h4
theorem div2_k {γ : Type} (n : γ) (k : Int × Int → γ) {a0 a1 b0 b1 : Int} (h1 : U64 a0) (h2 : U64 a1) (h3 : U64 b0) (h4 : U64 b1) : ref_Div.c n k a0 a1 b0 b1 = k (divS a0 a1 b0 b1) := by
  have hk := i64u b1
  unfold ref_Div.c divS
  (try unfold ref_Div.c0)
  simp only [num_s, const2_s, norm2_s h1 h2, far2_s hk, cbe, cbd, cbn, Bool.cond_decide]
  have h3' := h3
  unfold U64 at h3'
  by_cases c1 : b0 = 0
  · rw [if_neg (by omega)]
    by_cases c2 : IntKind.i64.wrap b1 = 0
    · rw [if_pos c2, if_pos (.inr c2)]
    · rw [if_neg c2, if_neg (show ¬ (b0 ≠ 0 ∨ IntKind.i64.wrap b1 = 0) by omega)]
      by_cases c3 : a0 = 0
      · rw [if_pos c3, if_pos c3]
        unfold qw
        by_cases c4 : IntKind.i64.wrap b1 = -1
        · rw [if_pos c4, if_pos c4, Int.zero_sub]
        · rw [if_neg c4, if_neg c4, if_neg c2]
      · rw [if_neg c3, if_neg c3]
        by_cases c4 : IntKind.i64.wrap b1 = -1
        · rw [if_pos c4, if_pos c4]
        · have hr : 0 ≤ nr a0 a1 ∧ nr a0 a1 < a0 := by unfold nr; rw [if_neg c3]; exact ⟨(emod_U h1 c3).1, (emod_U h1 c3).2.1⟩
          have sU := av_U hk
          have s0 : 0 < av (IntKind.i64.wrap b1) := by unfold av; split <;> omega
          rw [if_neg c4, if_neg c4]
          generalize nr a0 a1 = r at *
          generalize av (IntKind.i64.wrap b1) = s at *
          have rU : U64 r := by unfold U64 at *; omega
          have hs : ¬ s = 0 := by omega
          simp only [Int.tmod_eq_emod_of_nonneg h1.1, Int.tmod_eq_emod_of_nonneg hr.1, if_neg hs]
          by_cases c5 : a0 % s = 0
          · by_cases c6 : r % s = 0
            · obtain ⟨q1, q2, q3⟩ := ediv_part s0 c5 c6 hr.1 hr.2
              have mU := ediv_U h1 (Int.le_of_lt s0)
              have wU := ediv_U rU (Int.le_of_lt s0)
              have w1 : IntKind.u64.wrap (a0.tdiv s) = a0 / s := by rw [Int.tdiv_eq_ediv_of_nonneg h1.1]; exact wu_id mU.1 mU.2
              have w2 : IntKind.u64.wrap (r.tdiv s) = r / s := by rw [Int.tdiv_eq_ediv_of_nonneg hr.1]; exact wu_id wU.1 wU.2
              rw [if_pos c5, if_pos c6, if_neg (show ¬ (a0 % s ≠ 0 ∨ r % s ≠ 0) by omega), w1, w2, of_u wU, class_ok _ (UD wU) mU (by omega), class_s _ (UD wU) mU (by omega)]
              rfl
            · rw [if_pos c5, if_neg c6, if_pos (.inr c6)]
          · rw [if_neg c5, if_pos (.inl c5)]
  · rw [if_pos (by omega), if_pos (.inl c1)]
theorem div2_s {a0 a1 b0 b1 : Int} (h1 : U64 a0) (h2 : U64 a1) (h3 : U64 b0) (h4 : U64 b1) : ref_Div a0 a1 b0 b1 = divS a0 a1 b0 b1 := div2_k _ _ h1 h2 h3 h4
theorem div2_ok {a0 a1 b0 b1 : Int} (h1 : U64 a0) (h2 : U64 a1) (h3 : U64 b0) (h4 : U64 b1) : ref_Div.ok a0 a1 b0 b1 = true := div2_k _ _ h1 h2 h3 h4
/-- the modulus of remainders -/
def rg (a0 b0 b1 : Int) : Int := gg (gg a0 b0) (av (val b0 b1))
def remS (a0 a1 b0 b1 : Int) : Int × Int :=
  if b0 = 0 ∧ b1 = 0 then (1, 0)
  else if a0 = 0 ∧ b0 = 0 then (0, IntKind.u64.wrap (if IntKind.i64.wrap b1 = -1 then 0 else (IntKind.i64.wrap a1).tmod (IntKind.i64.wrap b1)))
  else (rg a0 b0 b1, val a0 a1 % rg a0 b0 b1)
theorem rg_U {a0 a1 b0 b1 : Int} (h1 : U64 a0) (h3 : U64 b0) (h4 : U64 b1) (h : ¬ (a0 = 0 ∧ b0 = 0)) : U64 (rg a0 b0 b1) ∧ rg a0 b0 b1 ≠ 0 := by
  have g := gg_U h1 h3
  have p := gg_pos h1.1 h3.1 (by omega)
  have q := av_val h3 h4
  have := gg_pos g.1 q.1 (.inl (by omega))
  unfold rg
  exact ⟨gg_U g q, by omega⟩
theorem wi_zero {b : Int} (h : U64 b) (h0 : b ≠ 0) : IntKind.i64.wrap b ≠ 0 := by unfold U64 at h; rw [wi_eq]; omega
theorem rem_k {γ : Type} (n : γ) (k : Int × Int → γ) {a0 a1 b0 b1 : Int} (h1 : U64 a0) (h2 : U64 a1) (h3 : U64 b0) (h4 : U64 b1) : cong_Rem.c n k a0 a1 b0 b1 = k (remS a0 a1 b0 b1) := by
  have z : (0 : Int) ≤ 0 := Int.le_refl 0
  have g := gg_U h1 h3
  have q := av_val h3 h4
  have hn := nr_U h3 h4
  unfold cong_Rem.c remS
  (try unfold cong_Rem.c0)
  simp only [norm_s h1 h2, norm_s h3 h4, alone_s, const_s, nr_zero, gcd_g z h1.1, gcd_s z h1.1, gg0 h1.1, gcd_g h1.1 h3.1, gcd_s h1.1 h3.1, gcd_g g.1 hn.1, gcd_s g.1 hn.1, cbe, cond_true]
  have sz : b0 = 0 → (bif decide (IntKind.i64.wrap (nr b0 b1) < 0) then IntKind.u64.wrap (0 - nr b0 b1) else nr b0 b1) = av (val b0 b1) := by
    intro c
    unfold nr val av
    rw [if_pos c, if_pos c, Bool.cond_decide]
    unfold U64 at h4
    simp only [wi_eq, wu_eq]
    split <;> omega
  have sz2 : b0 ≠ 0 → nr b0 b1 = av (val b0 b1) := by
    intro c
    have := emod_U (x := b1) h3 c
    unfold nr val av
    rw [if_neg c, if_neg c, if_neg (by omega)]
  by_cases c0 : b0 = 0 ∧ b1 = 0
  · rw [decide_eq_true c0, if_pos c0]; rfl
  · rw [decide_eq_false c0, if_neg c0]
    simp only [cond_false]
    have fin : ¬ (a0 = 0 ∧ b0 = 0) → cong_rest a0 (nr a0 a1) (rg a0 b0 b1) = val a0 a1 % rg a0 b0 b1 := by
      intro h
      have hr := rg_U (a1 := a1) h1 h3 h4 h
      rw [rest_s (nr_U h1 h2) hr.1, val_nr]
      unfold md; rw [if_neg hr.2]
    by_cases c1 : a0 = 0
    · rw [if_pos c1]
      by_cases c2 : b0 = 0
      · have e1 : nr a0 a1 = a1 := by unfold nr; rw [if_pos c1]
        have e2 : nr b0 b1 = b1 := by unfold nr; rw [if_pos c2]
        have hb : IntKind.i64.wrap b1 ≠ 0 := wi_zero h4 (fun h => c0 ⟨c2, h⟩)
        rw [if_pos c2, if_pos (show a0 = 0 ∧ b0 = 0 from ⟨c1, c2⟩), e1, e2, word_Rem_s hb]
      · simp only [if_neg c2, if_neg (show ¬ (a0 = 0 ∧ b0 = 0) from fun h => c2 h.2)]
        rw [sz2 c2]
        have := fin (fun h => c2 h.2)
        unfold rg at this ⊢
        rw [this]
    · rw [if_neg c1, if_neg (show ¬ (a0 = 0 ∧ b0 = 0) from fun h => c1 h.1)]
      have f := fin (fun h => c1 h.1)
      by_cases c2 : b0 = 0
      · rw [if_pos c2, sz c2, gcd_g g.1 q.1, gcd_s g.1 q.1]
        unfold rg at f ⊢
        rw [f]; rfl
      · rw [if_neg c2, sz2 c2]
        unfold rg at f ⊢
        rw [f]
theorem rem_s {a0 a1 b0 b1 : Int} (h1 : U64 a0) (h2 : U64 a1) (h3 : U64 b0) (h4 : U64 b1) : cong_Rem a0 a1 b0 b1 = remS a0 a1 b0 b1 := rem_k _ _ h1 h2 h3 h4
theorem rem_ok {a0 a1 b0 b1 : Int} (h1 : U64 a0) (h2 : U64 a1) (h3 : U64 b0) (h4 : U64 b1) : cong_Rem.ok a0 a1 b0 b1 = true := rem_k _ _ h1 h2 h3 h4
theorem rem2_k {γ : Type} (n : γ) (k : Int × Int → γ) {a0 a1 b0 b1 : Int} (h1 : U64 a0) (h2 : U64 a1) (h3 : U64 b0) (h4 : U64 b1) : ref_Rem.c n k a0 a1 b0 b1 = k (remS a0 a1 b0 b1) := by
  have g := gg_D (UD h1) (UD h3)
  have gU := gg_U h1 h3
  have q := av_val h3 h4
  unfold ref_Rem.c remS
  (try unfold ref_Rem.c0)
  simp only [num_s, const2_s, raw_zero, of_u h1, of_u h3, r_ok h1 h2, r_s h1 h2, r_ok h3 h4, r_s h3 h4, gcd2_g (UD h1) (UD h3), gcd2_s (UD h1) (UD h3), gcd2_g g (UD q), gcd2_s g (UD q), cbe, cbd, cond_true]
  by_cases c0 : b0 = 0 ∧ b1 = 0
  · rw [decide_eq_true c0, if_pos c0]; rfl
  · rw [decide_eq_false c0, if_neg c0]
    simp only [cond_false]
    have fin : ¬ (a0 = 0 ∧ b0 = 0) → (bif ref_class.ok (av (val a0 a1) / 18446744073709551616) (av (val a0 a1) % 18446744073709551616) (decide (val a0 a1 < 0)) (gg (gg a0 b0) (av (val b0 b1)) % 18446744073709551616) then k ((ref_class (av (val a0 a1) / 18446744073709551616) (av (val a0 a1) % 18446744073709551616) (decide (val a0 a1 < 0)) (gg (gg a0 b0) (av (val b0 b1)) % 18446744073709551616)).1, (ref_class (av (val a0 a1) / 18446744073709551616) (av (val a0 a1) % 18446744073709551616) (decide (val a0 a1 < 0)) (gg (gg a0 b0) (av (val b0 b1)) % 18446744073709551616)).2) else n) = k (rg a0 b0 b1, val a0 a1 % rg a0 b0 b1) := by
      intro h
      have hr := rg_U (a1 := a1) h1 h3 h4 h
      unfold rg at hr ⊢
      rw [(sm hr.1).2, class_ok _ (UD (av_val h1 h2)) hr.1 hr.2, class_s _ (UD (av_val h1 h2)) hr.1 hr.2, sgn]
      rfl
    by_cases c1 : a0 = 0
    · rw [if_pos c1]
      by_cases c2 : b0 = 0
      · have hb : IntKind.i64.wrap b1 ≠ 0 := wi_zero h4 (fun h => c0 ⟨c2, h⟩)
        rw [if_pos c2, if_pos (show a0 = 0 ∧ b0 = 0 from ⟨c1, c2⟩)]
        simp only [if_neg hb]
        by_cases c3 : IntKind.i64.wrap b1 = -1
        · rw [if_pos c3, if_pos c3]
        · rw [if_neg c3, if_neg c3]
      · rw [if_neg c2, if_neg (show ¬ (a0 = 0 ∧ b0 = 0) from fun h => c2 h.2)]
        exact fin (fun h => c2 h.2)
    · rw [if_neg c1, if_neg (show ¬ (a0 = 0 ∧ b0 = 0) from fun h => c1 h.1)]
      exact fin (fun h => c1 h.1)
theorem rem2_s {a0 a1 b0 b1 : Int} (h1 : U64 a0) (h2 : U64 a1) (h3 : U64 b0) (h4 : U64 b1) : ref_Rem a0 a1 b0 b1 = remS a0 a1 b0 b1 := rem2_k _ _ h1 h2 h3 h4
theorem rem2_ok {a0 a1 b0 b1 : Int} (h1 : U64 a0) (h2 : U64 a1) (h3 : U64 b0) (h4 : U64 b1) : ref_Rem.ok a0 a1 b0 b1 = true := rem2_k _ _ h1 h2 h3 h4
end Go.Proofs.YtoggbmfjkcbilaaDoor.V
