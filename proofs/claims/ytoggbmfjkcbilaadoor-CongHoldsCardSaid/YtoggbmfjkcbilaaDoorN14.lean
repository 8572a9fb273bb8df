/- Operations on classes: the program's and the document's agree. Conditions: none. -/
import Derived.Test.YtoggbmfjkcbilaaDoorN13
set_option linter.unusedVariables false
set_option linter.unusedSimpArgs false
namespace Go.Proofs.YtoggbmfjkcbilaaDoor.V
open Go Go.Wk

/-- how many noughts a number ends in -/
noncomputable def tzn (x : Int) : Nat := if h : 0 < x then Classical.choose (Tz.ex h) else 0
theorem tzn_s {x : Int} (h : 0 < x) : Tz x (tzn x) := by unfold tzn; rw [dif_pos h]; exact Classical.choose_spec (Tz.ex h)
theorem tzn_of {x : Int} {j : Nat} (h0 : 0 < x) (h : Tz x j) : tzn x = j := (tzn_s h0).uniq h
/-- the greatest power of two that divides a number, at most 2^63 -/
noncomputable def tw (g : Int) : Int := 2 ^ min 63 (tzn g)
theorem tw_b (g : Int) : 1 ≤ tw g ∧ tw g ≤ 9223372036854775808 := by
  unfold tw
  have h1 : (1 : Nat) ≤ 2 ^ min 63 (tzn g) := Nat.two_pow_pos _
  have h2 : (2 : Nat) ^ min 63 (tzn g) ≤ 2 ^ 63 := Nat.pow_le_pow_right (by decide) (by omega)
  have this : ((2 : Nat) ^ 63 : Nat) = 9223372036854775808 := by decide
  rw [this] at h2
  have e : (2 : Int) ^ min 63 (tzn g) = ((2 ^ min 63 (tzn g) : Nat) : Int) := by rw [Int.natCast_pow]; rfl
  rw [e]
  omega
theorem tw_U (g : Int) : U64 (tw g) ∧ tw g ≠ 0 := by have := tw_b g; unfold U64; omega
theorem two_s {g : Int} (hg : U64 g) (h0 : g ≠ 0) : cong_two g = tw g := by
  have hp : 0 < g := by unfold U64 at hg; omega
  have ht := tzn_s hp
  have hlt := ht.lt hp (w := 64) (by have := hg.2; exact this)
  unfold cong_two cong_two.c
  (try unfold cong_two.c0)
  simp only [cbe, id]
  rw [if_neg h0, even_s hg hp ht]
  unfold tw
  congr 1; omega
theorem Two_L (N : Nat) {g : Int} (hg : D g) (h0 : 0 < g) : ∀ (n i m : Nat), i + n = 63 → (2 : Int) ^ i ∣ g → n < m → ref_Two.L0 N m ((i : Int), g / 18446744073709551616, g % 18446744073709551616) = some (tw g)
  | n, i, 0, _, _, h => by omega
  | 0, i, m + 1, hi, hd, hm => by
    unfold ref_Two.L0 ref_Two.l0.c
    (try unfold ref_Two.l0.c0)
    simp only [Bool.cond_decide]
    rw [if_neg (by omega)]
    have e : i = 63 := by omega
    subst e
    obtain ⟨q, hq⟩ := hd
    have hq0 : 0 < q := by omega
    obtain ⟨j, o, hj, ho⟩ := Tz.ex hq0
    have : tzn g = 63 + j := tzn_of h0 ⟨o, by rw [hq, hj, ← Int.mul_assoc, ← Int.pow_add], ho⟩
    unfold tw
    rw [this, show min 63 (63 + j) = 63 by omega]
    rfl
  | n + 1, i, m + 1, hi, hd, hm => by
    have hp : (0 : Int) < 2 ^ i := Int.pow_pos (by decide)
    obtain ⟨q, hq⟩ := hd
    have e : g / 2 ^ i = q := by rw [hq, Int.mul_ediv_cancel_left _ (by omega)]
    have ei : IntKind.i64.wrap ((i : Int) + 1) = ((i + 1 : Nat) : Int) := by rw [wi_id (by omega) (by omega)]; omega
    unfold ref_Two.L0 ref_Two.l0.c
    (try unfold ref_Two.l0.c0)
    unfold ref_bitOf.ok ref_bitOf
    simp only [Bool.cond_decide, bit_k _ _ hg i (by omega), e, id, cbe, cbd, cond_true, ei]
    rw [if_pos (by omega)]
    have w3 : min i IntKind.u64.bits = i := by have : IntKind.u64.bits = 64 := rfl; rw [this]; omega
    by_cases h : q % 2 = 1
    · rw [if_pos h, if_neg (by omega), Int.toNat_natCast, w3]
      have : tzn g = i := tzn_of h0 ⟨q, hq, h⟩
      unfold tw
      rw [this, show min 63 i = i by omega, Int.one_mul]
      have h2 : (2 : Nat) ^ i ≤ 2 ^ 63 := Nat.pow_le_pow_right (by decide) (by omega)
      have h3 : (2 : Int) ^ i ≤ 9223372036854775808 := by
        have e63 : ((2 : Nat) ^ 63 : Nat) = 9223372036854775808 := by decide
        rw [e63] at h2
        have e : (2 : Int) ^ i = ((2 ^ i : Nat) : Int) := by rw [Int.natCast_pow]; rfl
        rw [e]; omega
      rw [wu_id (by omega) (by omega)]
    · rw [if_neg h]
      refine Two_L N hg h0 n (i + 1) m (by omega) ⟨q / 2, ?_⟩ (by omega)
      rw [Int.pow_succ, Int.mul_assoc, show 2 * (q / 2) = q by omega]; exact hq
theorem Two_o {g : Int} (hg : D g) (h0 : 0 < g) : ref_Two.o 66 (g / 18446744073709551616) (g % 18446744073709551616) = some (tw g) := by
  unfold ref_Two.o ref_Two.c
  exact Two_L 66 hg h0 63 0 66 (by decide) ⟨g, by simp⟩ (by decide)
theorem Two_g {g : Int} (hg : D g) (h0 : 0 < g) : ref_Two.g (g / 18446744073709551616) (g % 18446744073709551616) = true := by unfold ref_Two.g; rw [hide_eq, Two_o hg h0]; rfl
theorem Two_s {g : Int} (hg : D g) (h0 : 0 < g) : ref_Two (g / 18446744073709551616) (g % 18446744073709551616) = tw g := by unfold ref_Two; rw [hide_eq, Two_o hg h0]; rfl
/-- the modulus of an answer -/
noncomputable def bm (g : Int) (e : Bool) : Int := if e = true ∧ g < 18446744073709551616 then g else tw g
theorem bm_f (g : Int) : bm g false = tw g := by unfold bm; rw [if_neg (by simp)]
theorem bm_t {g : Int} (h : g < 18446744073709551616) : bm g true = g := by unfold bm; rw [if_pos ⟨rfl, h⟩]
theorem bm_n {g : Int} (h : ¬ g < 18446744073709551616) : bm g true = tw g := by unfold bm; rw [if_neg (fun x => h x.2)]
theorem bm_U {g : Int} (e : Bool) (h0 : 0 < g) : U64 (bm g e) ∧ bm g e ≠ 0 := by
  unfold bm
  by_cases h : e = true ∧ g < 18446744073709551616
  · rw [if_pos h]; unfold U64; omega
  · rw [if_neg h]; exact tw_U g
def sg (b : Bool) (A : Int) : Int := if b then -A else A
theorem by_k {γ : Type} (n : γ) (k : Int × Int → γ) {A g : Int} (b e : Bool) (hA : D A) (hg : D g) (h0 : 0 < g) : ref_by.c n k (A / 18446744073709551616) (A % 18446744073709551616) b (g / 18446744073709551616) (g % 18446744073709551616) e = k (bm g e, sg b A % bm g e) := by
  have ht := tw_U g
  unfold ref_by.c
  (try unfold ref_by.c0)
  simp only [Two_g hg h0, Two_s hg h0, class_ok b hA ht.1 ht.2, class_s b hA ht.1 ht.2, cbe, cond_true]
  cases e with
  | false => rw [bm_f]; rfl
  | true =>
    unfold D at hg
    simp only [cond_true]
    by_cases h : g < 18446744073709551616
    · have hg' : U64 (g % 18446744073709551616) := by unfold U64; omega
      rw [if_pos (by omega), bm_t h, class_ok b hA hg' (by omega), class_s b hA hg' (by omega), show g % 18446744073709551616 = g by omega]
      rfl
    · rw [if_neg (by omega), bm_n h]; rfl
theorem by_ok {A g : Int} (b e : Bool) (hA : D A) (hg : D g) (h0 : 0 < g) : ref_by.ok (A / 18446744073709551616) (A % 18446744073709551616) b (g / 18446744073709551616) (g % 18446744073709551616) e = true := by_k _ _ b e hA hg h0
theorem by_s {A g : Int} (b e : Bool) (hA : D A) (hg : D g) (h0 : 0 < g) : ref_by (A / 18446744073709551616) (A % 18446744073709551616) b (g / 18446744073709551616) (g % 18446744073709551616) e = (bm g e, sg b A % bm g e) := by_k _ _ b e hA hg h0
theorem sg_av (v : Int) : sg (decide (v < 0)) (av v) = v := sgn v
theorem num_s (m r : Int) : ref_number m r = IntKind.i64.wrap r := by unfold ref_number ref_number.c; (try unfold ref_number.c0); rfl
/-! negation -/
noncomputable def negS (m r : Int) (e : Bool) : Int × Int := if m = 0 then (0, IntKind.u64.wrap (IntKind.i64.wrap (-IntKind.i64.wrap r))) else (bm m e, (-val m r) % bm m e)
theorem wneg_s (a : Int) : word_Neg a = IntKind.i64.wrap (-a) := by
  unfold word_Neg word_Neg.c
  (try unfold word_Neg.c0)
  unfold word_Sub word_Sub.c
  (try unfold word_Sub.c0)
  simp only [id, wu_eq, wi_eq]; omega
theorem wadd_s (a b : Int) : word_Add a b = IntKind.i64.wrap (a + b) := by
  unfold word_Add word_Add.c
  (try unfold word_Add.c0)
  simp only [id, wu_eq, wi_eq]; omega
theorem wsub_s (a b : Int) : word_Sub a b = IntKind.i64.wrap (a - b) := by
  unfold word_Sub word_Sub.c
  (try unfold word_Sub.c0)
  simp only [id, wu_eq, wi_eq]; omega
theorem wmul_s (a b : Int) : word_Mul a b = IntKind.i64.wrap (a * b) := by
  unfold word_Mul word_Mul.c
  (try unfold word_Mul.c0)
  simp only [id, wu_eq, wi_eq]
  have e : (a % 18446744073709551616) * (b % 18446744073709551616) % 18446744073709551616 = a * b % 18446744073709551616 := by rw [← Int.mul_emod]
  rw [e]; omega
theorem bm_two {g : Int} (hg : U64 g) (h0 : g ≠ 0) (e : Bool) : (bif !e then cong_two g else g) = bm g e := by
  have := hg.2
  cases e with
  | true => rw [bm_t this]; rfl
  | false => rw [bm_f, two_s hg h0]; rfl
theorem neg_k {γ : Type} (n : γ) (k : Int × Int → γ) {m r : Int} (e : Bool) (hm : U64 m) (hr : U64 r) : cong_Neg.c n k m r e = k (negS m r e) := by
  unfold cong_Neg.c negS
  (try unfold cong_Neg.c0)
  simp only [norm_s hm hr, alone_s, const_s, wneg_s, cbe, cbd]
  by_cases h : m = 0
  · have en : nr m r = r := by unfold nr; rw [if_pos h]
    rw [if_pos h, if_pos h, en]
  · have hp : 0 < m := by unfold U64 at hm; omega
    have hb := bm_U e hp
    rw [if_neg h, if_neg h, bm_two hm h e, if_neg hb.2, rest_s (nr_U hm hr) hb.1, val_nr]
    have em : md (val m r) (bm m e) = val m r % bm m e := by unfold md; rw [if_neg hb.2]
    have x := emod_U (x := val m r) hb.1 hb.2
    rw [em, minus_s hb.1 (Int.le_refl 0) (by omega) x.1 x.2.1]
    have y := emod_U (x := 0 - val m r % bm m e) hb.1 hb.2
    rw [Int.tmod_eq_emod_of_nonneg y.1, Int.emod_emod, Int.sub_emod, Int.emod_emod, ← Int.sub_emod, Int.zero_sub]
theorem neg_s {m r : Int} (e : Bool) (hm : U64 m) (hr : U64 r) : cong_Neg m r e = negS m r e := neg_k _ _ e hm hr
theorem neg_ok {m r : Int} (e : Bool) (hm : U64 m) (hr : U64 r) : cong_Neg.ok m r e = true := neg_k _ _ e hm hr
theorem neg2_k {γ : Type} (n : γ) (k : Int × Int → γ) {m r : Int} (e : Bool) (hm : U64 m) (hr : U64 r) : ref_Neg.c n k m r e = k (negS m r e) := by
  unfold ref_Neg.c negS
  (try unfold ref_Neg.c0)
  simp only [num_s, const2_s, r_ok hm hr, r_s hm hr, of_u hm, cbe, cond_true, Int.zero_sub]
  by_cases h : m = 0
  · rw [if_pos h, if_pos h]
  · have hp : 0 < m := by unfold U64 at hm; omega
    have hb := bm_U e hp
    rw [if_neg h, if_neg h, by_ok true e (UD (av_val hm hr)) (UD hm) hp, by_s true e (UD (av_val hm hr)) (UD hm) hp]
    have ev : av (val m r) = val m r := by
      have := emod_U (x := r) hm h
      unfold val av; rw [if_neg h, if_neg (by omega)]
    rw [ev]
    rfl
theorem neg2_s {m r : Int} (e : Bool) (hm : U64 m) (hr : U64 r) : ref_Neg m r e = negS m r e := neg2_k _ _ e hm hr
theorem neg2_ok {m r : Int} (e : Bool) (hm : U64 m) (hr : U64 r) : ref_Neg.ok m r e = true := neg2_k _ _ e hm hr
/-! sums and differences -/
noncomputable def addS (a0 a1 b0 b1 : Int) (e : Bool) : Int × Int := if a0 = 0 ∧ b0 = 0 then (0, IntKind.u64.wrap (IntKind.i64.wrap (IntKind.i64.wrap a1 + IntKind.i64.wrap b1))) else (bm (gg a0 b0) e, (val a0 a1 + val b0 b1) % bm (gg a0 b0) e)
noncomputable def subS (a0 a1 b0 b1 : Int) (e : Bool) : Int × Int := if a0 = 0 ∧ b0 = 0 then (0, IntKind.u64.wrap (IntKind.i64.wrap (IntKind.i64.wrap a1 - IntKind.i64.wrap b1))) else (bm (gg a0 b0) e, (val a0 a1 - val b0 b1) % bm (gg a0 b0) e)
theorem add_k {γ : Type} (n : γ) (k : Int × Int → γ) {a0 a1 b0 b1 : Int} (e : Bool) (h1 : U64 a0) (h2 : U64 a1) (h3 : U64 b0) (h4 : U64 b1) : cong_Add.c n k a0 a1 b0 b1 e = k (addS a0 a1 b0 b1 e) := by
  have z : (0 : Int) ≤ 0 := Int.le_refl 0
  unfold cong_Add.c addS
  (try unfold cong_Add.c0)
  simp only [norm_s h1 h2, norm_s h3 h4, alone_s, const_s, wadd_s, gcd_g z h1.1, gcd_s z h1.1, gg0 h1.1, gcd_g h1.1 h3.1, gcd_s h1.1 h3.1, cbe, cond_true]
  by_cases h : a0 = 0 ∧ b0 = 0
  · have e1 : nr a0 a1 = a1 := by unfold nr; rw [if_pos h.1]
    have e2 : nr b0 b1 = b1 := by unfold nr; rw [if_pos h.2]
    rw [if_pos h.1, if_pos h.2, if_pos h, e1, e2]
  · have hg := gg_pos h1.1 h3.1 (by omega)
    have hgU := gg_U h1 h3
    have hb := bm_U e hg
    rw [bm_two hgU (by omega) e, rest_s (nr_U h1 h2) hb.1, rest_s (nr_U h3 h4) hb.1, val_nr, val_nr, if_neg h]
    have em : ∀ x, md x (bm (gg a0 b0) e) = x % bm (gg a0 b0) e := fun x => by unfold md; rw [if_neg hb.2]
    have x := emod_U (x := val a0 a1) hb.1 hb.2
    have y := emod_U (x := val b0 b1) hb.1 hb.2
    rw [em, em, plus_s hb.1 x.1 x.2.1 y.1 y.2.1, ← Int.add_emod]
    by_cases c : a0 = 0
    · rw [if_pos c, if_neg (by omega)]
    · rw [if_neg c]
theorem add_s {a0 a1 b0 b1 : Int} (e : Bool) (h1 : U64 a0) (h2 : U64 a1) (h3 : U64 b0) (h4 : U64 b1) : cong_Add a0 a1 b0 b1 e = addS a0 a1 b0 b1 e := add_k _ _ e h1 h2 h3 h4
theorem add_ok {a0 a1 b0 b1 : Int} (e : Bool) (h1 : U64 a0) (h2 : U64 a1) (h3 : U64 b0) (h4 : U64 b1) : cong_Add.ok a0 a1 b0 b1 e = true := add_k _ _ e h1 h2 h3 h4
theorem sub_k {γ : Type} (n : γ) (k : Int × Int → γ) {a0 a1 b0 b1 : Int} (e : Bool) (h1 : U64 a0) (h2 : U64 a1) (h3 : U64 b0) (h4 : U64 b1) : cong_Sub.c n k a0 a1 b0 b1 e = k (subS a0 a1 b0 b1 e) := by
  have z : (0 : Int) ≤ 0 := Int.le_refl 0
  unfold cong_Sub.c subS
  (try unfold cong_Sub.c0)
  simp only [norm_s h1 h2, norm_s h3 h4, alone_s, const_s, wsub_s, gcd_g z h1.1, gcd_s z h1.1, gg0 h1.1, gcd_g h1.1 h3.1, gcd_s h1.1 h3.1, cbe, cond_true]
  by_cases h : a0 = 0 ∧ b0 = 0
  · have e1 : nr a0 a1 = a1 := by unfold nr; rw [if_pos h.1]
    have e2 : nr b0 b1 = b1 := by unfold nr; rw [if_pos h.2]
    rw [if_pos h.1, if_pos h.2, if_pos h, e1, e2]
  · have hg := gg_pos h1.1 h3.1 (by omega)
    have hgU := gg_U h1 h3
    have hb := bm_U e hg
    rw [bm_two hgU (by omega) e, rest_s (nr_U h1 h2) hb.1, rest_s (nr_U h3 h4) hb.1, val_nr, val_nr, if_neg h]
    have em : ∀ x, md x (bm (gg a0 b0) e) = x % bm (gg a0 b0) e := fun x => by unfold md; rw [if_neg hb.2]
    have x := emod_U (x := val a0 a1) hb.1 hb.2
    have y := emod_U (x := val b0 b1) hb.1 hb.2
    rw [em, em, minus_s hb.1 x.1 x.2.1 y.1 y.2.1, ← Int.sub_emod]
    by_cases c : a0 = 0
    · rw [if_pos c, if_neg (by omega)]
    · rw [if_neg c]
theorem sub_s {a0 a1 b0 b1 : Int} (e : Bool) (h1 : U64 a0) (h2 : U64 a1) (h3 : U64 b0) (h4 : U64 b1) : cong_Sub a0 a1 b0 b1 e = subS a0 a1 b0 b1 e := sub_k _ _ e h1 h2 h3 h4
theorem sub_ok {a0 a1 b0 b1 : Int} (e : Bool) (h1 : U64 a0) (h2 : U64 a1) (h3 : U64 b0) (h4 : U64 b1) : cong_Sub.ok a0 a1 b0 b1 e = true := sub_k _ _ e h1 h2 h3 h4
theorem sum_s {A B : Int} (a b : Bool) (hA : 0 ≤ A ∧ A < 18446744073709551616) (hB : 0 ≤ B ∧ B < 18446744073709551616) : ∃ C c, ref_sum (A / 18446744073709551616) (A % 18446744073709551616) a (B / 18446744073709551616) (B % 18446744073709551616) b = (C / 18446744073709551616, C % 18446744073709551616, c) ∧ D C ∧ sg c C = sg a A + sg b B := by
  have dA : D A := by unfold D; omega
  have dB : D B := by unfold D; omega
  have z : D 0 := by unfold D; omega
  have e0 := minus2_s z dB
  simp only [Int.zero_ediv, Int.zero_emod] at e0
  have hn : D ((0 - B) % 340282366920938463463374607431768211456) := by unfold D; omega
  have e1 : (0 - B) % 18446744073709551616 = (0 - B) % 340282366920938463463374607431768211456 % 18446744073709551616 := by omega
  unfold ref_sum ref_sum.c
  (try unfold ref_sum.c0)
  simp only [less_s dA dB, minus2_s dA dB, minus2_s dB dA, e0, id]
  rw [e1]
  simp only [minus2_s dA hn]
  by_cases h : a = b
  · subst h
    refine ⟨A + B, a, ?_, by unfold D; omega, ?_⟩
    · simp only [beq_self_eq_true, Bool.not_true, cond_false, Prod.mk.injEq, and_true]
      omega
    · unfold sg; cases a <;> simp <;> omega
  · have hb : (!(a == b)) = true := by cases a <;> cases b <;> simp_all
    rw [hb]
    simp only [cond_true, Bool.cond_decide]
    have hab : b = !a := by cases a <;> cases b <;> simp_all
    subst hab
    by_cases g : A < B
    · rw [if_pos g]
      refine ⟨B - A, !a, ?_, by unfold D; omega, ?_⟩
      · simp only [Prod.mk.injEq, and_true]; omega
      · unfold sg; cases a <;> simp <;> omega
    · rw [if_neg g]
      refine ⟨A - B, a, ?_, by unfold D; omega, ?_⟩
      · simp only [Prod.mk.injEq, and_true]; omega
      · unfold sg; cases a <;> simp <;> omega
theorem add2_k {γ : Type} (n : γ) (k : Int × Int → γ) {a0 a1 b0 b1 : Int} (e : Bool) (h1 : U64 a0) (h2 : U64 a1) (h3 : U64 b0) (h4 : U64 b1) : ref_Add.c n k a0 a1 b0 b1 e = k (addS a0 a1 b0 b1 e) := by
  unfold ref_Add.c addS
  (try unfold ref_Add.c0)
  simp only [num_s, const2_s, r_ok h1 h2, r_s h1 h2, r_ok h3 h4, r_s h3 h4, of_u h1, of_u h3, gcd2_g (UD h1) (UD h3), gcd2_s (UD h1) (UD h3), cbe, cond_true]
  by_cases h : a0 = 0 ∧ b0 = 0
  · rw [if_pos h.1, if_pos h.2, if_pos h]
  · have hg := gg_pos h1.1 h3.1 (by omega)
    obtain ⟨C, c, hC, dC, hs⟩ := sum_s (decide (val a0 a1 < 0)) (decide (val b0 b1 < 0)) (av_val h1 h2) (av_val h3 h4)
    rw [sg_av, sg_av] at hs
    simp only [hC, by_ok c e dC (gg_D (UD h1) (UD h3)) hg, by_s c e dC (gg_D (UD h1) (UD h3)) hg, cond_true, hs]
    rw [if_neg h]
    by_cases c : a0 = 0
    · rw [if_pos c, if_neg (by omega)]
    · rw [if_neg c]
theorem add2_s {a0 a1 b0 b1 : Int} (e : Bool) (h1 : U64 a0) (h2 : U64 a1) (h3 : U64 b0) (h4 : U64 b1) : ref_Add a0 a1 b0 b1 e = addS a0 a1 b0 b1 e := add2_k _ _ e h1 h2 h3 h4
theorem add2_ok {a0 a1 b0 b1 : Int} (e : Bool) (h1 : U64 a0) (h2 : U64 a1) (h3 : U64 b0) (h4 : U64 b1) : ref_Add.ok a0 a1 b0 b1 e = true := add2_k _ _ e h1 h2 h3 h4
theorem sub2_k {γ : Type} (n : γ) (k : Int × Int → γ) {a0 a1 b0 b1 : Int} (e : Bool) (h1 : U64 a0) (h2 : U64 a1) (h3 : U64 b0) (h4 : U64 b1) : ref_Sub.c n k a0 a1 b0 b1 e = k (subS a0 a1 b0 b1 e) := by
  unfold ref_Sub.c subS
  (try unfold ref_Sub.c0)
  simp only [num_s, const2_s, r_ok h1 h2, r_s h1 h2, r_ok h3 h4, r_s h3 h4, of_u h1, of_u h3, gcd2_g (UD h1) (UD h3), gcd2_s (UD h1) (UD h3), cbe, cond_true]
  by_cases h : a0 = 0 ∧ b0 = 0
  · rw [if_pos h.1, if_pos h.2, if_pos h]
  · have hg := gg_pos h1.1 h3.1 (by omega)
    obtain ⟨C, c, hC, dC, hs⟩ := sum_s (decide (val a0 a1 < 0)) (!decide (val b0 b1 < 0)) (av_val h1 h2) (av_val h3 h4)
    have hn : sg (!decide (val b0 b1 < 0)) (av (val b0 b1)) = -val b0 b1 := by
      have := sg_av (val b0 b1)
      unfold sg at this ⊢
      cases hd : decide (val b0 b1 < 0) <;> rw [hd] at this <;> simp at this ⊢ <;> omega
    rw [sg_av, hn] at hs
    simp only [hC, by_ok c e dC (gg_D (UD h1) (UD h3)) hg, by_s c e dC (gg_D (UD h1) (UD h3)) hg, cond_true, hs]
    rw [if_neg h, show val a0 a1 + -val b0 b1 = val a0 a1 - val b0 b1 by omega]
    by_cases c : a0 = 0
    · rw [if_pos c, if_neg (by omega)]
    · rw [if_neg c]
theorem sub2_s {a0 a1 b0 b1 : Int} (e : Bool) (h1 : U64 a0) (h2 : U64 a1) (h3 : U64 b0) (h4 : U64 b1) : ref_Sub a0 a1 b0 b1 e = subS a0 a1 b0 b1 e := sub2_k _ _ e h1 h2 h3 h4
theorem sub2_ok {a0 a1 b0 b1 : Int} (e : Bool) (h1 : U64 a0) (h2 : U64 a1) (h3 : U64 b0) (h4 : U64 b1) : ref_Sub.ok a0 a1 b0 b1 e = true := sub2_k _ _ e h1 h2 h3 h4
end Go.Proofs.YtoggbmfjkcbilaaDoor.V
