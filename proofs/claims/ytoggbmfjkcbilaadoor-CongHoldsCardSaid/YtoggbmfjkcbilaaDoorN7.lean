/- Joins and steps: the program's and the document's agree. Conditions: none. -/
import Derived.Test.YtoggbmfjkcbilaaDoorN6
set_option linter.unusedVariables false
set_option linter.unusedSimpArgs false
namespace Go.Proofs.YtoggbmfjkcbilaaDoor.V
open Go Go.Wk

theorem gg_congr {g p q : Int} (hg : 0 ≤ g) (hp : 0 ≤ p) (hq : 0 ≤ q) (h : g ∣ p - q ∨ g ∣ p + q) : gg g p = gg g q := by
  have key : ∀ p q : Int, 0 ≤ p → 0 ≤ q → (g ∣ p - q ∨ g ∣ p + q) → gg g p ∣ gg g q := by
    intro p q hp hq h
    obtain ⟨h1, h2⟩ := gg_dvd hg hp
    refine dvd_gg hg hq h1 ?_
    rcases h with h | h
    · have := Int.dvd_sub h2 (Int.dvd_trans h1 h)
      rwa [show p - (p - q) = q by omega] at this
    · have := Int.dvd_sub (Int.dvd_trans h1 h) h2
      rwa [show p + q - p = q by omega] at this
  have h' : g ∣ q - p ∨ g ∣ q + p := by
    rcases h with h | h
    · left; have := Int.dvd_neg.2 h; rwa [show -(p - q) = q - p by omega] at this
    · right; rwa [Int.add_comm]
  exact Int.dvd_antisymm (gg_nonneg _ _) (gg_nonneg _ _) (key p q hp hq h) (key q p hq hp h')
theorem gg0 {a : Int} (ha : 0 ≤ a) : gg 0 a = a := by rw [gg_comm, gg_zero ha]
/-- how far apart two whole numbers are -/
def dst (x y : Int) : Int := if x < y then y - x else x - y
/-- the modulus of a join -/
def jg (a0 a1 b0 b1 : Int) : Int := gg (gg a0 b0) (dst (val a0 a1) (val b0 b1))
def joinS (a0 a1 b0 b1 : Int) : Int × Int := (jg a0 a1 b0 b1, if jg a0 a1 b0 b1 = 0 then nr a0 a1 else val a0 a1 % jg a0 a1 b0 b1)
theorem jg_U {a0 a1 b0 b1 : Int} (h1 : U64 a0) (h2 : U64 a1) (h3 : U64 b0) (h4 : U64 b1) : U64 (jg a0 a1 b0 b1) := by
  have g := gg_U h1 h3
  have v1 := val_b h1 h2
  have v2 := val_b h3 h4
  have hd : 0 ≤ dst (val a0 a1) (val b0 b1) := by unfold dst; split <;> omega
  unfold jg
  by_cases h : gg a0 b0 = 0
  · have e1 : a0 = 0 := by
      rcases Int.lt_or_le 0 a0 with h' | h'
      · have := gg_pos h1.1 h3.1 (.inl (by omega)); omega
      · have := h1.1; omega
    have e2 : b0 = 0 := by
      rcases Int.lt_or_le 0 b0 with h' | h'
      · have := gg_pos h1.1 h3.1 (.inr (by omega)); omega
      · have := h3.1; omega
    rw [h, gg0 hd]
    have w1 := i64u a1
    have w2 := i64u b1
    unfold val dst
    rw [if_pos e1, if_pos e2]
    unfold I64 at w1 w2; unfold U64
    split <;> omega
  · have := gg_le (gg_nonneg a0 b0) hd h
    unfold U64 at g ⊢
    exact ⟨gg_nonneg _ _, by omega⟩
theorem apart_s {x y : Int} (hx : -9223372036854775808 ≤ x ∧ x < 18446744073709551616) (hy : -9223372036854775808 ≤ y ∧ y < 18446744073709551616) :
    ref_apart (av x / 18446744073709551616) (av x % 18446744073709551616) (decide (x < 0)) (av y / 18446744073709551616) (av y % 18446744073709551616) (decide (y < 0)) = (dst x y / 18446744073709551616, dst x y % 18446744073709551616) := by
  have hax : D (av x) := by unfold D av; split <;> omega
  have hay : D (av y) := by unfold D av; split <;> omega
  unfold ref_apart ref_apart.c
  (try unfold ref_apart.c0)
  simp only [less_s hax hay, minus2_s hax hay, minus2_s hay hax, id]
  have z : D 0 := by unfold D; omega
  have e0 := minus2_s z hay
  simp only [Int.zero_ediv, Int.zero_emod] at e0
  rw [e0]
  have hn : D ((0 - av y) % 340282366920938463463374607431768211456) := by unfold D; omega
  have e1 : (0 - av y) % 18446744073709551616 = (0 - av y) % 340282366920938463463374607431768211456 % 18446744073709551616 := by omega
  rw [e1]
  simp only [minus2_s hax hn]
  unfold dst av
  by_cases h1 : x < 0 <;> by_cases h2 : y < 0
  · simp only [h1, h2, decide_true, beq_self_eq_true, cond_true, if_true]
    by_cases h3 : -x < -y
    · rw [decide_eq_true h3, if_neg (by omega)]; simp only [cond_true, Prod.mk.injEq]; omega
    · rw [decide_eq_false h3]
      by_cases h4 : x < y
      · rw [if_pos h4]; simp only [cond_false, Prod.mk.injEq]; omega
      · rw [if_neg h4]; simp only [cond_false, Prod.mk.injEq]; omega
  · simp only [h1, h2, decide_true, decide_false, if_true, if_false]
    rw [if_pos (by omega)]
    simp only [show (true == false) = false from rfl, cond_false, Prod.mk.injEq]
    omega
  · simp only [h1, h2, decide_true, decide_false, if_true, if_false]
    rw [if_neg (by omega)]
    simp only [show (false == true) = false from rfl, cond_false, Prod.mk.injEq]
    omega
  · simp only [h1, h2, decide_false, beq_self_eq_true, cond_true, if_false]
    by_cases h3 : x < y
    · rw [decide_eq_true h3, if_pos h3]; simp only [cond_true, Prod.mk.injEq, and_true]; omega
    · rw [decide_eq_false h3, if_neg h3]; simp only [cond_false, Prod.mk.injEq, and_true]; omega
theorem zero2 {g : Int} (hg : D g) : (g / 18446744073709551616 == 0 && (g % 18446744073709551616 == 0 && true)) = decide (g = 0) := by
  unfold D at hg
  rw [Bool.eq_iff_iff]
  simp only [Bool.and_true, Bool.and_eq_true, beq_iff_eq, decide_eq_true_eq]
  omega
theorem join2_k {γ : Type} (n : γ) (k : Int × Int → γ) {a0 a1 b0 b1 : Int} (h1 : U64 a0) (h2 : U64 a1) (h3 : U64 b0) (h4 : U64 b1) : ref_Join.c n k a0 a1 b0 b1 = k (joinS a0 a1 b0 b1) := by
  have hj := jg_U h1 h2 h3 h4
  have v1 := val_b h1 h2
  have v2 := val_b h3 h4
  have hd : D (dst (val a0 a1) (val b0 b1)) := by unfold D dst; split <;> omega
  have hg := gg_D (UD h1) (UD h3)
  unfold ref_Join.c
  (try unfold ref_Join.c0)
  simp only [of_u h1, of_u h3, r_ok h1 h2, r_s h1 h2, r_ok h3 h4, r_s h3 h4, gcd2_g (UD h1) (UD h3), gcd2_s (UD h1) (UD h3), apart_s v1 v2, gcd2_g hg hd, gcd2_s hg hd, norm2_s h1 h2, cond_true]
  show (bif gg (gg a0 b0) (dst (val a0 a1) (val b0 b1)) / 18446744073709551616 == 0 && (gg (gg a0 b0) (dst (val a0 a1) (val b0 b1)) % 18446744073709551616 == 0 && true) then _ else _) = _
  rw [zero2 (gg_D hg hd)]
  unfold joinS
  change (bif decide (jg a0 a1 b0 b1 = 0) then _ else _) = _
  change (bif decide (jg a0 a1 b0 b1 = 0) then k (a0, nr a0 a1) else bif ref_class.ok (av (val a0 a1) / 18446744073709551616) (av (val a0 a1) % 18446744073709551616) (decide (val a0 a1 < 0)) (jg a0 a1 b0 b1 % 18446744073709551616) then k ((ref_class (av (val a0 a1) / 18446744073709551616) (av (val a0 a1) % 18446744073709551616) (decide (val a0 a1 < 0)) (jg a0 a1 b0 b1 % 18446744073709551616)).1, (ref_class (av (val a0 a1) / 18446744073709551616) (av (val a0 a1) % 18446744073709551616) (decide (val a0 a1 < 0)) (jg a0 a1 b0 b1 % 18446744073709551616)).2) else n) = _
  by_cases h : jg a0 a1 b0 b1 = 0
  · rw [decide_eq_true h, if_pos h, h]
    have e1 : a0 = 0 := by
      rcases Int.lt_or_le 0 a0 with h' | h'
      · have p := gg_pos h1.1 h3.1 (.inl (by omega))
        have := gg_pos (gg_nonneg a0 b0) hd.1 (.inl (by omega))
        unfold jg at h; omega
      · have := h1.1; omega
    rw [e1]; rfl
  · rw [decide_eq_false h, if_neg h, (sm hj).2, class_ok _ (UD (av_val h1 h2)) hj h, class_s _ (UD (av_val h1 h2)) hj h, sgn]
    rfl
theorem join2_s {a0 a1 b0 b1 : Int} (h1 : U64 a0) (h2 : U64 a1) (h3 : U64 b0) (h4 : U64 b1) : ref_Join a0 a1 b0 b1 = joinS a0 a1 b0 b1 := join2_k _ _ h1 h2 h3 h4
theorem join2_ok {a0 a1 b0 b1 : Int} (h1 : U64 a0) (h2 : U64 a1) (h3 : U64 b0) (h4 : U64 b1) : ref_Join.ok a0 a1 b0 b1 = true := join2_k _ _ h1 h2 h3 h4
theorem dst_wrap {x y : Int} (hx : I64 x) (hy : I64 y) : IntKind.u64.wrap (IntKind.u64.wrap (if y > x then y else x) - IntKind.u64.wrap (if y < x then y else x)) = dst x y := by
  unfold I64 at *
  unfold dst
  simp only [wu_eq]
  (repeat' split) <;> omega
theorem dst_u {x y : Int} (hx : U64 x) (hy : U64 y) : IntKind.u64.wrap ((if y > x then y else x) - (if y < x then y else x)) = dst x y := by
  unfold U64 at *
  unfold dst
  simp only [wu_eq]
  (repeat' split) <;> omega
theorem dst_nonneg (x y : Int) : 0 ≤ dst x y := by unfold dst; split <;> omega
theorem dst_mod {x y g : Int} (h : g ≠ 0) : g ∣ dst (x % g) (y % g) - dst x y ∨ g ∣ dst (x % g) (y % g) + dst x y := by
  have d1 : g ∣ x % g - x := Int.dvd_emod_sub_self
  have d2 : g ∣ y % g - y := Int.dvd_emod_sub_self
  have d3 := Int.dvd_sub d1 d2
  have d4 := Int.dvd_neg.2 d3
  unfold dst
  split <;> split
  · left; rwa [show y % g - x % g - (y - x) = -(x % g - x - (y % g - y)) by omega]
  · right; rwa [show y % g - x % g + (x - y) = -(x % g - x - (y % g - y)) by omega]
  · right; rwa [show x % g - y % g + (y - x) = (x % g - x - (y % g - y)) by omega]
  · left; rwa [show x % g - y % g - (x - y) = (x % g - x - (y % g - y)) by omega]
theorem join_k {γ : Type} (n : γ) (k : Int × Int → γ) {a0 a1 b0 b1 : Int} (h1 : U64 a0) (h2 : U64 a1) (h3 : U64 b0) (h4 : U64 b1) : cong_Join.c n k a0 a1 b0 b1 = k (joinS a0 a1 b0 b1) := by
  have hj := jg_U h1 h2 h3 h4
  have hn1 := nr_U h1 h2
  have hn3 := nr_U h3 h4
  have z : (0 : Int) ≤ 0 := Int.le_refl 0
  have hg := gg_U h1 h3
  unfold cong_Join.c
  (try unfold cong_Join.c0)
  simp only [norm_s h1 h2, norm_s h3 h4, gcd_g z h1.1, gcd_s z h1.1, gg0 h1.1, gcd_g h1.1 h3.1, gcd_s h1.1 h3.1, gcd_g z hg.1, gcd_s z hg.1, gg0 hg.1, cond_true, cbe]
  rw [dst_wrap (i64u _) (i64u _), rest_s hn1 hg, rest_s hn3 hg, val_nr, val_nr, dst_u (md_U _ hg) (md_U _ hg), gcd_g hg.1 (dst_nonneg _ _), gcd_s hg.1 (dst_nonneg _ _)]
  simp only [cond_true]
  unfold joinS
  by_cases h : gg a0 b0 = 0
  · have e1 : a0 = 0 := by
      rcases Int.lt_or_le 0 a0 with h' | h'
      · have := gg_pos h1.1 h3.1 (.inl (by omega)); omega
      · have := h1.1; omega
    have e2 : b0 = 0 := by
      rcases Int.lt_or_le 0 b0 with h' | h'
      · have := gg_pos h1.1 h3.1 (.inr (by omega)); omega
      · have := h3.1; omega
    rw [if_pos h]
    have e3 : dst (IntKind.i64.wrap (nr a0 a1)) (IntKind.i64.wrap (nr b0 b1)) = jg a0 a1 b0 b1 := by
      unfold jg
      rw [h, gg0 (dst_nonneg _ _)]
      unfold nr val
      simp only [if_pos e1, if_pos e2]
    rw [e3, rest_s hn1 hj, val_nr]
    congr 2
    unfold md
    by_cases g : jg a0 a1 b0 b1 = 0
    · rw [if_pos g, if_pos g]
      unfold val nr
      rw [if_pos e1, if_pos e1, wi_emod]
      unfold U64 at h2
      exact Int.emod_eq_of_lt h2.1 h2.2
    · rw [if_neg g, if_neg g]
  · rw [if_neg h]
    have e3 : gg (gg a0 b0) (dst (md (val a0 a1) (gg a0 b0)) (md (val b0 b1) (gg a0 b0))) = jg a0 a1 b0 b1 := by
      unfold jg md
      rw [if_neg h, if_neg h]
      exact gg_congr hg.1 (dst_nonneg _ _) (dst_nonneg _ _) (dst_mod h)
    rw [e3, rest_s hn1 hj, val_nr]
    have hne : jg a0 a1 b0 b1 ≠ 0 := by
      have := gg_pos hg.1 (dst_nonneg (val a0 a1) (val b0 b1)) (.inl h)
      unfold jg; omega
    unfold md
    rw [if_neg hne, if_neg hne]
theorem join_s {a0 a1 b0 b1 : Int} (h1 : U64 a0) (h2 : U64 a1) (h3 : U64 b0) (h4 : U64 b1) : cong_Join a0 a1 b0 b1 = joinS a0 a1 b0 b1 := join_k _ _ h1 h2 h3 h4
theorem join_ok {a0 a1 b0 b1 : Int} (h1 : U64 a0) (h2 : U64 a1) (h3 : U64 b0) (h4 : U64 b1) : cong_Join.ok a0 a1 b0 b1 = true := join_k _ _ h1 h2 h3 h4
/-- how far it is from a number to a class's next -/
def far1 (m x y : Int) : Int := (x - y) % m
theorem far1_s {m x y : Int} (hm : 0 < m) : far1 m x y = if x % m ≥ y % m then x % m - y % m else m - y % m + x % m := by
  have a1 := Int.emod_nonneg x (show m ≠ 0 by omega)
  have a2 := Int.emod_lt_of_pos x hm
  have b1 := Int.emod_nonneg y (show m ≠ 0 by omega)
  have b2 := Int.emod_lt_of_pos y hm
  unfold far1
  rw [Int.sub_emod]
  by_cases h : x % m ≥ y % m
  · rw [if_pos h, Int.emod_eq_of_lt (by omega) (by omega)]
  · rw [if_neg h]
    exact mod_of (q := -1) (by rw [Int.mul_neg, Int.mul_one]; omega) (by omega) (by omega)
theorem far1_b {m x y : Int} (hm : 0 < m) : 0 ≤ far1 m x y ∧ far1 m x y < m := ⟨Int.emod_nonneg _ (by omega), Int.emod_lt_of_pos _ hm⟩
def upS (m r v : Int) : Int × Bool := if m = 0 then (if IntKind.i64.wrap r < v then (0, false) else (IntKind.i64.wrap r, true)) else if far1 m r v ≤ 9223372036854775807 - v then (v + far1 m r v, true) else (0, false)
def dnS (m r v : Int) : Int × Bool := if m = 0 then (if IntKind.i64.wrap r > v then (0, false) else (IntKind.i64.wrap r, true)) else if far1 m v r ≤ v + 9223372036854775808 then (v - far1 m v r, true) else (0, false)
theorem up_s {m r v : Int} (hm : U64 m) (hr : U64 r) (hv : I64 v) : cong_Up m r v = upS m r v := by
  have hm' := hm
  unfold U64 at hm'
  unfold I64 at hv
  unfold cong_Up cong_Up.c cong_next cong_next.c
  (try unfold cong_Up.c0)
  (try unfold cong_next.c0)
  simp only [norm_s hm hr, alone_s, mod_s hv hm, id, cbe, show decide ((1 : Int) < 0) = false from rfl, cond_false, show decide ((1 : Int) > 0) = true from rfl, Int.mul_one, Bool.cond_decide]
  unfold upS
  by_cases h : m = 0
  · rw [if_pos h, if_pos h]
    have e : nr m r = r := by unfold nr; rw [if_pos h]
    rw [e]
    by_cases g : IntKind.i64.wrap r = v
    · rw [if_pos g, if_neg (by omega)]
    · rw [if_neg g]
      by_cases g2 : IntKind.i64.wrap r > v
      · rw [decide_eq_true g2, if_neg (by omega)]; rfl
      · rw [decide_eq_false g2, if_pos (by omega)]; rfl
  · rw [if_neg h, if_neg h]
    have e : nr m r = r % m := by unfold nr; rw [if_neg h]
    have e2 : md v m = v % m := by unfold md; rw [if_neg h]
    have a1 := Int.emod_nonneg r h
    have a2 := Int.emod_lt_of_pos r (show 0 < m by omega)
    have b1 := Int.emod_nonneg v h
    have b2 := Int.emod_lt_of_pos v (show 0 < m by omega)
    have hb := far1_b (m := m) (x := r) (y := v) (by omega)
    rw [e, e2]
    have hf := far1_s (m := m) (x := r) (y := v) (by omega)
    generalize far1 m r v = f at hf hb ⊢
    generalize r % m = x at *
    generalize v % m = y at *
    simp only [wu_eq, wi_eq]
    by_cases g : x ≥ y
    · rw [if_pos g] at hf
      rw [if_pos g]
      by_cases g2 : f ≤ 9223372036854775807 - v
      · rw [if_pos g2, if_pos (by omega)]; simp only [Prod.mk.injEq, and_true]; omega
      · rw [if_neg g2, if_neg (by omega)]
    · rw [if_neg g] at hf
      rw [if_neg g]
      by_cases g2 : f ≤ 9223372036854775807 - v
      · rw [if_pos g2, if_pos (by omega)]; simp only [Prod.mk.injEq, and_true]; omega
      · rw [if_neg g2, if_neg (by omega)]
theorem dn_s {m r v : Int} (hm : U64 m) (hr : U64 r) (hv : I64 v) : cong_Down m r v = dnS m r v := by
  have hm' := hm
  unfold U64 at hm'
  unfold I64 at hv
  unfold cong_Down cong_Down.c cong_next cong_next.c
  (try unfold cong_Down.c0)
  (try unfold cong_next.c0)
  simp only [norm_s hm hr, alone_s, mod_s hv hm, id, cbe, show decide ((-1 : Int) < 0) = true from rfl, cond_true, show decide ((-1 : Int) > 0) = false from rfl, Int.mul_neg, Int.mul_one, Bool.cond_decide]
  unfold dnS
  by_cases h : m = 0
  · rw [if_pos h, if_pos h]
    have e : nr m r = r := by unfold nr; rw [if_pos h]
    rw [e]
    by_cases g : IntKind.i64.wrap r = v
    · rw [if_pos g, if_neg (by omega)]
    · rw [if_neg g]
      by_cases g2 : IntKind.i64.wrap r > v
      · rw [decide_eq_true g2, if_pos (by omega)]; rfl
      · rw [decide_eq_false g2, if_neg (by omega)]; rfl
  · rw [if_neg h, if_neg h]
    have e : nr m r = r % m := by unfold nr; rw [if_neg h]
    have e2 : md v m = v % m := by unfold md; rw [if_neg h]
    have a1 := Int.emod_nonneg r h
    have a2 := Int.emod_lt_of_pos r (show 0 < m by omega)
    have b1 := Int.emod_nonneg v h
    have b2 := Int.emod_lt_of_pos v (show 0 < m by omega)
    have hb := far1_b (m := m) (x := v) (y := r) (by omega)
    rw [e, e2]
    have hf := far1_s (m := m) (x := v) (y := r) (by omega)
    generalize far1 m v r = f at hf hb ⊢
    generalize r % m = x at *
    generalize v % m = y at *
    simp only [wu_eq, wi_eq]
    by_cases g : y ≥ x
    · rw [if_pos g] at hf
      rw [if_pos g]
      by_cases g2 : f ≤ v + 9223372036854775808
      · rw [if_pos g2, if_pos (by omega)]; simp only [Prod.mk.injEq, and_true]; omega
      · rw [if_neg g2, if_neg (by omega)]
    · rw [if_neg g] at hf
      rw [if_neg g]
      by_cases g2 : f ≤ v + 9223372036854775808
      · rw [if_pos g2, if_pos (by omega)]; simp only [Prod.mk.injEq, and_true]; omega
      · rw [if_neg g2, if_neg (by omega)]
theorem addMod_s {x y m : Int} (hm : U64 m) (hx : 0 ≤ x) (hx2 : x < m) (hy : 0 ≤ y) (hy2 : y < m) : ref_addMod x y m = (x + y) % m := by
  unfold U64 at hm
  unfold ref_addMod ref_addMod.c
  (try unfold ref_addMod.c0)
  simp only [Bool.cond_decide, id]
  rw [wu_id (x := m - y) (by omega) (by omega)]
  by_cases h : x ≥ m - y
  · rw [if_pos h, wu_id (by omega) (by omega)]
    exact (mod_of (q := 1) (by omega) (by omega) (by omega)).symm
  · rw [if_neg h, wu_id (by omega) (by omega), Int.emod_eq_of_lt (by omega) (by omega)]
theorem addMod_far {m x y : Int} (hm : U64 m) (h0 : m ≠ 0) : ref_addMod (x % m) (IntKind.u64.wrap (m - y % m) % m) m = far1 m x y := by
  have hm' := hm
  unfold U64 at hm'
  have a1 := Int.emod_nonneg x h0
  have a2 := Int.emod_lt_of_pos x (show 0 < m by omega)
  have b1 := Int.emod_nonneg y h0
  have b2 := Int.emod_lt_of_pos y (show 0 < m by omega)
  rw [wu_id (by omega) (by omega)]
  rw [addMod_s hm a1 a2 (Int.emod_nonneg _ h0) (Int.emod_lt_of_pos _ (by omega))]
  unfold far1
  rw [Int.add_emod, Int.emod_emod, Int.emod_emod, ← Int.add_emod, Int.sub_emod]
  rw [show x + (m - y % m) = (x - y % m) + m * 1 by omega, Int.add_mul_emod_self_left, Int.sub_emod, Int.emod_emod]
theorem up2_k {γ : Type} (n : γ) (k : Int × Bool → γ) {m r v : Int} (hm : U64 m) (hr : U64 r) (hv : I64 v) : ref_Up.c n k m r v = k (upS m r v) := by
  have hm' := hm
  unfold U64 at hm'
  have z : U64 0 := by unfold U64; omega
  have en : ref_number m r = IntKind.i64.wrap r := by unfold ref_number ref_number.c; (try unfold ref_number.c0); rfl
  unfold ref_Up.c upS
  (try unfold ref_Up.c0)
  simp only [en, const2_s, r_ok hm hr, r_s hm hr, r_s z (u64u v), cbe, cbd, Bool.cond_decide, of_u hm, cond_true]
  by_cases h : m = 0
  · rw [if_pos h, if_pos h]
    by_cases g : IntKind.i64.wrap r < v
    · rw [if_pos g, if_pos g]
    · rw [if_neg g, if_neg g]
  · rw [if_neg h, if_neg h, if_neg h]
    rw [rest2_ok _ (UD (av_val hm hr)) (UD hm) (by omega), rest2_ok _ (UD (av_val z (u64u v))) (UD hm) (by omega), rest2_s _ (UD (av_val hm hr)) (UD hm) (by omega), rest2_s _ (UD (av_val z (u64u v))) (UD hm) (by omega)]
    simp only [sgn, val0 hv, cond_true]
    rw [(sm (emod_U (x := val m r) hm h).2.2).2, (sm (emod_U (x := v) hm h).2.2).2]
    have e : val m r % m = r % m := by unfold val; rw [if_neg h, Int.emod_emod]
    rw [e, Int.tmod_eq_emod_of_nonneg (wu_lo _), addMod_far hm h]
    have hb := far1_b (m := m) (x := r) (y := v) (by omega)
    generalize far1 m r v = f at hb ⊢
    unfold I64 at hv
    simp only [wu_eq, wi_eq]
    by_cases g2 : f ≤ 9223372036854775807 - v
    · rw [if_pos g2, if_neg (by omega)]; congr 2; omega
    · rw [if_neg g2, if_pos (by omega)]
theorem up2_ok {m r v : Int} (hm : U64 m) (hr : U64 r) (hv : I64 v) : ref_Up.ok m r v = true := up2_k _ _ hm hr hv
theorem up2_s {m r v : Int} (hm : U64 m) (hr : U64 r) (hv : I64 v) : ref_Up m r v = upS m r v := up2_k _ _ hm hr hv
theorem dn2_k {γ : Type} (n : γ) (k : Int × Bool → γ) {m r v : Int} (hm : U64 m) (hr : U64 r) (hv : I64 v) : ref_Down.c n k m r v = k (dnS m r v) := by
  have hm' := hm
  unfold U64 at hm'
  have z : U64 0 := by unfold U64; omega
  have en : ref_number m r = IntKind.i64.wrap r := by unfold ref_number ref_number.c; (try unfold ref_number.c0); rfl
  unfold ref_Down.c dnS
  (try unfold ref_Down.c0)
  simp only [en, const2_s, r_ok hm hr, r_s hm hr, r_ok z (u64u v), r_s z (u64u v), cbe, cbd, Bool.cond_decide, of_u hm, cond_true]
  by_cases h : m = 0
  · rw [if_pos h, if_pos h]
    by_cases g : IntKind.i64.wrap r > v
    · rw [if_pos g, if_pos g]
    · rw [if_neg g, if_neg g]
  · rw [if_neg h, if_neg h, if_neg h]
    rw [rest2_ok _ (UD (av_val hm hr)) (UD hm) (by omega), rest2_ok _ (UD (av_val z (u64u v))) (UD hm) (by omega), rest2_s _ (UD (av_val hm hr)) (UD hm) (by omega), rest2_s _ (UD (av_val z (u64u v))) (UD hm) (by omega)]
    simp only [sgn, val0 hv, cond_true]
    rw [(sm (emod_U (x := val m r) hm h).2.2).2, (sm (emod_U (x := v) hm h).2.2).2]
    have e : val m r % m = r % m := by unfold val; rw [if_neg h, Int.emod_emod]
    rw [e, Int.tmod_eq_emod_of_nonneg (wu_lo _), addMod_far hm h]
    have hb := far1_b (m := m) (x := v) (y := r) (by omega)
    generalize far1 m v r = f at hb ⊢
    unfold I64 at hv
    simp only [wu_eq, wi_eq]
    by_cases g2 : f ≤ v + 9223372036854775808
    · rw [if_pos g2, if_neg (by omega)]; congr 2; omega
    · rw [if_neg g2, if_pos (by omega)]
theorem dn2_ok {m r v : Int} (hm : U64 m) (hr : U64 r) (hv : I64 v) : ref_Down.ok m r v = true := dn2_k _ _ hm hr hv
theorem dn2_s {m r v : Int} (hm : U64 m) (hr : U64 r) (hv : I64 v) : ref_Down m r v = dnS m r v := dn2_k _ _ hm hr hv
end Go.Proofs.YtoggbmfjkcbilaaDoor.V
