/- Normal forms, order, members, joins, next numbers of classes. Conditions: none. -/
import Derived.Test.YtonpbbhlmapbdaaGreatDoorBN1
set_option linter.unusedVariables false
set_option linter.unusedSimpArgs false
namespace Go.Proofs.YtonpbbhlmapbdaaGreatDoor.V.B
open Go Go.Wk

/-- a number of two words -/
def D (x : Int) : Prop := 0 ≤ x ∧ x < 340282366920938463463374607431768211456
theorem less_s {x y : Int} (hx : D x) (hy : D y) : ref_less (x / 18446744073709551616) (x % 18446744073709551616) (y / 18446744073709551616) (y % 18446744073709551616) = decide (x < y) := by
  unfold D at hx hy
  unfold ref_less ref_less.c
  (try unfold ref_less.c0)
  simp only [Bool.cond_decide, cbe, id]
  by_cases h1 : x / 18446744073709551616 < y / 18446744073709551616
  · rw [if_pos h1, eq_comm, decide_eq_true_eq]; omega
  · rw [if_neg h1]
    by_cases h2 : x / 18446744073709551616 = y / 18446744073709551616
    · rw [if_pos h2, decide_eq_decide]; omega
    · rw [if_neg h2, eq_comm, decide_eq_false_iff_not]; omega
theorem half (A : Int) (i : Nat) : A / 2 ^ i = 2 * (A / 2 ^ (i + 1)) + A / 2 ^ i % 2 := by
  have : (2 : Int) ^ (i + 1) = 2 ^ i * 2 := Int.pow_succ 2 i
  rw [this, ← Int.ediv_ediv_of_nonneg (Int.le_of_lt (Int.pow_pos (by decide)))]
  omega
theorem ediv_D {A : Int} (hA : D A) {p : Int} (hp : 0 < p) : D (A / p) := by
  unfold D at *
  exact ⟨Int.ediv_nonneg hA.1 (by omega), Int.lt_of_le_of_lt (Int.ediv_le_self p hA.1) hA.2⟩
open Go Go.Wk

theorem gg_D {a b : Int} (ha : D a) (hb : D b) : D (gg a b) := by
  unfold D at *
  refine ⟨gg_nonneg a b, ?_⟩
  by_cases h : a = 0
  · by_cases h' : b = 0
    · subst h h'; decide
    · rw [gg_comm]; have := gg_le hb.1 ha.1 h'; omega
  · have := gg_le ha.1 hb.1 h; omega
def av (v : Int) : Int := if v < 0 then -v else v
theorem av_U {v : Int} (hv : I64 v) : U64 (av v) := by unfold I64 at hv; unfold U64 av; split <;> omega
/-- a raw class's remainder, in normal form -/
def nr (m r : Int) : Int := if m = 0 then r else r % m
/-- a raw class's whole number -/
def val (m r : Int) : Int := if m = 0 then IntKind.i64.wrap r else r % m
theorem val_nr (m r : Int) : vc m (nr m r) = val m r := by unfold vc nr val; by_cases h : m = 0 <;> simp [h]
theorem nr_U {m r : Int} (hm : U64 m) (hr : U64 r) : U64 (nr m r) := by
  unfold nr; by_cases h : m = 0
  · rw [if_pos h]; exact hr
  · rw [if_neg h]; exact (emod_U hm h).2.2
theorem norm_k {γ : Type} (n : γ) (k : Int × Int → γ) {m r : Int} (hm : U64 m) (hr : U64 r) : cong_Norm.c n k m r = k (m, nr m r) := by
  unfold U64 at *
  unfold cong_Norm.c nr
  (try unfold cong_Norm.c0)
  simp only [Bool.cond_decide, cbd]
  by_cases h : m = 0
  · rw [if_neg (by omega), if_pos h]
  · rw [if_pos (by omega), if_neg h, if_neg h, Int.tmod_eq_emod_of_nonneg hr.1]
theorem norm_s {m r : Int} (hm : U64 m) (hr : U64 r) : cong_Norm m r = (m, nr m r) := norm_k _ _ hm hr
theorem val_b {m r : Int} (hm : U64 m) (hr : U64 r) : -9223372036854775808 ≤ val m r ∧ val m r < 18446744073709551616 := by
  unfold val
  by_cases h : m = 0
  · rw [if_pos h]; have := i64u r; unfold I64 at this; omega
  · rw [if_neg h]; have := emod_U (x := r) hm h; unfold U64 at hm; omega
theorem av_val {m r : Int} (hm : U64 m) (hr : U64 r) : U64 (av (val m r)) := by
  have := val_b hm hr
  unfold U64 av; split <;> omega
/-- order -/
def leqS (a0 a1 b0 b1 : Int) : Bool := if b0 = 0 then decide (a0 = 0 ∧ a1 = b1) else decide (a0 % b0 = 0 ∧ val a0 a1 % b0 = val b0 b1 % b0)
theorem leq_k {γ : Type} (n : γ) (k : Bool → γ) {a0 a1 b0 b1 : Int} (h1 : U64 a0) (h2 : U64 a1) (h3 : U64 b0) (h4 : U64 b1) : cong_Leq.c n k a0 a1 b0 b1 = k (leqS a0 a1 b0 b1) := by
  unfold cong_Leq.c leqS
  (try unfold cong_Leq.c0)
  simp only [norm_s h1 h2, norm_s h3 h4, alone_s, cbe, cbd]
  rw [rest_s (nr_U h1 h2) h3, val_nr]
  by_cases h : b0 = 0
  · rw [if_pos h, if_pos h]
    congr 1
    rw [Bool.eq_iff_iff]
    unfold nr
    by_cases g : a0 = 0
    · simp [g, h]
    · simp [g, h]
  · rw [if_neg h, if_neg h, if_neg h]
    have h1' := h1
    unfold U64 at h1'
    rw [Int.tmod_eq_emod_of_nonneg h1'.1]
    have e : md (val a0 a1) b0 = val a0 a1 % b0 := by unfold md; rw [if_neg h]
    have e2 : val b0 b1 % b0 = nr b0 b1 := by unfold val nr; rw [if_neg h, if_neg h, Int.emod_emod]
    rw [e, e2]
    by_cases g : a0 % b0 = 0
    · rw [if_pos g]; congr 1; rw [Bool.eq_iff_iff]; simp [g]
    · rw [if_neg g, decide_eq_false (by omega)]
theorem leq_ok {a0 a1 b0 b1 : Int} (h1 : U64 a0) (h2 : U64 a1) (h3 : U64 b0) (h4 : U64 b1) : cong_Leq.ok a0 a1 b0 b1 = true := leq_k _ _ h1 h2 h3 h4
theorem leq_s {a0 a1 b0 b1 : Int} (h1 : U64 a0) (h2 : U64 a1) (h3 : U64 b0) (h4 : U64 b1) : cong_Leq a0 a1 b0 b1 = leqS a0 a1 b0 b1 := leq_k _ _ h1 h2 h3 h4
/-- members -/
def hasS (m r v : Int) : Bool := if m = 0 then decide (v = IntKind.i64.wrap r) else decide (v % m = r % m)
theorem has_s {m r v : Int} (hm : U64 m) (hr : U64 r) (hv : I64 v) : cong_Has m r v = hasS m r v := by
  unfold cong_Has cong_Has.c hasS
  (try unfold cong_Has.c0)
  simp only [norm_s hm hr, mod_s hv hm, id]
  unfold md nr
  by_cases h : m = 0
  · simp only [if_pos h]
    rw [Bool.eq_iff_iff, beq_iff_eq, decide_eq_true_eq]
    unfold U64 at hr; unfold I64 at hv
    rw [wi_eq]; omega
  · simp only [if_neg h]
    rw [Bool.eq_iff_iff, beq_iff_eq, decide_eq_true_eq]
theorem const_s (v : Int) : cong_Const v = (0, IntKind.u64.wrap v) := by unfold cong_Const cong_Const.c; (try unfold cong_Const.c0); rfl
theorem val0 {v : Int} (hv : I64 v) : val 0 (IntKind.u64.wrap v) = v := by
  unfold I64 at hv
  unfold val; rw [if_pos rfl, wi_eq, wu_eq]; omega
open Go Go.Wk

theorem gg_congr {g p q : Int} (hg : 0 ≤ g) (hp : 0 ≤ p) (hq : 0 ≤ q) (h : g ∣ p - q ∨ g ∣ p + q) : gg g p = gg g q := by
  have key : ∀ p q : Int, 0 ≤ p → 0 ≤ q → (g ∣ p - q ∨ g ∣ p + q) → gg g p ∣ gg g q := by
    intro p q hp hq h
    obtain ⟨h1, h2⟩ := gg_dvd hg hp
    refine dvd_gg hg hq h1 ?_
    rcases h with h | h
    · have := Int.dvd_sub h2 (Int.dvd_trans h1 h)
      rwa [show p - (p - q) = q by omega] at this
    · have := Int.dvd_sub (Int.dvd_trans h1 h) h2
      rwa [show p + q - p = q by omega] at this
  have h' : g ∣ q - p ∨ g ∣ q + p := by
    rcases h with h | h
    · left; have := Int.dvd_neg.2 h; rwa [show -(p - q) = q - p by omega] at this
    · right; rwa [Int.add_comm]
  exact Int.dvd_antisymm (gg_nonneg _ _) (gg_nonneg _ _) (key p q hp hq h) (key q p hq hp h')
theorem gg0 {a : Int} (ha : 0 ≤ a) : gg 0 a = a := by rw [gg_comm, gg_zero ha]
/-- how far apart two whole numbers are -/
def dst (x y : Int) : Int := if x < y then y - x else x - y
/-- the modulus of a join -/
def jg (a0 a1 b0 b1 : Int) : Int := gg (gg a0 b0) (dst (val a0 a1) (val b0 b1))
def joinS (a0 a1 b0 b1 : Int) : Int × Int := (jg a0 a1 b0 b1, if jg a0 a1 b0 b1 = 0 then nr a0 a1 else val a0 a1 % jg a0 a1 b0 b1)
theorem jg_U {a0 a1 b0 b1 : Int} (h1 : U64 a0) (h2 : U64 a1) (h3 : U64 b0) (h4 : U64 b1) : U64 (jg a0 a1 b0 b1) := by
  have g := gg_U h1 h3
  have v1 := val_b h1 h2
  have v2 := val_b h3 h4
  have hd : 0 ≤ dst (val a0 a1) (val b0 b1) := by unfold dst; split <;> omega
  unfold jg
  by_cases h : gg a0 b0 = 0
  · have e1 : a0 = 0 := by
      rcases Int.lt_or_le 0 a0 with h' | h'
      · have := gg_pos h1.1 h3.1 (.inl (by omega)); omega
      · have := h1.1; omega
    have e2 : b0 = 0 := by
      rcases Int.lt_or_le 0 b0 with h' | h'
      · have := gg_pos h1.1 h3.1 (.inr (by omega)); omega
      · have := h3.1; omega
    rw [h, gg0 hd]
    have w1 := i64u a1
    have w2 := i64u b1
    unfold val dst
    rw [if_pos e1, if_pos e2]
    unfold I64 at w1 w2; unfold U64
    split <;> omega
  · have := gg_le (gg_nonneg a0 b0) hd h
    unfold U64 at g ⊢
    exact ⟨gg_nonneg _ _, by omega⟩
theorem zero2 {g : Int} (hg : D g) : (g / 18446744073709551616 == 0 && (g % 18446744073709551616 == 0 && true)) = decide (g = 0) := by
  unfold D at hg
  rw [Bool.eq_iff_iff]
  simp only [Bool.and_true, Bool.and_eq_true, beq_iff_eq, decide_eq_true_eq]
  omega
theorem dst_wrap {x y : Int} (hx : I64 x) (hy : I64 y) : IntKind.u64.wrap (IntKind.u64.wrap (if y > x then y else x) - IntKind.u64.wrap (if y < x then y else x)) = dst x y := by
  unfold I64 at *
  unfold dst
  simp only [wu_eq]
  (repeat' split) <;> omega
theorem dst_u {x y : Int} (hx : U64 x) (hy : U64 y) : IntKind.u64.wrap ((if y > x then y else x) - (if y < x then y else x)) = dst x y := by
  unfold U64 at *
  unfold dst
  simp only [wu_eq]
  (repeat' split) <;> omega
theorem dst_nonneg (x y : Int) : 0 ≤ dst x y := by unfold dst; split <;> omega
theorem dst_mod {x y g : Int} (h : g ≠ 0) : g ∣ dst (x % g) (y % g) - dst x y ∨ g ∣ dst (x % g) (y % g) + dst x y := by
  have d1 : g ∣ x % g - x := Int.dvd_emod_sub_self
  have d2 : g ∣ y % g - y := Int.dvd_emod_sub_self
  have d3 := Int.dvd_sub d1 d2
  have d4 := Int.dvd_neg.2 d3
  unfold dst
  split <;> split
  · left; rwa [show y % g - x % g - (y - x) = -(x % g - x - (y % g - y)) by omega]
  · right; rwa [show y % g - x % g + (x - y) = -(x % g - x - (y % g - y)) by omega]
  · right; rwa [show x % g - y % g + (y - x) = (x % g - x - (y % g - y)) by omega]
  · left; rwa [show x % g - y % g - (x - y) = (x % g - x - (y % g - y)) by omega]
theorem join_k {γ : Type} (n : γ) (k : Int × Int → γ) {a0 a1 b0 b1 : Int} (h1 : U64 a0) (h2 : U64 a1) (h3 : U64 b0) (h4 : U64 b1) : cong_Join.c n k a0 a1 b0 b1 = k (joinS a0 a1 b0 b1) := by
  have hj := jg_U h1 h2 h3 h4
  have hn1 := nr_U h1 h2
  have hn3 := nr_U h3 h4
  have z : (0 : Int) ≤ 0 := Int.le_refl 0
  have hg := gg_U h1 h3
  unfold cong_Join.c
  (try unfold cong_Join.c0)
  simp only [norm_s h1 h2, norm_s h3 h4, gcd_g z h1.1, gcd_s z h1.1, gg0 h1.1, gcd_g h1.1 h3.1, gcd_s h1.1 h3.1, gcd_g z hg.1, gcd_s z hg.1, gg0 hg.1, cond_true, cbe]
  rw [dst_wrap (i64u _) (i64u _), rest_s hn1 hg, rest_s hn3 hg, val_nr, val_nr, dst_u (md_U _ hg) (md_U _ hg), gcd_g hg.1 (dst_nonneg _ _), gcd_s hg.1 (dst_nonneg _ _)]
  simp only [cond_true]
  unfold joinS
  by_cases h : gg a0 b0 = 0
  · have e1 : a0 = 0 := by
      rcases Int.lt_or_le 0 a0 with h' | h'
      · have := gg_pos h1.1 h3.1 (.inl (by omega)); omega
      · have := h1.1; omega
    have e2 : b0 = 0 := by
      rcases Int.lt_or_le 0 b0 with h' | h'
      · have := gg_pos h1.1 h3.1 (.inr (by omega)); omega
      · have := h3.1; omega
    rw [if_pos h]
    have e3 : dst (IntKind.i64.wrap (nr a0 a1)) (IntKind.i64.wrap (nr b0 b1)) = jg a0 a1 b0 b1 := by
      unfold jg
      rw [h, gg0 (dst_nonneg _ _)]
      unfold nr val
      simp only [if_pos e1, if_pos e2]
    rw [e3, rest_s hn1 hj, val_nr]
    congr 2
    unfold md
    by_cases g : jg a0 a1 b0 b1 = 0
    · rw [if_pos g, if_pos g]
      unfold val nr
      rw [if_pos e1, if_pos e1, wi_emod]
      unfold U64 at h2
      exact Int.emod_eq_of_lt h2.1 h2.2
    · rw [if_neg g, if_neg g]
  · rw [if_neg h]
    have e3 : gg (gg a0 b0) (dst (md (val a0 a1) (gg a0 b0)) (md (val b0 b1) (gg a0 b0))) = jg a0 a1 b0 b1 := by
      unfold jg md
      rw [if_neg h, if_neg h]
      exact gg_congr hg.1 (dst_nonneg _ _) (dst_nonneg _ _) (dst_mod h)
    rw [e3, rest_s hn1 hj, val_nr]
    have hne : jg a0 a1 b0 b1 ≠ 0 := by
      have := gg_pos hg.1 (dst_nonneg (val a0 a1) (val b0 b1)) (.inl h)
      unfold jg; omega
    unfold md
    rw [if_neg hne, if_neg hne]
theorem join_s {a0 a1 b0 b1 : Int} (h1 : U64 a0) (h2 : U64 a1) (h3 : U64 b0) (h4 : U64 b1) : cong_Join a0 a1 b0 b1 = joinS a0 a1 b0 b1 := join_k _ _ h1 h2 h3 h4
theorem join_ok {a0 a1 b0 b1 : Int} (h1 : U64 a0) (h2 : U64 a1) (h3 : U64 b0) (h4 : U64 b1) : cong_Join.ok a0 a1 b0 b1 = true := join_k _ _ h1 h2 h3 h4
/-- how far it is from a number to a class's next -/
def far1 (m x y : Int) : Int := (x - y) % m
theorem far1_s {m x y : Int} (hm : 0 < m) : far1 m x y = if x % m ≥ y % m then x % m - y % m else m - y % m + x % m := by
  have a1 := Int.emod_nonneg x (show m ≠ 0 by omega)
  have a2 := Int.emod_lt_of_pos x hm
  have b1 := Int.emod_nonneg y (show m ≠ 0 by omega)
  have b2 := Int.emod_lt_of_pos y hm
  unfold far1
  rw [Int.sub_emod]
  by_cases h : x % m ≥ y % m
  · rw [if_pos h, Int.emod_eq_of_lt (by omega) (by omega)]
  · rw [if_neg h]
    exact mod_of (q := -1) (by rw [Int.mul_neg, Int.mul_one]; omega) (by omega) (by omega)
theorem far1_b {m x y : Int} (hm : 0 < m) : 0 ≤ far1 m x y ∧ far1 m x y < m := ⟨Int.emod_nonneg _ (by omega), Int.emod_lt_of_pos _ hm⟩
def upS (m r v : Int) : Int × Bool := if m = 0 then (if IntKind.i64.wrap r < v then (0, false) else (IntKind.i64.wrap r, true)) else if far1 m r v ≤ 9223372036854775807 - v then (v + far1 m r v, true) else (0, false)
def dnS (m r v : Int) : Int × Bool := if m = 0 then (if IntKind.i64.wrap r > v then (0, false) else (IntKind.i64.wrap r, true)) else if far1 m v r ≤ v + 9223372036854775808 then (v - far1 m v r, true) else (0, false)
theorem up_s {m r v : Int} (hm : U64 m) (hr : U64 r) (hv : I64 v) : cong_Up m r v = upS m r v := by
  have hm' := hm
  unfold U64 at hm'
  unfold I64 at hv
  unfold cong_Up cong_Up.c cong_next cong_next.c
  (try unfold cong_Up.c0)
  (try unfold cong_next.c0)
  simp only [norm_s hm hr, alone_s, mod_s hv hm, id, cbe, show decide ((1 : Int) < 0) = false from rfl, cond_false, show decide ((1 : Int) > 0) = true from rfl, Int.mul_one, Bool.cond_decide]
  unfold upS
  by_cases h : m = 0
  · rw [if_pos h, if_pos h]
    have e : nr m r = r := by unfold nr; rw [if_pos h]
    rw [e]
    by_cases g : IntKind.i64.wrap r = v
    · rw [if_pos g, if_neg (by omega)]
    · rw [if_neg g]
      by_cases g2 : IntKind.i64.wrap r > v
      · rw [decide_eq_true g2, if_neg (by omega)]; rfl
      · rw [decide_eq_false g2, if_pos (by omega)]; rfl
  · rw [if_neg h, if_neg h]
    have e : nr m r = r % m := by unfold nr; rw [if_neg h]
    have e2 : md v m = v % m := by unfold md; rw [if_neg h]
    have a1 := Int.emod_nonneg r h
    have a2 := Int.emod_lt_of_pos r (show 0 < m by omega)
    have b1 := Int.emod_nonneg v h
    have b2 := Int.emod_lt_of_pos v (show 0 < m by omega)
    have hb := far1_b (m := m) (x := r) (y := v) (by omega)
    rw [e, e2]
    have hf := far1_s (m := m) (x := r) (y := v) (by omega)
    generalize far1 m r v = f at hf hb ⊢
    generalize r % m = x at *
    generalize v % m = y at *
    simp only [wu_eq, wi_eq]
    by_cases g : x ≥ y
    · rw [if_pos g] at hf
      rw [if_pos g]
      by_cases g2 : f ≤ 9223372036854775807 - v
      · rw [if_pos g2, if_pos (by omega)]; simp only [Prod.mk.injEq, and_true]; omega
      · rw [if_neg g2, if_neg (by omega)]
    · rw [if_neg g] at hf
      rw [if_neg g]
      by_cases g2 : f ≤ 9223372036854775807 - v
      · rw [if_pos g2, if_pos (by omega)]; simp only [Prod.mk.injEq, and_true]; omega
      · rw [if_neg g2, if_neg (by omega)]
theorem dn_s {m r v : Int} (hm : U64 m) (hr : U64 r) (hv : I64 v) : cong_Down m r v = dnS m r v := by
  have hm' := hm
  unfold U64 at hm'
  unfold I64 at hv
  unfold cong_Down cong_Down.c cong_next cong_next.c
  (try unfold cong_Down.c0)
  (try unfold cong_next.c0)
  simp only [norm_s hm hr, alone_s, mod_s hv hm, id, cbe, show decide ((-1 : Int) < 0) = true from rfl, cond_true, show decide ((-1 : Int) > 0) = false from rfl, Int.mul_neg, Int.mul_one, Bool.cond_decide]
  unfold dnS
  by_cases h : m = 0
  · rw [if_pos h, if_pos h]
    have e : nr m r = r := by unfold nr; rw [if_pos h]
    rw [e]
    by_cases g : IntKind.i64.wrap r = v
    · rw [if_pos g, if_neg (by omega)]
    · rw [if_neg g]
      by_cases g2 : IntKind.i64.wrap r > v
      · rw [decide_eq_true g2, if_pos (by omega)]; rfl
      · rw [decide_eq_false g2, if_neg (by omega)]; rfl
  · rw [if_neg h, if_neg h]
    have e : nr m r = r % m := by unfold nr; rw [if_neg h]
    have e2 : md v m = v % m := by unfold md; rw [if_neg h]
    have a1 := Int.emod_nonneg r h
    have a2 := Int.emod_lt_of_pos r (show 0 < m by omega)
    have b1 := Int.emod_nonneg v h
    have b2 := Int.emod_lt_of_pos v (show 0 < m by omega)
    have hb := far1_b (m := m) (x := v) (y := r) (by omega)
    rw [e, e2]
    have hf := far1_s (m := m) (x := v) (y := r) (by omega)
    generalize far1 m v r = f at hf hb ⊢
    generalize r % m = x at *
    generalize v % m = y at *
    simp only [wu_eq, wi_eq]
    by_cases g : y ≥ x
    · rw [if_pos g] at hf
      rw [if_pos g]
      by_cases g2 : f ≤ v + 9223372036854775808
      · rw [if_pos g2, if_pos (by omega)]; simp only [Prod.mk.injEq, and_true]; omega
      · rw [if_neg g2, if_neg (by omega)]
    · rw [if_neg g] at hf
      rw [if_neg g]
      by_cases g2 : f ≤ v + 9223372036854775808
      · rw [if_pos g2, if_pos (by omega)]; simp only [Prod.mk.injEq, and_true]; omega
      · rw [if_neg g2, if_neg (by omega)]
end Go.Proofs.YtonpbbhlmapbdaaGreatDoor.V.B
