/- Operations on classes hold of the numbers. Conditions: none. -/
import Derived.Test.YtonpbbhlmapbdaaGreatDoorBN6
set_option linter.unusedVariables false
set_option linter.unusedSimpArgs false
namespace Go.Proofs.YtonpbbhlmapbdaaGreatDoor.V.B
open Go Go.Wk Go.RowKit
theorem pow_le_dvd {i j : Nat} (h : i ≤ j) : (2 : Int) ^ i ∣ 2 ^ j := ⟨2 ^ (j - i), by rw [← Int.pow_add]; congr 1; omega⟩
theorem tw_dvd {g : Int} (h : 0 < g) : tw g ∣ g := by
  obtain ⟨o, e, _⟩ := tzn_s h
  unfold tw
  exact Int.dvd_trans (pow_le_dvd (Nat.min_le_right 63 _)) ⟨o, e⟩
theorem tw_64 (g : Int) : tw g ∣ 18446744073709551616 := by
  unfold tw
  have : (18446744073709551616 : Int) = 2 ^ 64 := rfl
  rw [this]
  exact pow_le_dvd (by omega)
theorem wrap_d (z : Int) : (18446744073709551616 : Int) ∣ IntKind.i64.wrap z - z := by rw [wi_eq]; omega
theorem bm_has {g w z : Int} {e : Bool} (h0 : 0 < g) (hd : g ∣ z - w) (h : e = true → I64 z) : hasS (bm g e) (w % bm g e) (IntKind.i64.wrap z) = true := by
  obtain ⟨hu, hn⟩ := bm_U e h0
  rw [has_iff]
  unfold val
  rw [if_neg hn, ← mdd, Int.emod_emod_of_dvd _ (Int.dvd_refl _), Int.emod_emod_of_dvd _ (Int.dvd_refl _), mdd]
  unfold bm
  by_cases c : e = true ∧ g < 18446744073709551616
  · rw [if_pos c]
    obtain ⟨q1, q2⟩ := h c.1
    rw [wi_id q1 q2]
    exact hd
  · rw [if_neg c]
    have := Int.dvd_add (Int.dvd_trans (tw_64 g) (wrap_d z)) (Int.dvd_trans (tw_dvd h0) hd)
    rwa [show ∀ x y z : Int, x - y + (y - z) = x - z from fun x y z => by omega] at this
theorem bm_res {g w : Int} {e : Bool} (h0 : 0 < g) : U64 (bm g e) ∧ U64 (w % bm g e) := by
  obtain ⟨hu, hn⟩ := bm_U e h0
  exact ⟨hu, (emod_U hu hn).2.2⟩
theorem wi_wu (x : Int) : IntKind.i64.wrap (IntKind.u64.wrap x) = IntKind.i64.wrap x := by rw [wi_eq, wu_eq, wi_eq]; omega
theorem wi_wi (x : Int) : IntKind.i64.wrap (IntKind.i64.wrap x) = IntKind.i64.wrap x := by rw [wi_eq, wi_eq]; omega
theorem const_has (z : Int) : hasS 0 (IntKind.u64.wrap (IntKind.i64.wrap z)) (IntKind.i64.wrap z) = true := by
  unfold hasS; rw [if_pos rfl, wi_wu, wi_wi, decide_eq_true_eq]
theorem has0 {r x : Int} (h : hasS 0 r x = true) : x = IntKind.i64.wrap r := by unfold hasS at h; simpa using h
theorem z_U : U64 0 := by unfold U64; omega
theorem neg_has {m r x : Int} {e : Bool} (hm : U64 m) (hr : U64 r) (hx : I64 x) (hh : hasS m r x = true) (h : e = true → x ≠ -9223372036854775808) :
    U64 (negS m r e).1 ∧ U64 (negS m r e).2 ∧ hasS (negS m r e).1 (negS m r e).2 (IntKind.i64.wrap (0 - x)) = true := by
  unfold negS
  by_cases c : m = 0
  · subst c
    simp only [if_true]
    have := has0 hh
    subst this
    rw [show 0 - IntKind.i64.wrap r = -IntKind.i64.wrap r by omega]
    exact ⟨z_U, u64u _, const_has _⟩
  · simp only [if_neg c]
    have h0 : 0 < m := by unfold U64 at hm; omega
    have := bm_res (w := -val m r) (e := e) h0
    refine ⟨this.1, this.2, bm_has h0 ?_ fun he => ?_⟩
    · have := Int.dvd_neg.2 (has_iff.1 hh)
      rwa [show ∀ a b : Int, -(a - b) = 0 - a - -b from fun a b => by omega] at this
    · have := h he
      unfold I64 at *
      omega
theorem add_has {a0 a1 b0 b1 x y : Int} {e : Bool} (h1 : U64 a0) (h2 : U64 a1) (h3 : U64 b0) (h4 : U64 b1) (hx : hasS a0 a1 x = true) (hy : hasS b0 b1 y = true) (h : e = true → I64 (x + y)) :
    U64 (addS a0 a1 b0 b1 e).1 ∧ U64 (addS a0 a1 b0 b1 e).2 ∧ hasS (addS a0 a1 b0 b1 e).1 (addS a0 a1 b0 b1 e).2 (IntKind.i64.wrap (x + y)) = true := by
  unfold addS
  by_cases c : a0 = 0 ∧ b0 = 0
  · obtain ⟨rfl, rfl⟩ := c
    simp only [and_self, if_true]
    rw [has0 hx, has0 hy]
    exact ⟨z_U, u64u _, const_has _⟩
  · simp only [if_neg c]
    have h0 := gg_pos h1.1 h3.1 (by omega)
    have := bm_res (w := val a0 a1 + val b0 b1) (e := e) h0
    obtain ⟨d1, d2⟩ := gg_dvd h1.1 h3.1
    refine ⟨this.1, this.2, bm_has h0 ?_ h⟩
    have := Int.dvd_add (Int.dvd_trans d1 (has_iff.1 hx)) (Int.dvd_trans d2 (has_iff.1 hy))
    rwa [show ∀ a b c d : Int, a - b + (c - d) = a + c - (b + d) from fun a b c d => by omega] at this
theorem sub_has {a0 a1 b0 b1 x y : Int} {e : Bool} (h1 : U64 a0) (h2 : U64 a1) (h3 : U64 b0) (h4 : U64 b1) (hx : hasS a0 a1 x = true) (hy : hasS b0 b1 y = true) (h : e = true → I64 (x - y)) :
    U64 (subS a0 a1 b0 b1 e).1 ∧ U64 (subS a0 a1 b0 b1 e).2 ∧ hasS (subS a0 a1 b0 b1 e).1 (subS a0 a1 b0 b1 e).2 (IntKind.i64.wrap (x - y)) = true := by
  unfold subS
  by_cases c : a0 = 0 ∧ b0 = 0
  · obtain ⟨rfl, rfl⟩ := c
    simp only [and_self, if_true]
    rw [has0 hx, has0 hy]
    exact ⟨z_U, u64u _, const_has _⟩
  · simp only [if_neg c]
    have h0 := gg_pos h1.1 h3.1 (by omega)
    have := bm_res (w := val a0 a1 - val b0 b1) (e := e) h0
    obtain ⟨d1, d2⟩ := gg_dvd h1.1 h3.1
    refine ⟨this.1, this.2, bm_has h0 ?_ h⟩
    have := Int.dvd_sub (Int.dvd_trans d1 (has_iff.1 hx)) (Int.dvd_trans d2 (has_iff.1 hy))
    rwa [show ∀ a b c d : Int, a - b - (c - d) = a - c - (b - d) from fun a b c d => by omega] at this
theorem av_dvd {c v : Int} : c ∣ av v ↔ c ∣ v := by
  unfold av
  split
  · exact Int.dvd_neg
  · exact Iff.rfl
theorem mul_has {a0 a1 b0 b1 x y : Int} {e : Bool} (h1 : U64 a0) (h2 : U64 a1) (h3 : U64 b0) (h4 : U64 b1) (hx : hasS a0 a1 x = true) (hy : hasS b0 b1 y = true) (h : e = true → I64 (x * y)) :
    U64 (mulS a0 a1 b0 b1 e).1 ∧ U64 (mulS a0 a1 b0 b1 e).2 ∧ hasS (mulS a0 a1 b0 b1 e).1 (mulS a0 a1 b0 b1 e).2 (IntKind.i64.wrap (x * y)) = true := by
  unfold mulS
  by_cases c : a0 = 0 ∧ b0 = 0
  · obtain ⟨rfl, rfl⟩ := c
    simp only [and_self, if_true]
    rw [has0 hx, has0 hy]
    exact ⟨z_U, u64u _, const_has _⟩
  · simp only [if_neg c]
    by_cases c2 : a0 = 0 ∧ a1 = 0 ∨ b0 = 0 ∧ b1 = 0
    · simp only [if_pos c2]
      have : x * y = 0 := by
        rcases c2 with ⟨rfl, rfl⟩ | ⟨rfl, rfl⟩
        · rw [has0 hx, show IntKind.i64.wrap 0 = 0 from rfl, Int.zero_mul]
        · rw [has0 hy, show IntKind.i64.wrap 0 = 0 from rfl, Int.mul_zero]
      rw [this]
      exact ⟨z_U, z_U, rfl⟩
    · simp only [if_neg c2]
      have h0 := mg_pos h1 h2 h3 h4 c c2
      have := bm_res (w := val a0 a1 * val b0 b1) (e := e) h0
      refine ⟨this.1, this.2, bm_has h0 ?_ h⟩
      have av0 (v : Int) : 0 ≤ av v := by unfold av; split <;> omega
      have k1 : mg a0 a1 b0 b1 ∣ a0 * b0 ∧ mg a0 a1 b0 b1 ∣ val a0 a1 * b0 ∧ mg a0 a1 b0 b1 ∣ val b0 b1 * a0 := by
        have p1 := Int.mul_nonneg h1.1 h3.1
        have p2 := Int.mul_nonneg (av0 (val a0 a1)) h3.1
        have p3 := Int.mul_nonneg (av0 (val b0 b1)) h1.1
        have := (gg_iff (c := mg a0 a1 b0 b1) p1 (gg_nonneg (av (val a0 a1) * b0) (av (val b0 b1) * a0))).1 (Int.dvd_refl _)
        have q := (gg_iff p2 p3).1 this.2
        have sgn1 (u w : Int) (g : Int) (h : g ∣ av u * w) : g ∣ u * w := by
          unfold av at h
          split at h
          · rw [Int.neg_mul, Int.dvd_neg] at h; exact h
          · exact h
        exact ⟨this.1, sgn1 _ _ _ q.1, sgn1 _ _ _ q.2⟩
      obtain ⟨i, hi⟩ := has_iff.1 hx
      obtain ⟨j, hj⟩ := has_iff.1 hy
      have ex : x = val a0 a1 + a0 * i := by omega
      have ey : y = val b0 b1 + b0 * j := by omega
      have e : x * y - val a0 a1 * val b0 b1 = a0 * b0 * (i * j) + (val a0 a1 * b0 * j + val b0 b1 * a0 * i) := by
        rw [ex, ey, Int.add_mul, Int.mul_add, Int.mul_add]
        have r1 : a0 * i * (b0 * j) = a0 * b0 * (i * j) := by rw [Int.mul_assoc, Int.mul_left_comm i b0 j, ← Int.mul_assoc]
        have r2 : a0 * i * val b0 b1 = val b0 b1 * a0 * i := by rw [Int.mul_comm, ← Int.mul_assoc]
        have r3 : val a0 a1 * (b0 * j) = val a0 a1 * b0 * j := by rw [Int.mul_assoc]
        rw [r1, r2, r3]
        omega
      rw [e]
      exact Int.dvd_add (Int.dvd_mul_of_dvd_left k1.1) (Int.dvd_add (Int.dvd_mul_of_dvd_left k1.2.1) (Int.dvd_mul_of_dvd_left k1.2.2))
open Go Go.Wk Go.RowKit
theorem has_one (v : Int) : hasS 1 0 v = true := by rw [has_iff]; exact Int.one_dvd _
theorem one_U : U64 1 := by unfold U64; omega
theorem tdiv_far {x y : Int} (hx : I64 x) (hy : y ≠ -1) (h0 : y ≠ 0) : I64 (x.tdiv y) := by
  unfold I64 at *
  have h1 : (x.tdiv y).natAbs = x.natAbs / y.natAbs := Int.natAbs_tdiv x y
  have h2 : (x.natAbs / y.natAbs) ≤ x.natAbs := Nat.div_le_self _ _
  by_cases c : y = 1
  · subst c; rw [Int.tdiv_one]; exact hx
  · have h3 : x.natAbs / y.natAbs ≤ x.natAbs / 2 := Nat.div_le_div_left (by omega) (by omega)
    omega
theorem qw_eq {x y : Int} (hx : I64 x) (h0 : y ≠ 0) (hy : y ≠ -1) : qw x y = x.tdiv y := by
  have := tdiv_far hx hy h0
  unfold qw
  rw [if_neg hy, wi_id this.1 this.2]
theorem qw_I (x y : Int) : I64 (qw x y) := by unfold qw; split <;> exact i64u _
theorem div_has {a0 a1 b0 b1 x y : Int} (h1 : U64 a0) (h2 : U64 a1) (h3 : U64 b0) (h4 : U64 b1) (hxI : I64 x) (hyI : I64 y) (hx : hasS a0 a1 x = true) (hy : hasS b0 b1 y = true) (h0 : y ≠ 0) :
    U64 (divS a0 a1 b0 b1).1 ∧ U64 (divS a0 a1 b0 b1).2 ∧ hasS (divS a0 a1 b0 b1).1 (divS a0 a1 b0 b1).2 (qw x y) = true := by
  unfold divS
  by_cases c1 : b0 ≠ 0 ∨ IntKind.i64.wrap b1 = 0
  · simp only [if_pos c1]; exact ⟨one_U, z_U, has_one _⟩
  · simp only [if_neg c1]
    have hb : b0 = 0 := by omega
    subst hb
    rw [← has0 hy]
    by_cases c2 : a0 = 0
    · subst c2
      simp only [if_true]
      rw [← has0 hx]
      refine ⟨z_U, u64u _, ?_⟩
      have q := qw_I x y
      have := const_has (qw x y)
      rwa [wi_id q.1 q.2] at this
    · simp only [if_neg c2]
      by_cases c3 : y = -1
      · simp only [if_pos c3]; exact ⟨one_U, z_U, has_one _⟩
      · simp only [if_neg c3]
        by_cases c4 : a0 % av y ≠ 0 ∨ nr a0 a1 % av y ≠ 0
        · simp only [if_pos c4]; exact ⟨one_U, z_U, has_one _⟩
        · simp only [if_neg c4]
          have ha : av y ≠ 0 := by unfold av; split <;> omega
          have ha0 : 0 < av y := by unfold av; split <;> omega
          obtain ⟨p, hp⟩ := Int.dvd_iff_emod_eq_zero.2 (show a0 % av y = 0 by omega)
          obtain ⟨q, hq⟩ := Int.dvd_iff_emod_eq_zero.2 (show nr a0 a1 % av y = 0 by omega)
          have e1 : a0 / av y = p := by rw [hp, Int.mul_ediv_cancel_left _ ha]
          have e2 : nr a0 a1 / av y = q := by rw [hq, Int.mul_ediv_cancel_left _ ha]
          rw [e1, e2]
          have hp0 : 0 < p := by
            rcases Int.lt_trichotomy p 0 with g | g | g
            · have := Int.mul_neg_of_pos_of_neg ha0 g; unfold U64 at h1; omega
            · subst g; rw [Int.mul_zero] at hp; exact absurd hp c2
            · exact g
          have hpU : U64 p := by
            unfold U64 at *
            have : 1 * p ≤ av y * p := Int.mul_le_mul_of_nonneg_right (by omega) (by omega)
            omega
          refine ⟨hpU, (emod_U hpU (by omega)).2.2, ?_⟩
          rw [qw_eq hxI h0 c3, has_iff]
          unfold val
          rw [if_neg (by omega), ← mdd, Int.emod_emod_of_dvd _ (Int.dvd_refl _), Int.emod_emod_of_dvd _ (Int.dvd_refl _), mdd]
          obtain ⟨t, ht⟩ := has_iff.1 hx
          have e3 : val a0 a1 = nr a0 a1 := by unfold val nr; rw [if_neg c2, if_neg c2]
          have ex : x = av y * (q + p * t) := by
            rw [Int.mul_add, ← Int.mul_assoc, ← hp, ← hq]; omega
          refine ⟨sg (decide (y < 0)) t, ?_⟩
          rw [ex]
          unfold av sg
          by_cases c5 : y < 0
          · simp only [if_pos c5, decide_eq_true c5, if_true]
            rw [show -y * (q + p * t) = y * (-(q + p * t)) by rw [Int.neg_mul, Int.mul_neg], Int.mul_tdiv_cancel_left _ h0, Int.mul_neg]
            omega
          · simp only [if_neg c5, decide_eq_false c5, if_false, Bool.false_eq_true]
            rw [Int.mul_tdiv_cancel_left _ h0]
            omega
def rw' (x y : Int) : Int := if y = -1 then 0 else x.tmod y
theorem rw_I {x y : Int} (hx : I64 x) : I64 (rw' x y) := by
  unfold rw'
  by_cases c : y = -1
  · rw [if_pos c]; unfold I64; omega
  · rw [if_neg c]
    unfold I64 at *
    have h : (x.tmod y).natAbs = x.natAbs % y.natAbs := Int.natAbs_tmod x y
    have : x.natAbs % y.natAbs ≤ x.natAbs := Nat.mod_le _ _
    by_cases c2 : 0 ≤ x
    · have := Int.tmod_nonneg y c2
      omega
    · have := Int.tmod_nonneg (a := -x) y (by omega)
      rw [Int.neg_tmod] at this
      omega
theorem rem_has {a0 a1 b0 b1 x y : Int} (h1 : U64 a0) (h2 : U64 a1) (h3 : U64 b0) (h4 : U64 b1) (hxI : I64 x) (hyI : I64 y) (hx : hasS a0 a1 x = true) (hy : hasS b0 b1 y = true) (h0 : y ≠ 0) :
    U64 (remS a0 a1 b0 b1).1 ∧ U64 (remS a0 a1 b0 b1).2 ∧ hasS (remS a0 a1 b0 b1).1 (remS a0 a1 b0 b1).2 (rw' x y) = true := by
  unfold remS
  by_cases c1 : b0 = 0 ∧ b1 = 0
  · simp only [if_pos c1]; exact ⟨one_U, z_U, has_one _⟩
  · simp only [if_neg c1]
    by_cases c2 : a0 = 0 ∧ b0 = 0
    · simp only [if_pos c2]
      obtain ⟨rfl, rfl⟩ := c2
      rw [← has0 hx, ← has0 hy]
      refine ⟨z_U, u64u _, ?_⟩
      have q := rw_I (y := y) hxI
      have := const_has (rw' x y)
      rwa [wi_id q.1 q.2] at this
    · simp only [if_neg c2]
      obtain ⟨u1, u2⟩ := rg_U (a1 := a1) h1 h3 h4 c2
      refine ⟨u1, (emod_U u1 u2).2.2, ?_⟩
      rw [has_iff]
      unfold val
      rw [if_neg u2, ← mdd, Int.emod_emod_of_dvd _ (Int.dvd_refl _), Int.emod_emod_of_dvd _ (Int.dvd_refl _), mdd]
      have g1 := gg_dvd (a := gg a0 b0) (b := av (val b0 b1)) (gg_nonneg _ _) (av_val h3 h4).1
      have g2 := gg_dvd h1.1 h3.1
      change rg a0 b0 b1 ∣ _ ∧ rg a0 b0 b1 ∣ _ at g1
      have da := Int.dvd_trans g1.1 g2.1
      have db := Int.dvd_trans g1.1 g2.2
      have dv := av_dvd.1 g1.2
      have dx := Int.dvd_trans da (has_iff.1 hx)
      have dy : rg a0 b0 b1 ∣ y := by
        have := Int.dvd_add (Int.dvd_trans db (has_iff.1 hy)) dv
        rwa [show ∀ a b : Int, a - b + b = a from fun a b => by omega] at this
      change rg a0 b0 b1 ∣ rw' x y - val a0 a1
      unfold rw'
      by_cases c : y = -1
      · subst c
        have : rg a0 b0 b1 ∣ 1 := by rw [← Int.dvd_neg]; exact dy
        exact Int.dvd_trans this (Int.one_dvd _)
      · rw [if_neg c]
        have e := Int.tmod_add_mul_tdiv x y
        have : x.tmod y - val a0 a1 = (x - val a0 a1) - y * x.tdiv y := by omega
        rw [this]
        exact Int.dvd_sub dx (Int.dvd_mul_of_dvd_left dy)
end Go.Proofs.YtonpbbhlmapbdaaGreatDoor.V.B
