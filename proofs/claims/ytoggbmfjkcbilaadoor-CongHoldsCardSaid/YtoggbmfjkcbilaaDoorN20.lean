/- What the operations on classes hold of the numbers: sums, products, negatives. Conditions: none. -/
import Derived.Test.YtoggbmfjkcbilaaDoorN19
import Derived.Test.YtoggbmfjkcbilaaDoorN16
set_option linter.unusedVariables false
set_option linter.unusedSimpArgs false
namespace Go.Proofs.YtoggbmfjkcbilaaDoor.V
open Go Go.Wk Go.RowKit

theorem pow_le_dvd {i j : Nat} (h : i ≤ j) : (2 : Int) ^ i ∣ 2 ^ j := ⟨2 ^ (j - i), by rw [← Int.pow_add]; congr 1; omega⟩
theorem tw_dvd {g : Int} (h : 0 < g) : tw g ∣ g := by
  obtain ⟨o, e, _⟩ := tzn_s h
  unfold tw
  exact Int.dvd_trans (pow_le_dvd (Nat.min_le_right 63 _)) ⟨o, e⟩
theorem tw_64 (g : Int) : tw g ∣ 18446744073709551616 := by
  unfold tw
  have : (18446744073709551616 : Int) = 2 ^ 64 := rfl
  rw [this]
  exact pow_le_dvd (by omega)
theorem wrap_d (z : Int) : (18446744073709551616 : Int) ∣ IntKind.i64.wrap z - z := by rw [wi_eq]; omega
theorem bm_has {g w z : Int} {e : Bool} (h0 : 0 < g) (hd : g ∣ z - w) (h : e = true → I64 z) : hasS (bm g e) (w % bm g e) (IntKind.i64.wrap z) = true := by
  obtain ⟨hu, hn⟩ := bm_U e h0
  rw [has_iff]
  unfold val
  rw [if_neg hn, ← mdd, Int.emod_emod_of_dvd _ (Int.dvd_refl _), Int.emod_emod_of_dvd _ (Int.dvd_refl _), mdd]
  unfold bm
  by_cases c : e = true ∧ g < 18446744073709551616
  · rw [if_pos c]
    obtain ⟨q1, q2⟩ := h c.1
    rw [wi_id q1 q2]
    exact hd
  · rw [if_neg c]
    have := Int.dvd_add (Int.dvd_trans (tw_64 g) (wrap_d z)) (Int.dvd_trans (tw_dvd h0) hd)
    rwa [show ∀ x y z : Int, x - y + (y - z) = x - z from fun x y z => by omega] at this
theorem bm_res {g w : Int} {e : Bool} (h0 : 0 < g) : U64 (bm g e) ∧ U64 (w % bm g e) := by
  obtain ⟨hu, hn⟩ := bm_U e h0
  exact ⟨hu, (emod_U hu hn).2.2⟩
theorem wi_wu (x : Int) : IntKind.i64.wrap (IntKind.u64.wrap x) = IntKind.i64.wrap x := by rw [wi_eq, wu_eq, wi_eq]; omega
theorem wi_wi (x : Int) : IntKind.i64.wrap (IntKind.i64.wrap x) = IntKind.i64.wrap x := by rw [wi_eq, wi_eq]; omega
theorem const_has (z : Int) : hasS 0 (IntKind.u64.wrap (IntKind.i64.wrap z)) (IntKind.i64.wrap z) = true := by
  unfold hasS; rw [if_pos rfl, wi_wu, wi_wi, decide_eq_true_eq]
theorem has0 {r x : Int} (h : hasS 0 r x = true) : x = IntKind.i64.wrap r := by unfold hasS at h; simpa using h
theorem z_U : U64 0 := by unfold U64; omega

theorem neg_has {m r x : Int} {e : Bool} (hm : U64 m) (hr : U64 r) (hx : I64 x) (hh : hasS m r x = true) (h : e = true → x ≠ -9223372036854775808) :
    U64 (negS m r e).1 ∧ U64 (negS m r e).2 ∧ hasS (negS m r e).1 (negS m r e).2 (IntKind.i64.wrap (0 - x)) = true := by
  unfold negS
  by_cases c : m = 0
  · subst c
    simp only [if_true]
    have := has0 hh
    subst this
    rw [show 0 - IntKind.i64.wrap r = -IntKind.i64.wrap r by omega]
    exact ⟨z_U, u64u _, const_has _⟩
  · simp only [if_neg c]
    have h0 : 0 < m := by unfold U64 at hm; omega
    have := bm_res (w := -val m r) (e := e) h0
    refine ⟨this.1, this.2, bm_has h0 ?_ fun he => ?_⟩
    · have := Int.dvd_neg.2 (has_iff.1 hh)
      rwa [show ∀ a b : Int, -(a - b) = 0 - a - -b from fun a b => by omega] at this
    · have := h he
      unfold I64 at *
      omega
theorem add_has {a0 a1 b0 b1 x y : Int} {e : Bool} (h1 : U64 a0) (h2 : U64 a1) (h3 : U64 b0) (h4 : U64 b1) (hx : hasS a0 a1 x = true) (hy : hasS b0 b1 y = true) (h : e = true → I64 (x + y)) :
    U64 (addS a0 a1 b0 b1 e).1 ∧ U64 (addS a0 a1 b0 b1 e).2 ∧ hasS (addS a0 a1 b0 b1 e).1 (addS a0 a1 b0 b1 e).2 (IntKind.i64.wrap (x + y)) = true := by
  unfold addS
  by_cases c : a0 = 0 ∧ b0 = 0
  · obtain ⟨rfl, rfl⟩ := c
    simp only [and_self, if_true]
    rw [has0 hx, has0 hy]
    exact ⟨z_U, u64u _, const_has _⟩
  · simp only [if_neg c]
    have h0 := gg_pos h1.1 h3.1 (by omega)
    have := bm_res (w := val a0 a1 + val b0 b1) (e := e) h0
    obtain ⟨d1, d2⟩ := gg_dvd h1.1 h3.1
    refine ⟨this.1, this.2, bm_has h0 ?_ h⟩
    have := Int.dvd_add (Int.dvd_trans d1 (has_iff.1 hx)) (Int.dvd_trans d2 (has_iff.1 hy))
    rwa [show ∀ a b c d : Int, a - b + (c - d) = a + c - (b + d) from fun a b c d => by omega] at this
theorem sub_has {a0 a1 b0 b1 x y : Int} {e : Bool} (h1 : U64 a0) (h2 : U64 a1) (h3 : U64 b0) (h4 : U64 b1) (hx : hasS a0 a1 x = true) (hy : hasS b0 b1 y = true) (h : e = true → I64 (x - y)) :
    U64 (subS a0 a1 b0 b1 e).1 ∧ U64 (subS a0 a1 b0 b1 e).2 ∧ hasS (subS a0 a1 b0 b1 e).1 (subS a0 a1 b0 b1 e).2 (IntKind.i64.wrap (x - y)) = true := by
  unfold subS
  by_cases c : a0 = 0 ∧ b0 = 0
  · obtain ⟨rfl, rfl⟩ := c
    simp only [and_self, if_true]
    rw [has0 hx, has0 hy]
    exact ⟨z_U, u64u _, const_has _⟩
  · simp only [if_neg c]
    have h0 := gg_pos h1.1 h3.1 (by omega)
    have := bm_res (w := val a0 a1 - val b0 b1) (e := e) h0
    obtain ⟨d1, d2⟩ := gg_dvd h1.1 h3.1
    refine ⟨this.1, this.2, bm_has h0 ?_ h⟩
    have := Int.dvd_sub (Int.dvd_trans d1 (has_iff.1 hx)) (Int.dvd_trans d2 (has_iff.1 hy))
    rwa [show ∀ a b c d : Int, a - b - (c - d) = a - c - (b - d) from fun a b c d => by omega] at this
theorem av_dvd {c v : Int} : c ∣ av v ↔ c ∣ v := by
  unfold av
  split
  · exact Int.dvd_neg
  · exact Iff.rfl
theorem mul_has {a0 a1 b0 b1 x y : Int} {e : Bool} (h1 : U64 a0) (h2 : U64 a1) (h3 : U64 b0) (h4 : U64 b1) (hx : hasS a0 a1 x = true) (hy : hasS b0 b1 y = true) (h : e = true → I64 (x * y)) :
    U64 (mulS a0 a1 b0 b1 e).1 ∧ U64 (mulS a0 a1 b0 b1 e).2 ∧ hasS (mulS a0 a1 b0 b1 e).1 (mulS a0 a1 b0 b1 e).2 (IntKind.i64.wrap (x * y)) = true := by
  unfold mulS
  by_cases c : a0 = 0 ∧ b0 = 0
  · obtain ⟨rfl, rfl⟩ := c
    simp only [and_self, if_true]
    rw [has0 hx, has0 hy]
    exact ⟨z_U, u64u _, const_has _⟩
  · simp only [if_neg c]
    by_cases c2 : a0 = 0 ∧ a1 = 0 ∨ b0 = 0 ∧ b1 = 0
    · simp only [if_pos c2]
      have : x * y = 0 := by
        rcases c2 with ⟨rfl, rfl⟩ | ⟨rfl, rfl⟩
        · rw [has0 hx, show IntKind.i64.wrap 0 = 0 from rfl, Int.zero_mul]
        · rw [has0 hy, show IntKind.i64.wrap 0 = 0 from rfl, Int.mul_zero]
      rw [this]
      exact ⟨z_U, z_U, rfl⟩
    · simp only [if_neg c2]
      have h0 := mg_pos h1 h2 h3 h4 c c2
      have := bm_res (w := val a0 a1 * val b0 b1) (e := e) h0
      refine ⟨this.1, this.2, bm_has h0 ?_ h⟩
      have av0 (v : Int) : 0 ≤ av v := by unfold av; split <;> omega
      have k1 : mg a0 a1 b0 b1 ∣ a0 * b0 ∧ mg a0 a1 b0 b1 ∣ val a0 a1 * b0 ∧ mg a0 a1 b0 b1 ∣ val b0 b1 * a0 := by
        have p1 := Int.mul_nonneg h1.1 h3.1
        have p2 := Int.mul_nonneg (av0 (val a0 a1)) h3.1
        have p3 := Int.mul_nonneg (av0 (val b0 b1)) h1.1
        have := (gg_iff (c := mg a0 a1 b0 b1) p1 (gg_nonneg (av (val a0 a1) * b0) (av (val b0 b1) * a0))).1 (Int.dvd_refl _)
        have q := (gg_iff p2 p3).1 this.2
        have sgn1 (u w : Int) (g : Int) (h : g ∣ av u * w) : g ∣ u * w := by
          unfold av at h
          split at h
          · rw [Int.neg_mul, Int.dvd_neg] at h; exact h
          · exact h
        exact ⟨this.1, sgn1 _ _ _ q.1, sgn1 _ _ _ q.2⟩
      obtain ⟨i, hi⟩ := has_iff.1 hx
      obtain ⟨j, hj⟩ := has_iff.1 hy
      have ex : x = val a0 a1 + a0 * i := by omega
      have ey : y = val b0 b1 + b0 * j := by omega
      have e : x * y - val a0 a1 * val b0 b1 = a0 * b0 * (i * j) + (val a0 a1 * b0 * j + val b0 b1 * a0 * i) := by
        rw [ex, ey, Int.add_mul, Int.mul_add, Int.mul_add]
        have r1 : a0 * i * (b0 * j) = a0 * b0 * (i * j) := by rw [Int.mul_assoc, Int.mul_left_comm i b0 j, ← Int.mul_assoc]
        have r2 : a0 * i * val b0 b1 = val b0 b1 * a0 * i := by rw [Int.mul_comm, ← Int.mul_assoc]
        have r3 : val a0 a1 * (b0 * j) = val a0 a1 * b0 * j := by rw [Int.mul_assoc]
        rw [r1, r2, r3]
        omega
      rw [e]
      exact Int.dvd_add (Int.dvd_mul_of_dvd_left k1.1) (Int.dvd_add (Int.dvd_mul_of_dvd_left k1.2.1) (Int.dvd_mul_of_dvd_left k1.2.2))
end Go.Proofs.YtoggbmfjkcbilaaDoor.V
