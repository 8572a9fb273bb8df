/- Meets of classes. Conditions: none. -/
import Derived.Test.YtonpbbhlmapbdaaGreatDoorBN2
set_option linter.unusedVariables false
set_option linter.unusedSimpArgs false
namespace Go.Proofs.YtonpbbhlmapbdaaGreatDoor.V.B
open Go Go.Wk
theorem inv_step {a m t6 t5 was iss q qm left last r : Int} (h1 : m ∣ t6 - (was - t5)) (h2 : m ∣ t5 - qm * iss) (h3 : m ∣ qm - q) (h4 : m ∣ a * was - last) (h5 : m ∣ a * iss - left) (h6 : last = r + left * q) : m ∣ a * t6 - r := by
  have d1 := Int.dvd_mul_of_dvd_right h1 (b := a)
  have d2 := Int.dvd_mul_of_dvd_right h2 (b := a)
  have d3 := Int.dvd_mul_of_dvd_right h3 (b := a * iss)
  have d4 := Int.dvd_mul_of_dvd_right h5 (b := q)
  have s := Int.dvd_sub (Int.dvd_sub (Int.dvd_sub (Int.dvd_add d1 h4) d2) d3) d4
  have e1 : a * (qm * iss) = a * iss * qm := by rw [Int.mul_comm qm, ← Int.mul_assoc]
  have e2 : q * (a * iss) = a * iss * q := Int.mul_comm _ _
  have e3 : q * left = left * q := Int.mul_comm _ _
  simp only [Int.mul_sub, e1, e2, e3] at s
  rwa [show a * t6 - (a * was - a * t5) + (a * was - last) - (a * t5 - a * iss * qm) - (a * iss * qm - a * iss * q) - (a * iss * q - left * q) = a * t6 - r by omega] at s
theorem ediv_U {x y : Int} (hx : U64 x) (hy : 0 ≤ y) : U64 (x / y) := by
  unfold U64 at *
  exact ⟨Int.ediv_nonneg hx.1 hy, Int.lt_of_le_of_lt (Int.ediv_le_self y hx.1) hx.2⟩
theorem rem_wrap {x y : Int} (hx : U64 x) (hy : 0 < y) : IntKind.u64.wrap (x - IntKind.u64.wrap (x / y * y)) = x % y := by
  have h1 := Int.emod_nonneg x (show y ≠ 0 by omega)
  have h3 := Int.emod_add_mul_ediv x y
  have h4 := Int.mul_nonneg (Int.le_of_lt hy) (Int.ediv_nonneg hx.1 (Int.le_of_lt hy))
  rw [Int.mul_comm] at h3 h4
  unfold U64 at hx
  simp only [wu_eq]
  omega
theorem inv_L (N : Nat) {a m : Int} (hm : U64 m) (h0 : m ≠ 0) : ∀ (n : Nat) (last left was iss : Int), U64 last → U64 left → 0 ≤ was → was < m → 0 ≤ iss → iss < m → m ∣ a * was - last → m ∣ a * iss - left → gg last left = 1 → left < n →
    ∃ t, cong_inverse.L0 N n (m, last, left, was, iss) = some t ∧ 0 ≤ t ∧ t < m ∧ m ∣ a * t - 1
  | 0, last, left, was, iss, hl, hf, _, _, _, _, _, _, _, hn => by unfold U64 at hf; omega
  | n + 1, last, left, was, iss, hl, hf, w0, w1, i0, i1, d1, d2, hg, hn => by
    have hm' := hm
    unfold U64 at hm'
    unfold cong_inverse.L0 cong_inverse.l0.c
    (try unfold cong_inverse.l0.c0)
    simp only [cbn, cbd, if_neg h0]
    by_cases h : left = 0
    · rw [if_pos h]
      rw [h, gg_zero hl.1] at hg
      exact ⟨was, rfl, w0, w1, by rw [← hg]; exact d1⟩
    · have hf' := hf
      unfold U64 at hf'
      have hq := ediv_U hl hf.1
      have iU : U64 iss := by unfold U64; omega
      have qm := emod_U (x := last / left) hm h0
      have e1 : IntKind.u64.wrap (last.tdiv left) = last / left := by
        rw [Int.tdiv_eq_ediv_of_nonneg hl.1]; exact wu_id hq.1 hq.2
      rw [if_neg h, if_neg h, e1, Int.tmod_eq_emod_of_nonneg hq.1, times_ok qm.2.2 iU hm h0, times_s qm.2.2 iU hm h0, rem_wrap hl (by omega)]
      have tm := emod_U (x := last / left % m * iss) hm h0
      rw [minus_s hm w0 w1 tm.1 tm.2.1]
      simp only [cond_true]
      have um := emod_U (x := was - last / left % m * iss % m) hm h0
      have r1 := Int.emod_nonneg last h
      have r2 := Int.emod_lt_of_pos last (show 0 < left by omega)
      have ee := Int.emod_add_mul_ediv last left
      refine inv_L N hm h0 n left (last % left) iss _ hf (by unfold U64; omega) i0 i1 um.1 um.2.1 d2 ?_ ?_ (by omega)
      · exact inv_step (Int.dvd_emod_sub_self) (Int.dvd_emod_sub_self) (Int.dvd_emod_sub_self) d1 d2 (by omega)
      · rw [gg_step hl.1 hf.1]; exact hg
theorem one_mod {m : Int} (hm : U64 m) (h0 : m ≠ 0) : Int.tmod 1 m = 1 % m := Int.tmod_eq_emod_of_nonneg (by decide)
theorem inv_s {a m : Int} (ha : U64 a) (hm : U64 m) (h0 : m ≠ 0) (hg : gg a m = 1) : cong_inverse.g a m = true ∧ 0 ≤ cong_inverse a m ∧ cong_inverse a m < m ∧ m ∣ a * cong_inverse a m - 1 := by
  have hm' := hm
  unfold U64 at hm'
  have am := emod_U (x := a) hm h0
  have om := emod_U (x := 1) hm h0
  obtain ⟨t, ht, t0, t1, td⟩ := inv_L (m.toNat + 2) (a := a) hm h0 (m.toNat + 2) m (a % m) 0 (1 % m) hm am.2.2 (by omega) (by omega) om.1 om.2.1 (by rw [Int.mul_zero]; exact ⟨-1, by omega⟩) (by
    have d1 : m ∣ a * (1 % m - 1) := Int.dvd_mul_of_dvd_right Int.dvd_emod_sub_self
    have d2 : m ∣ a % m - a := Int.dvd_emod_sub_self
    have := Int.dvd_sub d1 d2
    rwa [Int.mul_sub, Int.mul_one, show a * (1 % m) - a - (a % m - a) = a * (1 % m) - a % m by omega] at this) (by rw [gg_step ha.1 hm.1]; exact hg) (by omega)
  have ho : cong_inverse.o (m.toNat + 2) a m = some t := by
    unfold cong_inverse.o cong_inverse.c
    simp only [cbd, if_neg h0, Int.tmod_eq_emod_of_nonneg ha.1, one_mod hm h0]
    exact ht
  unfold cong_inverse.g cong_inverse
  rw [hide_eq, hide_eq, ho]
  exact ⟨rfl, t0, t1, td⟩
open Go Go.Wk
/-- of two moduli: the second's part, the number of steps, the first common number, the common modulus -/
def mpt (a b : Int) : Int := b / gg a b
def mk (a b r s : Int) : Int := ((s - r) / gg a b) % mpt a b
noncomputable def mst (a b r s : Int) : Int := mk a b r s * cong_inverse (a / gg a b) (mpt a b) % mpt a b
noncomputable def mx (a b r s : Int) : Int := a * mst a b r s + r
def ml (a b : Int) : Int := a * mpt a b
noncomputable def meet2 (a b r s : Int) : Int × Int × Bool :=
  if r % gg a b ≠ s % gg a b then (0, 0, false)
  else if ml a b < 18446744073709551616 then (ml a b, mx a b r s, true)
  else if mx a b r s ≤ 9223372036854775807 then (0, mx a b r s, true)
  else if ml a b - mx a b r s ≤ 9223372036854775808 then (0, 18446744073709551616 - (ml a b - mx a b r s), true) else (0, 0, false)
noncomputable def meetS (a0 a1 b0 b1 : Int) : Int × Int × Bool :=
  if a0 = 0 then (if hasS b0 (nr b0 b1) (IntKind.i64.wrap a1) then (0, a1, true) else (0, 0, false))
  else if b0 = 0 then (if hasS a0 (nr a0 a1) (IntKind.i64.wrap b1) then (0, b1, true) else (0, 0, false))
  else meet2 a0 b0 (nr a0 a1) (nr b0 b1)
theorem coprime {a b : Int} (ha : 0 ≤ a) (hb : 0 ≤ b) (h : 0 < gg a b) : gg (a / gg a b) (b / gg a b) = 1 := by
  have hp : 0 < Nat.gcd a.toNat b.toNat := by unfold gg at h; omega
  have := Nat.coprime_div_gcd_div_gcd hp
  have e1 : (a / gg a b).toNat = a.toNat / Nat.gcd a.toNat b.toNat := by
    have : a / gg a b = ((a.toNat / Nat.gcd a.toNat b.toNat : Nat) : Int) := by
      unfold gg; rw [Int.natCast_ediv, show ((a.toNat : Nat) : Int) = a by omega]
    rw [this, Int.toNat_natCast]
  have e2 : (b / gg a b).toNat = b.toNat / Nat.gcd a.toNat b.toNat := by
    have : b / gg a b = ((b.toNat / Nat.gcd a.toNat b.toNat : Nat) : Int) := by
      unfold gg; rw [Int.natCast_ediv, show ((b.toNat : Nat) : Int) = b by omega]
    rw [this, Int.toNat_natCast]
  have h2 : gg (a / gg a b) (b / gg a b) = (Nat.gcd (a / gg a b).toNat (b / gg a b).toNat : Int) := rfl
  rw [h2, e1, e2]
  unfold Nat.Coprime at this
  rw [this]; rfl
theorem part_s {a b : Int} (ha : U64 a) (hb : U64 b) (h1 : a ≠ 0) (h2 : b ≠ 0) : 0 < gg a b ∧ U64 (mpt a b) ∧ 0 < mpt a b ∧ U64 (a / gg a b) ∧ mpt a b * gg a b = b ∧ a / gg a b * gg a b = a ∧ gg (a / gg a b) (mpt a b) = 1 := by
  have hp := gg_pos ha.1 hb.1 (.inl h1)
  obtain ⟨d1, d2⟩ := gg_dvd ha.1 hb.1
  have e1 := Int.ediv_mul_cancel d1
  have e2 := Int.ediv_mul_cancel d2
  have u1 := ediv_U ha (Int.le_of_lt hp)
  have u2 := ediv_U hb (Int.le_of_lt hp)
  refine ⟨hp, u2, ?_, u1, e2, e1, coprime ha.1 hb.1 hp⟩
  unfold mpt
  rcases Int.lt_or_le 0 (b / gg a b) with h | h
  · exact h
  · have : b / gg a b = 0 := by have := u2.1; omega
    rw [this, Int.zero_mul] at e2
    omega
theorem k_eq {a b r s : Int} (ha : U64 a) (hb : U64 b) (h1 : a ≠ 0) (h2 : b ≠ 0) (h : r % gg a b = s % gg a b) : mk a b r s = if s < r then (0 - (r - s) / gg a b % mpt a b) % mpt a b else (s - r) / gg a b % mpt a b := by
  obtain ⟨g0, p1, p0, _⟩ := part_s ha hb h1 h2
  unfold mk
  by_cases hc : s < r
  · rw [if_pos hc]
    have hd : gg a b ∣ r - s := Int.dvd_of_emod_eq_zero (Int.emod_eq_emod_iff_emod_sub_eq_zero.1 h)
    obtain ⟨z, hz⟩ := hd
    have e1 : (r - s) / gg a b = z := by rw [hz, Int.mul_ediv_cancel_left _ (by omega)]
    have e2 : (s - r) / gg a b = -z := by
      rw [show s - r = gg a b * (-z) by rw [Int.mul_neg, ← hz]; omega, Int.mul_ediv_cancel_left _ (by omega)]
    rw [e1, e2, Int.sub_emod, Int.emod_emod, ← Int.sub_emod, Int.zero_sub]
  · rw [if_neg hc]
theorem mst_b {a b r s : Int} (ha : U64 a) (hb : U64 b) (h1 : a ≠ 0) (h2 : b ≠ 0) : 0 ≤ mst a b r s ∧ mst a b r s < mpt a b := by
  obtain ⟨g0, p1, p0, _⟩ := part_s ha hb h1 h2
  exact ⟨Int.emod_nonneg _ (by omega), Int.emod_lt_of_pos _ p0⟩
theorem mx_b {a b r s : Int} (ha : U64 a) (hb : U64 b) (h1 : a ≠ 0) (h2 : b ≠ 0) (hr : 0 ≤ r) (hr2 : r < a) : 0 ≤ mx a b r s ∧ mx a b r s < ml a b ∧ ml a b < 340282366920938463463374607431768211456 := by
  obtain ⟨g0, p1, p0, _⟩ := part_s ha hb h1 h2
  obtain ⟨t0, t1⟩ := mst_b (r := r) (s := s) ha hb h1 h2
  have hm := mul_U ha p1
  unfold mx ml
  have m1 := Int.mul_nonneg ha.1 t0
  have m2 : a * mst a b r s ≤ a * (mpt a b - 1) := Int.mul_le_mul_of_nonneg_left (by omega) ha.1
  rw [Int.mul_sub, Int.mul_one] at m2
  omega
theorem meet_tail {γ : Type} (k : Int × Int × Bool → γ) {x l : Int} (h0 : 0 ≤ x) (h1 : x < l) (h2 : l < 340282366920938463463374607431768211456) (hl : 18446744073709551616 ≤ l) :
    (if (l - x) / 18446744073709551616 = 0 then (if (l - x) % 18446744073709551616 ≤ 9223372036854775808 then k ((0 : Int), IntKind.u64.wrap (IntKind.i64.wrap (IntKind.u64.wrap (0 - (l - x) % 18446744073709551616))), true) else k (0, 0, false)) else k (0, 0, false))
      = k (if l - x ≤ 9223372036854775808 then (0, 18446744073709551616 - (l - x), true) else (0, 0, false)) := by
  by_cases h : l - x ≤ 9223372036854775808
  · rw [if_pos h, if_pos (by omega), if_pos (by omega)]
    congr 2
    simp only [wu_eq, wi_eq, Prod.mk.injEq, and_true]
    omega
  · rw [if_neg h]
    by_cases g : (l - x) / 18446744073709551616 = 0
    · rw [if_pos g, if_neg (by omega)]
    · rw [if_neg g]
theorem meet0_s {a b0 b1 : Int} (ha : U64 a) (h3 : U64 b0) (h4 : U64 b1) : cong_Meet0 a b0 b1 = if hasS b0 (nr b0 b1) (IntKind.i64.wrap a) then (0, a, true) else (0, 0, false) := by
  have z : U64 0 := by unfold U64; omega
  unfold cong_Meet0 cong_Meet0.c
  (try unfold cong_Meet0.c0)
  simp only [norm_s z ha, norm_s h3 h4, has_s h3 (nr_U h3 h4) (i64u _), id]
  have e : nr 0 a = a := by unfold nr; rw [if_pos rfl]
  rw [e]
  cases hasS b0 (nr b0 b1) (IntKind.i64.wrap a) <;> rfl
theorem nr_nr (m r : Int) : nr m (nr m r) = nr m r := by unfold nr; by_cases h : m = 0 <;> simp [h]
theorem add64_s {a b : Int} (ha : U64 a) (hb : U64 b) : bits_Add64 a b 0 = ((a + b) % 18446744073709551616, (a + b) / 18446744073709551616) := by
  unfold U64 at *
  unfold bits_Add64
  rw [hide_eq, hide_eq]
  simp only [Prod.mk.injEq]
  omega
theorem sub64_s {a b : Int} (ha : U64 a) (hb : U64 b) : bits_Sub64 a b 0 = ((a - b) % 18446744073709551616, if a < b then 1 else 0) := by
  unfold U64 at *
  unfold bits_Sub64
  rw [hide_eq, hide_eq]
  simp only [Prod.mk.injEq]
  refine ⟨by omega, ?_⟩
  by_cases h : a < b
  · rw [if_pos h, if_pos (by omega)]
  · rw [if_neg h, if_neg (by omega)]
theorem hasS_nr (m r v : Int) : hasS m (nr m r) v = hasS m r v := by
  unfold hasS nr; by_cases h : m = 0 <;> simp [h]
theorem meet_k {γ : Type} (n : γ) (k : Int × Int × Bool → γ) {a0 a1 b0 b1 : Int} (h1 : U64 a0) (h2 : U64 a1) (h3 : U64 b0) (h4 : U64 b1) : cong_Meet.c n k a0 a1 b0 b1 = k (meetS a0 a1 b0 b1) := by
  have hn1 := nr_U h1 h2
  have hn3 := nr_U h3 h4
  have z : (0 : Int) ≤ 0 := Int.le_refl 0
  unfold cong_Meet.c meetS
  (try unfold cong_Meet.c0)
  simp only [norm_s h1 h2, norm_s h3 h4, alone_s, has_s h3 hn3 (i64u _), meet0_s hn3 h1 hn1, gcd_g z h1.1, gcd_s z h1.1, gg0 h1.1, gcd_g h1.1 h3.1, gcd_s h1.1 h3.1, cbe, cbd, cond_true, nr_nr]
  by_cases c1 : a0 = 0
  · have e : nr a0 a1 = a1 := by unfold nr; rw [if_pos c1]
    rw [if_pos c1, if_pos c1, e]
    cases hasS b0 (nr b0 b1) (IntKind.i64.wrap a1) with
    | true => simp [c1]
    | false => rfl
  · rw [if_neg c1, if_neg c1]
    by_cases c2 : b0 = 0
    · have e : nr b0 b1 = b1 := by unfold nr; rw [if_pos c2]
      rw [if_pos c2, if_pos c2, e, decide_eq_true c2]
      cases hasS a0 (nr a0 a1) (IntKind.i64.wrap b1) <;> rfl
    · rw [if_neg c2, if_neg c2]
      obtain ⟨g0, p1, p0, u1, e1, e2, cop⟩ := part_s h1 h3 c1 c2
      have gU := gg_U h1 h3
      have hr : 0 ≤ nr a0 a1 ∧ nr a0 a1 < a0 := by unfold nr; rw [if_neg c1]; exact ⟨(emod_U h1 c1).1, (emod_U h1 c1).2.1⟩
      have hs : 0 ≤ nr b0 b1 ∧ nr b0 b1 < b0 := by unfold nr; rw [if_neg c2]; exact ⟨(emod_U h3 c2).1, (emod_U h3 c2).2.1⟩
      generalize nr a0 a1 = r at *
      generalize nr b0 b1 = s at *
      have gne : gg a0 b0 ≠ 0 := by omega
      have pne : mpt a0 b0 ≠ 0 := by omega
      have w1 : IntKind.u64.wrap (b0.tdiv (gg a0 b0)) = mpt a0 b0 := by
        rw [Int.tdiv_eq_ediv_of_nonneg h3.1]; exact wu_id p1.1 p1.2
      have w2 : IntKind.u64.wrap (a0.tdiv (gg a0 b0)) = a0 / gg a0 b0 := by
        rw [Int.tdiv_eq_ediv_of_nonneg h1.1]; exact wu_id u1.1 u1.2
      simp only [if_neg gne, w1, w2, if_neg pne, Int.tmod_eq_emod_of_nonneg hr.1, Int.tmod_eq_emod_of_nonneg hs.1, cbn]
      unfold meet2
      by_cases c3 : r % gg a0 b0 = s % gg a0 b0
      · obtain ⟨i1, i2, i3, i4⟩ := inv_s u1 p1 pne cop
        have hk := k_eq h1 h3 c1 c2 c3
        have hdU : U64 (dst s r) := by unfold U64 at *; unfold dst; split <;> omega
        have w3 : IntKind.u64.wrap ((if s > r then s else r) - (if s < r then s else r)) = dst r s := dst_u hn1 hn3
        have hdU' : U64 (dst r s) := by unfold U64 at *; unfold dst; split <;> omega
        have dU := ediv_U hdU' (Int.le_of_lt g0)
        have w4 : IntKind.u64.wrap ((dst r s).tdiv (gg a0 b0)) = dst r s / gg a0 b0 := by
          rw [Int.tdiv_eq_ediv_of_nonneg hdU'.1]; exact wu_id dU.1 dU.2
        have dm := emod_U (x := dst r s / gg a0 b0) p1 pne
        have w5 : (bif decide (s < r) then cong_minus 0 (dst r s / gg a0 b0 % mpt a0 b0) (mpt a0 b0) else dst r s / gg a0 b0 % mpt a0 b0) = mk a0 b0 r s := by
          rw [minus_s p1 (Int.le_refl 0) p0 dm.1 dm.2.1, hk, Bool.cond_decide]
          unfold dst
          by_cases c4 : s < r
          · rw [if_pos c4, if_pos c4, if_neg (by omega)]
          · rw [if_neg c4, if_neg c4]
            by_cases c5 : r < s
            · rw [if_pos c5]
            · rw [if_neg c5, show r - s = s - r by omega]
        have kU := (emod_U (x := (s - r) / gg a0 b0) p1 pne).2.2
        have iU : U64 (cong_inverse (a0 / gg a0 b0) (mpt a0 b0)) := by unfold U64 at *; omega
        have tb := mst_b (r := r) (s := s) h1 h3 c1 c2
        have tU : U64 (mst a0 b0 r s) := by unfold U64 at *; omega
        rw [if_pos c3, if_neg (show ¬ r % gg a0 b0 ≠ s % gg a0 b0 from fun h => h c3), i1, w3, w4, Int.tmod_eq_emod_of_nonneg dU.1, w5]
        have kt : cong_times.ok (mk a0 b0 r s) (cong_inverse (a0 / gg a0 b0) (mpt a0 b0)) (mpt a0 b0) = true := times_ok kU iU p1 pne
        have ks : cong_times (mk a0 b0 r s) (cong_inverse (a0 / gg a0 b0) (mpt a0 b0)) (mpt a0 b0) = mst a0 b0 r s := times_s kU iU p1 pne
        rw [kt, ks, bits_Mul64_s p1 h1, bits_Mul64_s tU h1]
        have mb := mx_b (s := s) h1 h3 c1 c2 hr.1 hr.2
        have ex : mst a0 b0 r s * a0 = mx a0 b0 r s - r := by unfold mx; rw [Int.mul_comm]; omega
        have el : mpt a0 b0 * a0 = ml a0 b0 := by unfold ml; rw [Int.mul_comm]
        have mn : 0 ≤ mst a0 b0 r s * a0 := Int.mul_nonneg tb.1 h1.1
        rw [ex] at mn
        rw [ex, el]
        generalize mx a0 b0 r s = x at *
        generalize ml a0 b0 = l at *
        have hn1' := hn1
        unfold U64 at hn1'
        simp only [cond_true, const_s]
        rw [add64_s (show U64 ((x - r) % 18446744073709551616) by unfold U64; omega) hn1]
        have q1 : ((x - r) % 18446744073709551616 + r) % 18446744073709551616 = x % 18446744073709551616 := by omega
        have q2 : IntKind.u64.wrap ((x - r) / 18446744073709551616 + ((x - r) % 18446744073709551616 + r) / 18446744073709551616) = x / 18446744073709551616 := by rw [wu_eq]; omega
        rw [q1, q2, sub64_s (show U64 (l % 18446744073709551616) by unfold U64; omega) (show U64 (x % 18446744073709551616) by unfold U64; omega)]
        have q3 : (l % 18446744073709551616 - x % 18446744073709551616) % 18446744073709551616 = (l - x) % 18446744073709551616 := by omega
        have q4 : IntKind.u64.wrap (IntKind.u64.wrap (l / 18446744073709551616 - x / 18446744073709551616) - if l % 18446744073709551616 < x % 18446744073709551616 then 1 else 0) = (l - x) / 18446744073709551616 := by
          simp only [wu_eq]; split <;> omega
        simp only [q3, q4, Bool.cond_decide]
        by_cases hl : l < 18446744073709551616
        · rw [if_pos (by omega), if_pos hl, show l % 18446744073709551616 = l by omega, show x % 18446744073709551616 = x by omega]
        · rw [if_neg (by omega), if_neg hl]
          have tl := meet_tail k mb.1 mb.2.1 mb.2.2 (by omega)
          by_cases hx : x ≤ 9223372036854775807
          · rw [if_pos (by omega), if_pos (by omega), if_pos hx]
            congr 2
            simp only [wu_eq, wi_eq, Prod.mk.injEq, and_true]
            omega
          · rw [if_neg hx, ← tl]
            by_cases hx2 : x / 18446744073709551616 = 0
            · rw [if_pos hx2, if_neg (by omega)]
            · rw [if_neg hx2]
      · rw [if_neg c3, if_pos c3]
theorem meet_ok {a0 a1 b0 b1 : Int} (h1 : U64 a0) (h2 : U64 a1) (h3 : U64 b0) (h4 : U64 b1) : cong_Meet.ok a0 a1 b0 b1 = true := meet_k _ _ h1 h2 h3 h4
theorem meet_s {a0 a1 b0 b1 : Int} (h1 : U64 a0) (h2 : U64 a1) (h3 : U64 b0) (h4 : U64 b1) : cong_Meet a0 a1 b0 b1 = meetS a0 a1 b0 b1 := meet_k _ _ h1 h2 h3 h4
open Go Go.Wk
end Go.Proofs.YtonpbbhlmapbdaaGreatDoor.V.B
