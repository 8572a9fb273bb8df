/- Inverses by a modulus: the program's and the document's. Conditions: none. -/
import Derived.Test.YtoggbmfjkcbilaaDoorN7
set_option linter.unusedVariables false
set_option linter.unusedSimpArgs false
namespace Go.Proofs.YtoggbmfjkcbilaaDoor.V
open Go Go.Wk

theorem inv_step {a m t6 t5 was iss q qm left last r : Int} (h1 : m ∣ t6 - (was - t5)) (h2 : m ∣ t5 - qm * iss) (h3 : m ∣ qm - q) (h4 : m ∣ a * was - last) (h5 : m ∣ a * iss - left) (h6 : last = r + left * q) : m ∣ a * t6 - r := by
  have d1 := Int.dvd_mul_of_dvd_right h1 (b := a)
  have d2 := Int.dvd_mul_of_dvd_right h2 (b := a)
  have d3 := Int.dvd_mul_of_dvd_right h3 (b := a * iss)
  have d4 := Int.dvd_mul_of_dvd_right h5 (b := q)
  have s := Int.dvd_sub (Int.dvd_sub (Int.dvd_sub (Int.dvd_add d1 h4) d2) d3) d4
  have e1 : a * (qm * iss) = a * iss * qm := by rw [Int.mul_comm qm, ← Int.mul_assoc]
  have e2 : q * (a * iss) = a * iss * q := Int.mul_comm _ _
  have e3 : q * left = left * q := Int.mul_comm _ _
  simp only [Int.mul_sub, e1, e2, e3] at s
  rwa [show a * t6 - (a * was - a * t5) + (a * was - last) - (a * t5 - a * iss * qm) - (a * iss * qm - a * iss * q) - (a * iss * q - left * q) = a * t6 - r by omega] at s
theorem ediv_U {x y : Int} (hx : U64 x) (hy : 0 ≤ y) : U64 (x / y) := by
  unfold U64 at *
  exact ⟨Int.ediv_nonneg hx.1 hy, Int.lt_of_le_of_lt (Int.ediv_le_self y hx.1) hx.2⟩
theorem rem_wrap {x y : Int} (hx : U64 x) (hy : 0 < y) : IntKind.u64.wrap (x - IntKind.u64.wrap (x / y * y)) = x % y := by
  have h1 := Int.emod_nonneg x (show y ≠ 0 by omega)
  have h3 := Int.emod_add_mul_ediv x y
  have h4 := Int.mul_nonneg (Int.le_of_lt hy) (Int.ediv_nonneg hx.1 (Int.le_of_lt hy))
  rw [Int.mul_comm] at h3 h4
  unfold U64 at hx
  simp only [wu_eq]
  omega
theorem inv_L (N : Nat) {a m : Int} (hm : U64 m) (h0 : m ≠ 0) : ∀ (n : Nat) (last left was iss : Int), U64 last → U64 left → 0 ≤ was → was < m → 0 ≤ iss → iss < m → m ∣ a * was - last → m ∣ a * iss - left → gg last left = 1 → left < n →
    ∃ t, cong_inverse.L0 N n (m, last, left, was, iss) = some t ∧ 0 ≤ t ∧ t < m ∧ m ∣ a * t - 1
  | 0, last, left, was, iss, hl, hf, _, _, _, _, _, _, _, hn => by unfold U64 at hf; omega
  | n + 1, last, left, was, iss, hl, hf, w0, w1, i0, i1, d1, d2, hg, hn => by
    have hm' := hm
    unfold U64 at hm'
    unfold cong_inverse.L0 cong_inverse.l0.c
    (try unfold cong_inverse.l0.c0)
    simp only [cbn, cbd, if_neg h0]
    by_cases h : left = 0
    · rw [if_pos h]
      rw [h, gg_zero hl.1] at hg
      exact ⟨was, rfl, w0, w1, by rw [← hg]; exact d1⟩
    · have hf' := hf
      unfold U64 at hf'
      have hq := ediv_U hl hf.1
      have iU : U64 iss := by unfold U64; omega
      have qm := emod_U (x := last / left) hm h0
      have e1 : IntKind.u64.wrap (last.tdiv left) = last / left := by
        rw [Int.tdiv_eq_ediv_of_nonneg hl.1]; exact wu_id hq.1 hq.2
      rw [if_neg h, if_neg h, e1, Int.tmod_eq_emod_of_nonneg hq.1, times_ok qm.2.2 iU hm h0, times_s qm.2.2 iU hm h0, rem_wrap hl (by omega)]
      have tm := emod_U (x := last / left % m * iss) hm h0
      rw [minus_s hm w0 w1 tm.1 tm.2.1]
      simp only [cond_true]
      have um := emod_U (x := was - last / left % m * iss % m) hm h0
      have r1 := Int.emod_nonneg last h
      have r2 := Int.emod_lt_of_pos last (show 0 < left by omega)
      have ee := Int.emod_add_mul_ediv last left
      refine inv_L N hm h0 n left (last % left) iss _ hf (by unfold U64; omega) i0 i1 um.1 um.2.1 d2 ?_ ?_ (by omega)
      · exact inv_step (Int.dvd_emod_sub_self) (Int.dvd_emod_sub_self) (Int.dvd_emod_sub_self) d1 d2 (by omega)
      · rw [gg_step hl.1 hf.1]; exact hg
theorem one_mod {m : Int} (hm : U64 m) (h0 : m ≠ 0) : Int.tmod 1 m = 1 % m := Int.tmod_eq_emod_of_nonneg (by decide)
theorem inv_s {a m : Int} (ha : U64 a) (hm : U64 m) (h0 : m ≠ 0) (hg : gg a m = 1) : cong_inverse.g a m = true ∧ 0 ≤ cong_inverse a m ∧ cong_inverse a m < m ∧ m ∣ a * cong_inverse a m - 1 := by
  have hm' := hm
  unfold U64 at hm'
  have am := emod_U (x := a) hm h0
  have om := emod_U (x := 1) hm h0
  obtain ⟨t, ht, t0, t1, td⟩ := inv_L (m.toNat + 2) (a := a) hm h0 (m.toNat + 2) m (a % m) 0 (1 % m) hm am.2.2 (by omega) (by omega) om.1 om.2.1 (by rw [Int.mul_zero]; exact ⟨-1, by omega⟩) (by
    have d1 : m ∣ a * (1 % m - 1) := Int.dvd_mul_of_dvd_right Int.dvd_emod_sub_self
    have d2 : m ∣ a % m - a := Int.dvd_emod_sub_self
    have := Int.dvd_sub d1 d2
    rwa [Int.mul_sub, Int.mul_one, show a * (1 % m) - a - (a % m - a) = a * (1 % m) - a % m by omega] at this) (by rw [gg_step ha.1 hm.1]; exact hg) (by omega)
  have ho : cong_inverse.o (m.toNat + 2) a m = some t := by
    unfold cong_inverse.o cong_inverse.c
    simp only [cbd, if_neg h0, Int.tmod_eq_emod_of_nonneg ha.1, one_mod hm h0]
    exact ht
  unfold cong_inverse.g cong_inverse
  rw [hide_eq, hide_eq, ho]
  exact ⟨rfl, t0, t1, td⟩
theorem timesMod_k {γ : Type} (n : γ) (k : Int → γ) {x y m : Int} (hx : U64 x) (hy : U64 y) (hm : U64 m) (h0 : m ≠ 0) : ref_timesMod.c n k x y m = k (x * y % m) := by
  have hb := mul_U hx hy
  have hD : D (x * y) := ⟨hb.1, hb.2.1⟩
  have hm' := hm
  unfold U64 at hm'
  unfold ref_timesMod.c
  (try unfold ref_timesMod.c0)
  simp only [times2_g hx hy, times2_s hx hy, of_u hm, parted_g hD (UD hm) (by omega), parted_s hD (UD hm) (by omega), cond_true]
  rw [(sm (emod_U (x := x * y) hm h0).2.2).2]
theorem timesMod_ok {x y m : Int} (hx : U64 x) (hy : U64 y) (hm : U64 m) (h0 : m ≠ 0) : ref_timesMod.ok x y m = true := timesMod_k _ _ hx hy hm h0
theorem timesMod_s {x y m : Int} (hx : U64 x) (hy : U64 y) (hm : U64 m) (h0 : m ≠ 0) : ref_timesMod x y m = x * y % m := timesMod_k _ _ hx hy hm h0
theorem addMod_neg {x y m : Int} (hm : U64 m) (hx : 0 ≤ x) (hx2 : x < m) (hy : 0 ≤ y) (hy2 : y < m) : ref_addMod x (IntKind.u64.wrap (m - y)) m = (x - y) % m := by
  have hm' := hm
  unfold U64 at hm'
  rw [wu_id (by omega) (by omega)]
  by_cases h : y = 0
  · subst h
    unfold ref_addMod ref_addMod.c
    (try unfold ref_addMod.c0)
    simp only [Bool.cond_decide, id, Int.sub_zero, Int.sub_self]
    rw [show IntKind.u64.wrap 0 = 0 from rfl, if_pos (by omega), Int.sub_zero, wu_id (by omega) (by omega), Int.emod_eq_of_lt hx hx2]
  · rw [addMod_s hm hx hx2 (by omega) (by omega), show x + (m - y) = (x - y) + m * 1 by omega, Int.add_mul_emod_self_left]
theorem inv2_L (N : Nat) {a m : Int} (hm : U64 m) (h0 : m ≠ 0) : ∀ (n : Nat) (last left was iss : Int), U64 last → U64 left → 0 ≤ was → was < m → 0 ≤ iss → iss < m → m ∣ a * was - last → m ∣ a * iss - left → gg last left = 1 → left < n →
    ∃ t, ref_inverse.L0 N n (m, was, iss, last, left) = some t ∧ 0 ≤ t ∧ t < m ∧ m ∣ a * t - 1
  | 0, last, left, was, iss, hl, hf, _, _, _, _, _, _, _, hn => by unfold U64 at hf; omega
  | n + 1, last, left, was, iss, hl, hf, w0, w1, i0, i1, d1, d2, hg, hn => by
    have hm' := hm
    unfold U64 at hm'
    have hf' := hf
    unfold U64 at hf'
    unfold ref_inverse.L0 ref_inverse.l0.c
    (try unfold ref_inverse.l0.c0)
    simp only [Bool.cond_decide, cbd, if_neg h0]
    by_cases h : left = 0
    · rw [if_neg (by omega)]
      rw [h, gg_zero hl.1] at hg
      exact ⟨was, rfl, w0, w1, by rw [← hg]; exact d1⟩
    · have hq := ediv_U hl hf.1
      have iU : U64 iss := by unfold U64; omega
      have qm := emod_U (x := last / left) hm h0
      have e1 : IntKind.u64.wrap (last.tdiv left) = last / left := by
        rw [Int.tdiv_eq_ediv_of_nonneg hl.1]; exact wu_id hq.1 hq.2
      rw [if_pos (by omega), if_neg h, e1, Int.tmod_eq_emod_of_nonneg hq.1, timesMod_ok qm.2.2 iU hm h0, timesMod_s qm.2.2 iU hm h0, rem_wrap hl (by omega)]
      have tm := emod_U (x := last / left % m * iss) hm h0
      rw [addMod_neg hm w0 w1 tm.1 tm.2.1]
      simp only [cond_true]
      have um := emod_U (x := was - last / left % m * iss % m) hm h0
      have r1 := Int.emod_nonneg last h
      have r2 := Int.emod_lt_of_pos last (show 0 < left by omega)
      have ee := Int.emod_add_mul_ediv last left
      refine inv2_L N hm h0 n left (last % left) iss _ hf (by unfold U64; omega) i0 i1 um.1 um.2.1 d2 ?_ ?_ (by omega)
      · exact inv_step (Int.dvd_emod_sub_self) (Int.dvd_emod_sub_self) (Int.dvd_emod_sub_self) d1 d2 (by omega)
      · rw [gg_step hl.1 hf.1]; exact hg
theorem inv2_s {a m : Int} (ha : U64 a) (hm : U64 m) (h1 : 1 < m) (hg : gg a m = 1) : ref_inverse.g a m = true ∧ 0 ≤ ref_inverse a m ∧ ref_inverse a m < m ∧ m ∣ a * ref_inverse a m - 1 := by
  have hm' := hm
  unfold U64 at hm'
  have h0 : m ≠ 0 := by omega
  have am := emod_U (x := a) hm h0
  obtain ⟨t, ht, t0, t1, td⟩ := inv2_L (m.toNat + 2) (a := a) hm h0 (m.toNat + 2) m (a % m) 0 1 hm am.2.2 (by omega) (by omega) (by omega) h1 (by rw [Int.mul_zero]; exact ⟨-1, by omega⟩) (by
    rw [Int.mul_one]; exact Int.dvd_self_sub_emod) (by rw [gg_step ha.1 hm.1]; exact hg) (by omega)
  have ho : ref_inverse.o (m.toNat + 2) a m = some t := by
    unfold ref_inverse.o ref_inverse.c
    simp only [cbd, if_neg h0, Int.tmod_eq_emod_of_nonneg ha.1]
    exact ht
  unfold ref_inverse.g ref_inverse
  rw [hide_eq, hide_eq, ho]
  exact ⟨rfl, t0, t1, td⟩
theorem inv_uniq {a m t u : Int} (h0 : 0 ≤ t) (h1 : t < m) (h2 : 0 ≤ u) (h3 : u < m) (h4 : m ∣ a * t - 1) (h5 : m ∣ a * u - 1) : t = u := by
  have d1 := Int.dvd_mul_of_dvd_right h5 (b := t)
  have d2 := Int.dvd_mul_of_dvd_right h4 (b := u)
  have d := Int.dvd_sub d1 d2
  have e : t * (a * u) = u * (a * t) := by rw [Int.mul_left_comm, Int.mul_left_comm u a t, Int.mul_comm t u]
  rw [Int.mul_sub, Int.mul_sub, e, show u * (a * t) - t * 1 - (u * (a * t) - u * 1) = u - t by omega] at d
  rcases Int.lt_trichotomy t u with h | h | h
  · have := Int.le_of_dvd (by omega) d; omega
  · exact h
  · have := Int.le_of_dvd (by omega) (Int.dvd_neg.2 d); omega
theorem inv_eq {a m : Int} (ha : U64 a) (hm : U64 m) (h1 : 1 < m) (hg : gg a m = 1) : ref_inverse a m = cong_inverse a m := by
  obtain ⟨_, a1, a2, a3⟩ := inv_s ha hm (by omega) hg
  obtain ⟨_, b1, b2, b3⟩ := inv2_s ha hm h1 hg
  exact inv_uniq b1 b2 a1 a2 b3 a3
end Go.Proofs.YtoggbmfjkcbilaaDoor.V
