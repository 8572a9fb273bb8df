/- Meets as sets of numbers. Conditions: none. -/
import Derived.Test.YtoggbmfjkcbilaaDoorN18
set_option linter.unusedVariables false
set_option linter.unusedSimpArgs false
namespace Go.Proofs.YtoggbmfjkcbilaaDoor.V
open Go Go.Wk Go.RowKit

theorem ml_dvd {a b z : Int} (ha : U64 a) (hb : U64 b) (h1 : a ≠ 0) (h2 : b ≠ 0) : ml a b ∣ z ↔ a ∣ z ∧ b ∣ z := by
  obtain ⟨g0, p1, p0, a1, eb, ea, cp⟩ := part_s ha hb h1 h2
  obtain ⟨_, i0, i1, i2⟩ := inv_s a1 p1 (by omega) cp
  unfold ml
  generalize mpt a b = p at *
  generalize cong_inverse (a / gg a b) p = i at *
  generalize a / gg a b = a' at *
  generalize gg a b = g at *
  constructor
  · intro h
    refine ⟨Int.dvd_trans ⟨p, rfl⟩ h, Int.dvd_trans ⟨a', ?_⟩ h⟩
    rw [← eb, ← ea, Int.mul_comm a' g, Int.mul_comm p g, Int.mul_assoc, Int.mul_assoc, Int.mul_comm a' p]
  · rintro ⟨⟨k, rfl⟩, h⟩
    have hp : p ∣ a' * k := by
      have : p * g ∣ (a' * k) * g := by
        rw [eb, Int.mul_right_comm, ea]; exact h
      exact Int.dvd_of_mul_dvd_mul_right (by omega) this
    have hk : p ∣ k := by
      have e : k = i * (a' * k) - (a' * i - 1) * k := by
        rw [Int.sub_mul, Int.one_mul, Int.mul_left_comm i a' k, Int.mul_assoc]; omega
      rw [e]
      exact Int.dvd_sub (Int.dvd_mul_of_dvd_right hp) (Int.dvd_mul_of_dvd_left i2)
    obtain ⟨q, rfl⟩ := hk
    exact ⟨q, by rw [Int.mul_assoc]⟩
theorem mx_is {a b r s : Int} (ha : U64 a) (hb : U64 b) (h1 : a ≠ 0) (h2 : b ≠ 0) (h : r % gg a b = s % gg a b) : a ∣ mx a b r s - r ∧ b ∣ mx a b r s - s := by
  obtain ⟨g0, p1, p0, a1, eb, ea, cp⟩ := part_s ha hb h1 h2
  obtain ⟨_, i0, i1, i2⟩ := inv_s a1 p1 (by omega) cp
  have hg := mdd.1 h.symm
  unfold mx mst mk
  generalize mpt a b = p at *
  generalize cong_inverse (a / gg a b) p = i at *
  generalize a / gg a b = a' at *
  generalize gg a b = g at *
  obtain ⟨e, he⟩ := hg
  have e1 : (s - r) / g = e := by rw [he, Int.mul_ediv_cancel_left _ (by omega)]
  rw [e1]
  generalize hm : e % p * i % p = t
  constructor
  · exact ⟨t, by omega⟩
  · have k1 : p ∣ e % p - e := by rw [← mdd]; exact Int.emod_emod_of_dvd _ (Int.dvd_refl p)
    have k2 : p ∣ t - e % p * i := by rw [← hm, ← mdd]; exact Int.emod_emod_of_dvd _ (Int.dvd_refl p)
    have k3 : p ∣ a' * t - e := by
      have x : a' * t - e = a' * (t - e % p * i) + ((a' * i - 1) * (e % p) + (e % p - e)) := by
        rw [Int.mul_sub, Int.sub_mul, Int.one_mul, Int.mul_left_comm a' (e % p) i, Int.mul_comm (e % p) (a' * i)]; omega
      rw [x]
      exact Int.dvd_add (Int.dvd_mul_of_dvd_right k2) (Int.dvd_add (Int.dvd_mul_of_dvd_left i2) k1)
    obtain ⟨q, hq⟩ := k3
    refine ⟨q, ?_⟩
    have x : a * t + r - s = g * (a' * t - e) := by
      rw [Int.mul_sub, ← he, ← Int.mul_assoc, Int.mul_comm g a', ea]; omega
    rw [x, hq, ← eb, ← Int.mul_assoc, Int.mul_comm g p]
theorem mx_uniq {l x y : Int} (h0 : 0 ≤ x) (h1 : x < l) (h2 : 0 ≤ y) (h3 : y < l) (h : l ∣ x - y) : x = y := by
  have := mdd.2 h
  rwa [Int.emod_eq_of_lt h0 h1, Int.emod_eq_of_lt h2 h3] at this
theorem ml_comm {a b : Int} (ha : U64 a) (hb : U64 b) (h1 : a ≠ 0) (h2 : b ≠ 0) : ml a b = ml b a := by
  have p (a b : Int) (ha : U64 a) (hb : U64 b) (h1 : a ≠ 0) (h2 : b ≠ 0) : 0 ≤ ml a b := by
    obtain ⟨_, _, p0, _⟩ := part_s ha hb h1 h2
    exact Int.mul_nonneg ha.1 (by omega)
  refine dvd_eq (p a b ha hb h1 h2) (p b a hb ha h2 h1) ?_ ?_
  · rw [ml_dvd ha hb h1 h2]; have := (ml_dvd hb ha h2 h1).1 (Int.dvd_refl _); exact ⟨this.2, this.1⟩
  · rw [ml_dvd hb ha h2 h1]; have := (ml_dvd ha hb h1 h2).1 (Int.dvd_refl _); exact ⟨this.2, this.1⟩
theorem meet2_comm {a b r s : Int} (ha : U64 a) (hb : U64 b) (h1 : a ≠ 0) (h2 : b ≠ 0) (hr : 0 ≤ r) (hr2 : r < a) (hs : 0 ≤ s) (hs2 : s < b) : meet2 a b r s = meet2 b a s r := by
  unfold meet2
  rw [gg_comm b a]
  by_cases h : r % gg a b = s % gg a b
  · have q1 := mx_is ha hb h1 h2 h
    have q2 := mx_is (r := s) (s := r) hb ha h2 h1 (by rw [gg_comm b a]; exact h.symm)
    have b1 := mx_b (r := r) (s := s) ha hb h1 h2 hr hr2
    have b2 := mx_b (r := s) (s := r) hb ha h2 h1 hs hs2
    have e := ml_comm ha hb h1 h2
    have : mx a b r s = mx b a s r := by
      refine mx_uniq b1.1 b1.2.1 b2.1 (by rw [e]; exact b2.2.1) ((ml_dvd ha hb h1 h2).2 ⟨?_, ?_⟩)
      · have := Int.dvd_sub q1.1 q2.2
        rwa [show ∀ x y z : Int, x - z - (y - z) = x - y from fun x y z => by omega] at this
      · have := Int.dvd_sub q1.2 q2.1
        rwa [show ∀ x y z : Int, x - z - (y - z) = x - y from fun x y z => by omega] at this
    rw [this, e, if_neg (show ¬ (r % gg a b ≠ s % gg a b) from fun x => x h), if_neg (show ¬ (s % gg a b ≠ r % gg a b) from fun x => x h.symm)]
  · rw [if_pos h, if_pos (Ne.symm h)]
theorem nr_b {m r : Int} (h : m ≠ 0) (hm : U64 m) : 0 ≤ nr m r ∧ nr m r < m := by
  unfold U64 at hm
  unfold nr
  rw [if_neg h]
  exact ⟨Int.emod_nonneg _ h, Int.emod_lt_of_pos _ (by omega)⟩
theorem meet_comm {a0 a1 b0 b1 : Int} (h1 : U64 a0) (h2 : U64 a1) (h3 : U64 b0) (h4 : U64 b1) : meetS a0 a1 b0 b1 = meetS b0 b1 a0 a1 := by
  unfold meetS
  by_cases ha : a0 = 0
  · subst ha
    by_cases hb : b0 = 0
    · subst hb
      simp only [if_true]
      have e (x : Int) : nr 0 x = x := by unfold nr; simp
      simp only [e, hasS, if_true, decide_eq_true_eq]
      by_cases h : IntKind.i64.wrap a1 = IntKind.i64.wrap b1
      · rw [wi_inj h2 h4 h]
      · rw [if_neg h, if_neg (Ne.symm h)]
    · simp only [if_true, if_neg hb]
  · by_cases hb : b0 = 0
    · subst hb
      simp only [if_true, if_neg ha]
    · simp only [if_neg ha, if_neg hb]
      have := nr_b (r := a1) ha h1
      have := nr_b (r := b1) hb h3
      exact meet2_comm h1 h3 ha hb (by omega) (by omega) (by omega) (by omega)
/-- the meet told: which numbers of 64 bits it holds -/
theorem meet_spec {a0 a1 b0 b1 : Int} (h1 : U64 a0) (h2 : U64 a1) (h3 : U64 b0) (h4 : U64 b1) :
    U64 (meetS a0 a1 b0 b1).1 ∧ U64 (meetS a0 a1 b0 b1).2.1 ∧ ((meetS a0 a1 b0 b1).1 = 0 ∨ (meetS a0 a1 b0 b1).2.1 < (meetS a0 a1 b0 b1).1) ∧
    ((meetS a0 a1 b0 b1).2.2 = false → (meetS a0 a1 b0 b1).1 = 0 ∧ (meetS a0 a1 b0 b1).2.1 = 0) ∧
    (∀ y, I64 y → ((meetS a0 a1 b0 b1).2.2 = true ∧ hasS (meetS a0 a1 b0 b1).1 (meetS a0 a1 b0 b1).2.1 y = true ↔ hasS a0 a1 y = true ∧ hasS b0 b1 y = true)) := by
  have z : U64 0 := by unfold U64; omega
  unfold meetS
  by_cases ha : a0 = 0
  · subst ha
    simp only [if_true, hasS_nr]
    by_cases h : hasS b0 b1 (IntKind.i64.wrap a1) = true
    · simp only [if_pos h]
      refine ⟨z, h2, .inl trivial, fun h => by simp at h, fun y hy => ?_⟩
      constructor
      · rintro ⟨_, q⟩
        refine ⟨q, ?_⟩
        unfold hasS at q
        simp only [if_true, decide_eq_true_eq] at q
        rw [q]; exact h
      · rintro ⟨q, _⟩; exact ⟨trivial, q⟩
    · simp only [if_neg h]
      refine ⟨z, z, .inl trivial, fun _ => by simp, fun y hy => ?_⟩
      constructor
      · rintro ⟨q, _⟩; simp at q
      · rintro ⟨q, q2⟩
        unfold hasS at q
        simp only [if_true, decide_eq_true_eq] at q
        rw [q] at q2; exact absurd q2 h
  · simp only [if_neg ha]
    by_cases hb : b0 = 0
    · subst hb
      simp only [if_true, hasS_nr]
      by_cases h : hasS a0 a1 (IntKind.i64.wrap b1) = true
      · simp only [if_pos h]
        refine ⟨z, h4, .inl trivial, fun h => by simp at h, fun y hy => ?_⟩
        constructor
        · rintro ⟨_, q⟩
          refine ⟨?_, q⟩
          unfold hasS at q
          simp only [if_true, decide_eq_true_eq] at q
          rw [q]; exact h
        · rintro ⟨_, q⟩; exact ⟨trivial, q⟩
      · simp only [if_neg h]
        refine ⟨z, z, .inl trivial, fun _ => by simp, fun y hy => ?_⟩
        constructor
        · rintro ⟨q, _⟩; simp at q
        · rintro ⟨q2, q⟩
          unfold hasS at q
          simp only [if_true, decide_eq_true_eq] at q
          rw [q] at q2; exact absurd q2 h
    · simp only [if_neg hb]
      have hr := nr_b (r := a1) ha h1
      have hs := nr_b (r := b1) hb h3
      have ea (y : Int) : hasS a0 a1 y = true ↔ a0 ∣ y - nr a0 a1 := by
        rw [has_iff]; unfold val nr; simp only [if_neg ha]
      have eb (y : Int) : hasS b0 b1 y = true ↔ b0 ∣ y - nr b0 b1 := by
        rw [has_iff]; unfold val nr; simp only [if_neg hb]
      simp only [ea, eb]
      generalize nr a0 a1 = r at *
      generalize nr b0 b1 = s at *
      unfold meet2
      by_cases h : r % gg a0 b0 = s % gg a0 b0
      · have q := mx_is h1 h3 ha hb h
        have bd := mx_b (r := r) (s := s) h1 h3 ha hb hr.1 hr.2
        have key : ∀ y, (a0 ∣ y - r ∧ b0 ∣ y - s) ↔ ml a0 b0 ∣ y - mx a0 b0 r s := by
          intro y
          rw [ml_dvd h1 h3 ha hb]
          constructor
          · rintro ⟨x1, x2⟩
            have y1 := Int.dvd_sub x1 q.1
            have y2 := Int.dvd_sub x2 q.2
            simp only [show ∀ x y z : Int, x - z - (y - z) = x - y from fun x y z => by omega] at y1 y2
            exact ⟨y1, y2⟩
          · rintro ⟨x1, x2⟩
            have y1 := Int.dvd_add x1 q.1
            have y2 := Int.dvd_add x2 q.2
            simp only [show ∀ x y z : Int, x - z + (z - y) = x - y from fun x y z => by omega] at y1 y2
            exact ⟨y1, y2⟩
        simp only [key]
        rw [if_neg (by simpa using h)]
        generalize mx a0 b0 r s = x at *
        generalize ml a0 b0 = l at *
        obtain ⟨x0, x1, x2⟩ := bd
        by_cases c1 : l < 18446744073709551616
        · simp only [if_pos c1]
          refine ⟨by unfold U64; omega, by unfold U64; omega, .inr x1, fun h => by simp at h, fun y hy => ?_⟩
          rw [has_iff]
          unfold val
          rw [if_neg (by omega), Int.emod_eq_of_lt x0 x1]
          exact ⟨fun h => h.2, fun h => ⟨trivial, h⟩⟩
        · simp only [if_neg c1]
          have near : ∀ y, I64 y → l ∣ y - x → y = x ∨ y = x - l := by
            intro y hy hd
            obtain ⟨k, hk⟩ := hd
            unfold I64 at hy
            rcases Int.lt_trichotomy k 0 with hk0 | hk0 | hk0
            · by_cases hk1 : k < -1
              · exfalso
                have : l * k ≤ l * (-2) := Int.mul_le_mul_of_nonneg_left (by omega) (by omega)
                omega
              · have : k = -1 := by omega
                subst this
                right; omega
            · subst hk0; left; omega
            · exfalso
              have : l * 1 ≤ l * k := Int.mul_le_mul_of_nonneg_left (by omega) (by omega)
              omega
          by_cases c2 : x ≤ 9223372036854775807
          · simp only [if_pos c2]
            refine ⟨z, by unfold U64; omega, .inl trivial, fun h => by simp at h, fun y hy => ?_⟩
            have e : IntKind.i64.wrap x = x := wi_id (by omega) (by omega)
            unfold hasS
            simp only [if_true, decide_eq_true_eq, e, true_and]
            constructor
            · rintro rfl; rw [Int.sub_self]; exact Int.dvd_zero _
            · intro hd
              rcases near y hy hd with h | h
              · exact h
              · unfold I64 at hy; omega
          · simp only [if_neg c2]
            by_cases c3 : l - x ≤ 9223372036854775808
            · simp only [if_pos c3]
              refine ⟨z, by unfold U64; omega, .inl trivial, fun h => by simp at h, fun y hy => ?_⟩
              have e : IntKind.i64.wrap (18446744073709551616 - (l - x)) = x - l := by rw [wi_eq]; omega
              unfold hasS
              simp only [if_true, decide_eq_true_eq, e, true_and]
              constructor
              · rintro rfl; exact ⟨-1, by omega⟩
              · intro hd
                rcases near y hy hd with h | h
                · unfold I64 at hy; omega
                · exact h
            · simp only [if_neg c3]
              refine ⟨z, z, .inl trivial, fun _ => by simp, fun y hy => ?_⟩
              constructor
              · rintro ⟨q, _⟩; simp at q
              · intro hd
                exfalso
                unfold I64 at hy
                rcases near y hy hd with h | h <;> omega
      · rw [if_pos h]
        refine ⟨z, z, .inl rfl, fun _ => by simp, fun y hy => ?_⟩
        constructor
        · rintro ⟨q, _⟩; simp at q
        · rintro ⟨q1, q2⟩
          exfalso
          apply h
          obtain ⟨d1, d2⟩ := gg_dvd h1.1 h3.1
          have y1 := mdd.2 (Int.dvd_trans d1 q1)
          have y2 := mdd.2 (Int.dvd_trans d2 q2)
          rw [← y1, ← y2]
end Go.Proofs.YtoggbmfjkcbilaaDoor.V
