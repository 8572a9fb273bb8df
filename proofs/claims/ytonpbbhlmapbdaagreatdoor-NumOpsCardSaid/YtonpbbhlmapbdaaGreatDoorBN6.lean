/- Classes as sets. Conditions: none. -/
import Derived.Test.YtonpbbhlmapbdaaGreatDoorBN5
set_option linter.unusedVariables false
set_option linter.unusedSimpArgs false
namespace Go.Proofs.YtonpbbhlmapbdaaGreatDoor.V.B
open Go Go.Wk Go.RowKit
theorem wi_I (r : Int) : I64 (IntKind.i64.wrap r) := by unfold I64; rw [wi_eq]; omega
theorem mod_near {m f x : Int} (h0 : 0 < m) (h1 : 0 ≤ x) (h2 : x % m = f) : f ≤ x := by
  have h3 := Int.emod_add_mul_ediv x m
  have h4 := Int.mul_nonneg (show 0 ≤ m by omega) (Int.ediv_nonneg h1 (show 0 ≤ m by omega))
  omega
theorem up_spec {m r v : Int} (hm : U64 m) (hr : U64 r) (hv : I64 v) :
    I64 (upS m r v).1 ∧ ((upS m r v).2 = true → v ≤ (upS m r v).1 ∧ hasS m r (upS m r v).1 = true) ∧ ((upS m r v).2 = false → (upS m r v).1 = 0) ∧
    (∀ c, I64 c → v ≤ c → hasS m r c = true → (upS m r v).2 = true ∧ (upS m r v).1 ≤ c) := by
  unfold upS hasS
  by_cases h : m = 0
  · simp only [if_pos h]
    have hw := wi_I r
    generalize IntKind.i64.wrap r = w at hw
    by_cases hc : w < v
    · simp only [if_pos hc]
      refine ⟨by unfold I64; decide, fun h => by simp at h, fun _ => by simp, fun c hcc h1 h2 => ?_⟩
      simp only [decide_eq_true_eq] at h2
      omega
    · simp only [if_neg hc]
      refine ⟨hw, fun _ => ⟨by omega, by simp⟩, fun h => by simp at h, fun c hcc h1 h2 => ?_⟩
      simp only [decide_eq_true_eq] at h2
      exact ⟨by simp, by omega⟩
  · simp only [if_neg h]
    have hm0 : 0 < m := by unfold U64 at hm; omega
    have hf := far1_b (m := m) (x := r) (y := v) hm0
    have hfd : far1 m r v = (r - v) % m := rfl
    generalize far1 m r v = f at hf hfd
    have key : ∀ c, I64 c → v ≤ c → c % m = r % m → v + f ≤ c := by
      intro c _ h1 h2
      have : (c - v) % m = f := by rw [hfd, Int.sub_emod, h2, ← Int.sub_emod]
      have := mod_near hm0 (by omega) this
      omega
    have hin : (v + f) % m = r % m := by
      rw [hfd, Int.add_emod, Int.emod_emod_of_dvd _ (Int.dvd_refl m), ← Int.add_emod]; congr 1; omega
    unfold I64 at hv
    by_cases hc : f ≤ 9223372036854775807 - v
    · simp only [if_pos hc]
      refine ⟨by unfold I64; omega, fun _ => ⟨by omega, by simpa using hin⟩, fun h => by simp at h, fun c h0 h1 h2 => ?_⟩
      simp only [decide_eq_true_eq] at h2
      exact ⟨by simp, key c h0 h1 h2⟩
    · simp only [if_neg hc]
      refine ⟨by unfold I64; decide, fun h => by simp at h, fun _ => by simp, fun c h0 h1 h2 => ?_⟩
      simp only [decide_eq_true_eq] at h2
      have := key c h0 h1 h2
      unfold I64 at h0
      omega
theorem dn_spec {m r v : Int} (hm : U64 m) (hr : U64 r) (hv : I64 v) :
    I64 (dnS m r v).1 ∧ ((dnS m r v).2 = true → (dnS m r v).1 ≤ v ∧ hasS m r (dnS m r v).1 = true) ∧ ((dnS m r v).2 = false → (dnS m r v).1 = 0) ∧
    (∀ c, I64 c → c ≤ v → hasS m r c = true → (dnS m r v).2 = true ∧ c ≤ (dnS m r v).1) := by
  unfold dnS hasS
  by_cases h : m = 0
  · simp only [if_pos h]
    have hw := wi_I r
    generalize IntKind.i64.wrap r = w at hw
    by_cases hc : w > v
    · simp only [if_pos hc]
      refine ⟨by unfold I64; decide, fun h => by simp at h, fun _ => by simp, fun c hcc h1 h2 => ?_⟩
      simp only [decide_eq_true_eq] at h2
      omega
    · simp only [if_neg hc]
      refine ⟨hw, fun _ => ⟨by omega, by simp⟩, fun h => by simp at h, fun c hcc h1 h2 => ?_⟩
      simp only [decide_eq_true_eq] at h2
      exact ⟨by simp, by omega⟩
  · simp only [if_neg h]
    have hm0 : 0 < m := by unfold U64 at hm; omega
    have hf := far1_b (m := m) (x := v) (y := r) hm0
    have hfd : far1 m v r = (v - r) % m := rfl
    generalize far1 m v r = f at hf hfd
    have key : ∀ c, I64 c → c ≤ v → c % m = r % m → c ≤ v - f := by
      intro c _ h1 h2
      have : (v - c) % m = f := by rw [hfd, Int.sub_emod, h2, ← Int.sub_emod]
      have := mod_near hm0 (by omega) this
      omega
    have hin : (v - f) % m = r % m := by
      rw [hfd, Int.sub_emod, Int.emod_emod_of_dvd _ (Int.dvd_refl m), ← Int.sub_emod]; congr 1; omega
    unfold I64 at hv
    by_cases hc : f ≤ v + 9223372036854775808
    · simp only [if_pos hc]
      refine ⟨by unfold I64; omega, fun _ => ⟨by omega, by simpa using hin⟩, fun h => by simp at h, fun c h0 h1 h2 => ?_⟩
      simp only [decide_eq_true_eq] at h2
      exact ⟨by simp, key c h0 h1 h2⟩
    · simp only [if_neg hc]
      refine ⟨by unfold I64; decide, fun h => by simp at h, fun _ => by simp, fun c h0 h1 h2 => ?_⟩
      simp only [decide_eq_true_eq] at h2
      have := key c h0 h1 h2
      unfold I64 at h0
      omega
open Go Go.Wk Go.RowKit
theorem mdd {m x y : Int} : x % m = y % m ↔ m ∣ x - y := by
  rw [Int.emod_eq_emod_iff_emod_sub_eq_zero, Int.dvd_iff_emod_eq_zero]
theorem has_iff {m r v : Int} : hasS m r v = true ↔ m ∣ v - val m r := by
  unfold hasS val
  by_cases h : m = 0
  · subst h
    simp only [if_true, decide_eq_true_eq, Int.zero_dvd]
    omega
  · simp only [if_neg h, decide_eq_true_eq]
    rw [← mdd, Int.emod_emod_of_dvd _ (Int.dvd_refl m)]
theorem dst_dvd {c x y : Int} : c ∣ dst x y ↔ c ∣ x - y := by
  unfold dst
  split
  · rw [← Int.dvd_neg, show -(y - x) = x - y by omega]
  · exact Iff.rfl
theorem gg_iff {c x y : Int} (hx : 0 ≤ x) (hy : 0 ≤ y) : c ∣ gg x y ↔ c ∣ x ∧ c ∣ y :=
  ⟨fun h => ⟨Int.dvd_trans h (gg_dvd hx hy).1, Int.dvd_trans h (gg_dvd hx hy).2⟩, fun h => dvd_gg hx hy h.1 h.2⟩
theorem jg_iff {c a0 a1 b0 b1 : Int} (h1 : 0 ≤ a0) (h3 : 0 ≤ b0) : c ∣ jg a0 a1 b0 b1 ↔ (c ∣ a0 ∧ c ∣ b0) ∧ c ∣ val a0 a1 - val b0 b1 := by
  unfold jg
  rw [gg_iff (gg_nonneg _ _) (dst_nonneg _ _), gg_iff h1 h3, dst_dvd]
/-- the join told: its modulus and what it holds -/
theorem join_spec {a0 a1 b0 b1 : Int} (h1 : U64 a0) (h2 : U64 a1) (h3 : U64 b0) (h4 : U64 b1) :
    U64 (joinS a0 a1 b0 b1).1 ∧ U64 (joinS a0 a1 b0 b1).2 ∧ (∀ c, c ∣ (joinS a0 a1 b0 b1).1 ↔ (c ∣ a0 ∧ c ∣ b0) ∧ c ∣ val a0 a1 - val b0 b1) ∧
    (joinS a0 a1 b0 b1).1 ∣ val (joinS a0 a1 b0 b1).1 (joinS a0 a1 b0 b1).2 - val a0 a1 ∧ ((joinS a0 a1 b0 b1).1 = 0 ∨ (joinS a0 a1 b0 b1).2 < (joinS a0 a1 b0 b1).1) := by
  have hj := jg_U h1 h2 h3 h4
  have hi := fun c => jg_iff (c := c) (a1 := a1) (b1 := b1) h1.1 h3.1
  unfold joinS
  simp only
  generalize jg a0 a1 b0 b1 = g at hj hi
  by_cases h : g = 0
  · subst h
    have ha : a0 = 0 := by have := ((hi 0).1 (Int.dvd_refl 0)).1.1; rwa [Int.zero_dvd] at this
    subst ha
    simp only [if_true]
    refine ⟨hj, nr_U h1 h2, hi, ?_, .inl (by simp)⟩
    have : nr 0 a1 = a1 := by unfold nr; simp
    rw [this, Int.sub_self]
    exact Int.dvd_refl 0
  · simp only [if_neg h]
    have hp : 0 < g := by unfold U64 at hj; omega
    have q1 := Int.emod_nonneg (val a0 a1) h
    have q2 := Int.emod_lt_of_pos (val a0 a1) hp
    refine ⟨hj, by unfold U64 at *; omega, hi, ?_, .inr q2⟩
    rw [← mdd]
    unfold val
    simp only [if_neg h, Int.emod_emod_of_dvd _ (Int.dvd_refl g)]
open Go Go.Wk Go.RowKit
theorem ml_dvd {a b z : Int} (ha : U64 a) (hb : U64 b) (h1 : a ≠ 0) (h2 : b ≠ 0) : ml a b ∣ z ↔ a ∣ z ∧ b ∣ z := by
  obtain ⟨g0, p1, p0, a1, eb, ea, cp⟩ := part_s ha hb h1 h2
  obtain ⟨_, i0, i1, i2⟩ := inv_s a1 p1 (by omega) cp
  unfold ml
  generalize mpt a b = p at *
  generalize cong_inverse (a / gg a b) p = i at *
  generalize a / gg a b = a' at *
  generalize gg a b = g at *
  constructor
  · intro h
    refine ⟨Int.dvd_trans ⟨p, rfl⟩ h, Int.dvd_trans ⟨a', ?_⟩ h⟩
    rw [← eb, ← ea, Int.mul_comm a' g, Int.mul_comm p g, Int.mul_assoc, Int.mul_assoc, Int.mul_comm a' p]
  · rintro ⟨⟨k, rfl⟩, h⟩
    have hp : p ∣ a' * k := by
      have : p * g ∣ (a' * k) * g := by
        rw [eb, Int.mul_right_comm, ea]; exact h
      exact Int.dvd_of_mul_dvd_mul_right (by omega) this
    have hk : p ∣ k := by
      have e : k = i * (a' * k) - (a' * i - 1) * k := by
        rw [Int.sub_mul, Int.one_mul, Int.mul_left_comm i a' k, Int.mul_assoc]; omega
      rw [e]
      exact Int.dvd_sub (Int.dvd_mul_of_dvd_right hp) (Int.dvd_mul_of_dvd_left i2)
    obtain ⟨q, rfl⟩ := hk
    exact ⟨q, by rw [Int.mul_assoc]⟩
theorem mx_is {a b r s : Int} (ha : U64 a) (hb : U64 b) (h1 : a ≠ 0) (h2 : b ≠ 0) (h : r % gg a b = s % gg a b) : a ∣ mx a b r s - r ∧ b ∣ mx a b r s - s := by
  obtain ⟨g0, p1, p0, a1, eb, ea, cp⟩ := part_s ha hb h1 h2
  obtain ⟨_, i0, i1, i2⟩ := inv_s a1 p1 (by omega) cp
  have hg := mdd.1 h.symm
  unfold mx mst mk
  generalize mpt a b = p at *
  generalize cong_inverse (a / gg a b) p = i at *
  generalize a / gg a b = a' at *
  generalize gg a b = g at *
  obtain ⟨e, he⟩ := hg
  have e1 : (s - r) / g = e := by rw [he, Int.mul_ediv_cancel_left _ (by omega)]
  rw [e1]
  generalize hm : e % p * i % p = t
  constructor
  · exact ⟨t, by omega⟩
  · have k1 : p ∣ e % p - e := by rw [← mdd]; exact Int.emod_emod_of_dvd _ (Int.dvd_refl p)
    have k2 : p ∣ t - e % p * i := by rw [← hm, ← mdd]; exact Int.emod_emod_of_dvd _ (Int.dvd_refl p)
    have k3 : p ∣ a' * t - e := by
      have x : a' * t - e = a' * (t - e % p * i) + ((a' * i - 1) * (e % p) + (e % p - e)) := by
        rw [Int.mul_sub, Int.sub_mul, Int.one_mul, Int.mul_left_comm a' (e % p) i, Int.mul_comm (e % p) (a' * i)]; omega
      rw [x]
      exact Int.dvd_add (Int.dvd_mul_of_dvd_right k2) (Int.dvd_add (Int.dvd_mul_of_dvd_left i2) k1)
    obtain ⟨q, hq⟩ := k3
    refine ⟨q, ?_⟩
    have x : a * t + r - s = g * (a' * t - e) := by
      rw [Int.mul_sub, ← he, ← Int.mul_assoc, Int.mul_comm g a', ea]; omega
    rw [x, hq, ← eb, ← Int.mul_assoc, Int.mul_comm g p]
theorem nr_b {m r : Int} (h : m ≠ 0) (hm : U64 m) : 0 ≤ nr m r ∧ nr m r < m := by
  unfold U64 at hm
  unfold nr
  rw [if_neg h]
  exact ⟨Int.emod_nonneg _ h, Int.emod_lt_of_pos _ (by omega)⟩
/-- the meet told: which numbers of 64 bits it holds -/
theorem meet_spec {a0 a1 b0 b1 : Int} (h1 : U64 a0) (h2 : U64 a1) (h3 : U64 b0) (h4 : U64 b1) :
    U64 (meetS a0 a1 b0 b1).1 ∧ U64 (meetS a0 a1 b0 b1).2.1 ∧ ((meetS a0 a1 b0 b1).1 = 0 ∨ (meetS a0 a1 b0 b1).2.1 < (meetS a0 a1 b0 b1).1) ∧
    ((meetS a0 a1 b0 b1).2.2 = false → (meetS a0 a1 b0 b1).1 = 0 ∧ (meetS a0 a1 b0 b1).2.1 = 0) ∧
    (∀ y, I64 y → ((meetS a0 a1 b0 b1).2.2 = true ∧ hasS (meetS a0 a1 b0 b1).1 (meetS a0 a1 b0 b1).2.1 y = true ↔ hasS a0 a1 y = true ∧ hasS b0 b1 y = true)) := by
  have z : U64 0 := by unfold U64; omega
  unfold meetS
  by_cases ha : a0 = 0
  · subst ha
    simp only [if_true, hasS_nr]
    by_cases h : hasS b0 b1 (IntKind.i64.wrap a1) = true
    · simp only [if_pos h]
      refine ⟨z, h2, .inl trivial, fun h => by simp at h, fun y hy => ?_⟩
      constructor
      · rintro ⟨_, q⟩
        refine ⟨q, ?_⟩
        unfold hasS at q
        simp only [if_true, decide_eq_true_eq] at q
        rw [q]; exact h
      · rintro ⟨q, _⟩; exact ⟨trivial, q⟩
    · simp only [if_neg h]
      refine ⟨z, z, .inl trivial, fun _ => by simp, fun y hy => ?_⟩
      constructor
      · rintro ⟨q, _⟩; simp at q
      · rintro ⟨q, q2⟩
        unfold hasS at q
        simp only [if_true, decide_eq_true_eq] at q
        rw [q] at q2; exact absurd q2 h
  · simp only [if_neg ha]
    by_cases hb : b0 = 0
    · subst hb
      simp only [if_true, hasS_nr]
      by_cases h : hasS a0 a1 (IntKind.i64.wrap b1) = true
      · simp only [if_pos h]
        refine ⟨z, h4, .inl trivial, fun h => by simp at h, fun y hy => ?_⟩
        constructor
        · rintro ⟨_, q⟩
          refine ⟨?_, q⟩
          unfold hasS at q
          simp only [if_true, decide_eq_true_eq] at q
          rw [q]; exact h
        · rintro ⟨_, q⟩; exact ⟨trivial, q⟩
      · simp only [if_neg h]
        refine ⟨z, z, .inl trivial, fun _ => by simp, fun y hy => ?_⟩
        constructor
        · rintro ⟨q, _⟩; simp at q
        · rintro ⟨q2, q⟩
          unfold hasS at q
          simp only [if_true, decide_eq_true_eq] at q
          rw [q] at q2; exact absurd q2 h
    · simp only [if_neg hb]
      have hr := nr_b (r := a1) ha h1
      have hs := nr_b (r := b1) hb h3
      have ea (y : Int) : hasS a0 a1 y = true ↔ a0 ∣ y - nr a0 a1 := by
        rw [has_iff]; unfold val nr; simp only [if_neg ha]
      have eb (y : Int) : hasS b0 b1 y = true ↔ b0 ∣ y - nr b0 b1 := by
        rw [has_iff]; unfold val nr; simp only [if_neg hb]
      simp only [ea, eb]
      generalize nr a0 a1 = r at *
      generalize nr b0 b1 = s at *
      unfold meet2
      by_cases h : r % gg a0 b0 = s % gg a0 b0
      · have q := mx_is h1 h3 ha hb h
        have bd := mx_b (r := r) (s := s) h1 h3 ha hb hr.1 hr.2
        have key : ∀ y, (a0 ∣ y - r ∧ b0 ∣ y - s) ↔ ml a0 b0 ∣ y - mx a0 b0 r s := by
          intro y
          rw [ml_dvd h1 h3 ha hb]
          constructor
          · rintro ⟨x1, x2⟩
            have y1 := Int.dvd_sub x1 q.1
            have y2 := Int.dvd_sub x2 q.2
            simp only [show ∀ x y z : Int, x - z - (y - z) = x - y from fun x y z => by omega] at y1 y2
            exact ⟨y1, y2⟩
          · rintro ⟨x1, x2⟩
            have y1 := Int.dvd_add x1 q.1
            have y2 := Int.dvd_add x2 q.2
            simp only [show ∀ x y z : Int, x - z + (z - y) = x - y from fun x y z => by omega] at y1 y2
            exact ⟨y1, y2⟩
        simp only [key]
        rw [if_neg (by simpa using h)]
        generalize mx a0 b0 r s = x at *
        generalize ml a0 b0 = l at *
        obtain ⟨x0, x1, x2⟩ := bd
        by_cases c1 : l < 18446744073709551616
        · simp only [if_pos c1]
          refine ⟨by unfold U64; omega, by unfold U64; omega, .inr x1, fun h => by simp at h, fun y hy => ?_⟩
          rw [has_iff]
          unfold val
          rw [if_neg (by omega), Int.emod_eq_of_lt x0 x1]
          exact ⟨fun h => h.2, fun h => ⟨trivial, h⟩⟩
        · simp only [if_neg c1]
          have near : ∀ y, I64 y → l ∣ y - x → y = x ∨ y = x - l := by
            intro y hy hd
            obtain ⟨k, hk⟩ := hd
            unfold I64 at hy
            rcases Int.lt_trichotomy k 0 with hk0 | hk0 | hk0
            · by_cases hk1 : k < -1
              · exfalso
                have : l * k ≤ l * (-2) := Int.mul_le_mul_of_nonneg_left (by omega) (by omega)
                omega
              · have : k = -1 := by omega
                subst this
                right; omega
            · subst hk0; left; omega
            · exfalso
              have : l * 1 ≤ l * k := Int.mul_le_mul_of_nonneg_left (by omega) (by omega)
              omega
          by_cases c2 : x ≤ 9223372036854775807
          · simp only [if_pos c2]
            refine ⟨z, by unfold U64; omega, .inl trivial, fun h => by simp at h, fun y hy => ?_⟩
            have e : IntKind.i64.wrap x = x := wi_id (by omega) (by omega)
            unfold hasS
            simp only [if_true, decide_eq_true_eq, e, true_and]
            constructor
            · rintro rfl; rw [Int.sub_self]; exact Int.dvd_zero _
            · intro hd
              rcases near y hy hd with h | h
              · exact h
              · unfold I64 at hy; omega
          · simp only [if_neg c2]
            by_cases c3 : l - x ≤ 9223372036854775808
            · simp only [if_pos c3]
              refine ⟨z, by unfold U64; omega, .inl trivial, fun h => by simp at h, fun y hy => ?_⟩
              have e : IntKind.i64.wrap (18446744073709551616 - (l - x)) = x - l := by rw [wi_eq]; omega
              unfold hasS
              simp only [if_true, decide_eq_true_eq, e, true_and]
              constructor
              · rintro rfl; exact ⟨-1, by omega⟩
              · intro hd
                rcases near y hy hd with h | h
                · unfold I64 at hy; omega
                · exact h
            · simp only [if_neg c3]
              refine ⟨z, z, .inl trivial, fun _ => by simp, fun y hy => ?_⟩
              constructor
              · rintro ⟨q, _⟩; simp at q
              · intro hd
                exfalso
                unfold I64 at hy
                rcases near y hy hd with h | h <;> omega
      · rw [if_pos h]
        refine ⟨z, z, .inl rfl, fun _ => by simp, fun y hy => ?_⟩
        constructor
        · rintro ⟨q, _⟩; simp at q
        · rintro ⟨q1, q2⟩
          exfalso
          apply h
          obtain ⟨d1, d2⟩ := gg_dvd h1.1 h3.1
          have y1 := mdd.2 (Int.dvd_trans d1 q1)
          have y2 := mdd.2 (Int.dvd_trans d2 q2)
          rw [← y1, ← y2]
end Go.Proofs.YtonpbbhlmapbdaaGreatDoor.V.B
