/- Classes as sets of numbers, told by divisibility. Conditions: none. -/
import Derived.Test.YtoggbmfjkcbilaaDoorN17
set_option linter.unusedVariables false
set_option linter.unusedSimpArgs false
namespace Go.Proofs.YtoggbmfjkcbilaaDoor.V
open Go Go.Wk Go.RowKit

theorem mdd {m x y : Int} : x % m = y % m ↔ m ∣ x - y := by
  rw [Int.emod_eq_emod_iff_emod_sub_eq_zero, Int.dvd_iff_emod_eq_zero]
theorem wi_inj {x y : Int} (hx : U64 x) (hy : U64 y) (h : IntKind.i64.wrap x = IntKind.i64.wrap y) : x = y := by
  unfold U64 at *
  rw [wi_eq, wi_eq] at h
  omega
theorem has_iff {m r v : Int} : hasS m r v = true ↔ m ∣ v - val m r := by
  unfold hasS val
  by_cases h : m = 0
  · subst h
    simp only [if_true, decide_eq_true_eq, Int.zero_dvd]
    omega
  · simp only [if_neg h, decide_eq_true_eq]
    rw [← mdd, Int.emod_emod_of_dvd _ (Int.dvd_refl m)]
theorem leq_iff {a0 a1 b0 b1 : Int} (h2 : U64 a1) (h4 : U64 b1) : leqS a0 a1 b0 b1 = true ↔ b0 ∣ a0 ∧ b0 ∣ val a0 a1 - val b0 b1 := by
  unfold leqS
  by_cases h : b0 = 0
  · subst h
    simp only [if_true, decide_eq_true_eq, Int.zero_dvd]
    constructor
    · rintro ⟨rfl, rfl⟩; exact ⟨rfl, by omega⟩
    · rintro ⟨rfl, h⟩
      refine ⟨rfl, wi_inj h2 h4 ?_⟩
      unfold val at h
      simp only [if_true] at h
      omega
  · simp only [if_neg h, decide_eq_true_eq]
    rw [mdd, ← Int.dvd_iff_emod_eq_zero]
theorem dst_dvd {c x y : Int} : c ∣ dst x y ↔ c ∣ x - y := by
  unfold dst
  split
  · rw [← Int.dvd_neg, show -(y - x) = x - y by omega]
  · exact Iff.rfl
theorem gg_iff {c x y : Int} (hx : 0 ≤ x) (hy : 0 ≤ y) : c ∣ gg x y ↔ c ∣ x ∧ c ∣ y :=
  ⟨fun h => ⟨Int.dvd_trans h (gg_dvd hx hy).1, Int.dvd_trans h (gg_dvd hx hy).2⟩, fun h => dvd_gg hx hy h.1 h.2⟩
theorem jg_iff {c a0 a1 b0 b1 : Int} (h1 : 0 ≤ a0) (h3 : 0 ≤ b0) : c ∣ jg a0 a1 b0 b1 ↔ (c ∣ a0 ∧ c ∣ b0) ∧ c ∣ val a0 a1 - val b0 b1 := by
  unfold jg
  rw [gg_iff (gg_nonneg _ _) (dst_nonneg _ _), gg_iff h1 h3, dst_dvd]
theorem jg_nonneg (a0 a1 b0 b1 : Int) : 0 ≤ jg a0 a1 b0 b1 := gg_nonneg _ _
theorem dvd_eq {x y : Int} (hx : 0 ≤ x) (hy : 0 ≤ y) (h1 : x ∣ y) (h2 : y ∣ x) : x = y := Int.dvd_antisymm hx hy h1 h2
theorem nr_lt {m r : Int} (hm : 0 ≤ m) : m = 0 ∨ nr m r < m := by
  unfold nr
  by_cases h : m = 0
  · exact .inl h
  · rw [if_neg h]; exact .inr (Int.emod_lt_of_pos _ (by omega))
/-- the join told: its modulus and what it holds -/
theorem join_spec {a0 a1 b0 b1 : Int} (h1 : U64 a0) (h2 : U64 a1) (h3 : U64 b0) (h4 : U64 b1) :
    U64 (joinS a0 a1 b0 b1).1 ∧ U64 (joinS a0 a1 b0 b1).2 ∧ (∀ c, c ∣ (joinS a0 a1 b0 b1).1 ↔ (c ∣ a0 ∧ c ∣ b0) ∧ c ∣ val a0 a1 - val b0 b1) ∧
    (joinS a0 a1 b0 b1).1 ∣ val (joinS a0 a1 b0 b1).1 (joinS a0 a1 b0 b1).2 - val a0 a1 ∧ ((joinS a0 a1 b0 b1).1 = 0 ∨ (joinS a0 a1 b0 b1).2 < (joinS a0 a1 b0 b1).1) := by
  have hj := jg_U h1 h2 h3 h4
  have hi := fun c => jg_iff (c := c) (a1 := a1) (b1 := b1) h1.1 h3.1
  unfold joinS
  simp only
  generalize jg a0 a1 b0 b1 = g at hj hi
  by_cases h : g = 0
  · subst h
    have ha : a0 = 0 := by have := ((hi 0).1 (Int.dvd_refl 0)).1.1; rwa [Int.zero_dvd] at this
    subst ha
    simp only [if_true]
    refine ⟨hj, nr_U h1 h2, hi, ?_, .inl (by simp)⟩
    have : nr 0 a1 = a1 := by unfold nr; simp
    rw [this, Int.sub_self]
    exact Int.dvd_refl 0
  · simp only [if_neg h]
    have hp : 0 < g := by unfold U64 at hj; omega
    have q1 := Int.emod_nonneg (val a0 a1) h
    have q2 := Int.emod_lt_of_pos (val a0 a1) hp
    refine ⟨hj, by unfold U64 at *; omega, hi, ?_, .inr q2⟩
    rw [← mdd]
    unfold val
    simp only [if_neg h, Int.emod_emod_of_dvd _ (Int.dvd_refl g)]
theorem val_inj {m r s : Int} (hm : 0 ≤ m) (hr : U64 r) (hs : U64 s) (h1 : m = 0 ∨ r < m) (h2 : m = 0 ∨ s < m) (h : m ∣ val m r - val m s) : r = s := by
  by_cases h0 : m = 0
  · subst h0
    rw [Int.zero_dvd] at h
    unfold val at h
    simp only [if_true] at h
    exact wi_inj hr hs (by omega)
  · rw [← mdd] at h
    unfold val at h
    unfold U64 at hr hs
    simp only [if_neg h0, Int.emod_emod_of_dvd _ (Int.dvd_refl m)] at h
    rw [Int.emod_eq_of_lt hr.1 (by omega), Int.emod_eq_of_lt hs.1 (by omega)] at h
    exact h
theorem join_uniq {a0 a1 b0 b1 m r : Int} (h1 : U64 a0) (h2 : U64 a1) (h3 : U64 b0) (h4 : U64 b1) (hm : 0 ≤ m) (hr : U64 r) (hc : m = 0 ∨ r < m)
    (hi : ∀ c, c ∣ m ↔ (c ∣ a0 ∧ c ∣ b0) ∧ c ∣ val a0 a1 - val b0 b1) (hv : m ∣ val m r - val a0 a1) : joinS a0 a1 b0 b1 = (m, r) := by
  obtain ⟨j1, j2, j3, j4, j5⟩ := join_spec h1 h2 h3 h4
  generalize joinS a0 a1 b0 b1 = J at *
  obtain ⟨x, y⟩ := J
  simp only at *
  have e : x = m := dvd_eq j1.1 hm ((hi x).2 ((j3 x).1 (Int.dvd_refl x))) ((j3 m).2 ((hi m).1 (Int.dvd_refl m)))
  subst e
  have : y = r := val_inj hm j2 hr j5 hc (by have := Int.dvd_sub j4 hv; rwa [show val x y - val a0 a1 - (val x r - val a0 a1) = val x y - val x r by omega] at this)
  rw [this]
theorem join_comm {a0 a1 b0 b1 : Int} (h1 : U64 a0) (h2 : U64 a1) (h3 : U64 b0) (h4 : U64 b1) : joinS a0 a1 b0 b1 = joinS b0 b1 a0 a1 := by
  obtain ⟨j1, j2, j3, j4, j5⟩ := join_spec h3 h4 h1 h2
  refine join_uniq h1 h2 h3 h4 j1.1 j2 j5 (fun c => ?_) ?_
  · refine (j3 c).trans ?_
    rw [← Int.dvd_neg (b := val b0 b1 - val a0 a1), show -(val b0 b1 - val a0 a1) = val a0 a1 - val b0 b1 by omega]
    exact ⟨fun h => ⟨⟨h.1.2, h.1.1⟩, h.2⟩, fun h => ⟨⟨h.1.2, h.1.1⟩, h.2⟩⟩
  · have k := ((j3 _).1 (Int.dvd_refl _)).2
    have := Int.dvd_add j4 k
    rwa [show ∀ x y z : Int, x - y + (y - z) = x - z from fun x y z => by omega] at this
theorem val_nrm (m r : Int) : m ∣ val m (nr m r) - val m r := by
  unfold val nr
  by_cases h : m = 0
  · simp [h]
  · simp [h, Int.emod_emod_of_dvd _ (Int.dvd_refl m)]
theorem leq_join {a0 a1 b0 b1 : Int} (h1 : U64 a0) (h2 : U64 a1) (h3 : U64 b0) (h4 : U64 b1) : leqS a0 a1 b0 b1 = true ↔ joinS a0 a1 b0 b1 = (b0, nr b0 b1) := by
  rw [leq_iff h2 h4]
  constructor
  · rintro ⟨q1, q2⟩
    refine join_uniq h1 h2 h3 h4 h3.1 (nr_U h3 h4) (nr_lt h3.1) (fun c => ⟨fun h => ⟨⟨Int.dvd_trans h q1, h⟩, Int.dvd_trans h q2⟩, fun h => h.1.2⟩) ?_
    have := Int.dvd_sub (val_nrm b0 b1) q2
    rwa [show ∀ x y z : Int, x - y - (z - y) = x - z from fun x y z => by omega] at this
  · intro h
    obtain ⟨j1, j2, j3, j4, j5⟩ := join_spec h1 h2 h3 h4
    rw [h] at j3
    simp only at j3
    have := (j3 b0).1 (Int.dvd_refl b0)
    exact ⟨this.1.1, this.2⟩
end Go.Proofs.YtoggbmfjkcbilaaDoor.V
