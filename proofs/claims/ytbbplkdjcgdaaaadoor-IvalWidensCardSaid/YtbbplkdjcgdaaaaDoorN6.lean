/- Hulls of sets of numbers, and of quotients. Conditions: none. -/
import Derived.Test.YtbbplkdjcgdaaaaDoorN5
set_option linter.unusedVariables false
set_option linter.unusedSimpArgs false
namespace Go.Proofs.YtbbplkdjcgdaaaaDoor.V
open Go Go.Wk

/-- r is the hull of the numbers S -/
def Hull (r : Int × Int) (S : Int → Prop) : Prop := (r = (1, 0) ∧ ∀ q, ¬ S q) ∨ (S r.1 ∧ S r.2 ∧ ∀ q, S q → r.1 ≤ q ∧ q ≤ r.2)
theorem Hull.uniq {r r' : Int × Int} {S : Int → Prop} (h : Hull r S) (h' : Hull r' S) : r = r' := by
  rcases h with ⟨h1, h2⟩ | ⟨h1, h2, h3⟩ <;> rcases h' with ⟨k1, k2⟩ | ⟨k1, k2, k3⟩
  · rw [h1, k1]
  · exact absurd k1 (h2 _)
  · exact absurd h1 (k2 _)
  · have a1 := h3 _ k1
    have a2 := h3 _ k2
    have a3 := k3 _ h1
    have a4 := k3 _ h2
    obtain ⟨x, y⟩ := r
    obtain ⟨x', y'⟩ := r'
    simp only [Prod.mk.injEq] at *
    constructor <;> omega
theorem Hull.congr {r : Int × Int} {S S' : Int → Prop} (h : Hull r S) (e : ∀ q, S q ↔ S' q) : Hull r S' := by
  have : S = S' := funext fun q => propext (e q)
  rwa [← this]
theorem Hull.none {S : Int → Prop} (h : ∀ q, ¬ S q) : Hull (1, 0) S := .inl ⟨rfl, h⟩
theorem Hull.one (v : Int) : Hull (v, v) (fun q => q = v) := .inr ⟨rfl, rfl, fun q h => by simp only at h ⊢; omega⟩
theorem Hull.jn {r r' : Int × Int} {S S' : Int → Prop} (h : Hull r S) (h' : Hull r' S') : Hull (jn r.1 r.2 r'.1 r'.2) (fun q => S q ∨ S' q) := by
  obtain ⟨x, y⟩ := r
  obtain ⟨x', y'⟩ := r'
  unfold V.jn
  rcases h with ⟨h1, h2⟩ | ⟨h1, h2, h3⟩ <;> rcases h' with ⟨k1, k2⟩ | ⟨k1, k2, k3⟩
  · cases h1; cases k1
    exact .inl ⟨by simp, fun q h => h.elim (fun h => h2 _ h) (fun h => k2 _ h)⟩
  · cases h1
    have := (k3 _ k2).1
    simp only at *
    rw [if_pos (by omega), if_neg (by omega)]
    exact .inr ⟨.inr k1, .inr k2, fun q h => h.elim (fun h => absurd h (h2 _)) (fun h => k3 _ h)⟩
  · cases k1
    have := (h3 _ h2).1
    simp only at *
    rw [if_neg (by omega), if_pos (by omega)]
    exact .inr ⟨.inl h1, .inl h2, fun q h => h.elim (fun h => h3 _ h) (fun h => absurd h (k2 _))⟩
  · have q1 := (h3 _ h2).1
    have q2 := (k3 _ k2).1
    simp only at *
    rw [if_neg (by omega), if_neg (by omega)]
    refine .inr ⟨?_, ?_, ?_⟩
    · simp only; split <;> first | exact .inr k1 | exact .inl h1
    · simp only; split <;> first | exact .inr k2 | exact .inl h2
    · rintro q (h | h)
      · have := h3 _ h; simp only at this ⊢; constructor <;> split <;> omega
      · have := k3 _ h; simp only at this ⊢; constructor <;> split <;> omega

theorem tdiv_nat (x y : Nat) : ((x : Int).tdiv (y : Int)) = ((x / y : Nat) : Int) := rfl
theorem tdiv_mono {x x' y : Int} (hy : 0 < y) (h : x ≤ x') : x.tdiv y ≤ x'.tdiv y := Int.tdiv_le_tdiv hy h
theorem tdiv_den {x y z : Int} (hx : 0 ≤ x) (hy : 0 < y) (h : y ≤ z) : x.tdiv z ≤ x.tdiv y := by
  obtain ⟨n, rfl⟩ := Int.eq_ofNat_of_zero_le hx
  obtain ⟨m, rfl⟩ := Int.eq_ofNat_of_zero_le (Int.le_of_lt hy)
  obtain ⟨k, rfl⟩ := Int.eq_ofNat_of_zero_le (show 0 ≤ z by omega)
  rw [tdiv_nat, tdiv_nat]
  exact_mod_cast Nat.div_le_div_left (by omega) (by omega)
theorem tdiv_den' {x y z : Int} (hx : x ≤ 0) (hy : 0 < y) (h : y ≤ z) : x.tdiv y ≤ x.tdiv z := by
  have := tdiv_den (x := -x) (by omega) hy h
  rw [Int.neg_tdiv, Int.neg_tdiv] at this
  omega
theorem quot_pos {a b c d x y : Int} (hc : 0 < c) (h1 : a ≤ x) (h2 : x ≤ b) (h3 : c ≤ y) (h4 : y ≤ d) :
    min (min (a.tdiv c) (a.tdiv d)) (min (b.tdiv c) (b.tdiv d)) ≤ x.tdiv y ∧ x.tdiv y ≤ max (max (a.tdiv c) (a.tdiv d)) (max (b.tdiv c) (b.tdiv d)) := by
  have m1 := tdiv_mono (y := y) (by omega) h1
  have m2 := tdiv_mono (y := y) (by omega) h2
  constructor
  · rcases Int.le_total 0 a with ha | ha
    · have := tdiv_den ha (show 0 < y by omega) h4; omega
    · have := tdiv_den' ha hc h3; omega
  · rcases Int.le_total 0 b with hb | hb
    · have := tdiv_den hb hc h3; omega
    · have := tdiv_den' hb (show 0 < y by omega) h4; omega
theorem quot_all {a b c d x y : Int} (hc : 0 < c ∨ d < 0) (h1 : a ≤ x) (h2 : x ≤ b) (h3 : c ≤ y) (h4 : y ≤ d) :
    min (min (a.tdiv c) (a.tdiv d)) (min (b.tdiv c) (b.tdiv d)) ≤ x.tdiv y ∧ x.tdiv y ≤ max (max (a.tdiv c) (a.tdiv d)) (max (b.tdiv c) (b.tdiv d)) := by
  rcases hc with hc | hc
  · exact quot_pos hc h1 h2 h3 h4
  · have := quot_pos (a := a) (b := b) (c := -d) (d := -c) (x := x) (y := -y) (by omega) h1 h2 (by omega) (by omega)
    simp only [Int.tdiv_neg] at this
    omega
def quots (a b c d q : Int) : Prop := ∃ x y, a ≤ x ∧ x ≤ b ∧ c ≤ y ∧ y ≤ d ∧ q = x.tdiv y
/-- the hull of quotients, by the four corners -/
def cor (a b c d : Int) : Int × Int := if b < a then (1, 0) else if d < c then (1, 0) else
  (min (min (a.tdiv c) (a.tdiv d)) (min (b.tdiv c) (b.tdiv d)), max (max (a.tdiv c) (a.tdiv d)) (max (b.tdiv c) (b.tdiv d)))
theorem cor_hull {a b c d : Int} (hc : 0 < c ∨ d < 0) : Hull (cor a b c d) (quots a b c d) := by
  unfold cor
  split
  · exact Hull.none fun q ⟨x, y, h1, h2, h3, h4, h5⟩ => by omega
  · split
    · exact Hull.none fun q ⟨x, y, h1, h2, h3, h4, h5⟩ => by omega
    · rename_i g1 g2
      have p1 : quots a b c d (a.tdiv c) := ⟨a, c, by omega, by omega, by omega, by omega, rfl⟩
      have p2 : quots a b c d (a.tdiv d) := ⟨a, d, by omega, by omega, by omega, by omega, rfl⟩
      have p3 : quots a b c d (b.tdiv c) := ⟨b, c, by omega, by omega, by omega, by omega, rfl⟩
      have p4 : quots a b c d (b.tdiv d) := ⟨b, d, by omega, by omega, by omega, by omega, rfl⟩
      refine .inr ⟨?_, ?_, ?_⟩
      · simp only
        rcases Int.le_total (min (a.tdiv c) (a.tdiv d)) (min (b.tdiv c) (b.tdiv d)) with h | h
        · rw [Int.min_eq_left h]; rcases Int.le_total (a.tdiv c) (a.tdiv d) with k | k
          · rwa [Int.min_eq_left k]
          · rwa [Int.min_eq_right k]
        · rw [Int.min_eq_right h]; rcases Int.le_total (b.tdiv c) (b.tdiv d) with k | k
          · rwa [Int.min_eq_left k]
          · rwa [Int.min_eq_right k]
      · simp only
        rcases Int.le_total (max (a.tdiv c) (a.tdiv d)) (max (b.tdiv c) (b.tdiv d)) with h | h
        · rw [Int.max_eq_right h]; rcases Int.le_total (b.tdiv c) (b.tdiv d) with k | k
          · rwa [Int.max_eq_right k]
          · rwa [Int.max_eq_left k]
        · rw [Int.max_eq_left h]; rcases Int.le_total (a.tdiv c) (a.tdiv d) with k | k
          · rwa [Int.max_eq_right k]
          · rwa [Int.max_eq_left k]
      · rintro q ⟨x, y, h1, h2, h3, h4, rfl⟩
        exact quot_all hc h1 h2 h3 h4
/-- a quotient stays within the numbers of 64 bits, but for one pair -/
theorem tdiv_I {x y : Int} (hx : I64 x) (hy : y ≠ 0) (h : x ≠ -9223372036854775808 ∨ y ≠ -1) : I64 (x.tdiv y) := by
  unfold I64 at hx ⊢
  have hn : (x.tdiv y).natAbs ≤ x.natAbs := by rw [Int.natAbs_tdiv]; exact Nat.div_le_self _ _
  by_cases hm : x = -9223372036854775808
  · subst hm
    have hy' : y ≠ -1 := h.elim (fun h => absurd rfl h) id
    by_cases h1 : y = 1
    · subst h1; decide
    · have h2 : 2 ≤ y.natAbs := by omega
      have h3 : ((-9223372036854775808 : Int).tdiv y).natAbs ≤ 9223372036854775808 / 2 := by
        rw [Int.natAbs_tdiv]
        exact Nat.div_le_div_left (c := 2) h2 (by omega)
      omega
  · omega
end Go.Proofs.YtbbplkdjcgdaaaaDoor.V
