/- The library's division of two words by one. Conditions: none. -/
import Derived.Test.YtoggbmfjkcbilaaDoorN1
set_option linter.unusedVariables false
set_option linter.unusedSimpArgs false
namespace Go.Proofs.YtoggbmfjkcbilaaDoor.V
open Go Go.Wk

theorem exact {N y Q : Int} (h1 : 0 ≤ N - Q * y) (h2 : N < (Q + 1) * y) : Q = N / y ∧ N - Q * y = N % y := by
  have hy : (Q + 1) * y = Q * y + y := by rw [Int.add_mul, Int.one_mul]
  have h3 : N - Q * y < y := by omega
  have := Int.ediv_emod_unique (a := N) (b := y) (r := N - Q * y) (q := Q) (by omega)
  have := this.2 ⟨by rw [Int.mul_comm]; omega, h1, h3⟩
  exact ⟨this.1.symm, this.2.symm⟩
/-- a quotient's digit that is not too small, and what is left of its upper half -/
structure Dg (y yn1 yn0 u un q r : Int) : Prop where
  ey : y = yn1 * 4294967296 + yn0
  a1 : 2147483648 ≤ yn1 ∧ yn1 < 4294967296
  a0 : 0 ≤ yn0 ∧ yn0 < 4294967296
  n0 : 0 ≤ un ∧ un < 4294967296
  u0 : 0 ≤ u ∧ u < y
  q0 : 0 ≤ q ∧ q ≤ 4294967297
  er : q * yn1 = u - r
  r0 : 0 ≤ r
  big : u * 4294967296 + un < (q + 1) * y
theorem Dg.mul {y yn1 yn0 u un q r : Int} (h : Dg y yn1 yn0 u un q r) : q * y = (u - r) * 4294967296 + q * yn0 := by
  rw [h.ey, Int.mul_add, ← Int.mul_assoc, h.er]
theorem Dg.bB {y yn1 yn0 u un q r : Int} (h : Dg y yn1 yn0 u un q r) : 0 ≤ q * yn0 ∧ q * yn0 ≤ 4294967297 * yn0 ∧ (q < 4294967296 → q * yn0 ≤ 4294967295 * yn0) ∧ (4294967296 ≤ q → 4294967296 * yn0 ≤ q * yn0 ∧ 4294967296 * yn1 ≤ q * yn1) :=
  ⟨Int.mul_nonneg h.q0.1 h.a0.1, Int.mul_le_mul_of_nonneg_right h.q0.2 h.a0.1, fun hq => Int.mul_le_mul_of_nonneg_right (by omega) h.a0.1,
    fun hq => ⟨Int.mul_le_mul_of_nonneg_right hq h.a0.1, Int.mul_le_mul_of_nonneg_right hq (by have := h.a1; omega)⟩⟩
theorem Dg.stop {y yn1 yn0 u un q r : Int} (h : Dg y yn1 yn0 u un q r) (hq : q < 4294967296) (ht : q * yn0 ≤ 4294967296 * r + un) : q = (u * 4294967296 + un) / y ∧ u * 4294967296 + un - q * y = (u * 4294967296 + un) % y :=
  exact (by rw [h.mul]; omega) h.big
theorem Dg.more {y yn1 yn0 u un q r : Int} (h : Dg y yn1 yn0 u un q r) (ht : 4294967296 ≤ q ∨ q * yn0 > 4294967296 * r + un) : 1 ≤ q ∧ Dg y yn1 yn0 u un (q - 1) (r + yn1) := by
  have hm := h.mul
  obtain ⟨b1, b2, b3, b4⟩ := h.bB
  obtain ⟨ey, a1, a0, n0, u0, q0, er, r0, big⟩ := h
  have hq : 1 ≤ q := by
    rcases Int.lt_or_le q 1 with h' | h'
    · have : q = 0 := by omega
      subst this
      rw [Int.zero_mul] at ht
      omega
    · exact h'
  refine ⟨hq, ey, a1, a0, n0, u0, by omega, by rw [Int.sub_mul, er]; omega, by omega, ?_⟩
  rw [show q - 1 + 1 = q by omega, hm]
  rcases ht with ht | ht
  · obtain ⟨c1, c2⟩ := b4 ht
    omega
  · omega
theorem Dg.out {y yn1 yn0 u un q r : Int} (h : Dg y yn1 yn0 u un q r) (hq : q ≤ 4294967296) (hr : 4294967296 ≤ r) : q = (u * 4294967296 + un) / y ∧ u * 4294967296 + un - q * y = (u * 4294967296 + un) % y := by
  have hm := h.mul
  have b : q * yn0 ≤ 4294967296 * yn0 := Int.mul_le_mul_of_nonneg_right hq h.a0.1
  have := h.a0; have := h.n0
  exact exact (by rw [hm]; omega) h.big
theorem Dg.yb {y yn1 yn0 u un q r : Int} (h : Dg y yn1 yn0 u un q r) : 0 < y ∧ y < 18446744073709551616 := by
  have := h.ey; have := h.a1; have := h.a0; omega
theorem wr3 (a b c : Int) : IntKind.u64.wrap (IntKind.u64.wrap (IntKind.u64.wrap a + b) - IntKind.u64.wrap c) = IntKind.u64.wrap (a + b - c) := by simp only [wu_eq]; omega
theorem wr_mod {N y : Int} (h : 0 < y ∧ y < 18446744073709551616) : IntKind.u64.wrap (N % y) = N % y := by
  have h1 := Int.emod_nonneg N (show y ≠ 0 by omega)
  have h2 := Int.emod_lt_of_pos N h.1
  exact wu_id h1 (by omega)

theorem L1_step (N0 : Nat) {y yn1 yn0 un0 u : Int} (s q1 : Int) (hs : 0 ≤ s) (m : Nat) (q r : Int) (h : Dg y yn1 yn0 u un0 q r) (hr : r < 4294967296)
    (ih : ¬ r + yn1 ≥ 4294967296 → Dg y yn1 yn0 u un0 (q - 1) (r + yn1) → bits_Div64.L1 N0 m (y, s, yn1, yn0, un0, q1, r + yn1, u, q - 1) = some (IntKind.u64.wrap (IntKind.u64.wrap (q1 * 4294967296) + (u * 4294967296 + un0) / y), ((u * 4294967296 + un0) % y).fdiv (2 ^ min s.toNat IntKind.u64.bits))) :
    bits_Div64.L1 N0 (m + 1) (y, s, yn1, yn0, un0, q1, r, u, q) = some (IntKind.u64.wrap (IntKind.u64.wrap (q1 * 4294967296) + (u * 4294967296 + un0) / y), ((u * 4294967296 + un0) % y).fdiv (2 ^ min s.toNat IntKind.u64.bits)) := by
  obtain ⟨b1, b2, b3, b4⟩ := h.bB
  have a1 := h.a1; have a0 := h.a0; have n0 := h.n0; have r0 := h.r0; have q0 := h.q0
  have hy := h.yb
  have hs' : decide (s < 0) = false := by simpa using hs
  have e1 : IntKind.u64.wrap (r + yn1) = r + yn1 := wu_id (by omega) (by omega)
  have e2 : IntKind.u64.wrap (4294967296 * r) = 4294967296 * r := wu_id (by omega) (by omega)
  have e3 : IntKind.u64.wrap (4294967296 * r + un0) = 4294967296 * r + un0 := wu_id (by omega) (by omega)
  unfold bits_Div64.L1 bits_Div64.l1.c bits_Div64.l1.c0
  simp only [e1, e2, e3, wr3, hs', Bool.not_false, cond_true]
  have next : 4294967296 ≤ q ∨ q * yn0 > 4294967296 * r + un0 → (bif decide (r + yn1 ≥ 4294967296) then some (IntKind.u64.wrap (IntKind.u64.wrap (q1 * 4294967296) + IntKind.u64.wrap (q - 1)), (IntKind.u64.wrap (u * 4294967296 + un0 - IntKind.u64.wrap (q - 1) * y)).fdiv (2 ^ min s.toNat IntKind.u64.bits)) else bits_Div64.L1 N0 m (y, s, yn1, yn0, un0, q1, r + yn1, u, IntKind.u64.wrap (q - 1)))
      = some (IntKind.u64.wrap (IntKind.u64.wrap (q1 * 4294967296) + (u * 4294967296 + un0) / y), ((u * 4294967296 + un0) % y).fdiv (2 ^ min s.toNat IntKind.u64.bits)) := by
    intro ht
    obtain ⟨hq, h'⟩ := h.more ht
    have e4 : IntKind.u64.wrap (q - 1) = q - 1 := wu_id (by omega) (by omega)
    rw [e4]
    by_cases g : r + yn1 ≥ 4294967296
    · obtain ⟨f1, f2⟩ := h'.out (by omega) g
      rw [decide_eq_true g, f2, wr_mod hy, ← f1]
      rfl
    · rw [decide_eq_false g]
      exact ih g h'
  by_cases g1 : q ≥ 4294967296
  · rw [decide_eq_true g1]
    exact next (.inl g1)
  · have e5 : IntKind.u64.wrap (q * yn0) = q * yn0 := wu_id (by omega) (by have := b3 (by omega); omega)
    rw [decide_eq_false g1, e5]
    by_cases g2 : q * yn0 > 4294967296 * r + un0
    · rw [decide_eq_true g2]
      exact next (.inr g2)
    · obtain ⟨f1, f2⟩ := h.stop (by omega) (by omega)
      rw [decide_eq_false g2, f2, wr_mod hy, ← f1]
      rfl
theorem L1_s (N0 : Nat) {y yn1 yn0 un0 u : Int} (s q1 : Int) (hs : 0 ≤ s) : ∀ (m : Nat) (q r : Int), Dg y yn1 yn0 u un0 q r → r < 4294967296 → 4294967296 - r ≤ m * 2147483648 →
    bits_Div64.L1 N0 (m + 1) (y, s, yn1, yn0, un0, q1, r, u, q) = some (IntKind.u64.wrap (IntKind.u64.wrap (q1 * 4294967296) + (u * 4294967296 + un0) / y), ((u * 4294967296 + un0) % y).fdiv (2 ^ min s.toNat IntKind.u64.bits)) := by
  intro m
  induction m with
  | zero => intro q r h hr hm; exact L1_step N0 s q1 hs 0 q r h hr (fun g => by have := h.r0; have := h.a1; omega)
  | succ m ih => intro q r h hr hm; exact L1_step N0 s q1 hs (m + 1) q r h hr (fun g h2 => ih _ _ h2 (by omega) (by have := h.a1; omega))
theorem Dg.first {y yn1 yn0 u un : Int} (ey : y = yn1 * 4294967296 + yn0) (a1 : 2147483648 ≤ yn1 ∧ yn1 < 4294967296) (a0 : 0 ≤ yn0 ∧ yn0 < 4294967296) (n0 : 0 ≤ un ∧ un < 4294967296) (u0 : 0 ≤ u ∧ u < y) :
    Dg y yn1 yn0 u un (u / yn1) (u - u / yn1 * yn1) ∧ u - u / yn1 * yn1 < 4294967296 := by
  have e := Int.emod_add_mul_ediv u yn1
  have h1 := Int.emod_nonneg u (show yn1 ≠ 0 by omega)
  have h2 := Int.emod_lt_of_pos u (show 0 < yn1 by omega)
  have h3 : 0 ≤ u / yn1 := Int.ediv_nonneg u0.1 (by omega)
  have h4 : u / yn1 ≤ 4294967297 := by
    have : u / yn1 < 4294967298 := Int.ediv_lt_of_lt_mul (by omega) (by omega)
    omega
  have e' : u / yn1 * yn1 = u - u % yn1 := by rw [Int.mul_comm]; omega
  refine ⟨⟨ey, a1, a0, n0, u0, ⟨h3, h4⟩, by omega, by omega, ?_⟩, by omega⟩
  have b : 0 ≤ u / yn1 * yn0 := Int.mul_nonneg h3 a0.1
  rw [Int.add_mul, Int.one_mul]
  have : u / yn1 * y = (u / yn1 * yn1) * 4294967296 + u / yn1 * yn0 := by rw [ey, Int.mul_add, ← Int.mul_assoc]
  rw [this, e']
  omega
theorem tdiv_w {u v : Int} (hu : 0 ≤ u) (hu' : u < 18446744073709551616) (hv : 0 < v) : IntKind.u64.wrap (u.tdiv v) = u / v := by
  rw [Int.tdiv_eq_ediv_of_nonneg hu]
  have h1 : 0 ≤ u / v := Int.ediv_nonneg hu (by omega)
  have h2 : u / v ≤ u := Int.ediv_le_self v hu
  exact wu_id h1 (by omega)
theorem L0_step (N0 : Nat) {y yn1 yn0 un1 un0 u : Int} (s : Int) (hs : 0 ≤ s) (hn : 0 ≤ un0 ∧ un0 < 4294967296) (m : Nat) (q r : Int) (h : Dg y yn1 yn0 u un1 q r) (hr : r < 4294967296)
    (ih : ¬ r + yn1 ≥ 4294967296 → Dg y yn1 yn0 u un1 (q - 1) (r + yn1) → bits_Div64.L0 (N0 + 3) (bits_Div64.L1 (N0 + 3) (N0 + 3)) m (y, s, yn1, yn0, u, un1, un0, q - 1, r + yn1) = some (IntKind.u64.wrap (IntKind.u64.wrap ((u * 4294967296 + un1) / y * 4294967296) + ((u * 4294967296 + un1) % y * 4294967296 + un0) / y), (((u * 4294967296 + un1) % y * 4294967296 + un0) % y).fdiv (2 ^ min s.toNat IntKind.u64.bits))) :
    bits_Div64.L0 (N0 + 3) (bits_Div64.L1 (N0 + 3) (N0 + 3)) (m + 1) (y, s, yn1, yn0, u, un1, un0, q, r) = some (IntKind.u64.wrap (IntKind.u64.wrap ((u * 4294967296 + un1) / y * 4294967296) + ((u * 4294967296 + un1) % y * 4294967296 + un0) / y), (((u * 4294967296 + un1) % y * 4294967296 + un0) % y).fdiv (2 ^ min s.toNat IntKind.u64.bits)) := by
  obtain ⟨b1, b2, b3, b4⟩ := h.bB
  have a1 := h.a1; have a0 := h.a0; have n0 := h.n0; have r0 := h.r0; have q0 := h.q0
  have hy := h.yb
  have e0 : decide (yn1 = 0) = false := by simp; omega
  have e1 : IntKind.u64.wrap (r + yn1) = r + yn1 := wu_id (by omega) (by omega)
  have e2 : IntKind.u64.wrap (4294967296 * r) = 4294967296 * r := wu_id (by omega) (by omega)
  have e3 : IntKind.u64.wrap (4294967296 * r + un1) = 4294967296 * r + un1 := wu_id (by omega) (by omega)
  have hmod := Int.emod_nonneg (u * 4294967296 + un1) (show y ≠ 0 by omega)
  have hmod2 := Int.emod_lt_of_pos (u * 4294967296 + un1) hy.1
  unfold bits_Div64.L0 bits_Div64.l0.c bits_Div64.l0.c0
  simp only [e1, e2, e3, wr3, e0, Bool.not_false, cond_true]
  have fin : ∀ Q : Int, Q = (u * 4294967296 + un1) / y → u * 4294967296 + un1 - Q * y = (u * 4294967296 + un1) % y → bits_Div64.L1 (N0 + 3) (N0 + 3) (y, s, yn1, yn0, un0, Q, IntKind.u64.wrap (IntKind.u64.wrap (u * 4294967296 + un1 - Q * y) - IntKind.u64.wrap (IntKind.u64.wrap ((IntKind.u64.wrap (u * 4294967296 + un1 - Q * y)).tdiv yn1) * yn1)), IntKind.u64.wrap (u * 4294967296 + un1 - Q * y), IntKind.u64.wrap ((IntKind.u64.wrap (u * 4294967296 + un1 - Q * y)).tdiv yn1))
      = some (IntKind.u64.wrap (IntKind.u64.wrap ((u * 4294967296 + un1) / y * 4294967296) + ((u * 4294967296 + un1) % y * 4294967296 + un0) / y), (((u * 4294967296 + un1) % y * 4294967296 + un0) % y).fdiv (2 ^ min s.toNat IntKind.u64.bits)) := by
    intro Q f1 f2
    rw [f2, wr_mod hy, tdiv_w hmod (by omega) (by omega)]
    obtain ⟨d1, d2⟩ := Dg.first h.ey h.a1 h.a0 hn ⟨hmod, hmod2⟩
    have g1 := d1.r0
    have g3 := d1.er
    have g2 : IntKind.u64.wrap ((u * 4294967296 + un1) % y - IntKind.u64.wrap ((u * 4294967296 + un1) % y / yn1 * yn1)) = (u * 4294967296 + un1) % y - (u * 4294967296 + un1) % y / yn1 * yn1 := by
      simp only [wu_eq]; omega
    rw [g2, f1]
    exact L1_s (N0 + 3) s _ hs (N0 + 2) _ _ d1 d2 (by omega)
  have next : 4294967296 ≤ q ∨ q * yn0 > 4294967296 * r + un1 → (bif decide (r + yn1 ≥ 4294967296) then bits_Div64.L1 (N0 + 3) (N0 + 3) (y, s, yn1, yn0, un0, IntKind.u64.wrap (q - 1), IntKind.u64.wrap (IntKind.u64.wrap (u * 4294967296 + un1 - IntKind.u64.wrap (q - 1) * y) - IntKind.u64.wrap (IntKind.u64.wrap ((IntKind.u64.wrap (u * 4294967296 + un1 - IntKind.u64.wrap (q - 1) * y)).tdiv yn1) * yn1)), IntKind.u64.wrap (u * 4294967296 + un1 - IntKind.u64.wrap (q - 1) * y), IntKind.u64.wrap ((IntKind.u64.wrap (u * 4294967296 + un1 - IntKind.u64.wrap (q - 1) * y)).tdiv yn1))
        else bits_Div64.L0 (N0 + 3) (bits_Div64.L1 (N0 + 3) (N0 + 3)) m (y, s, yn1, yn0, u, un1, un0, IntKind.u64.wrap (q - 1), r + yn1))
      = some (IntKind.u64.wrap (IntKind.u64.wrap ((u * 4294967296 + un1) / y * 4294967296) + ((u * 4294967296 + un1) % y * 4294967296 + un0) / y), (((u * 4294967296 + un1) % y * 4294967296 + un0) % y).fdiv (2 ^ min s.toNat IntKind.u64.bits)) := by
    intro ht
    obtain ⟨hq, h'⟩ := h.more ht
    have e4 : IntKind.u64.wrap (q - 1) = q - 1 := wu_id (by omega) (by omega)
    rw [e4]
    by_cases g : r + yn1 ≥ 4294967296
    · obtain ⟨f1, f2⟩ := h'.out (by omega) g
      rw [decide_eq_true g]
      exact fin _ f1 f2
    · rw [decide_eq_false g]
      exact ih g h'
  by_cases g1 : q ≥ 4294967296
  · rw [decide_eq_true g1]
    exact next (.inl g1)
  · have e5 : IntKind.u64.wrap (q * yn0) = q * yn0 := wu_id (by omega) (by have := b3 (by omega); omega)
    rw [decide_eq_false g1, e5]
    by_cases g2 : q * yn0 > 4294967296 * r + un1
    · rw [decide_eq_true g2]
      exact next (.inr g2)
    · obtain ⟨f1, f2⟩ := h.stop (by omega) (by omega)
      rw [decide_eq_false g2]
      exact fin _ f1 f2
theorem L0_s (N0 : Nat) {y yn1 yn0 un1 un0 u : Int} (s : Int) (hs : 0 ≤ s) (hn : 0 ≤ un0 ∧ un0 < 4294967296) : ∀ (m : Nat) (q r : Int), Dg y yn1 yn0 u un1 q r → r < 4294967296 → 4294967296 - r ≤ m * 2147483648 →
    bits_Div64.L0 (N0 + 3) (bits_Div64.L1 (N0 + 3) (N0 + 3)) (m + 1) (y, s, yn1, yn0, u, un1, un0, q, r) = some (IntKind.u64.wrap (IntKind.u64.wrap ((u * 4294967296 + un1) / y * 4294967296) + ((u * 4294967296 + un1) % y * 4294967296 + un0) / y), (((u * 4294967296 + un1) % y * 4294967296 + un0) % y).fdiv (2 ^ min s.toNat IntKind.u64.bits)) := by
  intro m
  induction m with
  | zero => intro q r h hr hm; exact L0_step N0 s hs hn 0 q r h hr (fun g => by have := h.r0; have := h.a1; omega)
  | succ m ih => intro q r h hr hm; exact L0_step N0 s hs hn (m + 1) q r h hr (fun g h2 => ih _ _ h2 (by omega) (by have := h.a1; omega))
end Go.Proofs.YtoggbmfjkcbilaaDoor.V
