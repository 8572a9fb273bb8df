/- A remainder of numbers within is within the answer. Conditions: none. -/
import Derived.Test.YtbbplkdjcgdaaaaDoorN12
set_option linter.unusedVariables false
set_option linter.unusedSimpArgs false
namespace Go.Proofs.YtbbplkdjcgdaaaaDoor.V
open Go Go.Wk

theorem tmod_facts (x y : Int) (hy : y ≠ 0) : (0 ≤ x → 0 ≤ x.tmod y ∧ x.tmod y ≤ x) ∧ (x ≤ 0 → x.tmod y ≤ 0 ∧ x ≤ x.tmod y) ∧ absI (x.tmod y) < absI y ∧ (absI x < absI y → x.tmod y = x) := by
  have hn : (x.tmod y).natAbs = x.natAbs % y.natAbs := Int.natAbs_tmod x y
  have hlt : x.natAbs % y.natAbs < y.natAbs := Nat.mod_lt _ (by omega)
  have hle : x.natAbs % y.natAbs ≤ x.natAbs := Nat.mod_le _ _
  have s1 : 0 ≤ x → 0 ≤ x.tmod y := fun h => Int.tmod_nonneg y h
  have s2 : x ≤ 0 → x.tmod y ≤ 0 := fun h => by
    have := Int.tmod_nonneg (a := -x) y (by omega)
    rw [Int.neg_tmod] at this
    omega
  refine ⟨fun h => ⟨s1 h, by have := s1 h; omega⟩, fun h => ⟨s2 h, by have := s2 h; omega⟩, ?_, ?_⟩
  · unfold absI; (repeat' split) <;> omega
  · intro h
    have h' : x.natAbs < y.natAbs := by unfold absI at h; revert h; (repeat' split) <;> intro h <;> omega
    rw [Nat.mod_eq_of_lt h'] at hn
    rcases Int.le_total 0 x with h0 | h0
    · have := s1 h0; omega
    · have := s2 h0; omega
theorem rem_core {a b c d x y n f : Int} (h1 : a ≤ x) (h2 : x ≤ b) (h3 : c ≤ y) (h4 : y ≤ d) (hy : y ≠ 0) (hn : n ≤ absI y) (hf : absI y ≤ f) (hf2 : f ≤ 9223372036854775808) :
    (bif a == b then bif c == d then bif c != -1 then bif !decide (c = 0) then (a.tmod c, a.tmod c, true) else (0, 0, false) else (0, 0, true) else (bif decide ((if absI b > absI a then absI b else absI a) < n) then (a, b, true) else (if (if IntKind.i64.wrap (0 - IntKind.i64.wrap (IntKind.u64.wrap (f - 1))) > a then IntKind.i64.wrap (0 - IntKind.i64.wrap (IntKind.u64.wrap (f - 1))) else a) < 0 then (if IntKind.i64.wrap (0 - IntKind.i64.wrap (IntKind.u64.wrap (f - 1))) > a then IntKind.i64.wrap (0 - IntKind.i64.wrap (IntKind.u64.wrap (f - 1))) else a) else 0, if (if IntKind.i64.wrap (IntKind.u64.wrap (f - 1)) < b then IntKind.i64.wrap (IntKind.u64.wrap (f - 1)) else b) > 0 then (if IntKind.i64.wrap (IntKind.u64.wrap (f - 1)) < b then IntKind.i64.wrap (IntKind.u64.wrap (f - 1)) else b) else 0, true)) else (bif decide ((if absI b > absI a then absI b else absI a) < n) then (a, b, true) else (if (if IntKind.i64.wrap (0 - IntKind.i64.wrap (IntKind.u64.wrap (f - 1))) > a then IntKind.i64.wrap (0 - IntKind.i64.wrap (IntKind.u64.wrap (f - 1))) else a) < 0 then (if IntKind.i64.wrap (0 - IntKind.i64.wrap (IntKind.u64.wrap (f - 1))) > a then IntKind.i64.wrap (0 - IntKind.i64.wrap (IntKind.u64.wrap (f - 1))) else a) else 0, if (if IntKind.i64.wrap (IntKind.u64.wrap (f - 1)) < b then IntKind.i64.wrap (IntKind.u64.wrap (f - 1)) else b) > 0 then (if IntKind.i64.wrap (IntKind.u64.wrap (f - 1)) < b then IntKind.i64.wrap (IntKind.u64.wrap (f - 1)) else b) else 0, true)) : Int × Int × Bool).1 ≤ x.tmod y ∧ x.tmod y ≤ (bif a == b then bif c == d then bif c != -1 then bif !decide (c = 0) then (a.tmod c, a.tmod c, true) else (0, 0, false) else (0, 0, true) else (bif decide ((if absI b > absI a then absI b else absI a) < n) then (a, b, true) else (if (if IntKind.i64.wrap (0 - IntKind.i64.wrap (IntKind.u64.wrap (f - 1))) > a then IntKind.i64.wrap (0 - IntKind.i64.wrap (IntKind.u64.wrap (f - 1))) else a) < 0 then (if IntKind.i64.wrap (0 - IntKind.i64.wrap (IntKind.u64.wrap (f - 1))) > a then IntKind.i64.wrap (0 - IntKind.i64.wrap (IntKind.u64.wrap (f - 1))) else a) else 0, if (if IntKind.i64.wrap (IntKind.u64.wrap (f - 1)) < b then IntKind.i64.wrap (IntKind.u64.wrap (f - 1)) else b) > 0 then (if IntKind.i64.wrap (IntKind.u64.wrap (f - 1)) < b then IntKind.i64.wrap (IntKind.u64.wrap (f - 1)) else b) else 0, true)) else (bif decide ((if absI b > absI a then absI b else absI a) < n) then (a, b, true) else (if (if IntKind.i64.wrap (0 - IntKind.i64.wrap (IntKind.u64.wrap (f - 1))) > a then IntKind.i64.wrap (0 - IntKind.i64.wrap (IntKind.u64.wrap (f - 1))) else a) < 0 then (if IntKind.i64.wrap (0 - IntKind.i64.wrap (IntKind.u64.wrap (f - 1))) > a then IntKind.i64.wrap (0 - IntKind.i64.wrap (IntKind.u64.wrap (f - 1))) else a) else 0, if (if IntKind.i64.wrap (IntKind.u64.wrap (f - 1)) < b then IntKind.i64.wrap (IntKind.u64.wrap (f - 1)) else b) > 0 then (if IntKind.i64.wrap (IntKind.u64.wrap (f - 1)) < b then IntKind.i64.wrap (IntKind.u64.wrap (f - 1)) else b) else 0, true)) : Int × Int × Bool).2.1 := by
  obtain ⟨f1, f2, f3, f4⟩ := tmod_facts x y hy
  have y1 : 1 ≤ absI y := by unfold absI; split <;> omega
  have w1 : IntKind.i64.wrap (IntKind.u64.wrap (f - 1)) = f - 1 := by rw [wu_id (by omega) (by omega), wi_id (by omega) (by omega)]
  have w2 : IntKind.i64.wrap (0 - (f - 1)) = -(f - 1) := by rw [wi_id (by omega) (by omega)]; omega
  rw [w1, w2]
  have ht : -(f - 1) ≤ x.tmod y ∧ x.tmod y ≤ f - 1 := by
    unfold absI at f3 hf; revert f3 hf; (repeat' split) <;> intro f3 hf <;> omega
  have key : (bif decide ((if absI b > absI a then absI b else absI a) < n) then (a, b, true) else (if (if IntKind.i64.wrap (0 - IntKind.i64.wrap (IntKind.u64.wrap (f - 1))) > a then IntKind.i64.wrap (0 - IntKind.i64.wrap (IntKind.u64.wrap (f - 1))) else a) < 0 then (if IntKind.i64.wrap (0 - IntKind.i64.wrap (IntKind.u64.wrap (f - 1))) > a then IntKind.i64.wrap (0 - IntKind.i64.wrap (IntKind.u64.wrap (f - 1))) else a) else 0, if (if IntKind.i64.wrap (IntKind.u64.wrap (f - 1)) < b then IntKind.i64.wrap (IntKind.u64.wrap (f - 1)) else b) > 0 then (if IntKind.i64.wrap (IntKind.u64.wrap (f - 1)) < b then IntKind.i64.wrap (IntKind.u64.wrap (f - 1)) else b) else 0, true)).1 ≤ x.tmod y ∧ x.tmod y ≤ (bif decide ((if absI b > absI a then absI b else absI a) < n) then (a, b, true) else (if (if IntKind.i64.wrap (0 - IntKind.i64.wrap (IntKind.u64.wrap (f - 1))) > a then IntKind.i64.wrap (0 - IntKind.i64.wrap (IntKind.u64.wrap (f - 1))) else a) < 0 then (if IntKind.i64.wrap (0 - IntKind.i64.wrap (IntKind.u64.wrap (f - 1))) > a then IntKind.i64.wrap (0 - IntKind.i64.wrap (IntKind.u64.wrap (f - 1))) else a) else 0, if (if IntKind.i64.wrap (IntKind.u64.wrap (f - 1)) < b then IntKind.i64.wrap (IntKind.u64.wrap (f - 1)) else b) > 0 then (if IntKind.i64.wrap (IntKind.u64.wrap (f - 1)) < b then IntKind.i64.wrap (IntKind.u64.wrap (f - 1)) else b) else 0, true)).2.1 := by
    rw [w1, w2]
    by_cases hb : (if absI b > absI a then absI b else absI a) < n
    · have : absI x < absI y := by
        unfold absI at hb hn ⊢; revert hb hn; (repeat' split) <;> intro hb hn <;> omega
      rw [decide_eq_true hb, f4 this]; exact ⟨h1, h2⟩
    · rw [decide_eq_false hb]
      simp only [cond_false]
      constructor
      · (repeat' split) <;> omega
      · (repeat' split) <;> omega
  rw [w1, w2] at key
  by_cases e1 : a = b
  · by_cases e2 : c = d
    · have ex : x = a := by omega
      have ey : y = c := by omega
      subst ex ey
      have b1 : (x == b) = true := by simpa using e1
      have b2 : (y == d) = true := by simpa using e2
      have b3 : decide (y = 0) = false := by simpa using hy
      rw [b1, b2, b3]
      by_cases e3 : y = -1
      · subst e3
        have : x.tmod (-1) = 0 := by unfold absI at f3; revert f3; (repeat' split) <;> intro f3 <;> omega
        rw [this]; exact ⟨Int.le_refl _, Int.le_refl _⟩
      · have b4 : (y != -1) = true := by simpa using e3
        rw [b4]; exact ⟨Int.le_refl _, Int.le_refl _⟩
    · have b1 : (a == b) = true := by simpa using e1
      have b2 : (c == d) = false := by simpa using e2
      rw [b1, b2]; exact key
  · have b1 : (a == b) = false := by simpa using e1
    rw [b1]; exact key
theorem rem_in {a b c d x y : Int} (ha : I64 a) (hb : I64 b) (hc : I64 c) (hd : I64 d) (h1 : a ≤ x) (h2 : x ≤ b) (h3 : c ≤ y) (h4 : y ≤ d) (hy : y ≠ 0) :
    (ival_Rem a b c d).1 ≤ x.tmod y ∧ x.tmod y ≤ (ival_Rem a b c d).2.1 := by
  rw [rem_eq ha hb hc hd]
  have In := mt_I hc hd (i64c (x := -9223372036854775808) (by decide)) (i64c (x := -1) (by decide))
  have Ip := mt_I hc hd (i64c (x := 1) (by decide)) (i64c (x := 9223372036854775807) (by decide))
  have mn := mt_m c d (-9223372036854775808) (-1)
  have mp := mt_m c d 1 9223372036854775807
  unfold ref_Rem ref_Rem.c ref_Rem.c0
  simp only [empty_s, rm_s, id, None_s, far_s ha, far_s hb, far_s In.1, far_s In.2, far_s Ip.1, far_s Ip.2]
  rw [decide_eq_false (show ¬ b < a by omega)]
  simp only [cond_false]
  rw [mn, mp]
  unfold I64 at ha hb hc hd
  by_cases e1 : min d (-1) < max c (-9223372036854775808)
  · by_cases e2 : min d 9223372036854775807 < max c 1
    · omega
    · simp only [if_pos e1, if_neg e2]
      rw [decide_eq_false (show ¬ min d 9223372036854775807 < max c 1 from e2)]
      simp only [show decide ((0:Int) < 1) = true from rfl, cond_true, cond_false, Bool.not_true, Bool.not_false]
      have a1 : absI (max c 1) = max c 1 := by unfold absI; rw [if_neg (by omega)]
      have a2 : absI (min d 9223372036854775807) = min d 9223372036854775807 := by unfold absI; rw [if_neg (by omega)]
      have ay : absI y = y := by unfold absI; rw [if_neg (by omega)]
      rw [a1, a2]
      refine rem_core h1 h2 h3 h4 hy ?_ ?_ ?_ <;> (try rw [ay]) <;> (repeat' split) <;> omega
  · have a1 : absI (max c (-9223372036854775808)) = -max c (-9223372036854775808) := by unfold absI; rw [if_pos (by omega)]
    have a2 : absI (min d (-1)) = -min d (-1) := by unfold absI; rw [if_pos (by omega)]
    by_cases e2 : min d 9223372036854775807 < max c 1
    · simp only [if_neg e1, if_pos e2]
      rw [decide_eq_false (show ¬ min d (-1) < max c (-9223372036854775808) from e1)]
      simp only [show decide ((0:Int) < 1) = true from rfl, cond_true, cond_false, Bool.not_true, Bool.not_false]
      have ay : absI y = -y := by unfold absI; rw [if_pos (by omega)]
      rw [a1, a2]
      refine rem_core h1 h2 h3 h4 hy ?_ ?_ ?_ <;> (try rw [ay]) <;> (repeat' split) <;> omega
    · simp only [if_neg e1, if_neg e2]
      rw [decide_eq_false (show ¬ min d (-1) < max c (-9223372036854775808) from e1), decide_eq_false (show ¬ min d 9223372036854775807 < max c 1 from e2)]
      simp only [cond_true, cond_false, Bool.not_true, Bool.not_false]
      have a3 : absI (max c 1) = max c 1 := by unfold absI; rw [if_neg (by omega)]
      have a4 : absI (min d 9223372036854775807) = min d 9223372036854775807 := by unfold absI; rw [if_neg (by omega)]
      rw [a1, a2, a3, a4]
      refine rem_core h1 h2 h3 h4 hy ?_ ?_ ?_ <;> (try unfold absI) <;> (repeat' split) <;> omega
end Go.Proofs.YtbbplkdjcgdaaaaDoor.V
