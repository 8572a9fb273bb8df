/- Remainders of intervals: the program's are the document's. Conditions: none. -/
import Derived.Test.YtbbplkdjcgdaaaaDoorN9
set_option linter.unusedVariables false
set_option linter.unusedSimpArgs false
namespace Go.Proofs.YtbbplkdjcgdaaaaDoor.V
open Go Go.Wk

def absI (x : Int) : Int := if x < 0 then -x else x
theorem far_s {x : Int} (h : I64 x) : ref_far x = absI x := by
  unfold I64 at h
  unfold ref_far ref_far.c ref_far.c0 absI
  simp only [id, wu_eq, Bool.cond_decide]
  split <;> omega
theorem dist_s {x : Int} (h : I64 x) : ival_distance x = absI x := far_s h
theorem wr_s (x y : Int) : (word_Rem x y).1 = if y = 0 ∨ y = -1 then 0 else x.tmod y := by
  unfold word_Rem word_Rem.c
  by_cases h0 : y = 0
  · subst h0; simp
  · have e0 : (y == 0) = false := by simpa using h0
    by_cases h1 : y = -1
    · subst h1; simp
    · have e1 : (y == -1) = false := by simpa using h1
      have e2 : decide (y = 0) = false := by simpa using h0
      rw [e0, e1, e2, if_neg (by omega)]
      rfl
theorem mt_ne {c d v w : Int} : (mt c d v w).2 < (mt c d v w).1 ↔ min d w < max c v := by
  rw [mt_m]
  by_cases h : min d w < max c v
  · rw [if_pos h]; simp only; omega
  · rw [if_neg h]
theorem ref_Rem_ok {a b c d : Int} (ha : I64 a) (hb : I64 b) (hc : I64 c) (hd : I64 d) : ref_Rem.ok a b c d = true := by
  unfold ref_Rem.ok ref_Rem.c ref_Rem.c0
  simp only [empty_s, rm_s]
  by_cases h1 : b < a
  · rw [decide_eq_true h1]; rfl
  · rw [decide_eq_false h1]
    simp only [cond_false]
    by_cases hcd : c = d ∧ c = 0
    · obtain ⟨rfl, rfl⟩ := hcd
      rfl
    · have key : ∀ X Y : Bool, X = true → Y = true → (bif c == d then (bif c != -1 then (bif !decide (c = 0) then true else false) else true) else X) = true := by
        intro X Y hX hY
        by_cases e : c = d
        · have e0 : decide (c = 0) = false := by rw [decide_eq_false_iff_not]; omega
          rw [e0]; simp [e]
        · have e0 : (c == d) = false := by simpa using e
          rw [e0]; exact hX
      simp only [Bool.cond_self]
      have k := key true true rfl rfl
      rw [k]
      simp only [Bool.cond_self]
theorem rem_tail {a b n f m : Int} (h : a ≤ b) (hm : 0 ≤ m) (n1 n2 : Int) (hn : n1 = n2) :
    (bif decide (n1 < n) then (a, b, true) else bif decide (a < 0) then (bif decide (b > 0) then ((if -m > a then -m else a), (if m < b then m else b), true) else ((if -m > a then -m else a), 0, true)) else (bif decide (b > 0) then (0, (if m < b then m else b), true) else (0, 0, true)) : Int × Int × Bool)
    = bif decide (n2 < n) then (a, b, true) else (if (if -m > a then -m else a) < 0 then (if -m > a then -m else a) else 0, if (if m < b then m else b) > 0 then (if m < b then m else b) else 0, true) := by
  subst hn
  by_cases h0 : n1 < n
  · rw [decide_eq_true h0]; rfl
  · rw [decide_eq_false h0]
    simp only [cond_false, Bool.cond_decide]
    by_cases h1 : a < 0 <;> by_cases h2 : b > 0
    · simp only [h1, h2, if_true, Prod.mk.injEq, and_true]
      constructor <;> (repeat' split) <;> omega
    · simp only [h1, h2, if_true, if_false, Prod.mk.injEq, and_true]
      constructor <;> (repeat' split) <;> omega
    · simp only [h1, h2, if_true, if_false, Prod.mk.injEq, and_true]
      constructor <;> (repeat' split) <;> omega
    · simp only [h1, h2, if_false, Prod.mk.injEq, and_true]
      constructor <;> (repeat' split) <;> omega
theorem single {a b c d : Int} (e : ¬ (d < c)) (hne : ¬ ((mt c d (-9223372036854775808) (-1)).2 < (mt c d (-9223372036854775808) (-1)).1 ∧ (mt c d 1 9223372036854775807).2 < (mt c d 1 9223372036854775807).1)) (hc : I64 c) (hd : I64 d) (ecd : c = d) (X Y : Int × Int × Bool) :
    (bif c != -1 then (bif !decide (c = 0) then (a.tmod c, a.tmod c, true) else (0, 0, false)) else (0, 0, true)) = ((word_Rem a c).1, (word_Rem a c).1, true) := by
  have h0 : c ≠ 0 := by
    intro h
    apply hne
    rw [mt_ne, mt_ne]
    omega
  rw [wr_s]
  have e0 : decide (c = 0) = false := by simpa using h0
  by_cases h1 : c = -1
  · subst h1; rfl
  · have e1 : (c != -1) = true := by simpa using h1
    rw [e0, e1, if_neg (by omega)]
    rfl
theorem rem_eq {a b c d : Int} (ha : I64 a) (hb : I64 b) (hc : I64 c) (hd : I64 d) : ival_Rem a b c d = ref_Rem a b c d := by
  have In := mt_I hc hd (i64c (x := -9223372036854775808) (by decide)) (i64c (x := -1) (by decide))
  have Ip := mt_I hc hd (i64c (x := 1) (by decide)) (i64c (x := 9223372036854775807) (by decide))
  unfold ival_Rem ival_Rem.c ival_Rem.c0 ref_Rem ref_Rem.c ref_Rem.c0 ival_one ival_one.c
  simp only [none_s, empty_s, iu_s, io_s, rm_s, id, None_s, dist_s ha, dist_s hb, dist_s In.1, dist_s In.2, dist_s Ip.1, dist_s Ip.2, far_s ha, far_s hb, far_s In.1, far_s In.2, far_s Ip.1, far_s Ip.2]
  by_cases h1 : b < a
  · rw [decide_eq_true h1]; rfl
  · rw [decide_eq_false h1]
    simp only [cond_false]
    by_cases h2 : d < c
    · have k1 : (mt c d (-9223372036854775808) (-1)).2 < (mt c d (-9223372036854775808) (-1)).1 := by rw [mt_ne]; omega
      have k2 : (mt c d 1 9223372036854775807).2 < (mt c d 1 9223372036854775807).1 := by rw [mt_ne]; omega
      rw [decide_eq_true h2, decide_eq_true k1, decide_eq_true k2]
      rfl
    · rw [decide_eq_false h2]
      simp only [cond_false]
      have fu : ¬ (mt c d (-9223372036854775808) (-1)).2 < (mt c d (-9223372036854775808) (-1)).1 → (mt c d (-9223372036854775808) (-1)).2 < 0 := by
        intro h; rw [mt_ne] at h; rw [mt_m, if_neg h]; simp only; omega
      have fo : ¬ (mt c d 1 9223372036854775807).2 < (mt c d 1 9223372036854775807).1 → 0 < (mt c d 1 9223372036854775807).1 := by
        intro h; rw [mt_ne] at h; rw [mt_m, if_neg h]; simp only; omega
      have sg := fun hne ecd => single (a := a) (b := b) h2 hne hc hd ecd (0, 0, true) (0, 0, true)
      revert In Ip fu fo sg
      generalize (mt c d (-9223372036854775808) (-1)).1 = u1
      generalize (mt c d (-9223372036854775808) (-1)).2 = u2
      generalize (mt c d 1 9223372036854775807).1 = o1
      generalize (mt c d 1 9223372036854775807).2 = o2
      intro In Ip fu fo sg
      unfold I64 at In Ip ha hb
      have fin : ∀ (n n' f f' : Int) , n = n' → f = f' → 1 ≤ f → f ≤ 9223372036854775808 → ¬ (u2 < u1 ∧ o2 < o1) →
        (bif a == b then bif c == d then ((word_Rem a c).1, (word_Rem a c).1, true) else
            bif decide ((if absI b > absI a then absI b else absI a) < n) then (a, b, true) else bif decide (a < 0) then (bif decide (b > 0) then ((if IntKind.i64.wrap (0 - IntKind.i64.wrap (IntKind.u64.wrap (f - 1))) > a then IntKind.i64.wrap (0 - IntKind.i64.wrap (IntKind.u64.wrap (f - 1))) else a), (if IntKind.i64.wrap (IntKind.u64.wrap (f - 1)) < b then IntKind.i64.wrap (IntKind.u64.wrap (f - 1)) else b), true) else ((if IntKind.i64.wrap (0 - IntKind.i64.wrap (IntKind.u64.wrap (f - 1))) > a then IntKind.i64.wrap (0 - IntKind.i64.wrap (IntKind.u64.wrap (f - 1))) else a), 0, true)) else (bif decide (b > 0) then (0, (if IntKind.i64.wrap (IntKind.u64.wrap (f - 1)) < b then IntKind.i64.wrap (IntKind.u64.wrap (f - 1)) else b), true) else (0, 0, true))
          else
            bif decide ((if absI b > absI a then absI b else absI a) < n) then (a, b, true) else bif decide (a < 0) then (bif decide (b > 0) then ((if IntKind.i64.wrap (0 - IntKind.i64.wrap (IntKind.u64.wrap (f - 1))) > a then IntKind.i64.wrap (0 - IntKind.i64.wrap (IntKind.u64.wrap (f - 1))) else a), (if IntKind.i64.wrap (IntKind.u64.wrap (f - 1)) < b then IntKind.i64.wrap (IntKind.u64.wrap (f - 1)) else b), true) else ((if IntKind.i64.wrap (0 - IntKind.i64.wrap (IntKind.u64.wrap (f - 1))) > a then IntKind.i64.wrap (0 - IntKind.i64.wrap (IntKind.u64.wrap (f - 1))) else a), 0, true)) else (bif decide (b > 0) then (0, (if IntKind.i64.wrap (IntKind.u64.wrap (f - 1)) < b then IntKind.i64.wrap (IntKind.u64.wrap (f - 1)) else b), true) else (0, 0, true)))
        = (bif a == b then bif c == d then (bif c != -1 then (bif !decide (c = 0) then (a.tmod c, a.tmod c, true) else (0, 0, false)) else (0, 0, true)) else
            bif decide ((if absI b > absI a then absI b else absI a) < n') then (a, b, true) else ((if (if IntKind.i64.wrap (0 - IntKind.i64.wrap (IntKind.u64.wrap (f' - 1))) > a then IntKind.i64.wrap (0 - IntKind.i64.wrap (IntKind.u64.wrap (f' - 1))) else a) < 0 then (if IntKind.i64.wrap (0 - IntKind.i64.wrap (IntKind.u64.wrap (f' - 1))) > a then IntKind.i64.wrap (0 - IntKind.i64.wrap (IntKind.u64.wrap (f' - 1))) else a) else 0), (if (if IntKind.i64.wrap (IntKind.u64.wrap (f' - 1)) < b then IntKind.i64.wrap (IntKind.u64.wrap (f' - 1)) else b) > 0 then (if IntKind.i64.wrap (IntKind.u64.wrap (f' - 1)) < b then IntKind.i64.wrap (IntKind.u64.wrap (f' - 1)) else b) else 0), true)
          else
            bif decide ((if absI b > absI a then absI b else absI a) < n') then (a, b, true) else ((if (if IntKind.i64.wrap (0 - IntKind.i64.wrap (IntKind.u64.wrap (f' - 1))) > a then IntKind.i64.wrap (0 - IntKind.i64.wrap (IntKind.u64.wrap (f' - 1))) else a) < 0 then (if IntKind.i64.wrap (0 - IntKind.i64.wrap (IntKind.u64.wrap (f' - 1))) > a then IntKind.i64.wrap (0 - IntKind.i64.wrap (IntKind.u64.wrap (f' - 1))) else a) else 0), (if (if IntKind.i64.wrap (IntKind.u64.wrap (f' - 1)) < b then IntKind.i64.wrap (IntKind.u64.wrap (f' - 1)) else b) > 0 then (if IntKind.i64.wrap (IntKind.u64.wrap (f' - 1)) < b then IntKind.i64.wrap (IntKind.u64.wrap (f' - 1)) else b) else 0), true)) := by
        intro n n' f f' hn hf h1f h2f hne
        subst hn hf
        have w1 : IntKind.i64.wrap (IntKind.u64.wrap (f - 1)) = f - 1 := by rw [wu_id (by omega) (by omega), wi_id (by omega) (by omega)]
        have w2 : IntKind.i64.wrap (0 - (f - 1)) = -(f - 1) := by rw [wi_id (by omega) (by omega)]; omega
        rw [w1, w2, rem_tail (f := f) (by omega) (by omega) _ _ rfl]
        by_cases e : c = d
        · rw [sg hne e]
        · have e0 : (c == d) = false := by simpa using e
          rw [e0]; rfl
      by_cases hu : u2 < u1
      · by_cases ho : o2 < o1
        · rw [decide_eq_true hu, decide_eq_true ho]; rfl
        · have g := fo ho
          rw [decide_eq_true hu, decide_eq_false ho]
          simp only [cond_true, cond_false, Bool.not_true, Bool.not_false]
          have a1 : absI o1 = o1 := by unfold absI; rw [if_neg (by omega)]
          have a2 : absI o2 = o2 := by unfold absI; rw [if_neg (by omega)]
          rw [a1, a2]
          refine fin _ _ _ _ ?_ ?_ ?_ ?_ (by omega)
          · (repeat' split) <;> omega
          · (repeat' split) <;> omega
          · (repeat' split) <;> omega
          · (repeat' split) <;> omega
      · have gu := fu hu
        have a3 : absI u1 = -u1 := by unfold absI; rw [if_pos (by omega)]
        have a4 : absI u2 = -u2 := by unfold absI; rw [if_pos (by omega)]
        by_cases ho : o2 < o1
        · rw [decide_eq_false hu, decide_eq_true ho, a3, a4]
          simp only [cond_true, cond_false, Bool.not_true, Bool.not_false]
          refine fin _ _ _ _ ?_ ?_ ?_ ?_ (by omega)
          · (repeat' split) <;> omega
          · (repeat' split) <;> omega
          · (repeat' split) <;> omega
          · (repeat' split) <;> omega
        · have g := fo ho
          have a1 : absI o1 = o1 := by unfold absI; rw [if_neg (by omega)]
          have a2 : absI o2 = o2 := by unfold absI; rw [if_neg (by omega)]
          rw [decide_eq_false hu, decide_eq_false ho, a1, a2, a3, a4]
          simp only [cond_true, cond_false, Bool.not_true, Bool.not_false]
          refine fin _ _ _ _ ?_ ?_ ?_ ?_ (by omega)
          · (repeat' split) <;> omega
          · (repeat' split) <;> omega
          · (repeat' split) <;> omega
          · (repeat' split) <;> omega
end Go.Proofs.YtbbplkdjcgdaaaaDoor.V
